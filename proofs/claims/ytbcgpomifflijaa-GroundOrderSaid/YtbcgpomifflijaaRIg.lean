/- The code of the functions, by name, for the second reading; that it is theirs. -/
import Derived.Test.YtbcgpomifflijaaProg
import Derived.KernelRfl
import Derived.Test.YtbcgpomifflijaaR4
set_option linter.unusedVariables false
set_option linter.unusedSimpArgs false
set_option linter.unusedVariables false
namespace Go.RR.M
open Go Go.RR
set_option maxRecDepth 100000
def n_main_main : Nat := 0
def n_gosem_cut : Nat := 1
def n_gosem_cut_init : Nat := 2
def n_law11_GroundTells : Nat := 3
def n_law11_GroundTurn : Nat := 4
def n_law11_GroundOrder : Nat := 5
def n_law11_awake : Nat := 6
def n_law11_Large : Nat := 7
def n_ground_Holds : Nat := 8
def n_ref11_All : Nat := 9
def n_ground_Right : Nat := 10
def n_ref11_Right : Nat := 11
def n_ground_All : Nat := 12
def n_ref11_Holds : Nat := 13
def n_slices_ContainsFunc_sapi_Con_api_Con : Nat := 14
def n_ground_Right_1 : Nat := 15
def n_model_Right : Nat := 16
def n_ref08_Right : Nat := 17
def n_ground_All_1 : Nat := 18
def n_ground_holds : Nat := 19
def n_ref11_sum : Nat := 20
def n_slices_IndexFunc_sapi_Con_api_Con : Nat := 21
def n_model_looker_linear : Nat := 22
def n_model_looker_product : Nat := 23
def n_model_looker_iff : Nat := 24
def n_model_looker_element : Nat := 25
def n_model_looker_differ : Nat := 26
def n_model_looker_table : Nat := 27
def n_ref08_all : Nat := 28
def n_ground_holds_1 : Nat := 29
def n_ground_compared : Nat := 30
def n_slices_Sort_sint_int : Nat := 31
def n_slices_Compact_sint_int : Nat := 32
def n_slices_Equal_sint_int : Nat := 33
def n_model_looker_variables : Nat := 34
def n_model_looker_sum : Nat := 35
def n_model_looker_bare : Nat := 36
def n_sums_Dot : Nat := 37
def n_sums_Holds : Nat := 38
def n_slices_pdqsortOrdered_int : Nat := 39
def n_math_bits_Len : Nat := 40
def n_slices_Contains_sint_int : Nat := 41
def n_model_within : Nat := 42
def n_sums_Mul : Nat := 43
def n_sums_Add : Nat := 44
def n_slices_insertionSortOrdered_int : Nat := 45
def n_slices_heapSortOrdered_int : Nat := 46
def n_slices_breakPatternsOrdered_int : Nat := 47
def n_slices_choosePivotOrdered_int : Nat := 48
def n_slices_reverseRangeOrdered_int : Nat := 49
def n_slices_partialInsertionSortOrdered_int : Nat := 50
def n_cmp_Less_int : Nat := 51
def n_slices_partitionEqualOrdered_int : Nat := 52
def n_slices_partitionOrdered_int : Nat := 53
def n_math_bits_Len32 : Nat := 54
def n_math_bits_Len64 : Nat := 55
def n_slices_Index_sint_int : Nat := 56
def n_slices_ContainsFunc_sint_int : Nat := 57
def n_model_within_1 : Nat := 58
def n_math_bits_Mul64 : Nat := 59
def n_sums_size : Nat := 60
def n_slices_siftDownOrdered_int : Nat := 61
def n_slices_nextPowerOfTwo : Nat := 62
def n_slices_xorshift_Next : Nat := 63
def n_slices_medianAdjacentOrdered_int : Nat := 64
def n_slices_medianOrdered_int : Nat := 65
def n_cmp_isNaN_int : Nat := 66
def n_slices_IndexFunc_sint_int : Nat := 67
def n_slices_order2Ordered_int : Nat := 68
def n_runtime_boundsError_Error : Nat := 69
def n_runtime_boundsError_RuntimeError : Nat := 70
def n_runtime_errorString_Error : Nat := 71
def n_runtime_errorString_RuntimeError : Nat := 72
def n_runtime_plainError_Error : Nat := 73
def n_runtime_plainError_RuntimeError : Nat := 74
def n_runtime_errorAddressString_Error : Nat := 75
def n_runtime_errorAddressString_RuntimeError : Nat := 76
def n_runtime_TypeAssertionError_Error : Nat := 77
def n_runtime_TypeAssertionError_RuntimeError : Nat := 78
def n_runtime_PanicNilError_Error : Nat := 79
def n_runtime_PanicNilError_RuntimeError : Nat := 80
def n_abi_Type_Align : Nat := 81
def n_maps_unhashableTypeError_Error : Nat := 82
def n_maps_unhashableTypeError_RuntimeError : Nat := 83
def n_api_Errno_Error : Nat := 84
def n_abi_Kind_String : Nat := 85
/-- stratagem/stratagemlaw11.GroundTells -/
def b_law11_GroundTells_0 : IR := .seq (.rg [⟨(some 15), none, .bin .lss (.t 14) (.t 13)⟩] (some [0, 1, 12, 13, 14, 15]))
   (.seq (.cond (.t 15) (.skip) (.ext 0))
   (.seq (.blk 1 (.seq (.rg [⟨(some 16), none, .iad 6 (.t 12) (.t 14)⟩,
    ⟨(some 17), none, .ld true 6 (.t 16)⟩,
    ⟨(some 6), none, .new (.agg [.int .i64 0, .nsl 1, .nsl 1, .int .i64 0, .int .i64 0, .nsl 1])⟩,
    ⟨none, none, .st 6 (.t 6) (.t 17)⟩] (some [0, 1, 6, 12, 13, 14]))
   (.seq (.dq [(⟨(some 18), none, .ld true 6 (.t 6)⟩, []),
    (⟨(some 19), none, .mov (.t 1)⟩, []),
    (⟨(some 20), none, .call n_ground_Holds [(.t 18), (.t 19)]⟩, [0, 1]),
    (⟨(some 21), none, .ld true 6 (.t 6)⟩, []),
    (⟨(some 22), none, .bsf (.agg [.int .i64 0, .nsl 1, .nsl 1, .int .i64 0, .int .i64 0, .nsl 1]) 1 [(0, (.t 21))]⟩, [3]),
    (⟨(some 23), none, .mov (.t 1)⟩, []),
    (⟨(some 24), none, .call n_ref11_All [(.t 22), (.t 23)]⟩, [0, 1, 2, 3, 4, 5]),
    (⟨(some 25), none, .eq true .bool (.t 20) (.t 24)⟩, [0, 1, 2, 3, 4, 5, 6])] (some [0, 1, 12, 13, 14, 25]))
   (.cond (.t 25) (.seq (.rg [⟨(some 4), none, .mov (.c (.bool false))⟩] (some [4]))
   (.ret)) (.skip)))))
   (.rg [⟨(some 26), none, .bin .add (.t 14) (.c (.int .i64 1))⟩,
    ⟨(some 14), none, .mov (.t 26)⟩] (some [0, 1, 12, 13, 14]))))
def i_law11_GroundTells_l0 : IR := .loop b_law11_GroundTells_0
theorem r_law11_GroundTells_0 {C : Cx} {fr : Fr} {h : List Ob} : evw C i_law11_GroundTells_l0 fr h = nxt (evw C b_law11_GroundTells_0 fr h) fun fr h => evw C i_law11_GroundTells_l0 fr h := w_loop
def i_law11_GroundTells : IR := .seq (.rg [⟨(some 4), none, .mov (.c (.bool false))⟩] (some [0, 1]))
   (.seq (.seq (.rg [⟨(some 7), none, .call n_law11_awake []⟩,
    ⟨(some 8), none, .un .not (.t 7)⟩] (some [0, 1, 8]))
   (.cond (.t 8) (.seq (.rg [⟨(some 4), none, .mov (.c (.bool false))⟩] (some [4]))
   (.ret)) (.skip)))
   (.seq (.seq (.rg [⟨(some 9), none, .mov (.t 0)⟩,
    ⟨(some 10), none, .mov (.t 1)⟩,
    ⟨(some 11), none, .call n_law11_Large [(.t 9), (.t 10)]⟩] (some [0, 1, 11]))
   (.cond (.t 11) (.seq (.rg [⟨(some 4), none, .mov (.c (.bool true))⟩] (some [4]))
   (.ret)) (.skip)))
   (.seq (.seq (.rg [⟨(some 12), none, .mov (.t 0)⟩,
    ⟨(some 13), none, .len (.t 12)⟩,
    ⟨(some 14), none, .mov (.c (.int .i64 0))⟩] (some [0, 1, 12, 13, 14]))
   (.blk 0 (i_law11_GroundTells_l0)))
   (.seq (.rg [⟨(some 27), none, .mov (.t 0)⟩,
    ⟨(some 28), none, .mov (.t 1)⟩,
    ⟨(some 29), none, .call n_ground_Right [(.t 27), (.t 28)]⟩,
    ⟨(some 30), none, .mov (.t 0)⟩,
    ⟨(some 31), none, .mov (.t 1)⟩,
    ⟨(some 32), none, .call n_ref11_Right [(.t 30), (.t 31)]⟩,
    ⟨(some 33), none, .eq false .bool (.t 29) (.t 32)⟩,
    ⟨(some 34), none, .mov (.t 33)⟩,
    ⟨(some 35), (some (34, true)), .mov (.t 0)⟩,
    ⟨(some 36), (some (34, true)), .mov (.t 1)⟩,
    ⟨(some 37), (some (34, true)), .call n_ground_All [(.t 35), (.t 36)]⟩,
    ⟨(some 38), (some (34, true)), .mov (.t 0)⟩,
    ⟨(some 39), (some (34, true)), .mov (.t 1)⟩,
    ⟨(some 40), (some (34, true)), .call n_ref11_All [(.t 38), (.t 39)]⟩,
    ⟨(some 41), (some (34, true)), .eq false .bool (.t 37) (.t 40)⟩,
    ⟨(some 42), none, .pick (.t 34) (.t 41) (.c (.bool false))⟩,
    ⟨(some 4), none, .mov (.t 42)⟩] (some [4]))
   (.ret)))))
def F_law11_GroundTells : F := ⟨i_law11_GroundTells, [(4, none)], false⟩
/-- stratagem/stratagemlaw11.GroundTurn -/
def b_law11_GroundTurn_0 : IR := .seq (.rg [⟨(some 60), none, .bin .lss (.t 59) (.t 58)⟩] (some [1, 2, 7, 8, 9, 57, 58, 59, 60]))
   (.seq (.cond (.t 60) (.skip) (.ext 0))
   (.seq (.blk 1 (.seq (.rg [⟨(some 61), none, .iad 1 (.t 57) (.t 59)⟩,
    ⟨(some 62), none, .ld false 1 (.t 61)⟩,
    ⟨(some 11), none, .mov (.t 62)⟩] (some [1, 2, 7, 8, 9, 11, 57, 58, 59]))
   (.rg [⟨(some 63), none, .fad 2 (.t 9)⟩,
    ⟨(some 64), none, .ld false 1 (.t 63)⟩,
    ⟨(some 65), none, .mov (.t 11)⟩,
    ⟨(some 66), none, .un .neg (.t 65)⟩,
    ⟨(some 67), none, .bsf (.int .i64 0) 1 [(0, (.t 66))]⟩,
    ⟨(some 68), none, .app 1 8 (.t 64) (.t 67)⟩,
    ⟨(some 69), none, .fad 2 (.t 9)⟩,
    ⟨none, none, .st 1 (.t 69) (.t 68)⟩] (some [1, 2, 7, 8, 9, 57, 58, 59]))))
   (.rg [⟨(some 70), none, .bin .add (.t 59) (.c (.int .i64 1))⟩,
    ⟨(some 59), none, .mov (.t 70)⟩] (some [1, 2, 7, 8, 9, 57, 58, 59]))))
def i_law11_GroundTurn_l0 : IR := .loop b_law11_GroundTurn_0
theorem r_law11_GroundTurn_0 {C : Cx} {fr : Fr} {h : List Ob} : evw C i_law11_GroundTurn_l0 fr h = nxt (evw C b_law11_GroundTurn_0 fr h) fun fr h => evw C i_law11_GroundTurn_l0 fr h := w_loop
def i_law11_GroundTurn : IR := .seq (.rg [⟨(some 2), none, .box (.t 0)⟩,
    ⟨(some 4), none, .mov (.c (.bool false))⟩] (some [1, 2]))
   (.seq (.seq (.rg [⟨(some 16), none, .call n_law11_awake []⟩,
    ⟨(some 17), none, .un .not (.t 16)⟩] (some [1, 2, 17]))
   (.cond (.t 17) (.seq (.rg [⟨(some 4), none, .mov (.c (.bool false))⟩] (some [4]))
   (.ret)) (.skip)))
   (.seq (.seq (.rg [⟨(some 18), none, .ld true 6 (.t 2)⟩,
    ⟨(some 19), none, .bsf (.agg [.int .i64 0, .nsl 1, .nsl 1, .int .i64 0, .int .i64 0, .nsl 1]) 1 [(0, (.t 18))]⟩,
    ⟨(some 20), none, .mov (.t 1)⟩,
    ⟨(some 21), none, .call n_law11_Large [(.t 19), (.t 20)]⟩,
    ⟨(some 22), none, .mov (.t 21)⟩,
    ⟨(some 23), (some (22, false)), .fad 0 (.t 2)⟩,
    ⟨(some 24), (some (22, false)), .ld false 1 (.t 23)⟩,
    ⟨(some 25), (some (22, false)), .bin .neq (.t 24) (.c (.int .i64 1))⟩,
    ⟨(some 26), none, .pick (.t 22) (.c (.bool true)) (.t 25)⟩,
    ⟨(some 27), none, .mov (.t 26)⟩,
    ⟨(some 28), (some (27, false)), .ld true 6 (.t 2)⟩,
    ⟨(some 29), (some (27, false)), .bsf (.agg [.int .i64 0, .nsl 1, .nsl 1, .int .i64 0, .int .i64 0, .nsl 1]) 1 [(0, (.t 28))]⟩,
    ⟨(some 30), (some (27, false)), .mov (.t 1)⟩,
    ⟨(some 31), (some (27, false)), .call n_ground_Right [(.t 29), (.t 30)]⟩,
    ⟨(some 32), (some (27, false)), .un .not (.t 31)⟩,
    ⟨(some 33), none, .pick (.t 27) (.c (.bool true)) (.t 32)⟩] (some [1, 2, 33]))
   (.cond (.t 33) (.seq (.rg [⟨(some 4), none, .mov (.c (.bool true))⟩] (some [4]))
   (.ret)) (.skip)))
   (.seq (.rg [⟨(some 34), none, .bld [.int .i64 0, .int .i64 0, .int .i64 0, .int .i64 0, .int .i64 0, .int .i64 0] [(0, 1, (.c (.int .i64 1))), (1, 1, (.c (.int .i64 0))), (2, 1, (.c (.int .i64 5))), (3, 1, (.c (.int .i64 4))), (4, 1, (.c (.int .i64 3))), (5, 1, (.c (.int .i64 2)))]⟩,
    ⟨(some 5), none, .new (.agg [.int .i64 0, .int .i64 0, .int .i64 0, .int .i64 0, .int .i64 0, .int .i64 0])⟩,
    ⟨none, none, .st 6 (.t 5) (.t 34)⟩] (some [1, 2, 5]))
   (.seq (.rg [⟨(some 35), none, .bld [.int .i64 0, .int .i64 0, .int .i64 0, .int .i64 0, .int .i64 0, .int .i64 0] [(0, 1, (.c (.int .i64 0))), (1, 1, (.c (.int .i64 1))), (2, 1, (.c (.int .i64 4))), (3, 1, (.c (.int .i64 5))), (4, 1, (.c (.int .i64 2))), (5, 1, (.c (.int .i64 3)))]⟩,
    ⟨(some 6), none, .new (.agg [.int .i64 0, .int .i64 0, .int .i64 0, .int .i64 0, .int .i64 0, .int .i64 0])⟩,
    ⟨none, none, .st 6 (.t 6) (.t 35)⟩] (some [1, 2, 5, 6]))
   (.seq (.rg [⟨(some 36), none, .ld true 6 (.t 2)⟩,
    ⟨(some 37), none, .mov (.t 1)⟩,
    ⟨(some 38), none, .call n_ground_Holds [(.t 36), (.t 37)]⟩,
    ⟨(some 7), none, .mov (.t 38)⟩] (some [1, 2, 5, 6, 7]))
   (.seq (.dr [(⟨(some 39), none, .ld true 6 (.t 2)⟩, []),
    (⟨(some 40), none, .ld true 6 (.t 2)⟩, []),
    (⟨(some 8), none, .new (.agg [.int .i64 0, .nsl 1, .nsl 1, .int .i64 0, .int .i64 0, .nsl 1])⟩, []),
    (⟨(some 9), none, .new (.agg [.int .i64 0, .nsl 1, .nsl 1, .int .i64 0, .int .i64 0, .nsl 1])⟩, []),
    (⟨none, none, .st 6 (.t 8) (.t 39)⟩, [0, 2, 3]),
    (⟨none, none, .st 6 (.t 9) (.t 40)⟩, [0, 1, 2, 3, 4])] (some [1, 2, 5, 6, 7, 8, 9]))
   (.seq (.rg [⟨(some 41), none, .fad 3 (.t 2)⟩,
    ⟨(some 42), none, .ld false 1 (.t 41)⟩,
    ⟨(some 43), none, .op (.iaa 6 1) [(.t 5), (.t 42)]⟩,
    ⟨(some 44), none, .ld false 1 (.t 43)⟩,
    ⟨(some 45), none, .fad 3 (.t 8)⟩,
    ⟨none, none, .st 1 (.t 45) (.t 44)⟩] (some [1, 2, 6, 7, 8, 9]))
   (.seq (.dc [(⟨(some 46), none, .fad 3 (.t 2)⟩, [], false),
    (⟨(some 47), none, .ld false 1 (.t 46)⟩, [0], false),
    (⟨(some 48), none, .op (.iaa 6 1) [(.t 6), (.t 47)]⟩, [0, 1], false),
    (⟨(some 49), none, .ld false 1 (.t 48)⟩, [0, 1, 2], false),
    (⟨(some 50), none, .fad 4 (.t 2)⟩, [], false),
    (⟨(some 51), none, .ld false 1 (.t 50)⟩, [4], false),
    (⟨(some 52), none, .un .neg (.t 51)⟩, [4, 5], false),
    (⟨(some 53), none, .fad 3 (.t 9)⟩, [0, 1, 2, 3], false),
    (⟨none, none, .st 1 (.t 53) (.t 49)⟩, [0, 1, 2, 3, 7], true),
    (⟨(some 54), none, .fad 4 (.t 9)⟩, [0, 1, 2, 3, 4, 5, 6, 7, 8], false),
    (⟨none, none, .st 1 (.t 54) (.t 52)⟩, [0, 1, 2, 3, 4, 5, 6, 7, 8, 9], true),
    (⟨(some 55), none, .fad 2 (.t 9)⟩, [0, 1, 2, 3, 4, 5, 6, 7, 8, 9, 10], false),
    (⟨none, none, .st 1 (.t 55) (.c (.nsl 1))⟩, [0, 1, 2, 3, 4, 5, 6, 7, 8, 9, 10, 11], true)] (some [1, 2, 7, 8, 9]))
   (.seq (.seq (.rg [⟨(some 56), none, .fad 2 (.t 2)⟩,
    ⟨(some 57), none, .ld false 1 (.t 56)⟩,
    ⟨(some 58), none, .len (.t 57)⟩,
    ⟨(some 59), none, .mov (.c (.int .i64 0))⟩] (some [1, 2, 7, 8, 9, 57, 58, 59]))
   (.blk 0 (i_law11_GroundTurn_l0)))
   (.seq (.rg [⟨(some 71), none, .bsl (.int .i64 0) 0 []⟩,
    ⟨(some 72), none, .mov (.t 1)⟩,
    ⟨(some 73), none, .app 1 8 (.t 71) (.t 72)⟩,
    ⟨(some 74), none, .bsf (.int .i64 0) 1 [(0, (.c (.int .i64 1)))]⟩,
    ⟨(some 75), none, .app 1 8 (.t 73) (.t 74)⟩,
    ⟨(some 12), none, .mov (.t 75)⟩] (some [1, 2, 7, 8, 9, 12]))
   (.seq (.dr [(⟨(some 76), none, .mov (.t 1)⟩, []),
    (⟨(some 77), none, .len (.t 76)⟩, [0]),
    (⟨(some 78), none, .bsl (.int .i64 0) 1 [(0, (.t 77))]⟩, [0, 1]),
    (⟨(some 79), none, .fad 1 (.t 2)⟩, []),
    (⟨(some 80), none, .ld false 1 (.t 79)⟩, [3]),
    (⟨(some 81), none, .app 1 8 (.t 78) (.t 80)⟩, [0, 1, 2, 3, 4]),
    (⟨(some 82), none, .fad 2 (.t 2)⟩, []),
    (⟨(some 83), none, .ld false 1 (.t 82)⟩, [6]),
    (⟨(some 84), none, .fad 3 (.t 2)⟩, []),
    (⟨(some 85), none, .ld false 1 (.t 84)⟩, [8]),
    (⟨(some 86), none, .fad 4 (.t 2)⟩, []),
    (⟨(some 87), none, .ld false 1 (.t 86)⟩, [10]),
    (⟨(some 88), none, .bld [.int .i64 0, .nsl 1, .nsl 1, .int .i64 0, .int .i64 0, .nsl 1] [(0, 1, (.c (.int .i64 3))), (1, 1, (.t 81)), (2, 1, (.t 83)), (3, 1, (.t 85)), (4, 1, (.t 87))]⟩, [0, 1, 2, 3, 4, 5, 6, 7, 8, 9, 10, 11]),
    (⟨(some 13), none, .new (.agg [.int .i64 0, .nsl 1, .nsl 1, .int .i64 0, .int .i64 0, .nsl 1])⟩, []),
    (⟨none, none, .st 6 (.t 13) (.t 88)⟩, [0, 1, 2, 3, 4, 5, 6, 7, 8, 9, 10, 11, 12, 13])] (some [1, 7, 8, 9, 12, 13]))
   (.seq (.rg [⟨(some 89), none, .ld true 6 (.t 13)⟩,
    ⟨(some 90), none, .mov (.t 12)⟩,
    ⟨(some 91), none, .call n_ground_Holds [(.t 89), (.t 90)]⟩,
    ⟨(some 14), none, .mov (.t 91)⟩] (some [1, 7, 8, 9, 12, 13, 14]))
   (.seq (.rg [⟨(some 92), none, .mov (.t 12)⟩,
    ⟨(some 93), none, .mov (.t 1)⟩,
    ⟨(some 94), none, .len (.t 93)⟩,
    ⟨(some 95), none, .iad 1 (.t 92) (.t 94)⟩,
    ⟨none, none, .st 1 (.t 95) (.c (.int .i64 0))⟩] (some [1, 7, 8, 9, 12, 13, 14]))
   (.seq (.rg [⟨(some 96), none, .ld true 6 (.t 13)⟩,
    ⟨(some 97), none, .mov (.t 12)⟩,
    ⟨(some 98), none, .call n_ground_Holds [(.t 96), (.t 97)]⟩,
    ⟨(some 15), none, .mov (.t 98)⟩] (some [1, 7, 8, 9, 12, 13, 14, 15]))
   (.seq (.rg [⟨(some 99), none, .mov (.t 12)⟩,
    ⟨(some 100), none, .mov (.t 1)⟩,
    ⟨(some 101), none, .len (.t 100)⟩,
    ⟨(some 102), none, .iad 1 (.t 99) (.t 101)⟩,
    ⟨none, none, .st 1 (.t 102) (.c (.int .i64 2))⟩] (some [1, 7, 8, 9, 12, 13, 14, 15]))
   (.seq (.rg [⟨(some 103), none, .ld true 6 (.t 8)⟩,
    ⟨(some 104), none, .mov (.t 1)⟩,
    ⟨(some 105), none, .call n_ground_Holds [(.t 103), (.t 104)]⟩,
    ⟨(some 106), none, .mov (.t 7)⟩,
    ⟨(some 107), none, .eq true .bool (.t 105) (.t 106)⟩,
    ⟨(some 108), none, .mov (.t 107)⟩,
    ⟨(some 109), (some (108, true)), .ld true 6 (.t 9)⟩,
    ⟨(some 110), (some (108, true)), .mov (.t 1)⟩,
    ⟨(some 111), (some (108, true)), .call n_ground_Holds [(.t 109), (.t 110)]⟩,
    ⟨(some 112), (some (108, true)), .mov (.t 7)⟩,
    ⟨(some 113), (some (108, true)), .eq false .bool (.t 111) (.t 112)⟩,
    ⟨(some 114), none, .pick (.t 108) (.t 113) (.c (.bool false))⟩,
    ⟨(some 115), none, .mov (.t 114)⟩,
    ⟨(some 116), (some (115, true)), .mov (.t 14)⟩,
    ⟨(some 117), (some (115, true)), .mov (.t 7)⟩,
    ⟨(some 118), (some (115, true)), .eq false .bool (.t 116) (.t 117)⟩,
    ⟨(some 119), none, .pick (.t 115) (.t 118) (.c (.bool false))⟩,
    ⟨(some 120), none, .mov (.t 119)⟩,
    ⟨(some 121), (some (120, true)), .mov (.t 15)⟩,
    ⟨(some 122), (some (120, true)), .mov (.t 7)⟩,
    ⟨(some 123), (some (120, true)), .eq true .bool (.t 121) (.t 122)⟩,
    ⟨(some 124), none, .pick (.t 120) (.t 123) (.c (.bool false))⟩,
    ⟨(some 125), none, .mov (.t 124)⟩,
    ⟨(some 126), (some (125, true)), .ld true 6 (.t 13)⟩,
    ⟨(some 127), (some (125, true)), .mov (.t 12)⟩,
    ⟨(some 128), (some (125, true)), .call n_ground_Holds [(.t 126), (.t 127)]⟩,
    ⟨(some 129), (some (125, true)), .un .not (.t 128)⟩,
    ⟨(some 130), none, .pick (.t 125) (.t 129) (.c (.bool false))⟩,
    ⟨(some 4), none, .mov (.t 130)⟩] (some [4]))
   (.ret)))))))))))))))))
def F_law11_GroundTurn : F := ⟨i_law11_GroundTurn, [(4, none)], false⟩
/-- stratagem/stratagemlaw11.GroundOrder -/
def b_law11_GroundOrder_0 : IR := .seq (.rg [⟨(some 120), none, .bin .lss (.t 119) (.t 118)⟩] (some [3, 4, 9, 15, 16, 17, 112, 113, 117, 118, 119, 120]))
   (.seq (.cond (.t 120) (.skip) (.ext 3))
   (.seq (.blk 4 (.seq (.rg [⟨(some 121), none, .iad 1 (.t 117) (.t 119)⟩,
    ⟨(some 122), none, .ld false 1 (.t 121)⟩,
    ⟨(some 19), none, .mov (.t 122)⟩] (some [3, 4, 9, 15, 16, 17, 19, 112, 113, 117, 118, 119]))
   (.rg [⟨(some 123), none, .mov (.t 17)⟩,
    ⟨(some 124), none, .mov (.t 123)⟩,
    ⟨(some 125), (some (124, false)), .mov (.t 19)⟩,
    ⟨(some 126), (some (124, false)), .mov (.t 16)⟩,
    ⟨(some 127), (some (124, false)), .bin .eql (.t 125) (.t 126)⟩,
    ⟨(some 128), none, .pick (.t 124) (.c (.bool true)) (.t 127)⟩,
    ⟨(some 17), none, .mov (.t 128)⟩] (some [3, 4, 9, 15, 16, 17, 112, 113, 117, 118, 119]))))
   (.rg [⟨(some 129), none, .bin .add (.t 119) (.c (.int .i64 1))⟩,
    ⟨(some 119), none, .mov (.t 129)⟩] (some [3, 4, 9, 15, 16, 17, 112, 113, 117, 118, 119]))))
def i_law11_GroundOrder_l0 : IR := .loop b_law11_GroundOrder_0
theorem r_law11_GroundOrder_0 {C : Cx} {fr : Fr} {h : List Ob} : evw C i_law11_GroundOrder_l0 fr h = nxt (evw C b_law11_GroundOrder_0 fr h) fun fr h => evw C i_law11_GroundOrder_l0 fr h := w_loop
def b_law11_GroundOrder_1 : IR := .seq (.rg [⟨(some 114), none, .bin .lss (.t 113) (.t 112)⟩] (some [3, 4, 9, 15, 112, 113, 114]))
   (.seq (.cond (.t 114) (.skip) (.ext 1))
   (.seq (.blk 2 (.seq (.rg [⟨(some 115), none, .mov (.t 113)⟩,
    ⟨(some 16), none, .mov (.t 115)⟩] (some [3, 4, 9, 15, 16, 112, 113]))
   (.seq (.rg [⟨(some 17), none, .mov (.c (.bool false))⟩] (some [3, 4, 9, 15, 16, 17, 112, 113]))
   (.seq (.seq (.rg [⟨(some 116), none, .fad 1 (.t 4)⟩,
    ⟨(some 117), none, .ld false 1 (.t 116)⟩,
    ⟨(some 118), none, .len (.t 117)⟩,
    ⟨(some 119), none, .mov (.c (.int .i64 0))⟩] (some [3, 4, 9, 15, 16, 17, 112, 113, 117, 118, 119]))
   (.blk 3 (i_law11_GroundOrder_l0)))
   (.seq (.rg [⟨(some 130), none, .mov (.t 17)⟩,
    ⟨(some 131), none, .un .not (.t 130)⟩] (some [3, 4, 9, 15, 16, 112, 113, 131]))
   (.cond (.t 131) (.rg [⟨(some 132), none, .mov (.t 15)⟩,
    ⟨(some 133), none, .mov (.t 16)⟩,
    ⟨(some 134), none, .mov (.t 3)⟩,
    ⟨(some 135), none, .conv .i64 (.t 134)⟩,
    ⟨(some 136), none, .iad 1 (.t 132) (.t 133)⟩,
    ⟨none, none, .st 1 (.t 136) (.t 135)⟩] (some [3, 4, 9, 15, 112, 113])) (.skip)))))))
   (.rg [⟨(some 137), none, .bin .add (.t 113) (.c (.int .i64 1))⟩,
    ⟨(some 113), none, .mov (.t 137)⟩] (some [3, 4, 9, 15, 112, 113]))))
def i_law11_GroundOrder_l1 : IR := .loop b_law11_GroundOrder_1
theorem r_law11_GroundOrder_1 {C : Cx} {fr : Fr} {h : List Ob} : evw C i_law11_GroundOrder_l1 fr h = nxt (evw C b_law11_GroundOrder_1 fr h) fun fr h => evw C i_law11_GroundOrder_l1 fr h := w_loop
def i_law11_GroundOrder : IR := .seq (.rg [⟨(some 4), none, .box (.t 0)⟩,
    ⟨(some 8), none, .mov (.c (.bool false))⟩] (some [1, 2, 3, 4]))
   (.seq (.seq (.rg [⟨(some 20), none, .call n_law11_awake []⟩,
    ⟨(some 21), none, .un .not (.t 20)⟩] (some [1, 2, 3, 4, 21]))
   (.cond (.t 21) (.seq (.rg [⟨(some 8), none, .mov (.c (.bool false))⟩] (some [8]))
   (.ret)) (.skip)))
   (.seq (.seq (.rg [⟨(some 22), none, .ld true 6 (.t 4)⟩,
    ⟨(some 23), none, .bsf (.agg [.int .i64 0, .nsl 1, .nsl 1, .int .i64 0, .int .i64 0, .nsl 1]) 1 [(0, (.t 22))]⟩,
    ⟨(some 24), none, .mov (.t 1)⟩,
    ⟨(some 25), none, .call n_law11_Large [(.t 23), (.t 24)]⟩,
    ⟨(some 26), none, .mov (.t 25)⟩,
    ⟨(some 27), (some (26, false)), .ld true 6 (.t 4)⟩,
    ⟨(some 28), (some (26, false)), .bsf (.agg [.int .i64 0, .nsl 1, .nsl 1, .int .i64 0, .int .i64 0, .nsl 1]) 1 [(0, (.t 27))]⟩,
    ⟨(some 29), (some (26, false)), .mov (.t 1)⟩,
    ⟨(some 30), (some (26, false)), .call n_ground_Right [(.t 28), (.t 29)]⟩,
    ⟨(some 31), (some (26, false)), .un .not (.t 30)⟩,
    ⟨(some 32), none, .pick (.t 26) (.c (.bool true)) (.t 31)⟩] (some [1, 2, 3, 4, 32]))
   (.cond (.t 32) (.seq (.rg [⟨(some 8), none, .mov (.c (.bool true))⟩] (some [8]))
   (.ret)) (.skip)))
   (.seq (.rg [⟨(some 33), none, .ld true 6 (.t 4)⟩,
    ⟨(some 34), none, .mov (.t 1)⟩,
    ⟨(some 35), none, .call n_ground_Holds [(.t 33), (.t 34)]⟩,
    ⟨(some 9), none, .mov (.t 35)⟩] (some [1, 2, 3, 4, 9]))
   (.seq (.rg [⟨(some 36), none, .fad 1 (.t 4)⟩,
    ⟨(some 37), none, .ld false 1 (.t 36)⟩,
    ⟨(some 38), none, .len (.t 37)⟩,
    ⟨(some 10), none, .mov (.t 38)⟩] (some [1, 2, 3, 4, 9, 10]))
   (.seq (.rg [⟨(some 39), none, .ld true 6 (.t 4)⟩,
    ⟨(some 11), none, .new (.agg [.int .i64 0, .nsl 1, .nsl 1, .int .i64 0, .int .i64 0, .nsl 1])⟩,
    ⟨none, none, .st 6 (.t 11) (.t 39)⟩] (some [1, 2, 3, 4, 9, 10, 11]))
   (.seq (.seq (.rg [⟨(some 40), none, .fad 0 (.t 4)⟩,
    ⟨(some 41), none, .ld false 1 (.t 40)⟩] (some [1, 2, 3, 4, 9, 10, 11, 41]))
   (.blk 0 (.seq (.rg [⟨(some 43), none, .bin .eql (.t 41) (.c (.int .i64 5))⟩,
    ⟨(some 42), none, .mov (.t 43)⟩] (some [1, 2, 3, 4, 9, 10, 11, 41, 42]))
   (.cond (.t 42) (.seq (.rg [⟨(some 44), none, .mov (.t 2)⟩,
    ⟨(some 45), none, .conv .i64 (.t 44)⟩,
    ⟨(some 46), none, .mov (.t 10)⟩,
    ⟨(some 47), none, .bin .rem (.t 45) (.t 46)⟩,
    ⟨(some 12), none, .mov (.t 47)⟩] (some [1, 3, 4, 9, 11, 12]))
   (.dc [(⟨(some 48), none, .bsl (.int .i64 0) 0 []⟩, [], true),
    (⟨(some 49), none, .fad 1 (.t 4)⟩, [], false),
    (⟨(some 50), none, .ld false 1 (.t 49)⟩, [1], false),
    (⟨(some 51), none, .mov (.t 12)⟩, [], false),
    (⟨(some 52), none, .sll 1 (.t 50) (some (.t 51)) none none⟩, [1, 2, 3], false),
    (⟨(some 53), none, .app 1 8 (.t 48) (.t 52)⟩, [0, 1, 2, 3, 4], true),
    (⟨(some 54), none, .fad 1 (.t 4)⟩, [], false),
    (⟨(some 55), none, .ld false 1 (.t 54)⟩, [6], false),
    (⟨(some 56), none, .mov (.t 12)⟩, [], false),
    (⟨(some 57), none, .sll 1 (.t 55) none (some (.t 56)) none⟩, [6, 7, 8], false),
    (⟨(some 58), none, .app 1 8 (.t 53) (.t 57)⟩, [0, 1, 2, 3, 4, 5, 6, 7, 8, 9], true),
    (⟨(some 59), none, .fad 1 (.t 11)⟩, [0, 1, 2, 3, 4, 5, 6, 7, 8, 9, 10], false),
    (⟨none, none, .st 1 (.t 59) (.t 58)⟩, [0, 1, 2, 3, 4, 5, 6, 7, 8, 9, 10, 11], true)] (some [1, 3, 4, 9, 11]))) (.seq (.rg [⟨(some 61), none, .bin .eql (.t 41) (.c (.int .i64 6))⟩,
    ⟨(some 60), none, .mov (.t 61)⟩] (some [1, 2, 3, 4, 9, 10, 11, 41, 60]))
   (.cond (.t 60) (.seq (.rg [⟨(some 13), none, .mov (.c (.int .i64 0))⟩] (some [1, 2, 3, 4, 9, 10, 11, 13]))
   (.seq (.seq (.rg [⟨(some 62), none, .fad 5 (.t 4)⟩,
    ⟨(some 63), none, .ld false 1 (.t 62)⟩,
    ⟨(some 64), none, .len (.t 63)⟩,
    ⟨(some 65), none, .mov (.t 10)⟩,
    ⟨(some 66), none, .bin .quo (.t 64) (.t 65)⟩,
    ⟨(some 14), none, .mov (.t 66)⟩] (some [1, 2, 3, 4, 9, 10, 11, 13, 14]))
   (.seq (.rg [⟨(some 67), none, .mov (.t 14)⟩,
    ⟨(some 68), none, .bin .gtr (.t 67) (.c (.int .i64 0))⟩] (some [1, 2, 3, 4, 9, 10, 11, 13, 14, 68]))
   (.cond (.t 68) (.rg [⟨(some 69), none, .mov (.t 2)⟩,
    ⟨(some 70), none, .conv .i64 (.t 69)⟩,
    ⟨(some 71), none, .mov (.t 14)⟩,
    ⟨(some 72), none, .bin .rem (.t 70) (.t 71)⟩,
    ⟨(some 73), none, .mov (.t 10)⟩,
    ⟨(some 74), none, .bin .mul (.t 72) (.t 73)⟩,
    ⟨(some 13), none, .mov (.t 74)⟩] (some [1, 3, 4, 9, 11, 13])) (.skip))))
   (.dc [(⟨(some 75), none, .bsl (.int .i64 0) 0 []⟩, [], true),
    (⟨(some 76), none, .fad 5 (.t 4)⟩, [], false),
    (⟨(some 77), none, .ld false 1 (.t 76)⟩, [1], false),
    (⟨(some 78), none, .mov (.t 13)⟩, [], false),
    (⟨(some 79), none, .sll 1 (.t 77) (some (.t 78)) none none⟩, [1, 2, 3], false),
    (⟨(some 80), none, .app 1 8 (.t 75) (.t 79)⟩, [0, 1, 2, 3, 4], true),
    (⟨(some 81), none, .fad 5 (.t 4)⟩, [], false),
    (⟨(some 82), none, .ld false 1 (.t 81)⟩, [6], false),
    (⟨(some 83), none, .mov (.t 13)⟩, [], false),
    (⟨(some 84), none, .sll 1 (.t 82) none (some (.t 83)) none⟩, [6, 7, 8], false),
    (⟨(some 85), none, .app 1 8 (.t 80) (.t 84)⟩, [0, 1, 2, 3, 4, 5, 6, 7, 8, 9], true),
    (⟨(some 86), none, .fad 5 (.t 11)⟩, [0, 1, 2, 3, 4, 5, 6, 7, 8, 9, 10], false),
    (⟨none, none, .st 1 (.t 86) (.t 85)⟩, [0, 1, 2, 3, 4, 5, 6, 7, 8, 9, 10, 11], true)] (some [1, 3, 4, 9, 11])))) (.seq (.rg [⟨(some 88), none, .bin .eql (.t 41) (.c (.int .i64 2))⟩,
    ⟨(some 87), none, .mov (.t 88)⟩] (some [1, 3, 4, 9, 11, 87]))
   (.cond (.t 87) (.dq [(⟨(some 89), none, .fad 1 (.t 4)⟩, []),
    (⟨(some 90), none, .ld false 1 (.t 89)⟩, [0]),
    (⟨(some 91), none, .iad 1 (.t 90) (.c (.int .i64 1))⟩, [0, 1]),
    (⟨(some 92), none, .ld false 1 (.t 91)⟩, [0, 1, 2]),
    (⟨(some 93), none, .fad 1 (.t 4)⟩, []),
    (⟨(some 94), none, .ld false 1 (.t 93)⟩, [4]),
    (⟨(some 95), none, .iad 1 (.t 94) (.c (.int .i64 0))⟩, [4, 5]),
    (⟨(some 96), none, .ld false 1 (.t 95)⟩, [4, 5, 6]),
    (⟨(some 97), none, .fad 1 (.t 4)⟩, []),
    (⟨(some 98), none, .ld false 1 (.t 97)⟩, [8]),
    (⟨(some 99), none, .iad 1 (.t 98) (.c (.int .i64 2))⟩, [8, 9]),
    (⟨(some 100), none, .ld false 1 (.t 99)⟩, [8, 9, 10]),
    (⟨(some 101), none, .bsl (.int .i64 0) 3 [(0, (.t 92)), (1, (.t 96)), (2, (.t 100))]⟩, [0, 1, 2, 3, 4, 5, 6, 7, 8, 9, 10, 11]),
    (⟨(some 102), none, .fad 1 (.t 11)⟩, [0, 1, 2, 3, 4, 5, 6, 7, 8, 9, 10, 11, 12]),
    (⟨none, none, .st 1 (.t 102) (.t 101)⟩, [0, 1, 2, 3, 4, 5, 6, 7, 8, 9, 10, 11, 12, 13])] (some [1, 3, 4, 9, 11])) (.skip)))))))))
   (.seq (.seq (.rg [⟨(some 103), none, .ld true 6 (.t 11)⟩,
    ⟨(some 104), none, .mov (.t 1)⟩,
    ⟨(some 105), none, .call n_ground_Holds [(.t 103), (.t 104)]⟩,
    ⟨(some 106), none, .mov (.t 9)⟩,
    ⟨(some 107), none, .eq true .bool (.t 105) (.t 106)⟩] (some [1, 3, 4, 9, 107]))
   (.cond (.t 107) (.seq (.rg [⟨(some 8), none, .mov (.c (.bool false))⟩] (some [8]))
   (.ret)) (.skip)))
   (.seq (.rg [⟨(some 108), none, .bsl (.int .i64 0) 0 []⟩,
    ⟨(some 109), none, .mov (.t 1)⟩,
    ⟨(some 110), none, .app 1 8 (.t 108) (.t 109)⟩,
    ⟨(some 15), none, .mov (.t 110)⟩] (some [3, 4, 9, 15]))
   (.seq (.seq (.rg [⟨(some 111), none, .mov (.t 15)⟩,
    ⟨(some 112), none, .len (.t 111)⟩,
    ⟨(some 113), none, .mov (.c (.int .i64 0))⟩] (some [3, 4, 9, 15, 112, 113]))
   (.blk 1 (i_law11_GroundOrder_l1)))
   (.seq (.rg [⟨(some 138), none, .ld true 6 (.t 4)⟩,
    ⟨(some 139), none, .mov (.t 15)⟩,
    ⟨(some 140), none, .call n_ground_Holds [(.t 138), (.t 139)]⟩,
    ⟨(some 141), none, .mov (.t 9)⟩,
    ⟨(some 142), none, .eq false .bool (.t 140) (.t 141)⟩,
    ⟨(some 8), none, .mov (.t 142)⟩] (some [8]))
   (.ret)))))))))))
def F_law11_GroundOrder : F := ⟨i_law11_GroundOrder, [(8, none)], false⟩
/-- stratagem/stratagemlaw11.awake -/
def i_law11_awake : IR := .seq (.rg [⟨(some 0), none, .mov (.c (.bool false))⟩] (some []))
   (.seq (.rg [⟨(some 5), none, .bsf (.int .i64 0) 3 [(0, (.c (.int .i64 2))), (1, (.c (.int .i64 (-3)))), (2, (.c (.int .i64 (-6))))]⟩,
    ⟨(some 1), none, .mov (.t 5)⟩] (some [1]))
   (.seq (.rg [⟨(some 6), none, .bsf (.int .i64 0) 3 [(0, (.c (.int .i64 0))), (1, (.c (.int .i64 1))), (2, (.c (.int .i64 2)))]⟩,
    ⟨(some 7), none, .bld [.int .i64 0, .nsl 1, .nsl 1, .int .i64 0, .int .i64 0, .nsl 1] [(0, 1, (.c (.int .i64 2))), (1, 1, (.t 6))]⟩,
    ⟨(some 2), none, .new (.agg [.int .i64 0, .nsl 1, .nsl 1, .int .i64 0, .int .i64 0, .nsl 1])⟩,
    ⟨none, none, .st 6 (.t 2) (.t 7)⟩] (some [1, 2]))
   (.seq (.rg [⟨(some 8), none, .bsf (.int .i64 0) 2 [(0, (.c (.int .i64 0))), (1, (.c (.int .i64 1)))]⟩,
    ⟨(some 9), none, .bsf (.int .i64 0) 3 [(0, (.c (.int .i64 5))), (1, (.c (.int .i64 5))), (2, (.c (.int .i64 (-3))))]⟩,
    ⟨(some 10), none, .bld [.int .i64 0, .nsl 1, .nsl 1, .int .i64 0, .int .i64 0, .nsl 1] [(0, 1, (.c (.int .i64 4))), (1, 1, (.t 8)), (5, 1, (.t 9))]⟩,
    ⟨(some 3), none, .new (.agg [.int .i64 0, .nsl 1, .nsl 1, .int .i64 0, .int .i64 0, .nsl 1])⟩,
    ⟨none, none, .st 6 (.t 3) (.t 10)⟩] (some [1, 2, 3]))
   (.seq (.rg [⟨(some 11), none, .bsf (.int .i64 0) 2 [(0, (.c (.int .i64 0))), (1, (.c (.int .i64 2)))]⟩,
    ⟨(some 12), none, .bsf (.int .i64 0) 2 [(0, (.c (.int .i64 3))), (1, (.c (.int .i64 1)))]⟩,
    ⟨(some 13), none, .bld [.int .i64 0, .nsl 1, .nsl 1, .int .i64 0, .int .i64 0, .nsl 1] [(0, 1, (.c (.int .i64 1))), (1, 1, (.t 11)), (2, 1, (.t 12))]⟩,
    ⟨(some 4), none, .new (.agg [.int .i64 0, .nsl 1, .nsl 1, .int .i64 0, .int .i64 0, .nsl 1])⟩,
    ⟨none, none, .st 6 (.t 4) (.t 13)⟩] (some [1, 2, 3, 4]))
   (.seq (.dq [(⟨(some 14), none, .ld true 6 (.t 2)⟩, []),
    (⟨(some 15), none, .mov (.t 1)⟩, []),
    (⟨(some 16), none, .call n_ground_Holds [(.t 14), (.t 15)]⟩, [0, 1]),
    (⟨(some 17), none, .mov (.t 16)⟩, [0, 1, 2]),
    (⟨(some 18), (some (17, true)), .ld true 6 (.t 3)⟩, [0, 1, 2, 3]),
    (⟨(some 19), (some (17, true)), .mov (.t 1)⟩, [0, 1, 2, 3]),
    (⟨(some 20), (some (17, true)), .call n_ground_Holds [(.t 18), (.t 19)]⟩, [0, 1, 2, 3, 4, 5]),
    (⟨(some 21), none, .pick (.t 17) (.t 20) (.c (.bool false))⟩, [0, 1, 2, 3, 4, 5, 6]),
    (⟨(some 22), none, .mov (.t 21)⟩, [0, 1, 2, 3, 4, 5, 6, 7]),
    (⟨(some 23), (some (22, true)), .ld true 6 (.t 4)⟩, [0, 1, 2, 3, 4, 5, 6, 7, 8]),
    (⟨(some 24), (some (22, true)), .mov (.t 1)⟩, [0, 1, 2, 3, 4, 5, 6, 7, 8]),
    (⟨(some 25), (some (22, true)), .call n_ground_Holds [(.t 23), (.t 24)]⟩, [0, 1, 2, 3, 4, 5, 6, 7, 8, 9, 10]),
    (⟨(some 26), none, .pick (.t 22) (.t 25) (.c (.bool false))⟩, [0, 1, 2, 3, 4, 5, 6, 7, 8, 9, 10, 11]),
    (⟨(some 27), none, .mov (.t 26)⟩, [0, 1, 2, 3, 4, 5, 6, 7, 8, 9, 10, 11, 12]),
    (⟨(some 28), (some (27, true)), .ld true 6 (.t 2)⟩, [0, 1, 2, 3, 4, 5, 6, 7, 8, 9, 10, 11, 12, 13]),
    (⟨(some 29), (some (27, true)), .ld true 6 (.t 3)⟩, [0, 1, 2, 3, 4, 5, 6, 7, 8, 9, 10, 11, 12, 13]),
    (⟨(some 30), (some (27, true)), .ld true 6 (.t 4)⟩, [0, 1, 2, 3, 4, 5, 6, 7, 8, 9, 10, 11, 12, 13]),
    (⟨(some 31), (some (27, true)), .bsf (.agg [.int .i64 0, .nsl 1, .nsl 1, .int .i64 0, .int .i64 0, .nsl 1]) 3 [(0, (.t 28)), (1, (.t 29)), (2, (.t 30))]⟩, [0, 1, 2, 3, 4, 5, 6, 7, 8, 9, 10, 11, 12, 13, 14, 15, 16]),
    (⟨(some 32), (some (27, true)), .mov (.t 1)⟩, [0, 1, 2, 3, 4, 5, 6, 7, 8, 9, 10, 11, 12, 13]),
    (⟨(some 33), (some (27, true)), .call n_ground_All [(.t 31), (.t 32)]⟩, [0, 1, 2, 3, 4, 5, 6, 7, 8, 9, 10, 11, 12, 13, 14, 15, 16, 17, 18]),
    (⟨(some 34), none, .pick (.t 27) (.t 33) (.c (.bool false))⟩, [0, 1, 2, 3, 4, 5, 6, 7, 8, 9, 10, 11, 12, 13, 14, 15, 16, 17, 18, 19]),
    (⟨(some 35), none, .mov (.t 34)⟩, [0, 1, 2, 3, 4, 5, 6, 7, 8, 9, 10, 11, 12, 13, 14, 15, 16, 17, 18, 19, 20]),
    (⟨(some 36), (some (35, true)), .ld true 6 (.t 2)⟩, [0, 1, 2, 3, 4, 5, 6, 7, 8, 9, 10, 11, 12, 13, 14, 15, 16, 17, 18, 19, 20, 21]),
    (⟨(some 37), (some (35, true)), .bsf (.int .i64 0) 1 [(0, (.c (.int .i64 0)))]⟩, [0, 1, 2, 3, 4, 5, 6, 7, 8, 9, 10, 11, 12, 13, 14, 15, 16, 17, 18, 19, 20, 21]),
    (⟨(some 38), (some (35, true)), .bsf (.int .i64 0) 1 [(0, (.c (.int .i64 1)))]⟩, [0, 1, 2, 3, 4, 5, 6, 7, 8, 9, 10, 11, 12, 13, 14, 15, 16, 17, 18, 19, 20, 21]),
    (⟨(some 39), (some (35, true)), .bld [.int .i64 0, .nsl 1, .nsl 1, .int .i64 0, .int .i64 0, .nsl 1] [(0, 1, (.c (.int .i64 1))), (1, 1, (.t 37)), (2, 1, (.t 38))]⟩, [0, 1, 2, 3, 4, 5, 6, 7, 8, 9, 10, 11, 12, 13, 14, 15, 16, 17, 18, 19, 20, 21, 23, 24]),
    (⟨(some 40), (some (35, true)), .bsf (.agg [.int .i64 0, .nsl 1, .nsl 1, .int .i64 0, .int .i64 0, .nsl 1]) 2 [(0, (.t 36)), (1, (.t 39))]⟩, [0, 1, 2, 3, 4, 5, 6, 7, 8, 9, 10, 11, 12, 13, 14, 15, 16, 17, 18, 19, 20, 21, 22, 23, 24, 25]),
    (⟨(some 41), (some (35, true)), .mov (.t 1)⟩, [0, 1, 2, 3, 4, 5, 6, 7, 8, 9, 10, 11, 12, 13, 14, 15, 16, 17, 18, 19, 20, 21]),
    (⟨(some 42), (some (35, true)), .call n_ground_All [(.t 40), (.t 41)]⟩, [0, 1, 2, 3, 4, 5, 6, 7, 8, 9, 10, 11, 12, 13, 14, 15, 16, 17, 18, 19, 20, 21, 22, 23, 24, 25, 26, 27]),
    (⟨(some 43), (some (35, true)), .un .not (.t 42)⟩, [0, 1, 2, 3, 4, 5, 6, 7, 8, 9, 10, 11, 12, 13, 14, 15, 16, 17, 18, 19, 20, 21, 22, 23, 24, 25, 26, 27, 28]),
    (⟨(some 44), none, .pick (.t 35) (.t 43) (.c (.bool false))⟩, [0, 1, 2, 3, 4, 5, 6, 7, 8, 9, 10, 11, 12, 13, 14, 15, 16, 17, 18, 19, 20, 21, 22, 23, 24, 25, 26, 27, 28, 29]),
    (⟨(some 45), none, .mov (.t 44)⟩, [0, 1, 2, 3, 4, 5, 6, 7, 8, 9, 10, 11, 12, 13, 14, 15, 16, 17, 18, 19, 20, 21, 22, 23, 24, 25, 26, 27, 28, 29, 30]),
    (⟨(some 46), (some (45, true)), .mov (.t 1)⟩, [0, 1, 2, 3, 4, 5, 6, 7, 8, 9, 10, 11, 12, 13, 14, 15, 16, 17, 18, 19, 20, 21, 22, 23, 24, 25, 26, 27, 28, 29, 30, 31]),
    (⟨(some 47), (some (45, true)), .call n_ground_All [(.c (.nsl 6)), (.t 46)]⟩, [0, 1, 2, 3, 4, 5, 6, 7, 8, 9, 10, 11, 12, 13, 14, 15, 16, 17, 18, 19, 20, 21, 22, 23, 24, 25, 26, 27, 28, 29, 30, 31, 32]),
    (⟨(some 48), none, .pick (.t 45) (.t 47) (.c (.bool false))⟩, [0, 1, 2, 3, 4, 5, 6, 7, 8, 9, 10, 11, 12, 13, 14, 15, 16, 17, 18, 19, 20, 21, 22, 23, 24, 25, 26, 27, 28, 29, 30, 31, 32, 33]),
    (⟨(some 49), none, .mov (.t 48)⟩, [0, 1, 2, 3, 4, 5, 6, 7, 8, 9, 10, 11, 12, 13, 14, 15, 16, 17, 18, 19, 20, 21, 22, 23, 24, 25, 26, 27, 28, 29, 30, 31, 32, 33, 34]),
    (⟨(some 50), (some (49, true)), .bld [.int .i64 0, .nsl 1, .nsl 1, .int .i64 0, .int .i64 0, .nsl 1] []⟩, [0, 1, 2, 3, 4, 5, 6, 7, 8, 9, 10, 11, 12, 13, 14, 15, 16, 17, 18, 19, 20, 21, 22, 23, 24, 25, 26, 27, 28, 29, 30, 31, 32, 33, 34, 35]),
    (⟨(some 51), (some (49, true)), .mov (.t 1)⟩, [0, 1, 2, 3, 4, 5, 6, 7, 8, 9, 10, 11, 12, 13, 14, 15, 16, 17, 18, 19, 20, 21, 22, 23, 24, 25, 26, 27, 28, 29, 30, 31, 32, 33, 34, 35]),
    (⟨(some 52), (some (49, true)), .call n_ground_Holds [(.t 50), (.t 51)]⟩, [0, 1, 2, 3, 4, 5, 6, 7, 8, 9, 10, 11, 12, 13, 14, 15, 16, 17, 18, 19, 20, 21, 22, 23, 24, 25, 26, 27, 28, 29, 30, 31, 32, 33, 34, 35, 36, 37]),
    (⟨(some 53), (some (49, true)), .un .not (.t 52)⟩, [0, 1, 2, 3, 4, 5, 6, 7, 8, 9, 10, 11, 12, 13, 14, 15, 16, 17, 18, 19, 20, 21, 22, 23, 24, 25, 26, 27, 28, 29, 30, 31, 32, 33, 34, 35, 36, 37, 38]),
    (⟨(some 54), none, .pick (.t 49) (.t 53) (.c (.bool false))⟩, [0, 1, 2, 3, 4, 5, 6, 7, 8, 9, 10, 11, 12, 13, 14, 15, 16, 17, 18, 19, 20, 21, 22, 23, 24, 25, 26, 27, 28, 29, 30, 31, 32, 33, 34, 35, 36, 37, 38, 39]),
    (⟨(some 55), none, .mov (.t 54)⟩, [0, 1, 2, 3, 4, 5, 6, 7, 8, 9, 10, 11, 12, 13, 14, 15, 16, 17, 18, 19, 20, 21, 22, 23, 24, 25, 26, 27, 28, 29, 30, 31, 32, 33, 34, 35, 36, 37, 38, 39, 40]),
    (⟨(some 56), (some (55, true)), .ld true 6 (.t 2)⟩, [0, 1, 2, 3, 4, 5, 6, 7, 8, 9, 10, 11, 12, 13, 14, 15, 16, 17, 18, 19, 20, 21, 22, 23, 24, 25, 26, 27, 28, 29, 30, 31, 32, 33, 34, 35, 36, 37, 38, 39, 40, 41]),
    (⟨(some 57), (some (55, true)), .bsf (.agg [.int .i64 0, .nsl 1, .nsl 1, .int .i64 0, .int .i64 0, .nsl 1]) 1 [(0, (.t 56))]⟩, [0, 1, 2, 3, 4, 5, 6, 7, 8, 9, 10, 11, 12, 13, 14, 15, 16, 17, 18, 19, 20, 21, 22, 23, 24, 25, 26, 27, 28, 29, 30, 31, 32, 33, 34, 35, 36, 37, 38, 39, 40, 41, 42]),
    (⟨(some 58), (some (55, true)), .mov (.t 1)⟩, [0, 1, 2, 3, 4, 5, 6, 7, 8, 9, 10, 11, 12, 13, 14, 15, 16, 17, 18, 19, 20, 21, 22, 23, 24, 25, 26, 27, 28, 29, 30, 31, 32, 33, 34, 35, 36, 37, 38, 39, 40, 41]),
    (⟨(some 59), (some (55, true)), .call n_ground_Right [(.t 57), (.t 58)]⟩, [0, 1, 2, 3, 4, 5, 6, 7, 8, 9, 10, 11, 12, 13, 14, 15, 16, 17, 18, 19, 20, 21, 22, 23, 24, 25, 26, 27, 28, 29, 30, 31, 32, 33, 34, 35, 36, 37, 38, 39, 40, 41, 42, 43, 44]),
    (⟨(some 60), none, .pick (.t 55) (.t 59) (.c (.bool false))⟩, [0, 1, 2, 3, 4, 5, 6, 7, 8, 9, 10, 11, 12, 13, 14, 15, 16, 17, 18, 19, 20, 21, 22, 23, 24, 25, 26, 27, 28, 29, 30, 31, 32, 33, 34, 35, 36, 37, 38, 39, 40, 41, 42, 43, 44, 45]),
    (⟨(some 61), none, .mov (.t 60)⟩, [0, 1, 2, 3, 4, 5, 6, 7, 8, 9, 10, 11, 12, 13, 14, 15, 16, 17, 18, 19, 20, 21, 22, 23, 24, 25, 26, 27, 28, 29, 30, 31, 32, 33, 34, 35, 36, 37, 38, 39, 40, 41, 42, 43, 44, 45, 46]),
    (⟨(some 62), (some (61, true)), .ld true 6 (.t 2)⟩, [0, 1, 2, 3, 4, 5, 6, 7, 8, 9, 10, 11, 12, 13, 14, 15, 16, 17, 18, 19, 20, 21, 22, 23, 24, 25, 26, 27, 28, 29, 30, 31, 32, 33, 34, 35, 36, 37, 38, 39, 40, 41, 42, 43, 44, 45, 46, 47]),
    (⟨(some 63), (some (61, true)), .bsf (.agg [.int .i64 0, .nsl 1, .nsl 1, .int .i64 0, .int .i64 0, .nsl 1]) 1 [(0, (.t 62))]⟩, [0, 1, 2, 3, 4, 5, 6, 7, 8, 9, 10, 11, 12, 13, 14, 15, 16, 17, 18, 19, 20, 21, 22, 23, 24, 25, 26, 27, 28, 29, 30, 31, 32, 33, 34, 35, 36, 37, 38, 39, 40, 41, 42, 43, 44, 45, 46, 47, 48]),
    (⟨(some 64), (some (61, true)), .mov (.t 1)⟩, [0, 1, 2, 3, 4, 5, 6, 7, 8, 9, 10, 11, 12, 13, 14, 15, 16, 17, 18, 19, 20, 21, 22, 23, 24, 25, 26, 27, 28, 29, 30, 31, 32, 33, 34, 35, 36, 37, 38, 39, 40, 41, 42, 43, 44, 45, 46, 47]),
    (⟨(some 65), (some (61, true)), .sll 1 (.t 64) none (some (.c (.int .i64 2))) none⟩, [0, 1, 2, 3, 4, 5, 6, 7, 8, 9, 10, 11, 12, 13, 14, 15, 16, 17, 18, 19, 20, 21, 22, 23, 24, 25, 26, 27, 28, 29, 30, 31, 32, 33, 34, 35, 36, 37, 38, 39, 40, 41, 42, 43, 44, 45, 46, 47, 50]),
    (⟨(some 66), (some (61, true)), .call n_ground_Right [(.t 63), (.t 65)]⟩, [0, 1, 2, 3, 4, 5, 6, 7, 8, 9, 10, 11, 12, 13, 14, 15, 16, 17, 18, 19, 20, 21, 22, 23, 24, 25, 26, 27, 28, 29, 30, 31, 32, 33, 34, 35, 36, 37, 38, 39, 40, 41, 42, 43, 44, 45, 46, 47, 48, 49, 50, 51]),
    (⟨(some 67), (some (61, true)), .un .not (.t 66)⟩, [0, 1, 2, 3, 4, 5, 6, 7, 8, 9, 10, 11, 12, 13, 14, 15, 16, 17, 18, 19, 20, 21, 22, 23, 24, 25, 26, 27, 28, 29, 30, 31, 32, 33, 34, 35, 36, 37, 38, 39, 40, 41, 42, 43, 44, 45, 46, 47, 48, 49, 50, 51, 52]),
    (⟨(some 68), none, .pick (.t 61) (.t 67) (.c (.bool false))⟩, [0, 1, 2, 3, 4, 5, 6, 7, 8, 9, 10, 11, 12, 13, 14, 15, 16, 17, 18, 19, 20, 21, 22, 23, 24, 25, 26, 27, 28, 29, 30, 31, 32, 33, 34, 35, 36, 37, 38, 39, 40, 41, 42, 43, 44, 45, 46, 47, 48, 49, 50, 51, 52, 53]),
    (⟨(some 69), none, .mov (.t 68)⟩, [0, 1, 2, 3, 4, 5, 6, 7, 8, 9, 10, 11, 12, 13, 14, 15, 16, 17, 18, 19, 20, 21, 22, 23, 24, 25, 26, 27, 28, 29, 30, 31, 32, 33, 34, 35, 36, 37, 38, 39, 40, 41, 42, 43, 44, 45, 46, 47, 48, 49, 50, 51, 52, 53, 54]),
    (⟨(some 70), (some (69, true)), .bsf (.int .i64 0) 1 [(0, (.c (.int .i64 0)))]⟩, [0, 1, 2, 3, 4, 5, 6, 7, 8, 9, 10, 11, 12, 13, 14, 15, 16, 17, 18, 19, 20, 21, 22, 23, 24, 25, 26, 27, 28, 29, 30, 31, 32, 33, 34, 35, 36, 37, 38, 39, 40, 41, 42, 43, 44, 45, 46, 47, 48, 49, 50, 51, 52, 53, 54, 55]),
    (⟨(some 71), (some (69, true)), .bld [.int .i64 0, .nsl 1, .nsl 1, .int .i64 0, .int .i64 0, .nsl 1] [(0, 1, (.c (.int .i64 6))), (1, 1, (.t 70))]⟩, [0, 1, 2, 3, 4, 5, 6, 7, 8, 9, 10, 11, 12, 13, 14, 15, 16, 17, 18, 19, 20, 21, 22, 23, 24, 25, 26, 27, 28, 29, 30, 31, 32, 33, 34, 35, 36, 37, 38, 39, 40, 41, 42, 43, 44, 45, 46, 47, 48, 49, 50, 51, 52, 53, 54, 55, 56]),
    (⟨(some 72), (some (69, true)), .mov (.t 1)⟩, [0, 1, 2, 3, 4, 5, 6, 7, 8, 9, 10, 11, 12, 13, 14, 15, 16, 17, 18, 19, 20, 21, 22, 23, 24, 25, 26, 27, 28, 29, 30, 31, 32, 33, 34, 35, 36, 37, 38, 39, 40, 41, 42, 43, 44, 45, 46, 47, 48, 49, 50, 51, 52, 53, 54, 55]),
    (⟨(some 73), (some (69, true)), .call n_ground_Holds [(.t 71), (.t 72)]⟩, [0, 1, 2, 3, 4, 5, 6, 7, 8, 9, 10, 11, 12, 13, 14, 15, 16, 17, 18, 19, 20, 21, 22, 23, 24, 25, 26, 27, 28, 29, 30, 31, 32, 33, 34, 35, 36, 37, 38, 39, 40, 41, 42, 43, 44, 45, 46, 47, 48, 49, 50, 51, 52, 53, 54, 55, 56, 57, 58]),
    (⟨(some 74), (some (69, true)), .un .not (.t 73)⟩, [0, 1, 2, 3, 4, 5, 6, 7, 8, 9, 10, 11, 12, 13, 14, 15, 16, 17, 18, 19, 20, 21, 22, 23, 24, 25, 26, 27, 28, 29, 30, 31, 32, 33, 34, 35, 36, 37, 38, 39, 40, 41, 42, 43, 44, 45, 46, 47, 48, 49, 50, 51, 52, 53, 54, 55, 56, 57, 58, 59]),
    (⟨(some 75), none, .pick (.t 69) (.t 74) (.c (.bool false))⟩, [0, 1, 2, 3, 4, 5, 6, 7, 8, 9, 10, 11, 12, 13, 14, 15, 16, 17, 18, 19, 20, 21, 22, 23, 24, 25, 26, 27, 28, 29, 30, 31, 32, 33, 34, 35, 36, 37, 38, 39, 40, 41, 42, 43, 44, 45, 46, 47, 48, 49, 50, 51, 52, 53, 54, 55, 56, 57, 58, 59, 60]),
    (⟨(some 0), none, .mov (.t 75)⟩, [0, 1, 2, 3, 4, 5, 6, 7, 8, 9, 10, 11, 12, 13, 14, 15, 16, 17, 18, 19, 20, 21, 22, 23, 24, 25, 26, 27, 28, 29, 30, 31, 32, 33, 34, 35, 36, 37, 38, 39, 40, 41, 42, 43, 44, 45, 46, 47, 48, 49, 50, 51, 52, 53, 54, 55, 56, 57, 58, 59, 60, 61])] (some [0]))
   (.ret))))))
def F_law11_awake : F := ⟨i_law11_awake, [(0, none)], false⟩
/-- stratagem/stratagemlaw11.Large -/
def b_law11_Large_0 : IR := .seq (.rg [⟨(some 18), none, .bin .lss (.t 17) (.t 16)⟩] (some [15, 16, 17, 18]))
   (.seq (.cond (.t 18) (.skip) (.ext 0))
   (.seq (.blk 1 (.seq (.rg [⟨(some 19), none, .iad 6 (.t 15) (.t 17)⟩,
    ⟨(some 20), none, .ld true 6 (.t 19)⟩,
    ⟨(some 6), none, .new (.agg [.int .i64 0, .nsl 1, .nsl 1, .int .i64 0, .int .i64 0, .nsl 1])⟩,
    ⟨none, none, .st 6 (.t 6) (.t 20)⟩] (some [6, 15, 16, 17]))
   (.seq (.rg [⟨(some 21), none, .fad 1 (.t 6)⟩,
    ⟨(some 22), none, .ld false 1 (.t 21)⟩,
    ⟨(some 23), none, .len (.t 22)⟩,
    ⟨(some 24), none, .bin .gtr (.t 23) (.c (.int .i64 150))⟩,
    ⟨(some 25), none, .mov (.t 24)⟩,
    ⟨(some 26), (some (25, false)), .fad 2 (.t 6)⟩,
    ⟨(some 27), (some (25, false)), .ld false 1 (.t 26)⟩,
    ⟨(some 28), (some (25, false)), .len (.t 27)⟩,
    ⟨(some 29), (some (25, false)), .bin .gtr (.t 28) (.c (.int .i64 150))⟩,
    ⟨(some 30), none, .pick (.t 25) (.c (.bool true)) (.t 29)⟩,
    ⟨(some 31), none, .mov (.t 30)⟩,
    ⟨(some 32), (some (31, false)), .fad 5 (.t 6)⟩,
    ⟨(some 33), (some (31, false)), .ld false 1 (.t 32)⟩,
    ⟨(some 34), (some (31, false)), .len (.t 33)⟩,
    ⟨(some 35), (some (31, false)), .bin .gtr (.t 34) (.c (.int .i64 150))⟩,
    ⟨(some 36), none, .pick (.t 31) (.c (.bool true)) (.t 35)⟩] (some [15, 16, 17, 36]))
   (.cond (.t 36) (.seq (.rg [⟨(some 4), none, .mov (.c (.bool true))⟩] (some [4]))
   (.ret)) (.skip)))))
   (.rg [⟨(some 37), none, .bin .add (.t 17) (.c (.int .i64 1))⟩,
    ⟨(some 17), none, .mov (.t 37)⟩] (some [15, 16, 17]))))
def i_law11_Large_l0 : IR := .loop b_law11_Large_0
theorem r_law11_Large_0 {C : Cx} {fr : Fr} {h : List Ob} : evw C i_law11_Large_l0 fr h = nxt (evw C b_law11_Large_0 fr h) fun fr h => evw C i_law11_Large_l0 fr h := w_loop
def i_law11_Large : IR := .seq (.rg [⟨(some 4), none, .mov (.c (.bool false))⟩] (some [0, 1]))
   (.seq (.seq (.rg [⟨(some 7), none, .mov (.t 0)⟩,
    ⟨(some 8), none, .len (.t 7)⟩,
    ⟨(some 9), none, .bin .gtr (.t 8) (.c (.int .i64 40))⟩,
    ⟨(some 10), none, .mov (.t 9)⟩,
    ⟨(some 11), (some (10, false)), .mov (.t 1)⟩,
    ⟨(some 12), (some (10, false)), .len (.t 11)⟩,
    ⟨(some 13), (some (10, false)), .bin .gtr (.t 12) (.c (.int .i64 40))⟩,
    ⟨(some 14), none, .pick (.t 10) (.c (.bool true)) (.t 13)⟩] (some [0, 14]))
   (.cond (.t 14) (.seq (.rg [⟨(some 4), none, .mov (.c (.bool true))⟩] (some [4]))
   (.ret)) (.skip)))
   (.seq (.seq (.rg [⟨(some 15), none, .mov (.t 0)⟩,
    ⟨(some 16), none, .len (.t 15)⟩,
    ⟨(some 17), none, .mov (.c (.int .i64 0))⟩] (some [15, 16, 17]))
   (.blk 0 (i_law11_Large_l0)))
   (.seq (.rg [⟨(some 4), none, .mov (.c (.bool false))⟩] (some [4]))
   (.ret))))
def F_law11_Large : F := ⟨i_law11_Large, [(4, none)], false⟩
/-- stratagem/ground.Holds -/
def i_ground_Holds : IR := .seq (.rg [⟨(some 2), none, .box (.t 0)⟩,
    ⟨(some 4), none, .mov (.c (.bool false))⟩] (some [1, 2]))
   (.seq (.rg [⟨(some 5), none, .ld true 6 (.t 2)⟩,
    ⟨(some 6), none, .bsf (.agg [.int .i64 0, .nsl 1, .nsl 1, .int .i64 0, .int .i64 0, .nsl 1]) 1 [(0, (.t 5))]⟩,
    ⟨(some 7), none, .mov (.t 1)⟩,
    ⟨(some 8), none, .call n_ground_All [(.t 6), (.t 7)]⟩,
    ⟨(some 4), none, .mov (.t 8)⟩] (some [4]))
   (.ret))
def F_ground_Holds : F := ⟨i_ground_Holds, [(4, none)], false⟩
/-- stratagem/stratagemref11.All -/
def b_ref11_All_0 : IR := .seq (.seq (.rg [⟨(some 10), none, .mov (.t 5)⟩,
    ⟨(some 11), none, .mov (.t 0)⟩,
    ⟨(some 12), none, .len (.t 11)⟩,
    ⟨(some 13), none, .bin .lss (.t 10) (.t 12)⟩] (some [0, 1, 5, 13]))
   (.cond (.t 13) (.skip) (.ext 0)))
   (.seq (.blk 1 (.seq (.rg [⟨(some 16), none, .mov (.t 0)⟩,
    ⟨(some 17), none, .mov (.t 5)⟩,
    ⟨(some 18), none, .iad 6 (.t 16) (.t 17)⟩,
    ⟨(some 19), none, .ld true 6 (.t 18)⟩,
    ⟨(some 20), none, .mov (.t 1)⟩,
    ⟨(some 21), none, .call n_ref11_Holds [(.t 19), (.t 20)]⟩,
    ⟨(some 22), none, .un .not (.t 21)⟩] (some [0, 1, 5, 22]))
   (.cond (.t 22) (.seq (.rg [⟨(some 4), none, .mov (.c (.bool false))⟩] (some [4]))
   (.ret)) (.skip))))
   (.rg [⟨(some 14), none, .mov (.t 5)⟩,
    ⟨(some 15), none, .bin .add (.t 14) (.c (.int .i64 1))⟩,
    ⟨(some 5), none, .mov (.t 15)⟩] (some [0, 1, 5])))
def i_ref11_All_l0 : IR := .loop b_ref11_All_0
theorem r_ref11_All_0 {C : Cx} {fr : Fr} {h : List Ob} : evw C i_ref11_All_l0 fr h = nxt (evw C b_ref11_All_0 fr h) fun fr h => evw C i_ref11_All_l0 fr h := w_loop
def i_ref11_All : IR := .seq (.rg [⟨(some 4), none, .mov (.c (.bool false))⟩] (some [0, 1]))
   (.seq (.seq (.rg [⟨(some 6), none, .mov (.t 0)⟩,
    ⟨(some 7), none, .mov (.t 1)⟩,
    ⟨(some 8), none, .call n_ref11_Right [(.t 6), (.t 7)]⟩,
    ⟨(some 9), none, .un .not (.t 8)⟩] (some [0, 1, 9]))
   (.cond (.t 9) (.seq (.rg [⟨(some 4), none, .mov (.c (.bool false))⟩] (some [4]))
   (.ret)) (.skip)))
   (.seq (.seq (.rg [⟨(some 5), none, .mov (.c (.int .i64 0))⟩] (some [0, 1, 5]))
   (.blk 0 (i_ref11_All_l0)))
   (.seq (.rg [⟨(some 4), none, .mov (.c (.bool true))⟩] (some [4]))
   (.ret))))
def F_ref11_All : F := ⟨i_ref11_All, [(4, none)], false⟩
/-- stratagem/ground.Right -/
def b_ground_Right_0 : IR := .seq (.rg [⟨(some 10), none, .bin .lss (.t 9) (.t 8)⟩] (some [0, 3, 7, 8, 9, 10]))
   (.seq (.cond (.t 10) (.skip) (.ext 0))
   (.seq (.blk 1 (.seq (.rg [⟨(some 11), none, .iad 1 (.t 7) (.t 9)⟩,
    ⟨(some 12), none, .ld false 1 (.t 11)⟩,
    ⟨(some 6), none, .mov (.t 12)⟩] (some [0, 3, 6, 7, 8, 9]))
   (.seq (.rg [⟨(some 13), none, .mov (.t 6)⟩,
    ⟨(some 14), none, .bin .lss (.t 13) (.c (.int .i64 (-1048576)))⟩,
    ⟨(some 15), none, .mov (.t 14)⟩,
    ⟨(some 16), (some (15, false)), .mov (.t 6)⟩,
    ⟨(some 17), (some (15, false)), .bin .gtr (.t 16) (.c (.int .i64 1048576))⟩,
    ⟨(some 18), none, .pick (.t 15) (.c (.bool true)) (.t 17)⟩] (some [0, 3, 7, 8, 9, 18]))
   (.cond (.t 18) (.seq (.rg [⟨(some 4), none, .mov (.c (.bool false))⟩] (some [4]))
   (.ret)) (.skip)))))
   (.rg [⟨(some 19), none, .bin .add (.t 9) (.c (.int .i64 1))⟩,
    ⟨(some 9), none, .mov (.t 19)⟩] (some [0, 3, 7, 8, 9]))))
def i_ground_Right_l0 : IR := .loop b_ground_Right_0
theorem r_ground_Right_0 {C : Cx} {fr : Fr} {h : List Ob} : evw C i_ground_Right_l0 fr h = nxt (evw C b_ground_Right_0 fr h) fun fr h => evw C i_ground_Right_l0 fr h := w_loop
def i_ground_Right : IR := .seq (.rg [⟨(some 3), none, .box (.t 1)⟩,
    ⟨(some 4), none, .mov (.c (.bool false))⟩] (some [0, 3]))
   (.seq (.seq (.rg [⟨(some 7), none, .ld false 1 (.t 3)⟩,
    ⟨(some 8), none, .len (.t 7)⟩,
    ⟨(some 9), none, .mov (.c (.int .i64 0))⟩] (some [0, 3, 7, 8, 9]))
   (.blk 0 (i_ground_Right_l0)))
   (.seq (.rg [⟨(some 20), none, .mov (.t 0)⟩,
    ⟨(some 21), none, .mkf (.func n_ground_Right_1) [] [(.t 3)]⟩,
    ⟨(some 22), none, .call n_slices_ContainsFunc_sapi_Con_api_Con [(.t 20), (.t 21)]⟩,
    ⟨(some 23), none, .un .not (.t 22)⟩,
    ⟨(some 4), none, .mov (.t 23)⟩] (some [4]))
   (.ret)))
def F_ground_Right : F := ⟨i_ground_Right, [(4, none)], false⟩
/-- stratagem/stratagemref11.Right -/
def b_ref11_Right_0 : IR := .seq (.seq (.rg [⟨(some 7), none, .mov (.t 5)⟩,
    ⟨(some 8), none, .mov (.t 1)⟩,
    ⟨(some 9), none, .len (.t 8)⟩,
    ⟨(some 10), none, .bin .lss (.t 7) (.t 9)⟩] (some [0, 1, 5, 10]))
   (.cond (.t 10) (.skip) (.ext 0)))
   (.seq (.blk 1 (.seq (.rg [⟨(some 13), none, .mov (.t 1)⟩,
    ⟨(some 14), none, .mov (.t 5)⟩,
    ⟨(some 15), none, .iad 1 (.t 13) (.t 14)⟩,
    ⟨(some 16), none, .ld false 1 (.t 15)⟩,
    ⟨(some 17), none, .bin .lss (.t 16) (.c (.int .i64 (-1048576)))⟩,
    ⟨(some 18), none, .mov (.t 17)⟩,
    ⟨(some 19), (some (18, false)), .mov (.t 1)⟩,
    ⟨(some 20), (some (18, false)), .mov (.t 5)⟩,
    ⟨(some 21), (some (18, false)), .iad 1 (.t 19) (.t 20)⟩,
    ⟨(some 22), (some (18, false)), .ld false 1 (.t 21)⟩,
    ⟨(some 23), (some (18, false)), .bin .gtr (.t 22) (.c (.int .i64 1048576))⟩,
    ⟨(some 24), none, .pick (.t 18) (.c (.bool true)) (.t 23)⟩] (some [0, 1, 5, 24]))
   (.cond (.t 24) (.seq (.rg [⟨(some 4), none, .mov (.c (.bool false))⟩] (some [4]))
   (.ret)) (.skip))))
   (.rg [⟨(some 11), none, .mov (.t 5)⟩,
    ⟨(some 12), none, .bin .add (.t 11) (.c (.int .i64 1))⟩,
    ⟨(some 5), none, .mov (.t 12)⟩] (some [0, 1, 5])))
def i_ref11_Right_l0 : IR := .loop b_ref11_Right_0
theorem r_ref11_Right_0 {C : Cx} {fr : Fr} {h : List Ob} : evw C i_ref11_Right_l0 fr h = nxt (evw C b_ref11_Right_0 fr h) fun fr h => evw C i_ref11_Right_l0 fr h := w_loop
def b_ref11_Right_1 : IR := .seq (.seq (.rg [⟨(some 25), none, .mov (.t 6)⟩,
    ⟨(some 26), none, .mov (.t 0)⟩,
    ⟨(some 27), none, .len (.t 26)⟩,
    ⟨(some 28), none, .bin .lss (.t 25) (.t 27)⟩] (some [0, 1, 6, 28]))
   (.cond (.t 28) (.skip) (.ext 2)))
   (.seq (.blk 3 (.seq (.rg [⟨(some 31), none, .mov (.t 0)⟩,
    ⟨(some 32), none, .mov (.t 6)⟩,
    ⟨(some 33), none, .iad 6 (.t 31) (.t 32)⟩,
    ⟨(some 34), none, .ld true 6 (.t 33)⟩,
    ⟨(some 35), none, .mov (.t 1)⟩,
    ⟨(some 36), none, .len (.t 35)⟩,
    ⟨(some 37), none, .call n_ref08_Right [(.t 34), (.t 36)]⟩,
    ⟨(some 38), none, .un .not (.t 37)⟩] (some [0, 1, 6, 38]))
   (.cond (.t 38) (.seq (.rg [⟨(some 4), none, .mov (.c (.bool false))⟩] (some [4]))
   (.ret)) (.skip))))
   (.rg [⟨(some 29), none, .mov (.t 6)⟩,
    ⟨(some 30), none, .bin .add (.t 29) (.c (.int .i64 1))⟩,
    ⟨(some 6), none, .mov (.t 30)⟩] (some [0, 1, 6])))
def i_ref11_Right_l1 : IR := .loop b_ref11_Right_1
theorem r_ref11_Right_1 {C : Cx} {fr : Fr} {h : List Ob} : evw C i_ref11_Right_l1 fr h = nxt (evw C b_ref11_Right_1 fr h) fun fr h => evw C i_ref11_Right_l1 fr h := w_loop
def i_ref11_Right : IR := .seq (.rg [⟨(some 4), none, .mov (.c (.bool false))⟩] (some [0, 1]))
   (.seq (.seq (.rg [⟨(some 5), none, .mov (.c (.int .i64 0))⟩] (some [0, 1, 5]))
   (.blk 0 (i_ref11_Right_l0)))
   (.seq (.seq (.rg [⟨(some 6), none, .mov (.c (.int .i64 0))⟩] (some [0, 1, 6]))
   (.blk 2 (i_ref11_Right_l1)))
   (.seq (.rg [⟨(some 4), none, .mov (.c (.bool true))⟩] (some [4]))
   (.ret))))
def F_ref11_Right : F := ⟨i_ref11_Right, [(4, none)], false⟩
/-- stratagem/ground.All -/
def i_ground_All : IR := .seq (.rg [⟨(some 3), none, .box (.t 1)⟩,
    ⟨(some 4), none, .mov (.c (.bool false))⟩] (some [0, 3]))
   (.seq (.rg [⟨(some 5), none, .mov (.t 0)⟩,
    ⟨(some 6), none, .ld false 1 (.t 3)⟩,
    ⟨(some 7), none, .call n_ground_Right [(.t 5), (.t 6)]⟩,
    ⟨(some 8), none, .mov (.t 7)⟩,
    ⟨(some 9), (some (8, true)), .mov (.t 0)⟩,
    ⟨(some 10), (some (8, true)), .mkf (.func n_ground_All_1) [] [(.t 3)]⟩,
    ⟨(some 11), (some (8, true)), .call n_slices_ContainsFunc_sapi_Con_api_Con [(.t 9), (.t 10)]⟩,
    ⟨(some 12), (some (8, true)), .un .not (.t 11)⟩,
    ⟨(some 13), none, .pick (.t 8) (.t 12) (.c (.bool false))⟩,
    ⟨(some 4), none, .mov (.t 13)⟩] (some [4]))
   (.ret))
def F_ground_All : F := ⟨i_ground_All, [(4, none)], false⟩
/-- stratagem/stratagemref11.Holds -/
def b_ref11_Holds_0 : IR := .seq (.seq (.rg [⟨(some 14), none, .mov (.t 6)⟩,
    ⟨(some 15), none, .fad 1 (.t 2)⟩,
    ⟨(some 16), none, .ld false 1 (.t 15)⟩,
    ⟨(some 17), none, .len (.t 16)⟩,
    ⟨(some 18), none, .bin .lss (.t 14) (.t 17)⟩] (some [1, 2, 5, 6, 18]))
   (.cond (.t 18) (.skip) (.ext 0)))
   (.seq (.blk 1 (.rg [⟨(some 21), none, .mov (.t 5)⟩,
    ⟨(some 22), none, .mov (.t 1)⟩,
    ⟨(some 23), none, .fad 1 (.t 2)⟩,
    ⟨(some 24), none, .ld false 1 (.t 23)⟩,
    ⟨(some 25), none, .mov (.t 6)⟩,
    ⟨(some 26), none, .iad 1 (.t 24) (.t 25)⟩,
    ⟨(some 27), none, .ld false 1 (.t 26)⟩,
    ⟨(some 28), none, .iad 1 (.t 22) (.t 27)⟩,
    ⟨(some 29), none, .ld false 1 (.t 28)⟩,
    ⟨(some 30), none, .bsf (.int .i64 0) 1 [(0, (.t 29))]⟩,
    ⟨(some 31), none, .app 1 8 (.t 21) (.t 30)⟩,
    ⟨(some 5), none, .mov (.t 31)⟩] (some [1, 2, 5, 6])))
   (.rg [⟨(some 19), none, .mov (.t 6)⟩,
    ⟨(some 20), none, .bin .add (.t 19) (.c (.int .i64 1))⟩,
    ⟨(some 6), none, .mov (.t 20)⟩] (some [1, 2, 5, 6])))
def i_ref11_Holds_l0 : IR := .loop b_ref11_Holds_0
theorem r_ref11_Holds_0 {C : Cx} {fr : Fr} {h : List Ob} : evw C i_ref11_Holds_l0 fr h = nxt (evw C b_ref11_Holds_0 fr h) fun fr h => evw C i_ref11_Holds_l0 fr h := w_loop
def b_ref11_Holds_1 : IR := .seq (.seq (.rg [⟨(some 79), none, .mov (.t 7)⟩,
    ⟨(some 80), none, .fad 5 (.t 2)⟩,
    ⟨(some 81), none, .ld false 1 (.t 80)⟩,
    ⟨(some 82), none, .len (.t 81)⟩,
    ⟨(some 83), none, .bin .lss (.t 79) (.t 82)⟩] (some [2, 5, 7, 83]))
   (.cond (.t 83) (.skip) (.ext 3)))
   (.seq (.blk 4 (.seq (.rg [⟨(some 86), none, .mov (.t 5)⟩,
    ⟨(some 87), none, .iad 1 (.t 86) (.c (.int .i64 0))⟩,
    ⟨(some 88), none, .ld false 1 (.t 87)⟩,
    ⟨(some 89), none, .mov (.t 7)⟩,
    ⟨(some 90), none, .bin .eql (.t 88) (.t 89)⟩] (some [2, 5, 7, 90]))
   (.cond (.t 90) (.seq (.dq [(⟨(some 91), none, .fad 5 (.t 2)⟩, []),
    (⟨(some 92), none, .ld false 1 (.t 91)⟩, [0]),
    (⟨(some 93), none, .mov (.t 7)⟩, []),
    (⟨(some 94), none, .iad 1 (.t 92) (.t 93)⟩, [0, 1, 2]),
    (⟨(some 95), none, .ld false 1 (.t 94)⟩, [0, 1, 2, 3]),
    (⟨(some 96), none, .mov (.t 5)⟩, []),
    (⟨(some 97), none, .iad 1 (.t 96) (.c (.int .i64 1))⟩, [5]),
    (⟨(some 98), none, .ld false 1 (.t 97)⟩, [5, 6]),
    (⟨(some 99), none, .bin .eql (.t 95) (.t 98)⟩, [0, 1, 2, 3, 4, 5, 6, 7]),
    (⟨(some 4), none, .mov (.t 99)⟩, [0, 1, 2, 3, 4, 5, 6, 7, 8])] (some [4]))
   (.ret)) (.skip))))
   (.rg [⟨(some 84), none, .mov (.t 7)⟩,
    ⟨(some 85), none, .bin .add (.t 84) (.c (.int .i64 1))⟩,
    ⟨(some 7), none, .mov (.t 85)⟩] (some [2, 5, 7])))
def i_ref11_Holds_l1 : IR := .loop b_ref11_Holds_1
theorem r_ref11_Holds_1 {C : Cx} {fr : Fr} {h : List Ob} : evw C i_ref11_Holds_l1 fr h = nxt (evw C b_ref11_Holds_1 fr h) fun fr h => evw C i_ref11_Holds_l1 fr h := w_loop
def b_ref11_Holds_2 : IR := .seq (.seq (.rg [⟨(some 108), none, .mov (.t 9)⟩,
    ⟨(some 109), none, .mov (.t 8)⟩,
    ⟨(some 110), none, .bin .lss (.t 108) (.t 109)⟩] (some [5, 8, 9, 110]))
   (.cond (.t 110) (.skip) (.ext 7)))
   (.seq (.blk 8 (.seq (.dq [(⟨(some 113), none, .mov (.t 5)⟩, []),
    (⟨(some 114), none, .mov (.t 8)⟩, []),
    (⟨(some 115), none, .iad 1 (.t 113) (.t 114)⟩, [0, 1]),
    (⟨(some 116), none, .ld false 1 (.t 115)⟩, [0, 1, 2]),
    (⟨(some 117), none, .mov (.t 5)⟩, []),
    (⟨(some 118), none, .mov (.t 9)⟩, []),
    (⟨(some 119), none, .iad 1 (.t 117) (.t 118)⟩, [4, 5]),
    (⟨(some 120), none, .ld false 1 (.t 119)⟩, [4, 5, 6]),
    (⟨(some 121), none, .bin .eql (.t 116) (.t 120)⟩, [0, 1, 2, 3, 4, 5, 6, 7])] (some [5, 8, 9, 121]))
   (.cond (.t 121) (.seq (.rg [⟨(some 4), none, .mov (.c (.bool false))⟩] (some [4]))
   (.ret)) (.skip))))
   (.rg [⟨(some 111), none, .mov (.t 9)⟩,
    ⟨(some 112), none, .bin .add (.t 111) (.c (.int .i64 1))⟩,
    ⟨(some 9), none, .mov (.t 112)⟩] (some [5, 8, 9])))
def i_ref11_Holds_l2 : IR := .loop b_ref11_Holds_2
theorem r_ref11_Holds_2 {C : Cx} {fr : Fr} {h : List Ob} : evw C i_ref11_Holds_l2 fr h = nxt (evw C b_ref11_Holds_2 fr h) fun fr h => evw C i_ref11_Holds_l2 fr h := w_loop
def b_ref11_Holds_3 : IR := .seq (.seq (.rg [⟨(some 102), none, .mov (.t 8)⟩,
    ⟨(some 103), none, .mov (.t 5)⟩,
    ⟨(some 104), none, .len (.t 103)⟩,
    ⟨(some 105), none, .bin .lss (.t 102) (.t 104)⟩] (some [5, 8, 105]))
   (.cond (.t 105) (.skip) (.ext 5)))
   (.seq (.blk 6 (.seq (.rg [⟨(some 9), none, .mov (.c (.int .i64 0))⟩] (some [5, 8, 9]))
   (.blk 7 (i_ref11_Holds_l2))))
   (.rg [⟨(some 106), none, .mov (.t 8)⟩,
    ⟨(some 107), none, .bin .add (.t 106) (.c (.int .i64 1))⟩,
    ⟨(some 8), none, .mov (.t 107)⟩] (some [5, 8])))
def i_ref11_Holds_l3 : IR := .loop b_ref11_Holds_3
theorem r_ref11_Holds_3 {C : Cx} {fr : Fr} {h : List Ob} : evw C i_ref11_Holds_l3 fr h = nxt (evw C b_ref11_Holds_3 fr h) fun fr h => evw C i_ref11_Holds_l3 fr h := w_loop
def b_ref11_Holds_4 : IR := .seq (.seq (.rg [⟨(some 131), none, .mov (.t 12)⟩,
    ⟨(some 132), none, .mov (.t 5)⟩,
    ⟨(some 133), none, .len (.t 132)⟩,
    ⟨(some 134), none, .bin .lss (.t 131) (.t 133)⟩] (some [2, 5, 10, 11, 12, 134]))
   (.cond (.t 134) (.skip) (.ext 11)))
   (.seq (.blk 12 (.dq [(⟨(some 137), none, .mov (.t 11)⟩, []),
    (⟨(some 138), none, .mov (.t 137)⟩, [0]),
    (⟨(some 139), (some (138, true)), .fad 5 (.t 2)⟩, [0, 1]),
    (⟨(some 140), (some (138, true)), .ld false 1 (.t 139)⟩, [0, 1, 2]),
    (⟨(some 141), (some (138, true)), .mov (.t 10)⟩, [0, 1]),
    (⟨(some 142), (some (138, true)), .mov (.t 12)⟩, [0, 1]),
    (⟨(some 143), (some (138, true)), .bin .add (.t 141) (.t 142)⟩, [0, 1, 4, 5]),
    (⟨(some 144), (some (138, true)), .iad 1 (.t 140) (.t 143)⟩, [0, 1, 2, 3, 4, 5, 6]),
    (⟨(some 145), (some (138, true)), .ld false 1 (.t 144)⟩, [0, 1, 2, 3, 4, 5, 6, 7]),
    (⟨(some 146), (some (138, true)), .mov (.t 5)⟩, [0, 1]),
    (⟨(some 147), (some (138, true)), .mov (.t 12)⟩, [0, 1]),
    (⟨(some 148), (some (138, true)), .iad 1 (.t 146) (.t 147)⟩, [0, 1, 9, 10]),
    (⟨(some 149), (some (138, true)), .ld false 1 (.t 148)⟩, [0, 1, 9, 10, 11]),
    (⟨(some 150), (some (138, true)), .bin .eql (.t 145) (.t 149)⟩, [0, 1, 2, 3, 4, 5, 6, 7, 8, 9, 10, 11, 12]),
    (⟨(some 151), none, .pick (.t 138) (.t 150) (.c (.bool false))⟩, [0, 1, 2, 3, 4, 5, 6, 7, 8, 9, 10, 11, 12, 13]),
    (⟨(some 11), none, .mov (.t 151)⟩, [0, 1, 2, 3, 4, 5, 6, 7, 8, 9, 10, 11, 12, 13, 14])] (some [2, 5, 10, 11, 12])))
   (.rg [⟨(some 135), none, .mov (.t 12)⟩,
    ⟨(some 136), none, .bin .add (.t 135) (.c (.int .i64 1))⟩,
    ⟨(some 12), none, .mov (.t 136)⟩] (some [2, 5, 10, 11, 12])))
def i_ref11_Holds_l4 : IR := .loop b_ref11_Holds_4
theorem r_ref11_Holds_4 {C : Cx} {fr : Fr} {h : List Ob} : evw C i_ref11_Holds_l4 fr h = nxt (evw C b_ref11_Holds_4 fr h) fun fr h => evw C i_ref11_Holds_l4 fr h := w_loop
def b_ref11_Holds_5 : IR := .seq (.seq (.rg [⟨(some 122), none, .mov (.t 10)⟩,
    ⟨(some 123), none, .fad 5 (.t 2)⟩,
    ⟨(some 124), none, .ld false 1 (.t 123)⟩,
    ⟨(some 125), none, .len (.t 124)⟩,
    ⟨(some 126), none, .bin .lss (.t 122) (.t 125)⟩] (some [2, 5, 10, 126]))
   (.cond (.t 126) (.skip) (.ext 9)))
   (.seq (.blk 10 (.seq (.rg [⟨(some 11), none, .mov (.c (.bool true))⟩] (some [2, 5, 10, 11]))
   (.seq (.seq (.rg [⟨(some 12), none, .mov (.c (.int .i64 0))⟩] (some [2, 5, 10, 11, 12]))
   (.blk 11 (i_ref11_Holds_l4)))
   (.seq (.rg [⟨(some 152), none, .mov (.t 11)⟩] (some [2, 5, 10, 152]))
   (.cond (.t 152) (.seq (.rg [⟨(some 4), none, .mov (.c (.bool true))⟩] (some [4]))
   (.ret)) (.skip))))))
   (.rg [⟨(some 127), none, .mov (.t 10)⟩,
    ⟨(some 128), none, .mov (.t 5)⟩,
    ⟨(some 129), none, .len (.t 128)⟩,
    ⟨(some 130), none, .bin .add (.t 127) (.t 129)⟩,
    ⟨(some 10), none, .mov (.t 130)⟩] (some [2, 5, 10])))
def i_ref11_Holds_l5 : IR := .loop b_ref11_Holds_5
theorem r_ref11_Holds_5 {C : Cx} {fr : Fr} {h : List Ob} : evw C i_ref11_Holds_l5 fr h = nxt (evw C b_ref11_Holds_5 fr h) fun fr h => evw C i_ref11_Holds_l5 fr h := w_loop
def i_ref11_Holds : IR := .seq (.rg [⟨(some 2), none, .box (.t 0)⟩,
    ⟨(some 4), none, .mov (.c (.bool false))⟩] (some [1, 2]))
   (.seq (.rg [⟨(some 13), none, .bsl (.int .i64 0) 0 []⟩,
    ⟨(some 5), none, .mov (.t 13)⟩] (some [1, 2, 5]))
   (.seq (.seq (.rg [⟨(some 6), none, .mov (.c (.int .i64 0))⟩] (some [1, 2, 5, 6]))
   (.blk 0 (i_ref11_Holds_l0)))
   (.seq (.seq (.rg [⟨(some 32), none, .fad 0 (.t 2)⟩,
    ⟨(some 33), none, .ld false 1 (.t 32)⟩] (some [1, 2, 5, 33]))
   (.blk 2 (.seq (.rg [⟨(some 35), none, .bin .eql (.t 33) (.c (.int .i64 1))⟩,
    ⟨(some 34), none, .mov (.t 35)⟩] (some [1, 2, 5, 33, 34]))
   (.cond (.t 34) (.seq (.rg [⟨(some 36), none, .ld true 6 (.t 2)⟩,
    ⟨(some 37), none, .fad 1 (.t 2)⟩,
    ⟨(some 38), none, .ld false 1 (.t 37)⟩,
    ⟨(some 39), none, .mov (.t 1)⟩,
    ⟨(some 40), none, .call n_ref11_sum [(.t 36), (.t 38), (.t 39)]⟩,
    ⟨(some 4), none, .mov (.t 40)⟩] (some [4]))
   (.ret)) (.seq (.rg [⟨(some 42), none, .bin .eql (.t 33) (.c (.int .i64 2))⟩,
    ⟨(some 41), none, .mov (.t 42)⟩] (some [1, 2, 5, 33, 41]))
   (.cond (.t 41) (.seq (.dq [(⟨(some 43), none, .mov (.t 5)⟩, []),
    (⟨(some 44), none, .iad 1 (.t 43) (.c (.int .i64 0))⟩, [0]),
    (⟨(some 45), none, .ld false 1 (.t 44)⟩, [0, 1]),
    (⟨(some 46), none, .mov (.t 5)⟩, []),
    (⟨(some 47), none, .iad 1 (.t 46) (.c (.int .i64 1))⟩, [3]),
    (⟨(some 48), none, .ld false 1 (.t 47)⟩, [3, 4]),
    (⟨(some 49), none, .bin .mul (.t 45) (.t 48)⟩, [0, 1, 2, 3, 4, 5]),
    (⟨(some 50), none, .mov (.t 5)⟩, []),
    (⟨(some 51), none, .iad 1 (.t 50) (.c (.int .i64 2))⟩, [7]),
    (⟨(some 52), none, .ld false 1 (.t 51)⟩, [7, 8]),
    (⟨(some 53), none, .bin .eql (.t 49) (.t 52)⟩, [0, 1, 2, 3, 4, 5, 6, 7, 8, 9]),
    (⟨(some 4), none, .mov (.t 53)⟩, [0, 1, 2, 3, 4, 5, 6, 7, 8, 9, 10])] (some [4]))
   (.ret)) (.seq (.rg [⟨(some 55), none, .bin .eql (.t 33) (.c (.int .i64 3))⟩,
    ⟨(some 54), none, .mov (.t 55)⟩] (some [1, 2, 5, 33, 54]))
   (.cond (.t 54) (.seq (.seq (.rg [⟨(some 56), none, .mov (.t 5)⟩,
    ⟨(some 57), none, .iad 1 (.t 56) (.c (.int .i64 0))⟩,
    ⟨(some 58), none, .ld false 1 (.t 57)⟩,
    ⟨(some 59), none, .bin .neq (.t 58) (.c (.int .i64 0))⟩,
    ⟨(some 60), none, .mov (.t 59)⟩,
    ⟨(some 61), (some (60, true)), .mov (.t 5)⟩,
    ⟨(some 62), (some (60, true)), .iad 1 (.t 61) (.c (.int .i64 0))⟩,
    ⟨(some 63), (some (60, true)), .ld false 1 (.t 62)⟩,
    ⟨(some 64), (some (60, true)), .bin .neq (.t 63) (.c (.int .i64 1))⟩,
    ⟨(some 65), none, .pick (.t 60) (.t 64) (.c (.bool false))⟩] (some [1, 2, 5, 65]))
   (.cond (.t 65) (.seq (.rg [⟨(some 4), none, .mov (.c (.bool false))⟩] (some [4]))
   (.ret)) (.skip)))
   (.seq (.dq [(⟨(some 66), none, .ld true 6 (.t 2)⟩, []),
    (⟨(some 67), none, .fad 1 (.t 2)⟩, []),
    (⟨(some 68), none, .ld false 1 (.t 67)⟩, [1]),
    (⟨(some 69), none, .sll 1 (.t 68) (some (.c (.int .i64 1))) none none⟩, [1, 2]),
    (⟨(some 70), none, .mov (.t 1)⟩, []),
    (⟨(some 71), none, .call n_ref11_sum [(.t 66), (.t 69), (.t 70)]⟩, [0, 1, 2, 3, 4]),
    (⟨(some 72), none, .mov (.t 5)⟩, []),
    (⟨(some 73), none, .iad 1 (.t 72) (.c (.int .i64 0))⟩, [6]),
    (⟨(some 74), none, .ld false 1 (.t 73)⟩, [6, 7]),
    (⟨(some 75), none, .bin .eql (.t 74) (.c (.int .i64 1))⟩, [6, 7, 8]),
    (⟨(some 76), none, .eq false .bool (.t 71) (.t 75)⟩, [0, 1, 2, 3, 4, 5, 6, 7, 8, 9]),
    (⟨(some 4), none, .mov (.t 76)⟩, [0, 1, 2, 3, 4, 5, 6, 7, 8, 9, 10])] (some [4]))
   (.ret))) (.seq (.rg [⟨(some 78), none, .bin .eql (.t 33) (.c (.int .i64 4))⟩,
    ⟨(some 77), none, .mov (.t 78)⟩] (some [2, 5, 33, 77]))
   (.cond (.t 77) (.seq (.seq (.rg [⟨(some 7), none, .mov (.c (.int .i64 0))⟩] (some [2, 5, 7]))
   (.blk 3 (i_ref11_Holds_l1)))
   (.seq (.rg [⟨(some 4), none, .mov (.c (.bool false))⟩] (some [4]))
   (.ret))) (.seq (.rg [⟨(some 101), none, .bin .eql (.t 33) (.c (.int .i64 5))⟩,
    ⟨(some 100), none, .mov (.t 101)⟩] (some [2, 5, 100]))
   (.cond (.t 100) (.seq (.seq (.rg [⟨(some 8), none, .mov (.c (.int .i64 0))⟩] (some [5, 8]))
   (.blk 5 (i_ref11_Holds_l3)))
   (.seq (.rg [⟨(some 4), none, .mov (.c (.bool true))⟩] (some [4]))
   (.ret))) (.skip)))))))))))))
   (.seq (.seq (.rg [⟨(some 10), none, .mov (.c (.int .i64 0))⟩] (some [2, 5, 10]))
   (.blk 9 (i_ref11_Holds_l5)))
   (.seq (.rg [⟨(some 4), none, .mov (.c (.bool false))⟩] (some [4]))
   (.ret))))))
def F_ref11_Holds : F := ⟨i_ref11_Holds, [(4, none)], false⟩
/-- slices.ContainsFunc[[]stratagem/api.Con,stratagem/api.Con] -/
def i_slices_ContainsFunc_sapi_Con_api_Con : IR := .seq (.rg [⟨(some 4), none, .mov (.c (.bool false))⟩] (some [0, 1]))
   (.seq (.rg [⟨(some 5), none, .mov (.t 0)⟩,
    ⟨(some 6), none, .mov (.t 1)⟩,
    ⟨(some 7), none, .call n_slices_IndexFunc_sapi_Con_api_Con [(.t 5), (.t 6)]⟩,
    ⟨(some 8), none, .bin .geq (.t 7) (.c (.int .i64 0))⟩,
    ⟨(some 4), none, .mov (.t 8)⟩] (some [4]))
   (.ret))
def F_slices_ContainsFunc_sapi_Con_api_Con : F := ⟨i_slices_ContainsFunc_sapi_Con_api_Con, [(4, none)], false⟩
/-- stratagem/ground.Right$1 -/
def i_ground_Right_1 : IR := .seq (.rg [⟨(some 2), none, .box (.t 0)⟩,
    ⟨(some 3), none, .mov (.c (.bool false))⟩] (some [1, 2]))
   (.seq (.rg [⟨(some 4), none, .ld true 6 (.t 2)⟩,
    ⟨(some 5), none, .ld false 1 (.t 1)⟩,
    ⟨(some 6), none, .len (.t 5)⟩,
    ⟨(some 7), none, .call n_model_Right [(.t 4), (.t 6)]⟩,
    ⟨(some 8), none, .un .not (.t 7)⟩,
    ⟨(some 3), none, .mov (.t 8)⟩] (some [3]))
   (.ret))
def F_ground_Right_1 : F := ⟨i_ground_Right_1, [(3, none)], false⟩
/-- stratagem/model.Right -/
def i_model_Right : IR := .seq (.rg [⟨(some 2), none, .box (.t 0)⟩,
    ⟨(some 4), none, .mov (.c (.bool false))⟩] (some [1, 2]))
   (.seq (.rg [⟨(some 6), none, .bsl (.nilf) 6 [(0, (.c (.fn (.func n_model_looker_linear) [] []))), (1, (.c (.fn (.func n_model_looker_product) [] []))), (2, (.c (.fn (.func n_model_looker_iff) [] []))), (3, (.c (.fn (.func n_model_looker_element) [] []))), (4, (.c (.fn (.func n_model_looker_differ) [] []))), (5, (.c (.fn (.func n_model_looker_table) [] [])))]⟩,
    ⟨(some 5), none, .mov (.t 6)⟩] (some [1, 2, 5]))
   (.seq (.dq [(⟨(some 7), none, .fad 0 (.t 2)⟩, []),
    (⟨(some 8), none, .ld false 1 (.t 7)⟩, [0]),
    (⟨(some 9), none, .bin .geq (.t 8) (.c (.int .i64 1))⟩, [0, 1]),
    (⟨(some 10), none, .mov (.t 9)⟩, [0, 1, 2]),
    (⟨(some 11), (some (10, true)), .fad 0 (.t 2)⟩, [0, 1, 2, 3]),
    (⟨(some 12), (some (10, true)), .ld false 1 (.t 11)⟩, [0, 1, 2, 3, 4]),
    (⟨(some 13), (some (10, true)), .mov (.t 5)⟩, [0, 1, 2, 3]),
    (⟨(some 14), (some (10, true)), .len (.t 13)⟩, [0, 1, 2, 3, 6]),
    (⟨(some 15), (some (10, true)), .bin .leq (.t 12) (.t 14)⟩, [0, 1, 2, 3, 4, 5, 6, 7]),
    (⟨(some 16), none, .pick (.t 10) (.t 15) (.c (.bool false))⟩, [0, 1, 2, 3, 4, 5, 6, 7, 8]),
    (⟨(some 17), none, .mov (.t 16)⟩, [0, 1, 2, 3, 4, 5, 6, 7, 8, 9]),
    (⟨(some 18), (some (17, true)), .mov (.t 5)⟩, [0, 1, 2, 3, 4, 5, 6, 7, 8, 9, 10]),
    (⟨(some 19), (some (17, true)), .fad 0 (.t 2)⟩, [0, 1, 2, 3, 4, 5, 6, 7, 8, 9, 10]),
    (⟨(some 20), (some (17, true)), .ld false 1 (.t 19)⟩, [0, 1, 2, 3, 4, 5, 6, 7, 8, 9, 10, 12]),
    (⟨(some 21), (some (17, true)), .bin .sub (.t 20) (.c (.int .i64 1))⟩, [0, 1, 2, 3, 4, 5, 6, 7, 8, 9, 10, 12, 13]),
    (⟨(some 22), (some (17, true)), .iad 1 (.t 18) (.t 21)⟩, [0, 1, 2, 3, 4, 5, 6, 7, 8, 9, 10, 11, 12, 13, 14]),
    (⟨(some 23), (some (17, true)), .ld false 1 (.t 22)⟩, [0, 1, 2, 3, 4, 5, 6, 7, 8, 9, 10, 11, 12, 13, 14, 15]),
    (⟨(some 24), (some (17, true)), .ld true 6 (.t 2)⟩, [0, 1, 2, 3, 4, 5, 6, 7, 8, 9, 10]),
    (⟨(some 25), (some (17, true)), .mov (.t 1)⟩, [0, 1, 2, 3, 4, 5, 6, 7, 8, 9, 10]),
    (⟨(some 26), (some (17, true)), .bld [.int .i64 0, .nsl 1, .nsl 1, .int .i64 0, .int .i64 0, .nsl 1, .int .i64 0] [(0, 6, (.t 24)), (6, 1, (.t 25))]⟩, [0, 1, 2, 3, 4, 5, 6, 7, 8, 9, 10, 17, 18]),
    (⟨(some 27), (some (17, true)), .callv (.t 23) [(.t 26)]⟩, [0, 1, 2, 3, 4, 5, 6, 7, 8, 9, 10, 11, 12, 13, 14, 15, 16, 17, 18, 19]),
    (⟨(some 28), none, .pick (.t 17) (.t 27) (.c (.bool false))⟩, [0, 1, 2, 3, 4, 5, 6, 7, 8, 9, 10, 11, 12, 13, 14, 15, 16, 17, 18, 19, 20]),
    (⟨(some 4), none, .mov (.t 28)⟩, [0, 1, 2, 3, 4, 5, 6, 7, 8, 9, 10, 11, 12, 13, 14, 15, 16, 17, 18, 19, 20, 21])] (some [4]))
   (.ret)))
def F_model_Right : F := ⟨i_model_Right, [(4, none)], false⟩
/-- stratagem/stratagemref08.Right -/
def b_ref08_Right_0 : IR := .seq (.seq (.rg [⟨(some 33), none, .mov (.t 7)⟩,
    ⟨(some 34), none, .mov (.t 6)⟩,
    ⟨(some 35), none, .bin .lss (.t 33) (.t 34)⟩] (some [1, 2, 5, 6, 7, 35]))
   (.cond (.t 35) (.skip) (.ext 2)))
   (.seq (.blk 3 (.seq (.dq [(⟨(some 38), none, .fad 1 (.t 2)⟩, []),
    (⟨(some 39), none, .ld false 1 (.t 38)⟩, [0]),
    (⟨(some 40), none, .mov (.t 7)⟩, []),
    (⟨(some 41), none, .iad 1 (.t 39) (.t 40)⟩, [0, 1, 2]),
    (⟨(some 42), none, .ld false 1 (.t 41)⟩, [0, 1, 2, 3]),
    (⟨(some 43), none, .fad 1 (.t 2)⟩, []),
    (⟨(some 44), none, .ld false 1 (.t 43)⟩, [5]),
    (⟨(some 45), none, .mov (.t 6)⟩, []),
    (⟨(some 46), none, .iad 1 (.t 44) (.t 45)⟩, [5, 6, 7]),
    (⟨(some 47), none, .ld false 1 (.t 46)⟩, [5, 6, 7, 8]),
    (⟨(some 48), none, .bin .eql (.t 42) (.t 47)⟩, [0, 1, 2, 3, 4, 5, 6, 7, 8, 9])] (some [1, 2, 5, 6, 7, 48]))
   (.cond (.t 48) (.seq (.rg [⟨(some 4), none, .mov (.c (.bool false))⟩] (some [4]))
   (.ret)) (.skip))))
   (.rg [⟨(some 36), none, .mov (.t 7)⟩,
    ⟨(some 37), none, .bin .add (.t 36) (.c (.int .i64 1))⟩,
    ⟨(some 7), none, .mov (.t 37)⟩] (some [1, 2, 5, 6, 7])))
def i_ref08_Right_l0 : IR := .loop b_ref08_Right_0
theorem r_ref08_Right_0 {C : Cx} {fr : Fr} {h : List Ob} : evw C i_ref08_Right_l0 fr h = nxt (evw C b_ref08_Right_0 fr h) fun fr h => evw C i_ref08_Right_l0 fr h := w_loop
def b_ref08_Right_1 : IR := .seq (.seq (.rg [⟨(some 13), none, .mov (.t 6)⟩,
    ⟨(some 14), none, .mov (.t 5)⟩,
    ⟨(some 15), none, .bin .lss (.t 13) (.t 14)⟩] (some [1, 2, 5, 6, 15]))
   (.cond (.t 15) (.skip) (.ext 0)))
   (.seq (.blk 1 (.seq (.seq (.rg [⟨(some 18), none, .fad 1 (.t 2)⟩,
    ⟨(some 19), none, .ld false 1 (.t 18)⟩,
    ⟨(some 20), none, .mov (.t 6)⟩,
    ⟨(some 21), none, .iad 1 (.t 19) (.t 20)⟩,
    ⟨(some 22), none, .ld false 1 (.t 21)⟩,
    ⟨(some 23), none, .bin .lss (.t 22) (.c (.int .i64 0))⟩,
    ⟨(some 24), none, .mov (.t 23)⟩,
    ⟨(some 25), (some (24, false)), .fad 1 (.t 2)⟩,
    ⟨(some 26), (some (24, false)), .ld false 1 (.t 25)⟩,
    ⟨(some 27), (some (24, false)), .mov (.t 6)⟩,
    ⟨(some 28), (some (24, false)), .iad 1 (.t 26) (.t 27)⟩,
    ⟨(some 29), (some (24, false)), .ld false 1 (.t 28)⟩,
    ⟨(some 30), (some (24, false)), .mov (.t 1)⟩,
    ⟨(some 31), (some (24, false)), .bin .geq (.t 29) (.t 30)⟩,
    ⟨(some 32), none, .pick (.t 24) (.c (.bool true)) (.t 31)⟩] (some [1, 2, 5, 6, 32]))
   (.cond (.t 32) (.seq (.rg [⟨(some 4), none, .mov (.c (.bool false))⟩] (some [4]))
   (.ret)) (.skip)))
   (.seq (.rg [⟨(some 7), none, .mov (.c (.int .i64 0))⟩] (some [1, 2, 5, 6, 7]))
   (.blk 2 (i_ref08_Right_l0)))))
   (.rg [⟨(some 16), none, .mov (.t 6)⟩,
    ⟨(some 17), none, .bin .add (.t 16) (.c (.int .i64 1))⟩,
    ⟨(some 6), none, .mov (.t 17)⟩] (some [1, 2, 5, 6])))
def i_ref08_Right_l1 : IR := .loop b_ref08_Right_1
theorem r_ref08_Right_1 {C : Cx} {fr : Fr} {h : List Ob} : evw C i_ref08_Right_l1 fr h = nxt (evw C b_ref08_Right_1 fr h) fun fr h => evw C i_ref08_Right_l1 fr h := w_loop
def b_ref08_Right_2 : IR := .seq (.seq (.rg [⟨(some 61), none, .mov (.t 9)⟩,
    ⟨(some 62), none, .fad 2 (.t 2)⟩,
    ⟨(some 63), none, .ld false 1 (.t 62)⟩,
    ⟨(some 64), none, .len (.t 63)⟩,
    ⟨(some 65), none, .bin .lss (.t 61) (.t 64)⟩] (some [2, 5, 8, 9, 65]))
   (.cond (.t 65) (.skip) (.ext 4)))
   (.seq (.blk 5 (.seq (.rg [⟨(some 68), none, .fad 2 (.t 2)⟩,
    ⟨(some 69), none, .ld false 1 (.t 68)⟩,
    ⟨(some 70), none, .mov (.t 9)⟩,
    ⟨(some 71), none, .iad 1 (.t 69) (.t 70)⟩,
    ⟨(some 72), none, .ld false 1 (.t 71)⟩,
    ⟨(some 73), none, .bin .eql (.t 72) (.c (.int .i64 0))⟩] (some [2, 5, 8, 9, 73]))
   (.cond (.t 73) (.seq (.rg [⟨(some 4), none, .mov (.c (.bool false))⟩] (some [4]))
   (.ret)) (.skip))))
   (.rg [⟨(some 66), none, .mov (.t 9)⟩,
    ⟨(some 67), none, .bin .add (.t 66) (.c (.int .i64 1))⟩,
    ⟨(some 9), none, .mov (.t 67)⟩] (some [2, 5, 8, 9])))
def i_ref08_Right_l2 : IR := .loop b_ref08_Right_2
theorem r_ref08_Right_2 {C : Cx} {fr : Fr} {h : List Ob} : evw C i_ref08_Right_l2 fr h = nxt (evw C b_ref08_Right_2 fr h) fun fr h => evw C i_ref08_Right_l2 fr h := w_loop
def i_ref08_Right : IR := .seq (.rg [⟨(some 2), none, .box (.t 0)⟩,
    ⟨(some 4), none, .mov (.c (.bool false))⟩] (some [1, 2]))
   (.seq (.rg [⟨(some 10), none, .fad 1 (.t 2)⟩,
    ⟨(some 11), none, .ld false 1 (.t 10)⟩,
    ⟨(some 12), none, .len (.t 11)⟩,
    ⟨(some 5), none, .mov (.t 12)⟩] (some [1, 2, 5]))
   (.seq (.seq (.rg [⟨(some 6), none, .mov (.c (.int .i64 0))⟩] (some [1, 2, 5, 6]))
   (.blk 0 (i_ref08_Right_l1)))
   (.seq (.seq (.rg [⟨(some 49), none, .fad 0 (.t 2)⟩,
    ⟨(some 50), none, .ld false 1 (.t 49)⟩,
    ⟨(some 51), none, .bin .eql (.t 50) (.c (.int .i64 1))⟩,
    ⟨(some 52), none, .mov (.t 51)⟩,
    ⟨(some 53), (some (52, false)), .fad 0 (.t 2)⟩,
    ⟨(some 54), (some (52, false)), .ld false 1 (.t 53)⟩,
    ⟨(some 55), (some (52, false)), .bin .eql (.t 54) (.c (.int .i64 3))⟩,
    ⟨(some 56), none, .pick (.t 52) (.c (.bool true)) (.t 55)⟩] (some [2, 5, 56]))
   (.cond (.t 56) (.seq (.rg [⟨(some 57), none, .fad 0 (.t 2)⟩,
    ⟨(some 58), none, .ld false 1 (.t 57)⟩,
    ⟨(some 59), none, .bin .sub (.t 58) (.c (.int .i64 1))⟩,
    ⟨(some 60), none, .bin .quo (.t 59) (.c (.int .i64 2))⟩,
    ⟨(some 8), none, .mov (.t 60)⟩] (some [2, 5, 8]))
   (.seq (.seq (.rg [⟨(some 9), none, .mov (.c (.int .i64 0))⟩] (some [2, 5, 8, 9]))
   (.blk 4 (i_ref08_Right_l2)))
   (.seq (.rg [⟨(some 74), none, .mov (.t 5)⟩,
    ⟨(some 75), none, .mov (.t 8)⟩,
    ⟨(some 76), none, .bin .sub (.t 74) (.t 75)⟩,
    ⟨(some 77), none, .bin .geq (.t 76) (.c (.int .i64 1))⟩,
    ⟨(some 78), none, .mov (.t 77)⟩,
    ⟨(some 79), (some (78, true)), .mov (.t 5)⟩,
    ⟨(some 80), (some (78, true)), .mov (.t 8)⟩,
    ⟨(some 81), (some (78, true)), .bin .sub (.t 79) (.t 80)⟩,
    ⟨(some 82), (some (78, true)), .bin .leq (.t 81) (.c (.int .i64 8))⟩,
    ⟨(some 83), none, .pick (.t 78) (.t 82) (.c (.bool false))⟩,
    ⟨(some 84), none, .mov (.t 83)⟩,
    ⟨(some 85), (some (84, true)), .fad 2 (.t 2)⟩,
    ⟨(some 86), (some (84, true)), .ld false 1 (.t 85)⟩,
    ⟨(some 87), (some (84, true)), .len (.t 86)⟩,
    ⟨(some 88), (some (84, true)), .mov (.t 5)⟩,
    ⟨(some 89), (some (84, true)), .mov (.t 8)⟩,
    ⟨(some 90), (some (84, true)), .bin .sub (.t 88) (.t 89)⟩,
    ⟨(some 91), (some (84, true)), .bin .eql (.t 87) (.t 90)⟩,
    ⟨(some 92), none, .pick (.t 84) (.t 91) (.c (.bool false))⟩,
    ⟨(some 93), none, .mov (.t 92)⟩,
    ⟨(some 94), (some (93, true)), .fad 2 (.t 2)⟩,
    ⟨(some 95), (some (93, true)), .ld false 1 (.t 94)⟩,
    ⟨(some 96), (some (93, true)), .call n_ref08_all [(.t 95), (.c (.int .i64 1048576))]⟩,
    ⟨(some 97), none, .pick (.t 93) (.t 96) (.c (.bool false))⟩,
    ⟨(some 98), none, .mov (.t 97)⟩,
    ⟨(some 99), (some (98, true)), .fad 3 (.t 2)⟩,
    ⟨(some 100), (some (98, true)), .ld false 1 (.t 99)⟩,
    ⟨(some 101), (some (98, true)), .bin .geq (.t 100) (.c (.int .i64 0))⟩,
    ⟨(some 102), none, .pick (.t 98) (.t 101) (.c (.bool false))⟩,
    ⟨(some 103), none, .mov (.t 102)⟩,
    ⟨(some 104), (some (103, true)), .fad 3 (.t 2)⟩,
    ⟨(some 105), (some (103, true)), .ld false 1 (.t 104)⟩,
    ⟨(some 106), (some (103, true)), .bin .leq (.t 105) (.c (.int .i64 5))⟩,
    ⟨(some 107), none, .pick (.t 103) (.t 106) (.c (.bool false))⟩,
    ⟨(some 108), none, .mov (.t 107)⟩,
    ⟨(some 109), (some (108, true)), .fad 4 (.t 2)⟩,
    ⟨(some 110), (some (108, true)), .ld false 1 (.t 109)⟩,
    ⟨(some 111), (some (108, true)), .bsf (.int .i64 0) 1 [(0, (.t 110))]⟩,
    ⟨(some 112), (some (108, true)), .call n_ref08_all [(.t 111), (.c (.int .i64 1099511627776))]⟩,
    ⟨(some 113), none, .pick (.t 108) (.t 112) (.c (.bool false))⟩,
    ⟨(some 114), none, .mov (.t 113)⟩,
    ⟨(some 115), (some (114, true)), .fad 5 (.t 2)⟩,
    ⟨(some 116), (some (114, true)), .ld false 1 (.t 115)⟩,
    ⟨(some 117), (some (114, true)), .len (.t 116)⟩,
    ⟨(some 118), (some (114, true)), .bin .eql (.t 117) (.c (.int .i64 0))⟩,
    ⟨(some 119), none, .pick (.t 114) (.t 118) (.c (.bool false))⟩,
    ⟨(some 4), none, .mov (.t 119)⟩] (some [4]))
   (.ret)))) (.skip)))
   (.seq (.seq (.rg [⟨(some 120), none, .fad 2 (.t 2)⟩,
    ⟨(some 121), none, .ld false 1 (.t 120)⟩,
    ⟨(some 122), none, .len (.t 121)⟩,
    ⟨(some 123), none, .bin .gtr (.t 122) (.c (.int .i64 0))⟩,
    ⟨(some 124), none, .mov (.t 123)⟩,
    ⟨(some 125), (some (124, false)), .fad 3 (.t 2)⟩,
    ⟨(some 126), (some (124, false)), .ld false 1 (.t 125)⟩,
    ⟨(some 127), (some (124, false)), .bin .neq (.t 126) (.c (.int .i64 0))⟩,
    ⟨(some 128), none, .pick (.t 124) (.c (.bool true)) (.t 127)⟩,
    ⟨(some 129), none, .mov (.t 128)⟩,
    ⟨(some 130), (some (129, false)), .fad 4 (.t 2)⟩,
    ⟨(some 131), (some (129, false)), .ld false 1 (.t 130)⟩,
    ⟨(some 132), (some (129, false)), .bin .neq (.t 131) (.c (.int .i64 0))⟩,
    ⟨(some 133), none, .pick (.t 129) (.c (.bool true)) (.t 132)⟩,
    ⟨(some 134), none, .mov (.t 133)⟩,
    ⟨(some 135), (some (134, false)), .fad 5 (.t 2)⟩,
    ⟨(some 136), (some (134, false)), .ld false 1 (.t 135)⟩,
    ⟨(some 137), (some (134, false)), .call n_ref08_all [(.t 136), (.c (.int .i64 1048576))]⟩,
    ⟨(some 138), (some (134, false)), .un .not (.t 137)⟩,
    ⟨(some 139), none, .pick (.t 134) (.c (.bool true)) (.t 138)⟩,
    ⟨(some 140), none, .mov (.t 139)⟩,
    ⟨(some 141), (some (140, false)), .fad 5 (.t 2)⟩,
    ⟨(some 142), (some (140, false)), .ld false 1 (.t 141)⟩,
    ⟨(some 143), (some (140, false)), .len (.t 142)⟩,
    ⟨(some 144), (some (140, false)), .bin .gtr (.t 143) (.c (.int .i64 96))⟩,
    ⟨(some 145), none, .pick (.t 140) (.c (.bool true)) (.t 144)⟩] (some [2, 5, 145]))
   (.cond (.t 145) (.seq (.rg [⟨(some 4), none, .mov (.c (.bool false))⟩] (some [4]))
   (.ret)) (.skip)))
   (.seq (.seq (.rg [⟨(some 146), none, .fad 0 (.t 2)⟩,
    ⟨(some 147), none, .ld false 1 (.t 146)⟩] (some [2, 5, 147]))
   (.blk 6 (.seq (.rg [⟨(some 149), none, .bin .eql (.t 147) (.c (.int .i64 2))⟩,
    ⟨(some 148), none, .mov (.t 149)⟩] (some [2, 5, 147, 148]))
   (.cond (.t 148) (.seq (.rg [⟨(some 150), none, .mov (.t 5)⟩,
    ⟨(some 151), none, .bin .eql (.t 150) (.c (.int .i64 3))⟩,
    ⟨(some 152), none, .mov (.t 151)⟩,
    ⟨(some 153), (some (152, true)), .fad 5 (.t 2)⟩,
    ⟨(some 154), (some (152, true)), .ld false 1 (.t 153)⟩,
    ⟨(some 155), (some (152, true)), .len (.t 154)⟩,
    ⟨(some 156), (some (152, true)), .bin .eql (.t 155) (.c (.int .i64 0))⟩,
    ⟨(some 157), none, .pick (.t 152) (.t 156) (.c (.bool false))⟩,
    ⟨(some 4), none, .mov (.t 157)⟩] (some [4]))
   (.ret)) (.seq (.rg [⟨(some 159), none, .bin .eql (.t 147) (.c (.int .i64 4))⟩,
    ⟨(some 158), none, .mov (.t 159)⟩] (some [2, 5, 147, 158]))
   (.cond (.t 158) (.seq (.rg [⟨(some 160), none, .mov (.t 5)⟩,
    ⟨(some 161), none, .bin .eql (.t 160) (.c (.int .i64 2))⟩,
    ⟨(some 162), none, .mov (.t 161)⟩,
    ⟨(some 163), (some (162, true)), .fad 5 (.t 2)⟩,
    ⟨(some 164), (some (162, true)), .ld false 1 (.t 163)⟩,
    ⟨(some 165), (some (162, true)), .len (.t 164)⟩,
    ⟨(some 166), (some (162, true)), .bin .geq (.t 165) (.c (.int .i64 1))⟩,
    ⟨(some 167), none, .pick (.t 162) (.t 166) (.c (.bool false))⟩,
    ⟨(some 4), none, .mov (.t 167)⟩] (some [4]))
   (.ret)) (.seq (.rg [⟨(some 169), none, .bin .eql (.t 147) (.c (.int .i64 5))⟩,
    ⟨(some 168), none, .mov (.t 169)⟩] (some [2, 5, 147, 168]))
   (.cond (.t 168) (.seq (.rg [⟨(some 170), none, .mov (.t 5)⟩,
    ⟨(some 171), none, .bin .geq (.t 170) (.c (.int .i64 2))⟩,
    ⟨(some 172), none, .mov (.t 171)⟩,
    ⟨(some 173), (some (172, true)), .mov (.t 5)⟩,
    ⟨(some 174), (some (172, true)), .bin .leq (.t 173) (.c (.int .i64 8))⟩,
    ⟨(some 175), none, .pick (.t 172) (.t 174) (.c (.bool false))⟩,
    ⟨(some 176), none, .mov (.t 175)⟩,
    ⟨(some 177), (some (176, true)), .fad 5 (.t 2)⟩,
    ⟨(some 178), (some (176, true)), .ld false 1 (.t 177)⟩,
    ⟨(some 179), (some (176, true)), .len (.t 178)⟩,
    ⟨(some 180), (some (176, true)), .bin .eql (.t 179) (.c (.int .i64 0))⟩,
    ⟨(some 181), none, .pick (.t 176) (.t 180) (.c (.bool false))⟩,
    ⟨(some 4), none, .mov (.t 181)⟩] (some [4]))
   (.ret)) (.seq (.rg [⟨(some 183), none, .bin .eql (.t 147) (.c (.int .i64 6))⟩,
    ⟨(some 182), none, .mov (.t 183)⟩] (some [2, 5, 182]))
   (.cond (.t 182) (.seq (.rg [⟨(some 184), none, .mov (.t 5)⟩,
    ⟨(some 185), none, .bin .geq (.t 184) (.c (.int .i64 1))⟩,
    ⟨(some 186), none, .mov (.t 185)⟩,
    ⟨(some 187), (some (186, true)), .mov (.t 5)⟩,
    ⟨(some 188), (some (186, true)), .bin .leq (.t 187) (.c (.int .i64 8))⟩,
    ⟨(some 189), none, .pick (.t 186) (.t 188) (.c (.bool false))⟩,
    ⟨(some 190), none, .mov (.t 189)⟩,
    ⟨(some 191), (some (190, true)), .fad 5 (.t 2)⟩,
    ⟨(some 192), (some (190, true)), .ld false 1 (.t 191)⟩,
    ⟨(some 193), (some (190, true)), .len (.t 192)⟩,
    ⟨(some 194), (some (190, true)), .mov (.t 5)⟩,
    ⟨(some 195), (some (190, true)), .bin .rem (.t 193) (.t 194)⟩,
    ⟨(some 196), (some (190, true)), .bin .eql (.t 195) (.c (.int .i64 0))⟩,
    ⟨(some 197), none, .pick (.t 190) (.t 196) (.c (.bool false))⟩,
    ⟨(some 4), none, .mov (.t 197)⟩] (some [4]))
   (.ret)) (.skip)))))))))))
   (.seq (.rg [⟨(some 4), none, .mov (.c (.bool false))⟩] (some [4]))
   (.ret)))))))
def F_ref08_Right : F := ⟨i_ref08_Right, [(4, none)], false⟩
/-- stratagem/ground.All$1 -/
def i_ground_All_1 : IR := .seq (.rg [⟨(some 2), none, .box (.t 0)⟩,
    ⟨(some 3), none, .mov (.c (.bool false))⟩] (some [1, 2]))
   (.seq (.rg [⟨(some 4), none, .ld true 6 (.t 2)⟩,
    ⟨(some 5), none, .ld false 1 (.t 1)⟩,
    ⟨(some 6), none, .call n_ground_holds [(.t 4), (.t 5)]⟩,
    ⟨(some 7), none, .un .not (.t 6)⟩,
    ⟨(some 3), none, .mov (.t 7)⟩] (some [3]))
   (.ret))
def F_ground_All_1 : F := ⟨i_ground_All_1, [(3, none)], false⟩
/-- stratagem/ground.holds -/
def b_ground_holds_0 : IR := .seq (.rg [⟨(some 15), none, .bin .lss (.t 14) (.t 13)⟩] (some [2, 5, 6, 13, 14, 15]))
   (.seq (.cond (.t 15) (.skip) (.ext 0))
   (.seq (.blk 1 (.seq (.rg [⟨(some 16), none, .mov (.t 14)⟩,
    ⟨(some 7), none, .mov (.t 16)⟩] (some [2, 5, 6, 7, 13, 14]))
   (.rg [⟨(some 17), none, .mov (.t 6)⟩,
    ⟨(some 18), none, .mov (.t 5)⟩,
    ⟨(some 19), none, .mov (.t 7)⟩,
    ⟨(some 20), none, .callv (.t 18) [(.t 19)]⟩,
    ⟨(some 21), none, .bsf (.int .i64 0) 1 [(0, (.t 20))]⟩,
    ⟨(some 22), none, .app 1 8 (.t 17) (.t 21)⟩,
    ⟨(some 6), none, .mov (.t 22)⟩] (some [2, 5, 6, 13, 14]))))
   (.rg [⟨(some 23), none, .bin .add (.t 14) (.c (.int .i64 1))⟩,
    ⟨(some 14), none, .mov (.t 23)⟩] (some [2, 5, 6, 13, 14]))))
def i_ground_holds_l0 : IR := .loop b_ground_holds_0
theorem r_ground_holds_0 {C : Cx} {fr : Fr} {h : List Ob} : evw C i_ground_holds_l0 fr h = nxt (evw C b_ground_holds_0 fr h) fun fr h => evw C i_ground_holds_l0 fr h := w_loop
def b_ground_holds_1 : IR := .seq (.seq (.rg [⟨(some 99), none, .mov (.t 9)⟩,
    ⟨(some 100), none, .len (.t 99)⟩,
    ⟨(some 101), none, .bin .gtr (.t 100) (.c (.int .i64 0))⟩] (some [6, 9, 101]))
   (.cond (.t 101) (.skip) (.ext 3)))
   (.seq (.blk 4 (.seq (.rg [⟨(some 106), none, .mov (.t 9)⟩,
    ⟨(some 107), none, .mov (.t 6)⟩,
    ⟨(some 108), none, .len (.t 107)⟩,
    ⟨(some 109), none, .sll 1 (.t 106) none (some (.t 108)) none⟩,
    ⟨(some 110), none, .mov (.t 6)⟩,
    ⟨(some 111), none, .call n_slices_Equal_sint_int [(.t 109), (.t 110)]⟩] (some [6, 9, 111]))
   (.cond (.t 111) (.seq (.rg [⟨(some 4), none, .mov (.c (.bool true))⟩] (some [4]))
   (.ret)) (.skip))))
   (.rg [⟨(some 102), none, .mov (.t 9)⟩,
    ⟨(some 103), none, .mov (.t 6)⟩,
    ⟨(some 104), none, .len (.t 103)⟩,
    ⟨(some 105), none, .sll 1 (.t 102) (some (.t 104)) none none⟩,
    ⟨(some 9), none, .mov (.t 105)⟩] (some [6, 9])))
def i_ground_holds_l1 : IR := .loop b_ground_holds_1
theorem r_ground_holds_1 {C : Cx} {fr : Fr} {h : List Ob} : evw C i_ground_holds_l1 fr h = nxt (evw C b_ground_holds_1 fr h) fun fr h => evw C i_ground_holds_l1 fr h := w_loop
def i_ground_holds : IR := .seq (.rg [⟨(some 2), none, .box (.t 0)⟩,
    ⟨(some 3), none, .box (.t 1)⟩,
    ⟨(some 4), none, .mov (.c (.bool false))⟩] (some [2, 3]))
   (.seq (.rg [⟨(some 10), none, .mkf (.func n_ground_holds_1) [] [(.t 3), (.t 2)]⟩,
    ⟨(some 5), none, .mov (.t 10)⟩] (some [2, 5]))
   (.seq (.rg [⟨(some 6), none, .mov (.c (.nsl 1))⟩] (some [2, 5, 6]))
   (.seq (.seq (.rg [⟨(some 11), none, .fad 1 (.t 2)⟩,
    ⟨(some 12), none, .ld false 1 (.t 11)⟩,
    ⟨(some 13), none, .len (.t 12)⟩,
    ⟨(some 14), none, .mov (.c (.int .i64 0))⟩] (some [2, 5, 6, 13, 14]))
   (.blk 0 (i_ground_holds_l0)))
   (.seq (.seq (.rg [⟨(some 24), none, .fad 0 (.t 2)⟩,
    ⟨(some 25), none, .ld false 1 (.t 24)⟩] (some [2, 5, 6, 25]))
   (.blk 2 (.seq (.rg [⟨(some 27), none, .bin .eql (.t 25) (.c (.int .i64 1))⟩,
    ⟨(some 26), none, .mov (.t 27)⟩] (some [2, 5, 6, 25, 26]))
   (.cond (.t 26) (.seq (.rg [⟨(some 28), none, .ld true 6 (.t 2)⟩,
    ⟨(some 29), none, .mov (.t 6)⟩,
    ⟨(some 30), none, .call n_ground_compared [(.t 28), (.t 29)]⟩,
    ⟨(some 4), none, .mov (.t 30)⟩] (some [4]))
   (.ret)) (.seq (.rg [⟨(some 32), none, .bin .eql (.t 25) (.c (.int .i64 2))⟩,
    ⟨(some 31), none, .mov (.t 32)⟩] (some [2, 5, 6, 25, 31]))
   (.cond (.t 31) (.seq (.rg [⟨(some 33), none, .mov (.t 5)⟩,
    ⟨(some 34), none, .callv (.t 33) [(.c (.int .i64 0))]⟩,
    ⟨(some 35), none, .mov (.t 5)⟩,
    ⟨(some 36), none, .callv (.t 35) [(.c (.int .i64 1))]⟩,
    ⟨(some 37), none, .bin .mul (.t 34) (.t 36)⟩,
    ⟨(some 38), none, .mov (.t 5)⟩,
    ⟨(some 39), none, .callv (.t 38) [(.c (.int .i64 2))]⟩,
    ⟨(some 40), none, .bin .eql (.t 37) (.t 39)⟩,
    ⟨(some 4), none, .mov (.t 40)⟩] (some [4]))
   (.ret)) (.seq (.rg [⟨(some 42), none, .bin .eql (.t 25) (.c (.int .i64 3))⟩,
    ⟨(some 41), none, .mov (.t 42)⟩] (some [2, 5, 6, 25, 41]))
   (.cond (.t 41) (.seq (.dq [(⟨(some 43), none, .ld true 6 (.t 2)⟩, []),
    (⟨(some 44), none, .mov (.t 6)⟩, []),
    (⟨(some 45), none, .sll 1 (.t 44) (some (.c (.int .i64 1))) none none⟩, [1]),
    (⟨(some 46), none, .call n_ground_compared [(.t 43), (.t 45)]⟩, [0, 1, 2]),
    (⟨(some 8), none, .mov (.t 46)⟩, [0, 1, 2, 3])] (some [5, 8]))
   (.seq (.rg [⟨(some 47), none, .mov (.t 5)⟩,
    ⟨(some 48), none, .callv (.t 47) [(.c (.int .i64 0))]⟩,
    ⟨(some 49), none, .bin .eql (.t 48) (.c (.int .i64 1))⟩,
    ⟨(some 50), none, .mov (.t 49)⟩,
    ⟨(some 51), (some (50, true)), .mov (.t 8)⟩,
    ⟨(some 52), none, .pick (.t 50) (.t 51) (.c (.bool false))⟩,
    ⟨(some 53), none, .mov (.t 52)⟩,
    ⟨(some 54), (some (53, false)), .mov (.t 5)⟩,
    ⟨(some 55), (some (53, false)), .callv (.t 54) [(.c (.int .i64 0))]⟩,
    ⟨(some 56), (some (53, false)), .bin .eql (.t 55) (.c (.int .i64 0))⟩,
    ⟨(some 57), (some (53, false)), .mov (.t 56)⟩,
    ⟨(some 58), (some (57, true)), .mov (.t 8)⟩,
    ⟨(some 59), (some (57, true)), .un .not (.t 58)⟩,
    ⟨(some 60), (some (53, false)), .pick (.t 57) (.t 59) (.c (.bool false))⟩,
    ⟨(some 61), none, .pick (.t 53) (.c (.bool true)) (.t 60)⟩,
    ⟨(some 4), none, .mov (.t 61)⟩] (some [4]))
   (.ret))) (.seq (.rg [⟨(some 63), none, .bin .eql (.t 25) (.c (.int .i64 4))⟩,
    ⟨(some 62), none, .mov (.t 63)⟩] (some [2, 5, 6, 25, 62]))
   (.cond (.t 62) (.seq (.dq [(⟨(some 64), none, .mov (.t 5)⟩, []),
    (⟨(some 65), none, .callv (.t 64) [(.c (.int .i64 0))]⟩, [0]),
    (⟨(some 66), none, .bin .geq (.t 65) (.c (.int .i64 0))⟩, [0, 1]),
    (⟨(some 67), none, .mov (.t 66)⟩, [0, 1, 2]),
    (⟨(some 68), (some (67, true)), .mov (.t 5)⟩, [0, 1, 2, 3]),
    (⟨(some 69), (some (67, true)), .callv (.t 68) [(.c (.int .i64 0))]⟩, [0, 1, 2, 3, 4]),
    (⟨(some 70), (some (67, true)), .fad 5 (.t 2)⟩, [0, 1, 2, 3]),
    (⟨(some 71), (some (67, true)), .ld false 1 (.t 70)⟩, [0, 1, 2, 3, 6]),
    (⟨(some 72), (some (67, true)), .len (.t 71)⟩, [0, 1, 2, 3, 6, 7]),
    (⟨(some 73), (some (67, true)), .bin .lss (.t 69) (.t 72)⟩, [0, 1, 2, 3, 4, 5, 6, 7, 8]),
    (⟨(some 74), none, .pick (.t 67) (.t 73) (.c (.bool false))⟩, [0, 1, 2, 3, 4, 5, 6, 7, 8, 9]),
    (⟨(some 75), none, .mov (.t 74)⟩, [0, 1, 2, 3, 4, 5, 6, 7, 8, 9, 10]),
    (⟨(some 76), (some (75, true)), .fad 5 (.t 2)⟩, [0, 1, 2, 3, 4, 5, 6, 7, 8, 9, 10, 11]),
    (⟨(some 77), (some (75, true)), .ld false 1 (.t 76)⟩, [0, 1, 2, 3, 4, 5, 6, 7, 8, 9, 10, 11, 12]),
    (⟨(some 78), (some (75, true)), .mov (.t 5)⟩, [0, 1, 2, 3, 4, 5, 6, 7, 8, 9, 10, 11]),
    (⟨(some 79), (some (75, true)), .callv (.t 78) [(.c (.int .i64 0))]⟩, [0, 1, 2, 3, 4, 5, 6, 7, 8, 9, 10, 11, 14]),
    (⟨(some 80), (some (75, true)), .iad 1 (.t 77) (.t 79)⟩, [0, 1, 2, 3, 4, 5, 6, 7, 8, 9, 10, 11, 12, 13, 14, 15]),
    (⟨(some 81), (some (75, true)), .ld false 1 (.t 80)⟩, [0, 1, 2, 3, 4, 5, 6, 7, 8, 9, 10, 11, 12, 13, 14, 15, 16]),
    (⟨(some 82), (some (75, true)), .mov (.t 5)⟩, [0, 1, 2, 3, 4, 5, 6, 7, 8, 9, 10, 11]),
    (⟨(some 83), (some (75, true)), .callv (.t 82) [(.c (.int .i64 1))]⟩, [0, 1, 2, 3, 4, 5, 6, 7, 8, 9, 10, 11, 14, 15, 18]),
    (⟨(some 84), (some (75, true)), .bin .eql (.t 81) (.t 83)⟩, [0, 1, 2, 3, 4, 5, 6, 7, 8, 9, 10, 11, 12, 13, 14, 15, 16, 17, 18, 19]),
    (⟨(some 85), none, .pick (.t 75) (.t 84) (.c (.bool false))⟩, [0, 1, 2, 3, 4, 5, 6, 7, 8, 9, 10, 11, 12, 13, 14, 15, 16, 17, 18, 19, 20]),
    (⟨(some 4), none, .mov (.t 85)⟩, [0, 1, 2, 3, 4, 5, 6, 7, 8, 9, 10, 11, 12, 13, 14, 15, 16, 17, 18, 19, 20, 21])] (some [4]))
   (.ret)) (.seq (.rg [⟨(some 87), none, .bin .eql (.t 25) (.c (.int .i64 5))⟩,
    ⟨(some 86), none, .mov (.t 87)⟩] (some [2, 6, 86]))
   (.cond (.t 86) (.seq (.rg [⟨(some 88), none, .mov (.t 6)⟩,
    ⟨(some 89), none, .call n_slices_Sort_sint_int [(.t 88)]⟩] (some [2, 6]))
   (.seq (.dc [(⟨(some 90), none, .mov (.t 6)⟩, [], false),
    (⟨(some 91), none, .call n_slices_Compact_sint_int [(.t 90)]⟩, [0], true),
    (⟨(some 92), none, .len (.t 91)⟩, [0, 1], false),
    (⟨(some 93), none, .fad 1 (.t 2)⟩, [], false),
    (⟨(some 94), none, .ld false 1 (.t 93)⟩, [3], false),
    (⟨(some 95), none, .len (.t 94)⟩, [3, 4], false),
    (⟨(some 96), none, .bin .eql (.t 92) (.t 95)⟩, [0, 1, 2, 3, 4, 5], false),
    (⟨(some 4), none, .mov (.t 96)⟩, [0, 1, 2, 3, 4, 5, 6], false)] (some [4]))
   (.ret))) (.skip)))))))))))))
   (.seq (.seq (.rg [⟨(some 97), none, .fad 5 (.t 2)⟩,
    ⟨(some 98), none, .ld false 1 (.t 97)⟩,
    ⟨(some 9), none, .mov (.t 98)⟩] (some [6, 9]))
   (.blk 3 (i_ground_holds_l1)))
   (.seq (.rg [⟨(some 4), none, .mov (.c (.bool false))⟩] (some [4]))
   (.ret)))))))
def F_ground_holds : F := ⟨i_ground_holds, [(4, none)], false⟩
/-- stratagem/stratagemref11.sum -/
def b_ref11_sum_0 : IR := .seq (.seq (.rg [⟨(some 11), none, .mov (.t 8)⟩,
    ⟨(some 12), none, .mov (.t 1)⟩,
    ⟨(some 13), none, .len (.t 12)⟩,
    ⟨(some 14), none, .bin .lss (.t 11) (.t 13)⟩] (some [1, 2, 3, 7, 8, 14]))
   (.cond (.t 14) (.skip) (.ext 0)))
   (.seq (.blk 1 (.dq [(⟨(some 17), none, .mov (.t 7)⟩, []),
    (⟨(some 18), none, .fad 2 (.t 3)⟩, []),
    (⟨(some 19), none, .ld false 1 (.t 18)⟩, [1]),
    (⟨(some 20), none, .mov (.t 8)⟩, []),
    (⟨(some 21), none, .iad 1 (.t 19) (.t 20)⟩, [1, 2, 3]),
    (⟨(some 22), none, .ld false 1 (.t 21)⟩, [1, 2, 3, 4]),
    (⟨(some 23), none, .mov (.t 2)⟩, []),
    (⟨(some 24), none, .mov (.t 1)⟩, []),
    (⟨(some 25), none, .mov (.t 8)⟩, []),
    (⟨(some 26), none, .iad 1 (.t 24) (.t 25)⟩, [7, 8]),
    (⟨(some 27), none, .ld false 1 (.t 26)⟩, [7, 8, 9]),
    (⟨(some 28), none, .iad 1 (.t 23) (.t 27)⟩, [6, 7, 8, 9, 10]),
    (⟨(some 29), none, .ld false 1 (.t 28)⟩, [6, 7, 8, 9, 10, 11]),
    (⟨(some 30), none, .bin .mul (.t 22) (.t 29)⟩, [1, 2, 3, 4, 5, 6, 7, 8, 9, 10, 11, 12]),
    (⟨(some 31), none, .bin .add (.t 17) (.t 30)⟩, [0, 1, 2, 3, 4, 5, 6, 7, 8, 9, 10, 11, 12, 13]),
    (⟨(some 7), none, .mov (.t 31)⟩, [0, 1, 2, 3, 4, 5, 6, 7, 8, 9, 10, 11, 12, 13, 14])] (some [1, 2, 3, 7, 8])))
   (.rg [⟨(some 15), none, .mov (.t 8)⟩,
    ⟨(some 16), none, .bin .add (.t 15) (.c (.int .i64 1))⟩,
    ⟨(some 8), none, .mov (.t 16)⟩] (some [1, 2, 3, 7, 8])))
def i_ref11_sum_l0 : IR := .loop b_ref11_sum_0
theorem r_ref11_sum_0 {C : Cx} {fr : Fr} {h : List Ob} : evw C i_ref11_sum_l0 fr h = nxt (evw C b_ref11_sum_0 fr h) fun fr h => evw C i_ref11_sum_l0 fr h := w_loop
def i_ref11_sum : IR := .seq (.rg [⟨(some 3), none, .box (.t 0)⟩,
    ⟨(some 6), none, .mov (.c (.bool false))⟩] (some [1, 2, 3]))
   (.seq (.rg [⟨(some 7), none, .mov (.c (.int .i64 0))⟩] (some [1, 2, 3, 7]))
   (.seq (.seq (.rg [⟨(some 8), none, .mov (.c (.int .i64 0))⟩] (some [1, 2, 3, 7, 8]))
   (.blk 0 (i_ref11_sum_l0)))
   (.seq (.rg [⟨(some 32), none, .mov (.t 7)⟩,
    ⟨(some 33), none, .fad 4 (.t 3)⟩,
    ⟨(some 34), none, .ld false 1 (.t 33)⟩,
    ⟨(some 35), none, .bin .lss (.t 32) (.t 34)⟩,
    ⟨(some 9), none, .mov (.t 35)⟩] (some [3, 7, 9]))
   (.seq (.rg [⟨(some 36), none, .mov (.t 7)⟩,
    ⟨(some 37), none, .fad 4 (.t 3)⟩,
    ⟨(some 38), none, .ld false 1 (.t 37)⟩,
    ⟨(some 39), none, .bin .eql (.t 36) (.t 38)⟩,
    ⟨(some 10), none, .mov (.t 39)⟩] (some [3, 9, 10]))
   (.seq (.rg [⟨(some 40), none, .mov (.t 10)⟩,
    ⟨(some 41), none, .mov (.t 10)⟩,
    ⟨(some 42), none, .un .not (.t 41)⟩,
    ⟨(some 43), none, .mov (.t 9)⟩,
    ⟨(some 44), none, .mov (.t 9)⟩,
    ⟨(some 45), none, .mov (.t 44)⟩,
    ⟨(some 46), (some (45, false)), .mov (.t 10)⟩,
    ⟨(some 47), none, .pick (.t 45) (.c (.bool true)) (.t 46)⟩,
    ⟨(some 48), none, .mov (.t 9)⟩,
    ⟨(some 49), none, .un .not (.t 48)⟩,
    ⟨(some 50), none, .mov (.t 49)⟩,
    ⟨(some 51), (some (50, true)), .mov (.t 10)⟩,
    ⟨(some 52), (some (50, true)), .un .not (.t 51)⟩,
    ⟨(some 53), none, .pick (.t 50) (.t 52) (.c (.bool false))⟩,
    ⟨(some 54), none, .mov (.t 9)⟩,
    ⟨(some 55), none, .un .not (.t 54)⟩,
    ⟨(some 56), none, .bsl (.bool false) 6 [(0, (.t 40)), (1, (.t 42)), (2, (.t 43)), (3, (.t 47)), (4, (.t 53)), (5, (.t 55))]⟩,
    ⟨(some 57), none, .fad 3 (.t 3)⟩,
    ⟨(some 58), none, .ld false 1 (.t 57)⟩,
    ⟨(some 59), none, .iad 1 (.t 56) (.t 58)⟩,
    ⟨(some 60), none, .ld false 1 (.t 59)⟩,
    ⟨(some 6), none, .mov (.t 60)⟩] (some [6]))
   (.ret))))))
def F_ref11_sum : F := ⟨i_ref11_sum, [(6, none)], false⟩
/-- slices.IndexFunc[[]stratagem/api.Con,stratagem/api.Con] -/
def b_slices_IndexFunc_sapi_Con_api_Con_0 : IR := .seq (.rg [⟨(some 9), none, .bin .lss (.t 8) (.t 7)⟩] (some [0, 1, 7, 8, 9]))
   (.seq (.cond (.t 9) (.skip) (.ext 0))
   (.seq (.blk 1 (.seq (.rg [⟨(some 10), none, .mov (.t 8)⟩,
    ⟨(some 5), none, .mov (.t 10)⟩] (some [0, 1, 5, 7, 8]))
   (.seq (.rg [⟨(some 11), none, .mov (.t 1)⟩,
    ⟨(some 12), none, .mov (.t 0)⟩,
    ⟨(some 13), none, .mov (.t 5)⟩,
    ⟨(some 14), none, .iad 6 (.t 12) (.t 13)⟩,
    ⟨(some 15), none, .ld true 6 (.t 14)⟩,
    ⟨(some 16), none, .callv (.t 11) [(.t 15)]⟩] (some [0, 1, 5, 7, 8, 16]))
   (.cond (.t 16) (.seq (.rg [⟨(some 17), none, .mov (.t 5)⟩,
    ⟨(some 4), none, .mov (.t 17)⟩] (some [4]))
   (.ret)) (.skip)))))
   (.rg [⟨(some 18), none, .bin .add (.t 8) (.c (.int .i64 1))⟩,
    ⟨(some 8), none, .mov (.t 18)⟩] (some [0, 1, 7, 8]))))
def i_slices_IndexFunc_sapi_Con_api_Con_l0 : IR := .loop b_slices_IndexFunc_sapi_Con_api_Con_0
theorem r_slices_IndexFunc_sapi_Con_api_Con_0 {C : Cx} {fr : Fr} {h : List Ob} : evw C i_slices_IndexFunc_sapi_Con_api_Con_l0 fr h = nxt (evw C b_slices_IndexFunc_sapi_Con_api_Con_0 fr h) fun fr h => evw C i_slices_IndexFunc_sapi_Con_api_Con_l0 fr h := w_loop
def i_slices_IndexFunc_sapi_Con_api_Con : IR := .seq (.rg [⟨(some 4), none, .mov (.c (.int .i64 0))⟩] (some [0, 1]))
   (.seq (.seq (.rg [⟨(some 6), none, .mov (.t 0)⟩,
    ⟨(some 7), none, .len (.t 6)⟩,
    ⟨(some 8), none, .mov (.c (.int .i64 0))⟩] (some [0, 1, 7, 8]))
   (.blk 0 (i_slices_IndexFunc_sapi_Con_api_Con_l0)))
   (.seq (.rg [⟨(some 4), none, .mov (.c (.int .i64 (-1)))⟩] (some [4]))
   (.ret)))
def F_slices_IndexFunc_sapi_Con_api_Con : F := ⟨i_slices_IndexFunc_sapi_Con_api_Con, [(4, none)], false⟩
/-- (stratagem/model.looker).linear -/
def i_model_looker_linear : IR := .seq (.rg [⟨(some 1), none, .box (.t 0)⟩,
    ⟨(some 2), none, .mov (.c (.bool false))⟩] (some [1]))
   (.seq (.rg [⟨(some 3), none, .ld true 7 (.t 1)⟩,
    ⟨(some 4), none, .call n_model_looker_variables [(.t 3), (.c (.int .i64 1)), (.c (.int .i64 8))]⟩,
    ⟨(some 5), none, .mov (.t 4)⟩,
    ⟨(some 6), (some (5, true)), .ld true 7 (.t 1)⟩,
    ⟨(some 7), (some (5, true)), .call n_model_looker_sum [(.t 6), (.c (.int .i64 0))]⟩,
    ⟨(some 8), none, .pick (.t 5) (.t 7) (.c (.bool false))⟩,
    ⟨(some 2), none, .mov (.t 8)⟩] (some [2]))
   (.ret))
def F_model_looker_linear : F := ⟨i_model_looker_linear, [(2, none)], false⟩
/-- (stratagem/model.looker).product -/
def i_model_looker_product : IR := .seq (.rg [⟨(some 1), none, .box (.t 0)⟩,
    ⟨(some 2), none, .mov (.c (.bool false))⟩] (some [1]))
   (.seq (.rg [⟨(some 3), none, .ld true 7 (.t 1)⟩,
    ⟨(some 4), none, .call n_model_looker_variables [(.t 3), (.c (.int .i64 3)), (.c (.int .i64 3))]⟩,
    ⟨(some 5), none, .mov (.t 4)⟩,
    ⟨(some 6), (some (5, true)), .ld true 7 (.t 1)⟩,
    ⟨(some 7), (some (5, true)), .call n_model_looker_bare [(.t 6), (.c (.int .i64 0)), (.c (.int .i64 0))]⟩,
    ⟨(some 8), none, .pick (.t 5) (.t 7) (.c (.bool false))⟩,
    ⟨(some 2), none, .mov (.t 8)⟩] (some [2]))
   (.ret))
def F_model_looker_product : F := ⟨i_model_looker_product, [(2, none)], false⟩
/-- (stratagem/model.looker).iff -/
def i_model_looker_iff : IR := .seq (.rg [⟨(some 1), none, .box (.t 0)⟩,
    ⟨(some 2), none, .mov (.c (.bool false))⟩] (some [1]))
   (.seq (.rg [⟨(some 3), none, .ld true 7 (.t 1)⟩,
    ⟨(some 4), none, .call n_model_looker_variables [(.t 3), (.c (.int .i64 2)), (.c (.int .i64 9))]⟩,
    ⟨(some 5), none, .mov (.t 4)⟩,
    ⟨(some 6), (some (5, true)), .ld true 7 (.t 1)⟩,
    ⟨(some 7), (some (5, true)), .call n_model_looker_sum [(.t 6), (.c (.int .i64 1))]⟩,
    ⟨(some 8), none, .pick (.t 5) (.t 7) (.c (.bool false))⟩,
    ⟨(some 2), none, .mov (.t 8)⟩] (some [2]))
   (.ret))
def F_model_looker_iff : F := ⟨i_model_looker_iff, [(2, none)], false⟩
/-- (stratagem/model.looker).element -/
def i_model_looker_element : IR := .seq (.rg [⟨(some 1), none, .box (.t 0)⟩,
    ⟨(some 2), none, .mov (.c (.bool false))⟩] (some [1]))
   (.seq (.rg [⟨(some 3), none, .ld true 7 (.t 1)⟩,
    ⟨(some 4), none, .call n_model_looker_variables [(.t 3), (.c (.int .i64 2)), (.c (.int .i64 2))]⟩,
    ⟨(some 5), none, .mov (.t 4)⟩,
    ⟨(some 6), (some (5, true)), .ld true 7 (.t 1)⟩,
    ⟨(some 7), (some (5, true)), .call n_model_looker_bare [(.t 6), (.c (.int .i64 1)), (.c (.int .i64 96))]⟩,
    ⟨(some 8), none, .pick (.t 5) (.t 7) (.c (.bool false))⟩,
    ⟨(some 2), none, .mov (.t 8)⟩] (some [2]))
   (.ret))
def F_model_looker_element : F := ⟨i_model_looker_element, [(2, none)], false⟩
/-- (stratagem/model.looker).differ -/
def i_model_looker_differ : IR := .seq (.rg [⟨(some 1), none, .box (.t 0)⟩,
    ⟨(some 2), none, .mov (.c (.bool false))⟩] (some [1]))
   (.seq (.rg [⟨(some 3), none, .ld true 7 (.t 1)⟩,
    ⟨(some 4), none, .call n_model_looker_variables [(.t 3), (.c (.int .i64 2)), (.c (.int .i64 8))]⟩,
    ⟨(some 5), none, .mov (.t 4)⟩,
    ⟨(some 6), (some (5, true)), .ld true 7 (.t 1)⟩,
    ⟨(some 7), (some (5, true)), .call n_model_looker_bare [(.t 6), (.c (.int .i64 0)), (.c (.int .i64 0))]⟩,
    ⟨(some 8), none, .pick (.t 5) (.t 7) (.c (.bool false))⟩,
    ⟨(some 2), none, .mov (.t 8)⟩] (some [2]))
   (.ret))
def F_model_looker_differ : F := ⟨i_model_looker_differ, [(2, none)], false⟩
/-- (stratagem/model.looker).table -/
def i_model_looker_table : IR := .seq (.rg [⟨(some 1), none, .box (.t 0)⟩,
    ⟨(some 2), none, .mov (.c (.bool false))⟩] (some [1]))
   (.seq (.rg [⟨(some 3), none, .ld true 7 (.t 1)⟩,
    ⟨(some 4), none, .call n_model_looker_variables [(.t 3), (.c (.int .i64 1)), (.c (.int .i64 8))]⟩,
    ⟨(some 5), none, .mov (.t 4)⟩,
    ⟨(some 6), (some (5, true)), .ld true 7 (.t 1)⟩,
    ⟨(some 7), (some (5, true)), .call n_model_looker_bare [(.t 6), (.c (.int .i64 0)), (.c (.int .i64 96))]⟩,
    ⟨(some 8), none, .pick (.t 5) (.t 7) (.c (.bool false))⟩,
    ⟨(some 9), none, .mov (.t 8)⟩,
    ⟨(some 10), (some (9, true)), .fad 0 (.t 1)⟩,
    ⟨(some 11), (some (9, true)), .fad 5 (.t 10)⟩,
    ⟨(some 12), (some (9, true)), .ld false 1 (.t 11)⟩,
    ⟨(some 13), (some (9, true)), .len (.t 12)⟩,
    ⟨(some 14), (some (9, true)), .fad 0 (.t 1)⟩,
    ⟨(some 15), (some (9, true)), .fad 1 (.t 14)⟩,
    ⟨(some 16), (some (9, true)), .ld false 1 (.t 15)⟩,
    ⟨(some 17), (some (9, true)), .len (.t 16)⟩,
    ⟨(some 18), (some (9, true)), .bin .rem (.t 13) (.t 17)⟩,
    ⟨(some 19), (some (9, true)), .bin .eql (.t 18) (.c (.int .i64 0))⟩,
    ⟨(some 20), none, .pick (.t 9) (.t 19) (.c (.bool false))⟩,
    ⟨(some 2), none, .mov (.t 20)⟩] (some [2]))
   (.ret))
def F_model_looker_table : F := ⟨i_model_looker_table, [(2, none)], false⟩
/-- stratagem/stratagemref08.all -/
def b_ref08_all_0 : IR := .seq (.seq (.rg [⟨(some 6), none, .mov (.t 5)⟩,
    ⟨(some 7), none, .mov (.t 0)⟩,
    ⟨(some 8), none, .len (.t 7)⟩,
    ⟨(some 9), none, .bin .lss (.t 6) (.t 8)⟩] (some [0, 1, 5, 9]))
   (.cond (.t 9) (.skip) (.ext 0)))
   (.seq (.blk 1 (.seq (.rg [⟨(some 12), none, .mov (.t 0)⟩,
    ⟨(some 13), none, .mov (.t 5)⟩,
    ⟨(some 14), none, .iad 1 (.t 12) (.t 13)⟩,
    ⟨(some 15), none, .ld false 1 (.t 14)⟩,
    ⟨(some 16), none, .mov (.t 1)⟩,
    ⟨(some 17), none, .un .neg (.t 16)⟩,
    ⟨(some 18), none, .bin .lss (.t 15) (.t 17)⟩,
    ⟨(some 19), none, .mov (.t 18)⟩,
    ⟨(some 20), (some (19, false)), .mov (.t 0)⟩,
    ⟨(some 21), (some (19, false)), .mov (.t 5)⟩,
    ⟨(some 22), (some (19, false)), .iad 1 (.t 20) (.t 21)⟩,
    ⟨(some 23), (some (19, false)), .ld false 1 (.t 22)⟩,
    ⟨(some 24), (some (19, false)), .mov (.t 1)⟩,
    ⟨(some 25), (some (19, false)), .bin .gtr (.t 23) (.t 24)⟩,
    ⟨(some 26), none, .pick (.t 19) (.c (.bool true)) (.t 25)⟩] (some [0, 1, 5, 26]))
   (.cond (.t 26) (.seq (.rg [⟨(some 4), none, .mov (.c (.bool false))⟩] (some [4]))
   (.ret)) (.skip))))
   (.rg [⟨(some 10), none, .mov (.t 5)⟩,
    ⟨(some 11), none, .bin .add (.t 10) (.c (.int .i64 1))⟩,
    ⟨(some 5), none, .mov (.t 11)⟩] (some [0, 1, 5])))
def i_ref08_all_l0 : IR := .loop b_ref08_all_0
theorem r_ref08_all_0 {C : Cx} {fr : Fr} {h : List Ob} : evw C i_ref08_all_l0 fr h = nxt (evw C b_ref08_all_0 fr h) fun fr h => evw C i_ref08_all_l0 fr h := w_loop
def i_ref08_all : IR := .seq (.rg [⟨(some 4), none, .mov (.c (.bool false))⟩] (some [0, 1]))
   (.seq (.seq (.rg [⟨(some 5), none, .mov (.c (.int .i64 0))⟩] (some [0, 1, 5]))
   (.blk 0 (i_ref08_all_l0)))
   (.seq (.rg [⟨(some 4), none, .mov (.c (.bool true))⟩] (some [4]))
   (.ret)))
def F_ref08_all : F := ⟨i_ref08_all, [(4, none)], false⟩
/-- stratagem/ground.holds$1 -/
def i_ground_holds_1 : IR := .seq (.rg [⟨(some 4), none, .mov (.c (.int .i64 0))⟩] (some [0, 1, 2]))
   (.seq (.dq [(⟨(some 5), none, .ld false 1 (.t 1)⟩, []),
    (⟨(some 6), none, .fad 1 (.t 2)⟩, []),
    (⟨(some 7), none, .ld false 1 (.t 6)⟩, [1]),
    (⟨(some 8), none, .mov (.t 0)⟩, []),
    (⟨(some 9), none, .iad 1 (.t 7) (.t 8)⟩, [1, 2, 3]),
    (⟨(some 10), none, .ld false 1 (.t 9)⟩, [1, 2, 3, 4]),
    (⟨(some 11), none, .iad 1 (.t 5) (.t 10)⟩, [0, 1, 2, 3, 4, 5]),
    (⟨(some 12), none, .ld false 1 (.t 11)⟩, [0, 1, 2, 3, 4, 5, 6]),
    (⟨(some 4), none, .mov (.t 12)⟩, [0, 1, 2, 3, 4, 5, 6, 7])] (some [4]))
   (.ret))
def F_ground_holds_1 : F := ⟨i_ground_holds_1, [(4, none)], false⟩
/-- stratagem/ground.compared -/
def b_ground_compared_0 : IR := .seq (.rg [⟨(some 15), none, .bin .lss (.t 14) (.t 13)⟩] (some [1, 2, 5, 6, 12, 13, 14, 15]))
   (.seq (.cond (.t 15) (.skip) (.ext 0))
   (.seq (.blk 1 (.seq (.rg [⟨(some 16), none, .mov (.t 14)⟩,
    ⟨(some 17), none, .iad 1 (.t 12) (.t 14)⟩,
    ⟨(some 18), none, .ld false 1 (.t 17)⟩,
    ⟨(some 7), none, .mov (.t 16)⟩,
    ⟨(some 8), none, .mov (.t 18)⟩] (some [1, 2, 5, 6, 7, 8, 12, 13, 14]))
   (.dc [(⟨(some 19), none, .mov (.t 5)⟩, [], false),
    (⟨(some 20), none, .mov (.t 8)⟩, [], false),
    (⟨(some 21), none, .bsf (.int .i64 0) 1 [(0, (.t 20))]⟩, [1], false),
    (⟨(some 22), none, .app 1 8 (.t 19) (.t 21)⟩, [0, 1, 2], true),
    (⟨(some 23), none, .mov (.t 6)⟩, [], false),
    (⟨(some 24), none, .mov (.t 1)⟩, [], false),
    (⟨(some 25), none, .mov (.t 7)⟩, [], false),
    (⟨(some 26), none, .iad 1 (.t 24) (.t 25)⟩, [5, 6], false),
    (⟨(some 27), none, .ld false 1 (.t 26)⟩, [5, 6, 7], false),
    (⟨(some 28), none, .bsf (.int .i64 0) 1 [(0, (.t 27))]⟩, [5, 6, 7, 8], false),
    (⟨(some 29), none, .app 1 8 (.t 23) (.t 28)⟩, [0, 1, 2, 3, 4, 5, 6, 7, 8, 9], true),
    (⟨(some 5), none, .mov (.t 22)⟩, [0, 1, 2, 3, 4, 5, 6, 7, 8, 9, 10], false),
    (⟨(some 6), none, .mov (.t 29)⟩, [0, 1, 2, 3, 4, 5, 6, 7, 8, 9, 10, 11], false)] (some [1, 2, 5, 6, 12, 13, 14]))))
   (.rg [⟨(some 30), none, .bin .add (.t 14) (.c (.int .i64 1))⟩,
    ⟨(some 14), none, .mov (.t 30)⟩] (some [1, 2, 5, 6, 12, 13, 14]))))
def i_ground_compared_l0 : IR := .loop b_ground_compared_0
theorem r_ground_compared_0 {C : Cx} {fr : Fr} {h : List Ob} : evw C i_ground_compared_l0 fr h = nxt (evw C b_ground_compared_0 fr h) fun fr h => evw C i_ground_compared_l0 fr h := w_loop
def i_ground_compared : IR := .seq (.rg [⟨(some 2), none, .box (.t 0)⟩,
    ⟨(some 4), none, .mov (.c (.bool false))⟩] (some [1, 2]))
   (.seq (.rg [⟨(some 5), none, .mov (.c (.nsl 1))⟩,
    ⟨(some 6), none, .mov (.c (.nsl 1))⟩] (some [1, 2, 5, 6]))
   (.seq (.seq (.rg [⟨(some 11), none, .fad 2 (.t 2)⟩,
    ⟨(some 12), none, .ld false 1 (.t 11)⟩,
    ⟨(some 13), none, .len (.t 12)⟩,
    ⟨(some 14), none, .mov (.c (.int .i64 0))⟩] (some [1, 2, 5, 6, 12, 13, 14]))
   (.blk 0 (i_ground_compared_l0)))
   (.seq (.rg [⟨(some 32), none, .mov (.t 5)⟩,
    ⟨(some 33), none, .mov (.t 6)⟩,
    ⟨(some 34), none, .call n_sums_Dot [(.t 32), (.t 33)]⟩,
    ⟨(some 31), none, .mov (.t 34)⟩,
    ⟨(some 35), none, .ext (.t 31) 0⟩,
    ⟨(some 36), none, .ext (.t 31) 1⟩,
    ⟨(some 9), none, .mov (.t 35)⟩,
    ⟨(some 10), none, .mov (.t 36)⟩] (some [2, 9, 10]))
   (.seq (.rg [⟨(some 37), none, .mov (.t 10)⟩,
    ⟨(some 38), none, .bin .eql (.t 37) (.c (.int .i64 0))⟩,
    ⟨(some 39), none, .mov (.t 38)⟩,
    ⟨(some 40), (some (39, true)), .mov (.t 9)⟩,
    ⟨(some 41), (some (39, true)), .fad 3 (.t 2)⟩,
    ⟨(some 42), (some (39, true)), .ld false 1 (.t 41)⟩,
    ⟨(some 43), (some (39, true)), .fad 4 (.t 2)⟩,
    ⟨(some 44), (some (39, true)), .ld false 1 (.t 43)⟩,
    ⟨(some 45), (some (39, true)), .call n_sums_Holds [(.t 40), (.t 42), (.t 44)]⟩,
    ⟨(some 46), none, .pick (.t 39) (.t 45) (.c (.bool false))⟩,
    ⟨(some 4), none, .mov (.t 46)⟩] (some [4]))
   (.ret)))))
def F_ground_compared : F := ⟨i_ground_compared, [(4, none)], false⟩
/-- slices.Equal[[]int,int] -/
def b_slices_Equal_sint_int_0 : IR := .seq (.rg [⟨(some 14), none, .bin .lss (.t 13) (.t 12)⟩] (some [0, 1, 12, 13, 14]))
   (.seq (.cond (.t 14) (.skip) (.ext 0))
   (.seq (.blk 1 (.seq (.rg [⟨(some 15), none, .mov (.t 13)⟩,
    ⟨(some 5), none, .mov (.t 15)⟩] (some [0, 1, 5, 12, 13]))
   (.seq (.dq [(⟨(some 16), none, .mov (.t 0)⟩, []),
    (⟨(some 17), none, .mov (.t 5)⟩, []),
    (⟨(some 18), none, .iad 1 (.t 16) (.t 17)⟩, [0, 1]),
    (⟨(some 19), none, .ld false 1 (.t 18)⟩, [0, 1, 2]),
    (⟨(some 20), none, .mov (.t 1)⟩, []),
    (⟨(some 21), none, .mov (.t 5)⟩, []),
    (⟨(some 22), none, .iad 1 (.t 20) (.t 21)⟩, [4, 5]),
    (⟨(some 23), none, .ld false 1 (.t 22)⟩, [4, 5, 6]),
    (⟨(some 24), none, .bin .neq (.t 19) (.t 23)⟩, [0, 1, 2, 3, 4, 5, 6, 7])] (some [0, 1, 12, 13, 24]))
   (.cond (.t 24) (.seq (.rg [⟨(some 4), none, .mov (.c (.bool false))⟩] (some [4]))
   (.ret)) (.skip)))))
   (.rg [⟨(some 25), none, .bin .add (.t 13) (.c (.int .i64 1))⟩,
    ⟨(some 13), none, .mov (.t 25)⟩] (some [0, 1, 12, 13]))))
def i_slices_Equal_sint_int_l0 : IR := .loop b_slices_Equal_sint_int_0
theorem r_slices_Equal_sint_int_0 {C : Cx} {fr : Fr} {h : List Ob} : evw C i_slices_Equal_sint_int_l0 fr h = nxt (evw C b_slices_Equal_sint_int_0 fr h) fun fr h => evw C i_slices_Equal_sint_int_l0 fr h := w_loop
def i_slices_Equal_sint_int : IR := .seq (.rg [⟨(some 4), none, .mov (.c (.bool false))⟩] (some [0, 1]))
   (.seq (.seq (.rg [⟨(some 6), none, .mov (.t 0)⟩,
    ⟨(some 7), none, .len (.t 6)⟩,
    ⟨(some 8), none, .mov (.t 1)⟩,
    ⟨(some 9), none, .len (.t 8)⟩,
    ⟨(some 10), none, .bin .neq (.t 7) (.t 9)⟩] (some [0, 1, 10]))
   (.cond (.t 10) (.seq (.rg [⟨(some 4), none, .mov (.c (.bool false))⟩] (some [4]))
   (.ret)) (.skip)))
   (.seq (.seq (.rg [⟨(some 11), none, .mov (.t 0)⟩,
    ⟨(some 12), none, .len (.t 11)⟩,
    ⟨(some 13), none, .mov (.c (.int .i64 0))⟩] (some [0, 1, 12, 13]))
   (.blk 0 (i_slices_Equal_sint_int_l0)))
   (.seq (.rg [⟨(some 4), none, .mov (.c (.bool true))⟩] (some [4]))
   (.ret))))
def F_slices_Equal_sint_int : F := ⟨i_slices_Equal_sint_int, [(4, none)], false⟩
/-- (stratagem/model.looker).variables -/
def b_model_looker_variables_0 : IR := .seq (.rg [⟨(some 27), none, .bin .lss (.t 26) (.t 25)⟩] (some [3, 24, 25, 26, 27]))
   (.seq (.cond (.t 27) (.skip) (.ext 0))
   (.seq (.blk 1 (.seq (.rg [⟨(some 28), none, .mov (.t 26)⟩,
    ⟨(some 29), none, .iad 1 (.t 24) (.t 26)⟩,
    ⟨(some 30), none, .ld false 1 (.t 29)⟩,
    ⟨(some 8), none, .mov (.t 28)⟩,
    ⟨(some 9), none, .mov (.t 30)⟩] (some [3, 8, 9, 24, 25, 26]))
   (.seq (.rg [⟨(some 31), none, .mov (.t 9)⟩,
    ⟨(some 32), none, .bin .lss (.t 31) (.c (.int .i64 0))⟩,
    ⟨(some 33), none, .mov (.t 32)⟩,
    ⟨(some 34), (some (33, false)), .mov (.t 9)⟩,
    ⟨(some 35), (some (33, false)), .fad 6 (.t 3)⟩,
    ⟨(some 36), (some (33, false)), .ld false 1 (.t 35)⟩,
    ⟨(some 37), (some (33, false)), .bin .geq (.t 34) (.t 36)⟩,
    ⟨(some 38), none, .pick (.t 33) (.c (.bool true)) (.t 37)⟩,
    ⟨(some 39), none, .mov (.t 38)⟩,
    ⟨(some 40), (some (39, false)), .fad 0 (.t 3)⟩,
    ⟨(some 41), (some (39, false)), .fad 1 (.t 40)⟩,
    ⟨(some 42), (some (39, false)), .ld false 1 (.t 41)⟩,
    ⟨(some 43), (some (39, false)), .mov (.t 8)⟩,
    ⟨(some 44), (some (39, false)), .sll 1 (.t 42) none (some (.t 43)) none⟩,
    ⟨(some 45), (some (39, false)), .mov (.t 9)⟩,
    ⟨(some 46), (some (39, false)), .call n_slices_Contains_sint_int [(.t 44), (.t 45)]⟩,
    ⟨(some 47), none, .pick (.t 39) (.c (.bool true)) (.t 46)⟩] (some [3, 24, 25, 26, 47]))
   (.cond (.t 47) (.seq (.rg [⟨(some 6), none, .mov (.c (.bool false))⟩] (some [6]))
   (.ret)) (.skip)))))
   (.rg [⟨(some 48), none, .bin .add (.t 26) (.c (.int .i64 1))⟩,
    ⟨(some 26), none, .mov (.t 48)⟩] (some [3, 24, 25, 26]))))
def i_model_looker_variables_l0 : IR := .loop b_model_looker_variables_0
theorem r_model_looker_variables_0 {C : Cx} {fr : Fr} {h : List Ob} : evw C i_model_looker_variables_l0 fr h = nxt (evw C b_model_looker_variables_0 fr h) fun fr h => evw C i_model_looker_variables_l0 fr h := w_loop
def i_model_looker_variables : IR := .seq (.rg [⟨(some 3), none, .box (.t 0)⟩,
    ⟨(some 6), none, .mov (.c (.bool false))⟩] (some [1, 2, 3]))
   (.seq (.rg [⟨(some 10), none, .fad 0 (.t 3)⟩,
    ⟨(some 11), none, .fad 1 (.t 10)⟩,
    ⟨(some 12), none, .ld false 1 (.t 11)⟩,
    ⟨(some 13), none, .len (.t 12)⟩,
    ⟨(some 7), none, .mov (.t 13)⟩] (some [1, 2, 3, 7]))
   (.seq (.seq (.rg [⟨(some 14), none, .mov (.t 7)⟩,
    ⟨(some 15), none, .mov (.t 1)⟩,
    ⟨(some 16), none, .bin .lss (.t 14) (.t 15)⟩,
    ⟨(some 17), none, .mov (.t 16)⟩,
    ⟨(some 18), (some (17, false)), .mov (.t 7)⟩,
    ⟨(some 19), (some (17, false)), .mov (.t 2)⟩,
    ⟨(some 20), (some (17, false)), .bin .gtr (.t 18) (.t 19)⟩,
    ⟨(some 21), none, .pick (.t 17) (.c (.bool true)) (.t 20)⟩] (some [3, 21]))
   (.cond (.t 21) (.seq (.rg [⟨(some 6), none, .mov (.c (.bool false))⟩] (some [6]))
   (.ret)) (.skip)))
   (.seq (.seq (.rg [⟨(some 22), none, .fad 0 (.t 3)⟩,
    ⟨(some 23), none, .fad 1 (.t 22)⟩,
    ⟨(some 24), none, .ld false 1 (.t 23)⟩,
    ⟨(some 25), none, .len (.t 24)⟩,
    ⟨(some 26), none, .mov (.c (.int .i64 0))⟩] (some [3, 24, 25, 26]))
   (.blk 0 (i_model_looker_variables_l0)))
   (.seq (.rg [⟨(some 6), none, .mov (.c (.bool true))⟩] (some [6]))
   (.ret)))))
def F_model_looker_variables : F := ⟨i_model_looker_variables, [(6, none)], false⟩
/-- (stratagem/model.looker).sum -/
def i_model_looker_sum : IR := .seq (.rg [⟨(some 2), none, .box (.t 0)⟩,
    ⟨(some 4), none, .mov (.c (.bool false))⟩] (some [1, 2]))
   (.seq (.rg [⟨(some 6), none, .fad 0 (.t 2)⟩,
    ⟨(some 7), none, .ld true 6 (.t 6)⟩,
    ⟨(some 5), none, .new (.agg [.int .i64 0, .nsl 1, .nsl 1, .int .i64 0, .int .i64 0, .nsl 1])⟩,
    ⟨none, none, .st 6 (.t 5) (.t 7)⟩] (some [1, 5]))
   (.seq (.rg [⟨(some 8), none, .fad 2 (.t 5)⟩,
    ⟨(some 9), none, .ld false 1 (.t 8)⟩,
    ⟨(some 10), none, .len (.t 9)⟩,
    ⟨(some 11), none, .fad 1 (.t 5)⟩,
    ⟨(some 12), none, .ld false 1 (.t 11)⟩,
    ⟨(some 13), none, .len (.t 12)⟩,
    ⟨(some 14), none, .mov (.t 1)⟩,
    ⟨(some 15), none, .bin .sub (.t 13) (.t 14)⟩,
    ⟨(some 16), none, .bin .eql (.t 10) (.t 15)⟩,
    ⟨(some 17), none, .mov (.t 16)⟩,
    ⟨(some 18), (some (17, true)), .fad 2 (.t 5)⟩,
    ⟨(some 19), (some (17, true)), .ld false 1 (.t 18)⟩,
    ⟨(some 20), (some (17, true)), .call n_model_within [(.t 19), (.c (.int .i64 1048576))]⟩,
    ⟨(some 21), none, .pick (.t 17) (.t 20) (.c (.bool false))⟩,
    ⟨(some 22), none, .mov (.t 21)⟩,
    ⟨(some 23), (some (22, true)), .fad 2 (.t 5)⟩,
    ⟨(some 24), (some (22, true)), .ld false 1 (.t 23)⟩,
    ⟨(some 25), (some (22, true)), .call n_slices_Contains_sint_int [(.t 24), (.c (.int .i64 0))]⟩,
    ⟨(some 26), (some (22, true)), .un .not (.t 25)⟩,
    ⟨(some 27), none, .pick (.t 22) (.t 26) (.c (.bool false))⟩,
    ⟨(some 28), none, .mov (.t 27)⟩,
    ⟨(some 29), (some (28, true)), .fad 3 (.t 5)⟩,
    ⟨(some 30), (some (28, true)), .ld false 1 (.t 29)⟩,
    ⟨(some 31), (some (28, true)), .bin .geq (.t 30) (.c (.int .i64 0))⟩,
    ⟨(some 32), none, .pick (.t 28) (.t 31) (.c (.bool false))⟩,
    ⟨(some 33), none, .mov (.t 32)⟩,
    ⟨(some 34), (some (33, true)), .fad 3 (.t 5)⟩,
    ⟨(some 35), (some (33, true)), .ld false 1 (.t 34)⟩,
    ⟨(some 36), (some (33, true)), .bin .leq (.t 35) (.c (.int .i64 5))⟩,
    ⟨(some 37), none, .pick (.t 33) (.t 36) (.c (.bool false))⟩,
    ⟨(some 38), none, .mov (.t 37)⟩,
    ⟨(some 39), (some (38, true)), .fad 4 (.t 5)⟩,
    ⟨(some 40), (some (38, true)), .ld false 1 (.t 39)⟩,
    ⟨(some 41), (some (38, true)), .bsf (.int .i64 0) 1 [(0, (.t 40))]⟩,
    ⟨(some 42), (some (38, true)), .call n_model_within [(.t 41), (.c (.int .i64 1099511627776))]⟩,
    ⟨(some 43), none, .pick (.t 38) (.t 42) (.c (.bool false))⟩,
    ⟨(some 44), none, .mov (.t 43)⟩,
    ⟨(some 45), (some (44, true)), .fad 5 (.t 5)⟩,
    ⟨(some 46), (some (44, true)), .ld false 1 (.t 45)⟩,
    ⟨(some 47), (some (44, true)), .len (.t 46)⟩,
    ⟨(some 48), (some (44, true)), .bin .eql (.t 47) (.c (.int .i64 0))⟩,
    ⟨(some 49), none, .pick (.t 44) (.t 48) (.c (.bool false))⟩,
    ⟨(some 4), none, .mov (.t 49)⟩] (some [4]))
   (.ret)))
def F_model_looker_sum : F := ⟨i_model_looker_sum, [(4, none)], false⟩
/-- (stratagem/model.looker).bare -/
def i_model_looker_bare : IR := .seq (.rg [⟨(some 3), none, .box (.t 0)⟩,
    ⟨(some 6), none, .mov (.c (.bool false))⟩] (some [1, 2, 3]))
   (.seq (.rg [⟨(some 8), none, .fad 0 (.t 3)⟩,
    ⟨(some 9), none, .ld true 6 (.t 8)⟩,
    ⟨(some 7), none, .new (.agg [.int .i64 0, .nsl 1, .nsl 1, .int .i64 0, .int .i64 0, .nsl 1])⟩,
    ⟨none, none, .st 6 (.t 7) (.t 9)⟩] (some [1, 2, 7]))
   (.seq (.rg [⟨(some 10), none, .fad 2 (.t 7)⟩,
    ⟨(some 11), none, .ld false 1 (.t 10)⟩,
    ⟨(some 12), none, .len (.t 11)⟩,
    ⟨(some 13), none, .bin .eql (.t 12) (.c (.int .i64 0))⟩,
    ⟨(some 14), none, .mov (.t 13)⟩,
    ⟨(some 15), (some (14, true)), .fad 3 (.t 7)⟩,
    ⟨(some 16), (some (14, true)), .ld false 1 (.t 15)⟩,
    ⟨(some 17), (some (14, true)), .bin .eql (.t 16) (.c (.int .i64 0))⟩,
    ⟨(some 18), none, .pick (.t 14) (.t 17) (.c (.bool false))⟩,
    ⟨(some 19), none, .mov (.t 18)⟩,
    ⟨(some 20), (some (19, true)), .fad 4 (.t 7)⟩,
    ⟨(some 21), (some (19, true)), .ld false 1 (.t 20)⟩,
    ⟨(some 22), (some (19, true)), .bin .eql (.t 21) (.c (.int .i64 0))⟩,
    ⟨(some 23), none, .pick (.t 19) (.t 22) (.c (.bool false))⟩,
    ⟨(some 24), none, .mov (.t 23)⟩,
    ⟨(some 25), (some (24, true)), .fad 5 (.t 7)⟩,
    ⟨(some 26), (some (24, true)), .ld false 1 (.t 25)⟩,
    ⟨(some 27), (some (24, true)), .len (.t 26)⟩,
    ⟨(some 28), (some (24, true)), .mov (.t 1)⟩,
    ⟨(some 29), (some (24, true)), .bin .geq (.t 27) (.t 28)⟩,
    ⟨(some 30), none, .pick (.t 24) (.t 29) (.c (.bool false))⟩,
    ⟨(some 31), none, .mov (.t 30)⟩,
    ⟨(some 32), (some (31, true)), .fad 5 (.t 7)⟩,
    ⟨(some 33), (some (31, true)), .ld false 1 (.t 32)⟩,
    ⟨(some 34), (some (31, true)), .len (.t 33)⟩,
    ⟨(some 35), (some (31, true)), .mov (.t 2)⟩,
    ⟨(some 36), (some (31, true)), .bin .leq (.t 34) (.t 35)⟩,
    ⟨(some 37), none, .pick (.t 31) (.t 36) (.c (.bool false))⟩,
    ⟨(some 38), none, .mov (.t 37)⟩,
    ⟨(some 39), (some (38, true)), .fad 5 (.t 7)⟩,
    ⟨(some 40), (some (38, true)), .ld false 1 (.t 39)⟩,
    ⟨(some 41), (some (38, true)), .call n_model_within [(.t 40), (.c (.int .i64 1048576))]⟩,
    ⟨(some 42), none, .pick (.t 38) (.t 41) (.c (.bool false))⟩,
    ⟨(some 6), none, .mov (.t 42)⟩] (some [6]))
   (.ret)))
def F_model_looker_bare : F := ⟨i_model_looker_bare, [(6, none)], false⟩
/-- stratagem/sums.Dot -/
def b_sums_Dot_0 : IR := .seq (.rg [⟨(some 18), none, .bin .lss (.t 17) (.t 16)⟩] (some [0, 1, 6, 16, 17, 18]))
   (.seq (.cond (.t 18) (.skip) (.ext 0))
   (.seq (.blk 1 (.seq (.rg [⟨(some 19), none, .mov (.t 17)⟩,
    ⟨(some 7), none, .mov (.t 19)⟩] (some [0, 1, 6, 7, 16, 17]))
   (.seq (.dq [(⟨(some 21), none, .mov (.t 0)⟩, []),
    (⟨(some 22), none, .mov (.t 7)⟩, []),
    (⟨(some 23), none, .iad 1 (.t 21) (.t 22)⟩, [0, 1]),
    (⟨(some 24), none, .ld false 1 (.t 23)⟩, [0, 1, 2]),
    (⟨(some 25), none, .mov (.t 1)⟩, []),
    (⟨(some 26), none, .mov (.t 7)⟩, []),
    (⟨(some 27), none, .iad 1 (.t 25) (.t 26)⟩, [4, 5]),
    (⟨(some 28), none, .ld false 1 (.t 27)⟩, [4, 5, 6]),
    (⟨(some 29), none, .call n_sums_Mul [(.t 24), (.t 28)]⟩, [0, 1, 2, 3, 4, 5, 6, 7]),
    (⟨(some 20), none, .mov (.t 29)⟩, [0, 1, 2, 3, 4, 5, 6, 7, 8]),
    (⟨(some 30), none, .ext (.t 20) 0⟩, [0, 1, 2, 3, 4, 5, 6, 7, 8, 9]),
    (⟨(some 31), none, .ext (.t 20) 1⟩, [0, 1, 2, 3, 4, 5, 6, 7, 8, 9]),
    (⟨(some 8), none, .mov (.t 30)⟩, [0, 1, 2, 3, 4, 5, 6, 7, 8, 9, 10]),
    (⟨(some 9), none, .mov (.t 31)⟩, [0, 1, 2, 3, 4, 5, 6, 7, 8, 9, 10, 11, 12])] (some [0, 1, 6, 8, 9, 16, 17]))
   (.seq (.seq (.rg [⟨(some 32), none, .mov (.t 9)⟩,
    ⟨(some 33), none, .bin .neq (.t 32) (.c (.int .i64 0))⟩] (some [0, 1, 6, 8, 9, 16, 17, 33]))
   (.cond (.t 33) (.seq (.rg [⟨(some 34), none, .mov (.t 9)⟩,
    ⟨(some 4), none, .mov (.c (.int .i64 0))⟩,
    ⟨(some 5), none, .mov (.t 34)⟩] (some [4, 5]))
   (.ret)) (.skip)))
   (.seq (.rg [⟨(some 36), none, .mov (.t 6)⟩,
    ⟨(some 37), none, .mov (.t 8)⟩,
    ⟨(some 38), none, .call n_sums_Add [(.t 36), (.t 37)]⟩,
    ⟨(some 35), none, .mov (.t 38)⟩,
    ⟨(some 39), none, .ext (.t 35) 0⟩,
    ⟨(some 40), none, .ext (.t 35) 1⟩,
    ⟨(some 6), none, .mov (.t 39)⟩,
    ⟨(some 9), none, .mov (.t 40)⟩] (some [0, 1, 6, 9, 16, 17]))
   (.seq (.rg [⟨(some 41), none, .mov (.t 9)⟩,
    ⟨(some 42), none, .bin .neq (.t 41) (.c (.int .i64 0))⟩] (some [0, 1, 6, 9, 16, 17, 42]))
   (.cond (.t 42) (.seq (.rg [⟨(some 43), none, .mov (.t 9)⟩,
    ⟨(some 4), none, .mov (.c (.int .i64 0))⟩,
    ⟨(some 5), none, .mov (.t 43)⟩] (some [4, 5]))
   (.ret)) (.skip))))))))
   (.rg [⟨(some 44), none, .bin .add (.t 17) (.c (.int .i64 1))⟩,
    ⟨(some 17), none, .mov (.t 44)⟩] (some [0, 1, 6, 16, 17]))))
def i_sums_Dot_l0 : IR := .loop b_sums_Dot_0
theorem r_sums_Dot_0 {C : Cx} {fr : Fr} {h : List Ob} : evw C i_sums_Dot_l0 fr h = nxt (evw C b_sums_Dot_0 fr h) fun fr h => evw C i_sums_Dot_l0 fr h := w_loop
def i_sums_Dot : IR := .seq (.rg [⟨(some 4), none, .mov (.c (.int .i64 0))⟩,
    ⟨(some 5), none, .mov (.c (.int .i64 0))⟩] (some [0, 1]))
   (.seq (.seq (.rg [⟨(some 10), none, .mov (.t 0)⟩,
    ⟨(some 11), none, .len (.t 10)⟩,
    ⟨(some 12), none, .mov (.t 1)⟩,
    ⟨(some 13), none, .len (.t 12)⟩,
    ⟨(some 14), none, .bin .neq (.t 11) (.t 13)⟩] (some [0, 1, 14]))
   (.cond (.t 14) (.seq (.rg [⟨(some 4), none, .mov (.c (.int .i64 0))⟩,
    ⟨(some 5), none, .mov (.c (.int .i64 1))⟩] (some [4, 5]))
   (.ret)) (.skip)))
   (.seq (.rg [⟨(some 6), none, .mov (.c (.int .i64 0))⟩] (some [0, 1, 6]))
   (.seq (.seq (.rg [⟨(some 15), none, .mov (.t 0)⟩,
    ⟨(some 16), none, .len (.t 15)⟩,
    ⟨(some 17), none, .mov (.c (.int .i64 0))⟩] (some [0, 1, 6, 16, 17]))
   (.blk 0 (i_sums_Dot_l0)))
   (.seq (.rg [⟨(some 45), none, .mov (.t 6)⟩,
    ⟨(some 4), none, .mov (.t 45)⟩,
    ⟨(some 5), none, .mov (.c (.int .i64 0))⟩] (some [4, 5]))
   (.ret)))))
def F_sums_Dot : F := ⟨i_sums_Dot, [(4, none), (5, none)], false⟩
/-- stratagem/sums.Holds -/
def i_sums_Holds : IR := .seq (.rg [⟨(some 6), none, .mov (.c (.bool false))⟩] (some [0, 1, 2]))
   (.seq (.seq (.rg [⟨(some 7), none, .mov (.t 1)⟩] (some [0, 2, 7]))
   (.blk 0 (.seq (.rg [⟨(some 9), none, .bin .eql (.t 7) (.c (.int .i64 0))⟩,
    ⟨(some 8), none, .mov (.t 9)⟩] (some [0, 2, 7, 8]))
   (.cond (.t 8) (.seq (.rg [⟨(some 10), none, .mov (.t 0)⟩,
    ⟨(some 11), none, .mov (.t 2)⟩,
    ⟨(some 12), none, .bin .eql (.t 10) (.t 11)⟩,
    ⟨(some 6), none, .mov (.t 12)⟩] (some [6]))
   (.ret)) (.seq (.rg [⟨(some 14), none, .bin .eql (.t 7) (.c (.int .i64 1))⟩,
    ⟨(some 13), none, .mov (.t 14)⟩] (some [0, 2, 7, 13]))
   (.cond (.t 13) (.seq (.rg [⟨(some 15), none, .mov (.t 0)⟩,
    ⟨(some 16), none, .mov (.t 2)⟩,
    ⟨(some 17), none, .bin .neq (.t 15) (.t 16)⟩,
    ⟨(some 6), none, .mov (.t 17)⟩] (some [6]))
   (.ret)) (.seq (.rg [⟨(some 19), none, .bin .eql (.t 7) (.c (.int .i64 2))⟩,
    ⟨(some 18), none, .mov (.t 19)⟩] (some [0, 2, 7, 18]))
   (.cond (.t 18) (.seq (.rg [⟨(some 20), none, .mov (.t 0)⟩,
    ⟨(some 21), none, .mov (.t 2)⟩,
    ⟨(some 22), none, .bin .lss (.t 20) (.t 21)⟩,
    ⟨(some 6), none, .mov (.t 22)⟩] (some [6]))
   (.ret)) (.seq (.rg [⟨(some 24), none, .bin .eql (.t 7) (.c (.int .i64 3))⟩,
    ⟨(some 23), none, .mov (.t 24)⟩] (some [0, 2, 7, 23]))
   (.cond (.t 23) (.seq (.rg [⟨(some 25), none, .mov (.t 0)⟩,
    ⟨(some 26), none, .mov (.t 2)⟩,
    ⟨(some 27), none, .bin .leq (.t 25) (.t 26)⟩,
    ⟨(some 6), none, .mov (.t 27)⟩] (some [6]))
   (.ret)) (.seq (.rg [⟨(some 29), none, .bin .eql (.t 7) (.c (.int .i64 4))⟩,
    ⟨(some 28), none, .mov (.t 29)⟩] (some [0, 2, 7, 28]))
   (.cond (.t 28) (.seq (.rg [⟨(some 30), none, .mov (.t 0)⟩,
    ⟨(some 31), none, .mov (.t 2)⟩,
    ⟨(some 32), none, .bin .gtr (.t 30) (.t 31)⟩,
    ⟨(some 6), none, .mov (.t 32)⟩] (some [6]))
   (.ret)) (.seq (.rg [⟨(some 34), none, .bin .eql (.t 7) (.c (.int .i64 5))⟩,
    ⟨(some 33), none, .mov (.t 34)⟩] (some [0, 2, 33]))
   (.cond (.t 33) (.seq (.rg [⟨(some 35), none, .mov (.t 0)⟩,
    ⟨(some 36), none, .mov (.t 2)⟩,
    ⟨(some 37), none, .bin .geq (.t 35) (.t 36)⟩,
    ⟨(some 6), none, .mov (.t 37)⟩] (some [6]))
   (.ret)) (.skip)))))))))))))))
   (.seq (.rg [⟨(some 6), none, .mov (.c (.bool false))⟩] (some [6]))
   (.ret)))
def F_sums_Holds : F := ⟨i_sums_Holds, [(6, none)], false⟩
/-- slices.Contains[[]int,int] -/
def i_slices_Contains_sint_int : IR := .seq (.rg [⟨(some 4), none, .mov (.c (.bool false))⟩] (some [0, 1]))
   (.seq (.rg [⟨(some 5), none, .mov (.t 0)⟩,
    ⟨(some 6), none, .mov (.t 1)⟩,
    ⟨(some 7), none, .call n_slices_Index_sint_int [(.t 5), (.t 6)]⟩,
    ⟨(some 8), none, .bin .geq (.t 7) (.c (.int .i64 0))⟩,
    ⟨(some 4), none, .mov (.t 8)⟩] (some [4]))
   (.ret))
def F_slices_Contains_sint_int : F := ⟨i_slices_Contains_sint_int, [(4, none)], false⟩
/-- stratagem/model.within -/
def i_model_within : IR := .seq (.rg [⟨(some 3), none, .box (.t 1)⟩,
    ⟨(some 4), none, .mov (.c (.bool false))⟩] (some [0, 3]))
   (.seq (.rg [⟨(some 5), none, .mov (.t 0)⟩,
    ⟨(some 6), none, .mkf (.func n_model_within_1) [] [(.t 3)]⟩,
    ⟨(some 7), none, .call n_slices_ContainsFunc_sint_int [(.t 5), (.t 6)]⟩,
    ⟨(some 8), none, .un .not (.t 7)⟩,
    ⟨(some 4), none, .mov (.t 8)⟩] (some [4]))
   (.ret))
def F_model_within : F := ⟨i_model_within, [(4, none)], false⟩
/-- stratagem/sums.Mul -/
def i_sums_Mul : IR := .seq (.rg [⟨(some 4), none, .mov (.c (.int .i64 0))⟩,
    ⟨(some 5), none, .mov (.c (.int .i64 0))⟩] none)
   (.scg (.seq (.rg [⟨(some 9), none, .mov (.t 0)⟩,
    ⟨(some 10), none, .bin .lss (.t 9) (.c (.int .i64 0))⟩,
    ⟨(some 11), none, .mov (.t 1)⟩,
    ⟨(some 12), none, .bin .lss (.t 11) (.c (.int .i64 0))⟩,
    ⟨(some 13), none, .eq true .bool (.t 10) (.t 12)⟩,
    ⟨(some 6), none, .mov (.t 13)⟩] none)
   (.seq (.rg [⟨(some 15), none, .mov (.t 0)⟩,
    ⟨(some 16), none, .call n_sums_size [(.t 15)]⟩,
    ⟨(some 17), none, .mov (.t 1)⟩,
    ⟨(some 18), none, .call n_sums_size [(.t 17)]⟩,
    ⟨(some 19), none, .call n_math_bits_Mul64 [(.t 16), (.t 18)]⟩,
    ⟨(some 14), none, .mov (.t 19)⟩,
    ⟨(some 20), none, .ext (.t 14) 0⟩,
    ⟨(some 21), none, .ext (.t 14) 1⟩,
    ⟨(some 7), none, .mov (.t 20)⟩,
    ⟨(some 8), none, .mov (.t 21)⟩] none)
   (.seq (.seq (.rg [⟨(some 22), none, .mov (.t 7)⟩,
    ⟨(some 23), none, .bin .neq (.t 22) (.c (.int .u64 0))⟩] none)
   (.cond (.t 23) (.gto 0) (.skip)))
   (.seq (.blk 0 (.seq (.rg [⟨(some 25), none, .mov (.t 8)⟩,
    ⟨(some 26), none, .bin .lss (.t 25) (.c (.int .u64 9223372036854775808))⟩,
    ⟨(some 27), none, .mov (.t 26)⟩,
    ⟨(some 28), (some (27, true)), .mov (.t 6)⟩,
    ⟨(some 29), none, .pick (.t 27) (.t 28) (.c (.bool false))⟩,
    ⟨(some 24), none, .mov (.t 29)⟩] none)
   (.cond (.t 24) (.seq (.rg [⟨(some 30), none, .mov (.t 8)⟩,
    ⟨(some 31), none, .conv .i64 (.t 30)⟩,
    ⟨(some 32), none, .un .neg (.t 31)⟩,
    ⟨(some 4), none, .mov (.t 32)⟩,
    ⟨(some 5), none, .mov (.c (.int .i64 0))⟩] none)
   (.ret)) (.seq (.rg [⟨(some 34), none, .mov (.t 8)⟩,
    ⟨(some 35), none, .bin .lss (.t 34) (.c (.int .u64 9223372036854775808))⟩,
    ⟨(some 33), none, .mov (.t 35)⟩] none)
   (.cond (.t 33) (.seq (.rg [⟨(some 36), none, .mov (.t 8)⟩,
    ⟨(some 37), none, .conv .i64 (.t 36)⟩,
    ⟨(some 4), none, .mov (.t 37)⟩,
    ⟨(some 5), none, .mov (.c (.int .i64 0))⟩] none)
   (.ret)) (.seq (.rg [⟨(some 39), none, .mov (.t 8)⟩,
    ⟨(some 40), none, .bin .eql (.t 39) (.c (.int .u64 9223372036854775808))⟩,
    ⟨(some 41), none, .mov (.t 40)⟩,
    ⟨(some 42), (some (41, true)), .mov (.t 6)⟩,
    ⟨(some 43), none, .pick (.t 41) (.t 42) (.c (.bool false))⟩,
    ⟨(some 38), none, .mov (.t 43)⟩] none)
   (.cond (.t 38) (.seq (.rg [⟨(some 4), none, .mov (.c (.int .i64 (-9223372036854775808)))⟩,
    ⟨(some 5), none, .mov (.c (.int .i64 0))⟩] none)
   (.ret)) (.skip))))))))
   (.seq (.lab 0)
   (.seq (.rg [⟨(some 4), none, .mov (.c (.int .i64 0))⟩,
    ⟨(some 5), none, .mov (.c (.int .i64 6))⟩] none)
   (.ret))))))))
def F_sums_Mul : F := ⟨i_sums_Mul, [(4, none), (5, none)], false⟩
/-- stratagem/sums.Add -/
def i_sums_Add : IR := .seq (.rg [⟨(some 4), none, .mov (.c (.int .i64 0))⟩,
    ⟨(some 5), none, .mov (.c (.int .i64 0))⟩] (some [0, 1]))
   (.seq (.rg [⟨(some 7), none, .mov (.t 0)⟩,
    ⟨(some 8), none, .mov (.t 1)⟩,
    ⟨(some 9), none, .bin .add (.t 7) (.t 8)⟩,
    ⟨(some 6), none, .mov (.t 9)⟩] (some [0, 1, 6]))
   (.seq (.seq (.rg [⟨(some 10), none, .mov (.t 0)⟩,
    ⟨(some 11), none, .bin .lss (.t 10) (.c (.int .i64 0))⟩,
    ⟨(some 12), none, .mov (.t 1)⟩,
    ⟨(some 13), none, .bin .lss (.t 12) (.c (.int .i64 0))⟩,
    ⟨(some 14), none, .eq false .bool (.t 11) (.t 13)⟩,
    ⟨(some 15), none, .mov (.t 14)⟩,
    ⟨(some 16), (some (15, true)), .mov (.t 6)⟩,
    ⟨(some 17), (some (15, true)), .bin .lss (.t 16) (.c (.int .i64 0))⟩,
    ⟨(some 18), (some (15, true)), .mov (.t 0)⟩,
    ⟨(some 19), (some (15, true)), .bin .lss (.t 18) (.c (.int .i64 0))⟩,
    ⟨(some 20), (some (15, true)), .eq true .bool (.t 17) (.t 19)⟩,
    ⟨(some 21), none, .pick (.t 15) (.t 20) (.c (.bool false))⟩] (some [6, 21]))
   (.cond (.t 21) (.seq (.rg [⟨(some 4), none, .mov (.c (.int .i64 0))⟩,
    ⟨(some 5), none, .mov (.c (.int .i64 6))⟩] (some [4, 5]))
   (.ret)) (.skip)))
   (.seq (.rg [⟨(some 22), none, .mov (.t 6)⟩,
    ⟨(some 4), none, .mov (.t 22)⟩,
    ⟨(some 5), none, .mov (.c (.int .i64 0))⟩] (some [4, 5]))
   (.ret))))
def F_sums_Add : F := ⟨i_sums_Add, [(4, none), (5, none)], false⟩
/-- slices.Index[[]int,int] -/
def b_slices_Index_sint_int_0 : IR := .seq (.rg [⟨(some 9), none, .bin .lss (.t 8) (.t 7)⟩] (some [0, 1, 7, 8, 9]))
   (.seq (.cond (.t 9) (.skip) (.ext 0))
   (.seq (.blk 1 (.seq (.rg [⟨(some 10), none, .mov (.t 8)⟩,
    ⟨(some 5), none, .mov (.t 10)⟩] (some [0, 1, 5, 7, 8]))
   (.seq (.rg [⟨(some 11), none, .mov (.t 1)⟩,
    ⟨(some 12), none, .mov (.t 0)⟩,
    ⟨(some 13), none, .mov (.t 5)⟩,
    ⟨(some 14), none, .iad 1 (.t 12) (.t 13)⟩,
    ⟨(some 15), none, .ld false 1 (.t 14)⟩,
    ⟨(some 16), none, .bin .eql (.t 11) (.t 15)⟩] (some [0, 1, 5, 7, 8, 16]))
   (.cond (.t 16) (.seq (.rg [⟨(some 17), none, .mov (.t 5)⟩,
    ⟨(some 4), none, .mov (.t 17)⟩] (some [4]))
   (.ret)) (.skip)))))
   (.rg [⟨(some 18), none, .bin .add (.t 8) (.c (.int .i64 1))⟩,
    ⟨(some 8), none, .mov (.t 18)⟩] (some [0, 1, 7, 8]))))
def i_slices_Index_sint_int_l0 : IR := .loop b_slices_Index_sint_int_0
theorem r_slices_Index_sint_int_0 {C : Cx} {fr : Fr} {h : List Ob} : evw C i_slices_Index_sint_int_l0 fr h = nxt (evw C b_slices_Index_sint_int_0 fr h) fun fr h => evw C i_slices_Index_sint_int_l0 fr h := w_loop
def i_slices_Index_sint_int : IR := .seq (.rg [⟨(some 4), none, .mov (.c (.int .i64 0))⟩] (some [0, 1]))
   (.seq (.seq (.rg [⟨(some 6), none, .mov (.t 0)⟩,
    ⟨(some 7), none, .len (.t 6)⟩,
    ⟨(some 8), none, .mov (.c (.int .i64 0))⟩] (some [0, 1, 7, 8]))
   (.blk 0 (i_slices_Index_sint_int_l0)))
   (.seq (.rg [⟨(some 4), none, .mov (.c (.int .i64 (-1)))⟩] (some [4]))
   (.ret)))
def F_slices_Index_sint_int : F := ⟨i_slices_Index_sint_int, [(4, none)], false⟩
/-- slices.ContainsFunc[[]int,int] -/
def i_slices_ContainsFunc_sint_int : IR := .seq (.rg [⟨(some 4), none, .mov (.c (.bool false))⟩] (some [0, 1]))
   (.seq (.rg [⟨(some 5), none, .mov (.t 0)⟩,
    ⟨(some 6), none, .mov (.t 1)⟩,
    ⟨(some 7), none, .call n_slices_IndexFunc_sint_int [(.t 5), (.t 6)]⟩,
    ⟨(some 8), none, .bin .geq (.t 7) (.c (.int .i64 0))⟩,
    ⟨(some 4), none, .mov (.t 8)⟩] (some [4]))
   (.ret))
def F_slices_ContainsFunc_sint_int : F := ⟨i_slices_ContainsFunc_sint_int, [(4, none)], false⟩
/-- stratagem/model.within$1 -/
def i_model_within_1 : IR := .seq (.rg [⟨(some 3), none, .mov (.c (.bool false))⟩] (some [0, 1]))
   (.seq (.rg [⟨(some 4), none, .mov (.t 0)⟩,
    ⟨(some 5), none, .ld false 1 (.t 1)⟩,
    ⟨(some 6), none, .un .neg (.t 5)⟩,
    ⟨(some 7), none, .bin .lss (.t 4) (.t 6)⟩,
    ⟨(some 8), none, .mov (.t 7)⟩,
    ⟨(some 9), (some (8, false)), .mov (.t 0)⟩,
    ⟨(some 10), (some (8, false)), .ld false 1 (.t 1)⟩,
    ⟨(some 11), (some (8, false)), .bin .gtr (.t 9) (.t 10)⟩,
    ⟨(some 12), none, .pick (.t 8) (.c (.bool true)) (.t 11)⟩,
    ⟨(some 3), none, .mov (.t 12)⟩] (some [3]))
   (.ret))
def F_model_within_1 : F := ⟨i_model_within_1, [(3, none)], false⟩
/-- stratagem/sums.size -/
def i_sums_size : IR := .seq (.rg [⟨(some 2), none, .mov (.c (.int .u64 0))⟩] (some [0]))
   (.seq (.seq (.rg [⟨(some 3), none, .mov (.t 0)⟩,
    ⟨(some 4), none, .bin .lss (.t 3) (.c (.int .i64 0))⟩] (some [0, 4]))
   (.cond (.t 4) (.seq (.rg [⟨(some 5), none, .mov (.t 0)⟩,
    ⟨(some 6), none, .conv .u64 (.t 5)⟩,
    ⟨(some 7), none, .un .neg (.t 6)⟩,
    ⟨(some 2), none, .mov (.t 7)⟩] (some [2]))
   (.ret)) (.skip)))
   (.seq (.rg [⟨(some 8), none, .mov (.t 0)⟩,
    ⟨(some 9), none, .conv .u64 (.t 8)⟩,
    ⟨(some 2), none, .mov (.t 9)⟩] (some [2]))
   (.ret)))
def F_sums_size : F := ⟨i_sums_size, [(2, none)], false⟩
/-- slices.IndexFunc[[]int,int] -/
def b_slices_IndexFunc_sint_int_0 : IR := .seq (.rg [⟨(some 9), none, .bin .lss (.t 8) (.t 7)⟩] (some [0, 1, 7, 8, 9]))
   (.seq (.cond (.t 9) (.skip) (.ext 0))
   (.seq (.blk 1 (.seq (.rg [⟨(some 10), none, .mov (.t 8)⟩,
    ⟨(some 5), none, .mov (.t 10)⟩] (some [0, 1, 5, 7, 8]))
   (.seq (.rg [⟨(some 11), none, .mov (.t 1)⟩,
    ⟨(some 12), none, .mov (.t 0)⟩,
    ⟨(some 13), none, .mov (.t 5)⟩,
    ⟨(some 14), none, .iad 1 (.t 12) (.t 13)⟩,
    ⟨(some 15), none, .ld false 1 (.t 14)⟩,
    ⟨(some 16), none, .callv (.t 11) [(.t 15)]⟩] (some [0, 1, 5, 7, 8, 16]))
   (.cond (.t 16) (.seq (.rg [⟨(some 17), none, .mov (.t 5)⟩,
    ⟨(some 4), none, .mov (.t 17)⟩] (some [4]))
   (.ret)) (.skip)))))
   (.rg [⟨(some 18), none, .bin .add (.t 8) (.c (.int .i64 1))⟩,
    ⟨(some 8), none, .mov (.t 18)⟩] (some [0, 1, 7, 8]))))
def i_slices_IndexFunc_sint_int_l0 : IR := .loop b_slices_IndexFunc_sint_int_0
theorem r_slices_IndexFunc_sint_int_0 {C : Cx} {fr : Fr} {h : List Ob} : evw C i_slices_IndexFunc_sint_int_l0 fr h = nxt (evw C b_slices_IndexFunc_sint_int_0 fr h) fun fr h => evw C i_slices_IndexFunc_sint_int_l0 fr h := w_loop
def i_slices_IndexFunc_sint_int : IR := .seq (.rg [⟨(some 4), none, .mov (.c (.int .i64 0))⟩] (some [0, 1]))
   (.seq (.seq (.rg [⟨(some 6), none, .mov (.t 0)⟩,
    ⟨(some 7), none, .len (.t 6)⟩,
    ⟨(some 8), none, .mov (.c (.int .i64 0))⟩] (some [0, 1, 7, 8]))
   (.blk 0 (i_slices_IndexFunc_sint_int_l0)))
   (.seq (.rg [⟨(some 4), none, .mov (.c (.int .i64 (-1)))⟩] (some [4]))
   (.ret)))
def F_slices_IndexFunc_sint_int : F := ⟨i_slices_IndexFunc_sint_int, [(4, none)], false⟩
theorem ok_law11_GroundTells : mF Go.Proofs.Try.prog n_law11_GroundTells F_law11_GroundTells = true := by kernel_rfl
theorem ok_law11_GroundTurn : mF Go.Proofs.Try.prog n_law11_GroundTurn F_law11_GroundTurn = true := by kernel_rfl
theorem ok_law11_GroundOrder : mF Go.Proofs.Try.prog n_law11_GroundOrder F_law11_GroundOrder = true := by kernel_rfl
theorem ok_law11_awake : mF Go.Proofs.Try.prog n_law11_awake F_law11_awake = true := by kernel_rfl
theorem ok_law11_Large : mF Go.Proofs.Try.prog n_law11_Large F_law11_Large = true := by kernel_rfl
theorem ok_ground_Holds : mF Go.Proofs.Try.prog n_ground_Holds F_ground_Holds = true := by kernel_rfl
theorem ok_ref11_All : mF Go.Proofs.Try.prog n_ref11_All F_ref11_All = true := by kernel_rfl
theorem ok_ground_Right : mF Go.Proofs.Try.prog n_ground_Right F_ground_Right = true := by kernel_rfl
theorem ok_ref11_Right : mF Go.Proofs.Try.prog n_ref11_Right F_ref11_Right = true := by kernel_rfl
theorem ok_ground_All : mF Go.Proofs.Try.prog n_ground_All F_ground_All = true := by kernel_rfl
theorem ok_ref11_Holds : mF Go.Proofs.Try.prog n_ref11_Holds F_ref11_Holds = true := by kernel_rfl
theorem ok_slices_ContainsFunc_sapi_Con_api_Con : mF Go.Proofs.Try.prog n_slices_ContainsFunc_sapi_Con_api_Con F_slices_ContainsFunc_sapi_Con_api_Con = true := by kernel_rfl
theorem ok_ground_Right_1 : mF Go.Proofs.Try.prog n_ground_Right_1 F_ground_Right_1 = true := by kernel_rfl
theorem ok_model_Right : mF Go.Proofs.Try.prog n_model_Right F_model_Right = true := by kernel_rfl
theorem ok_ref08_Right : mF Go.Proofs.Try.prog n_ref08_Right F_ref08_Right = true := by kernel_rfl
theorem ok_ground_All_1 : mF Go.Proofs.Try.prog n_ground_All_1 F_ground_All_1 = true := by kernel_rfl
theorem ok_ground_holds : mF Go.Proofs.Try.prog n_ground_holds F_ground_holds = true := by kernel_rfl
theorem ok_ref11_sum : mF Go.Proofs.Try.prog n_ref11_sum F_ref11_sum = true := by kernel_rfl
theorem ok_slices_IndexFunc_sapi_Con_api_Con : mF Go.Proofs.Try.prog n_slices_IndexFunc_sapi_Con_api_Con F_slices_IndexFunc_sapi_Con_api_Con = true := by kernel_rfl
theorem ok_model_looker_linear : mF Go.Proofs.Try.prog n_model_looker_linear F_model_looker_linear = true := by kernel_rfl
theorem ok_model_looker_product : mF Go.Proofs.Try.prog n_model_looker_product F_model_looker_product = true := by kernel_rfl
theorem ok_model_looker_iff : mF Go.Proofs.Try.prog n_model_looker_iff F_model_looker_iff = true := by kernel_rfl
theorem ok_model_looker_element : mF Go.Proofs.Try.prog n_model_looker_element F_model_looker_element = true := by kernel_rfl
theorem ok_model_looker_differ : mF Go.Proofs.Try.prog n_model_looker_differ F_model_looker_differ = true := by kernel_rfl
theorem ok_model_looker_table : mF Go.Proofs.Try.prog n_model_looker_table F_model_looker_table = true := by kernel_rfl
theorem ok_ref08_all : mF Go.Proofs.Try.prog n_ref08_all F_ref08_all = true := by kernel_rfl
theorem ok_ground_holds_1 : mF Go.Proofs.Try.prog n_ground_holds_1 F_ground_holds_1 = true := by kernel_rfl
theorem ok_ground_compared : mF Go.Proofs.Try.prog n_ground_compared F_ground_compared = true := by kernel_rfl
theorem ok_slices_Equal_sint_int : mF Go.Proofs.Try.prog n_slices_Equal_sint_int F_slices_Equal_sint_int = true := by kernel_rfl
theorem ok_model_looker_variables : mF Go.Proofs.Try.prog n_model_looker_variables F_model_looker_variables = true := by kernel_rfl
theorem ok_model_looker_sum : mF Go.Proofs.Try.prog n_model_looker_sum F_model_looker_sum = true := by kernel_rfl
theorem ok_model_looker_bare : mF Go.Proofs.Try.prog n_model_looker_bare F_model_looker_bare = true := by kernel_rfl
theorem ok_sums_Dot : mF Go.Proofs.Try.prog n_sums_Dot F_sums_Dot = true := by kernel_rfl
theorem ok_sums_Holds : mF Go.Proofs.Try.prog n_sums_Holds F_sums_Holds = true := by kernel_rfl
theorem ok_slices_Contains_sint_int : mF Go.Proofs.Try.prog n_slices_Contains_sint_int F_slices_Contains_sint_int = true := by kernel_rfl
theorem ok_model_within : mF Go.Proofs.Try.prog n_model_within F_model_within = true := by kernel_rfl
theorem ok_sums_Mul : mF Go.Proofs.Try.prog n_sums_Mul F_sums_Mul = true := by kernel_rfl
theorem ok_sums_Add : mF Go.Proofs.Try.prog n_sums_Add F_sums_Add = true := by kernel_rfl
theorem ok_slices_Index_sint_int : mF Go.Proofs.Try.prog n_slices_Index_sint_int F_slices_Index_sint_int = true := by kernel_rfl
theorem ok_slices_ContainsFunc_sint_int : mF Go.Proofs.Try.prog n_slices_ContainsFunc_sint_int F_slices_ContainsFunc_sint_int = true := by kernel_rfl
theorem ok_model_within_1 : mF Go.Proofs.Try.prog n_model_within_1 F_model_within_1 = true := by kernel_rfl
theorem ok_sums_size : mF Go.Proofs.Try.prog n_sums_size F_sums_size = true := by kernel_rfl
theorem ok_slices_IndexFunc_sint_int : mF Go.Proofs.Try.prog n_slices_IndexFunc_sint_int F_slices_IndexFunc_sint_int = true := by kernel_rfl
def tbl : List (Nat × F) := [(n_law11_GroundTells, F_law11_GroundTells), (n_law11_GroundTurn, F_law11_GroundTurn), (n_law11_GroundOrder, F_law11_GroundOrder), (n_law11_awake, F_law11_awake), (n_law11_Large, F_law11_Large), (n_ground_Holds, F_ground_Holds), (n_ref11_All, F_ref11_All), (n_ground_Right, F_ground_Right), (n_ref11_Right, F_ref11_Right), (n_ground_All, F_ground_All), (n_ref11_Holds, F_ref11_Holds), (n_slices_ContainsFunc_sapi_Con_api_Con, F_slices_ContainsFunc_sapi_Con_api_Con), (n_ground_Right_1, F_ground_Right_1), (n_model_Right, F_model_Right), (n_ref08_Right, F_ref08_Right), (n_ground_All_1, F_ground_All_1), (n_ground_holds, F_ground_holds), (n_ref11_sum, F_ref11_sum), (n_slices_IndexFunc_sapi_Con_api_Con, F_slices_IndexFunc_sapi_Con_api_Con), (n_model_looker_linear, F_model_looker_linear), (n_model_looker_product, F_model_looker_product), (n_model_looker_iff, F_model_looker_iff), (n_model_looker_element, F_model_looker_element), (n_model_looker_differ, F_model_looker_differ), (n_model_looker_table, F_model_looker_table), (n_ref08_all, F_ref08_all), (n_ground_holds_1, F_ground_holds_1), (n_ground_compared, F_ground_compared), (n_slices_Equal_sint_int, F_slices_Equal_sint_int), (n_model_looker_variables, F_model_looker_variables), (n_model_looker_sum, F_model_looker_sum), (n_model_looker_bare, F_model_looker_bare), (n_sums_Dot, F_sums_Dot), (n_sums_Holds, F_sums_Holds), (n_slices_Contains_sint_int, F_slices_Contains_sint_int), (n_model_within, F_model_within), (n_sums_Mul, F_sums_Mul), (n_sums_Add, F_sums_Add), (n_slices_Index_sint_int, F_slices_Index_sint_int), (n_slices_ContainsFunc_sint_int, F_slices_ContainsFunc_sint_int), (n_model_within_1, F_model_within_1), (n_sums_size, F_sums_size), (n_slices_IndexFunc_sint_int, F_slices_IndexFunc_sint_int)]
def T (n : Nat) : Option F := (tbl.find? fun p => p.1 == n).map (·.2)
theorem T_law11_GroundTells : T n_law11_GroundTells = some F_law11_GroundTells := rfl
theorem T_law11_GroundTurn : T n_law11_GroundTurn = some F_law11_GroundTurn := rfl
theorem T_law11_GroundOrder : T n_law11_GroundOrder = some F_law11_GroundOrder := rfl
theorem T_law11_awake : T n_law11_awake = some F_law11_awake := rfl
theorem T_law11_Large : T n_law11_Large = some F_law11_Large := rfl
theorem T_ground_Holds : T n_ground_Holds = some F_ground_Holds := rfl
theorem T_ref11_All : T n_ref11_All = some F_ref11_All := rfl
theorem T_ground_Right : T n_ground_Right = some F_ground_Right := rfl
theorem T_ref11_Right : T n_ref11_Right = some F_ref11_Right := rfl
theorem T_ground_All : T n_ground_All = some F_ground_All := rfl
theorem T_ref11_Holds : T n_ref11_Holds = some F_ref11_Holds := rfl
theorem T_slices_ContainsFunc_sapi_Con_api_Con : T n_slices_ContainsFunc_sapi_Con_api_Con = some F_slices_ContainsFunc_sapi_Con_api_Con := rfl
theorem T_ground_Right_1 : T n_ground_Right_1 = some F_ground_Right_1 := rfl
theorem T_model_Right : T n_model_Right = some F_model_Right := rfl
theorem T_ref08_Right : T n_ref08_Right = some F_ref08_Right := rfl
theorem T_ground_All_1 : T n_ground_All_1 = some F_ground_All_1 := rfl
theorem T_ground_holds : T n_ground_holds = some F_ground_holds := rfl
theorem T_ref11_sum : T n_ref11_sum = some F_ref11_sum := rfl
theorem T_slices_IndexFunc_sapi_Con_api_Con : T n_slices_IndexFunc_sapi_Con_api_Con = some F_slices_IndexFunc_sapi_Con_api_Con := rfl
theorem T_model_looker_linear : T n_model_looker_linear = some F_model_looker_linear := rfl
theorem T_model_looker_product : T n_model_looker_product = some F_model_looker_product := rfl
theorem T_model_looker_iff : T n_model_looker_iff = some F_model_looker_iff := rfl
theorem T_model_looker_element : T n_model_looker_element = some F_model_looker_element := rfl
theorem T_model_looker_differ : T n_model_looker_differ = some F_model_looker_differ := rfl
theorem T_model_looker_table : T n_model_looker_table = some F_model_looker_table := rfl
theorem T_ref08_all : T n_ref08_all = some F_ref08_all := rfl
theorem T_ground_holds_1 : T n_ground_holds_1 = some F_ground_holds_1 := rfl
theorem T_ground_compared : T n_ground_compared = some F_ground_compared := rfl
theorem T_slices_Equal_sint_int : T n_slices_Equal_sint_int = some F_slices_Equal_sint_int := rfl
theorem T_model_looker_variables : T n_model_looker_variables = some F_model_looker_variables := rfl
theorem T_model_looker_sum : T n_model_looker_sum = some F_model_looker_sum := rfl
theorem T_model_looker_bare : T n_model_looker_bare = some F_model_looker_bare := rfl
theorem T_sums_Dot : T n_sums_Dot = some F_sums_Dot := rfl
theorem T_sums_Holds : T n_sums_Holds = some F_sums_Holds := rfl
theorem T_slices_Contains_sint_int : T n_slices_Contains_sint_int = some F_slices_Contains_sint_int := rfl
theorem T_model_within : T n_model_within = some F_model_within := rfl
theorem T_sums_Mul : T n_sums_Mul = some F_sums_Mul := rfl
theorem T_sums_Add : T n_sums_Add = some F_sums_Add := rfl
theorem T_slices_Index_sint_int : T n_slices_Index_sint_int = some F_slices_Index_sint_int := rfl
theorem T_slices_ContainsFunc_sint_int : T n_slices_ContainsFunc_sint_int = some F_slices_ContainsFunc_sint_int := rfl
theorem T_model_within_1 : T n_model_within_1 = some F_model_within_1 := rfl
theorem T_sums_size : T n_sums_size = some F_sums_size := rfl
theorem T_slices_IndexFunc_sint_int : T n_slices_IndexFunc_sint_int = some F_slices_IndexFunc_sint_int := rfl
theorem T_ok : ∀ f F, T f = some F → mF Go.Proofs.Try.prog f F = true := by
  intro f F h
  unfold T at h
  obtain ⟨p, hp, rfl⟩ := Option.map_eq_some_iff.1 h
  have h1 := List.mem_of_find?_eq_some hp
  have h2 : p.1 = f := by simpa using List.find?_some hp
  subst h2
  clear h hp
  simp only [tbl, List.mem_cons, List.not_mem_nil, or_false] at h1
  rcases h1 with rfl | rfl | rfl | rfl | rfl | rfl | rfl | rfl | rfl | rfl | rfl | rfl | rfl | rfl | rfl | rfl | rfl | rfl | rfl | rfl | rfl | rfl | rfl | rfl | rfl | rfl | rfl | rfl | rfl | rfl | rfl | rfl | rfl | rfl | rfl | rfl | rfl | rfl | rfl | rfl | rfl | rfl | rfl
  · exact ok_law11_GroundTells
  · exact ok_law11_GroundTurn
  · exact ok_law11_GroundOrder
  · exact ok_law11_awake
  · exact ok_law11_Large
  · exact ok_ground_Holds
  · exact ok_ref11_All
  · exact ok_ground_Right
  · exact ok_ref11_Right
  · exact ok_ground_All
  · exact ok_ref11_Holds
  · exact ok_slices_ContainsFunc_sapi_Con_api_Con
  · exact ok_ground_Right_1
  · exact ok_model_Right
  · exact ok_ref08_Right
  · exact ok_ground_All_1
  · exact ok_ground_holds
  · exact ok_ref11_sum
  · exact ok_slices_IndexFunc_sapi_Con_api_Con
  · exact ok_model_looker_linear
  · exact ok_model_looker_product
  · exact ok_model_looker_iff
  · exact ok_model_looker_element
  · exact ok_model_looker_differ
  · exact ok_model_looker_table
  · exact ok_ref08_all
  · exact ok_ground_holds_1
  · exact ok_ground_compared
  · exact ok_slices_Equal_sint_int
  · exact ok_model_looker_variables
  · exact ok_model_looker_sum
  · exact ok_model_looker_bare
  · exact ok_sums_Dot
  · exact ok_sums_Holds
  · exact ok_slices_Contains_sint_int
  · exact ok_model_within
  · exact ok_sums_Mul
  · exact ok_sums_Add
  · exact ok_slices_Index_sint_int
  · exact ok_slices_ContainsFunc_sint_int
  · exact ok_model_within_1
  · exact ok_sums_size
  · exact ok_slices_IndexFunc_sint_int
end Go.RR.M
