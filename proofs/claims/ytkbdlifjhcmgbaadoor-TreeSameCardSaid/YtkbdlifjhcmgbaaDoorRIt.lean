/- The code of the functions, by name, for the second reading; that it is theirs. -/
import Derived.Test.YtkbdlifjhcmgbaaDoorProg
import Derived.KernelRfl
import Derived.Test.YtkbdlifjhcmgbaaDoorR4
set_option linter.unusedVariables false
set_option linter.unusedSimpArgs false
set_option linter.unusedVariables false
namespace Go.RR.M
open Go Go.RR
set_option maxRecDepth 100000
def n_main_main : Nat := 0
def n_gosem_cut : Nat := 1
def n_gosem_cut_init : Nat := 2
def n_law19_TreeTells : Nat := 3
def n_law19_TreeShares : Nat := 4
def n_law19_TreeSame : Nat := 5
def n_law19_awake : Nat := 6
def n_law19_Large : Nat := 7
def n_law19_Own : Nat := 8
def n_ref19_May : Nat := 9
def n_ref19_Sizes : Nat := 10
def n_ref19_Text : Nat := 11
def n_tree_May : Nat := 12
def n_tree_Size : Nat := 13
def n_tree_Depth : Nat := 14
def n_tree_Same : Nat := 15
def n_ref19_Equal : Nat := 16
def n_tree_Share : Nat := 17
def n_ref19_Share : Nat := 18
def n_tree_Plant : Nat := 19
def n_ref19_Plant : Nat := 20
def n_ref19_Fits : Nat := 21
def n_ref19_walk : Nat := 22
def n_tree_fits : Nat := 23
def n_slices_ContainsFunc_sint_int : Nat := 24
def n_tree_May_1 : Nat := 25
def n_tree_Tree_up : Nat := 26
def n_tree_Size_1 : Nat := 27
def n_tree_Depth_1 : Nat := 28
def n_slices_Max_sint_int : Nat := 29
def n_tree_Same_1 : Nat := 30
def n_tree_text : Nat := 31
def n_slices_EqualFunc_tree_Tree_tree_Tree_tree_Node_tree_Node : Nat := 32
def n_tree_sharer_walk : Nat := 33
def n_slices_ContainsFunc_stree_Tree_tree_Tree : Nat := 34
def n_tree_Plant_1 : Nat := 35
def n_tree_sharer_put : Nat := 36
def n_ref19_digits : Nat := 37
def n_slices_IndexFunc_sint_int : Nat := 38
def n_strings_Builder_WriteString : Nat := 39
def n_strconv_Itoa : Nat := 40
def n_strings_Builder_String : Nat := 41
def n_slices_IndexFunc_stree_Tree_tree_Tree : Nat := 42
def n_strings_Builder_copyCheck : Nat := 43
def n_strconv_Itoa_f44 : Nat := 44
def n_abi_NoEscape : Nat := 45
def n_strconv_FormatInt : Nat := 46
def n_strconv_small : Nat := 47
def n_strconv_numDigits : Nat := 48
def n_strconv_formatBase10 : Nat := 49
def n_strconv_formatBits : Nat := 50
def n_strconv_log10Pow2 : Nat := 51
def n_math_bits_Len64 : Nat := 52
def n_strconv_bool2_int : Nat := 53
def n_strconv_isPowerOfTwo : Nat := 54
def n_math_bits_TrailingZeros : Nat := 55
def n_math_bits_TrailingZeros32 : Nat := 56
def n_math_bits_TrailingZeros64 : Nat := 57
def n_runtime_boundsError_Error : Nat := 58
def n_runtime_boundsError_RuntimeError : Nat := 59
def n_runtime_errorString_Error : Nat := 60
def n_runtime_errorString_RuntimeError : Nat := 61
def n_runtime_plainError_Error : Nat := 62
def n_runtime_plainError_RuntimeError : Nat := 63
def n_runtime_errorAddressString_Error : Nat := 64
def n_runtime_errorAddressString_RuntimeError : Nat := 65
def n_runtime_TypeAssertionError_Error : Nat := 66
def n_runtime_TypeAssertionError_RuntimeError : Nat := 67
def n_runtime_PanicNilError_Error : Nat := 68
def n_runtime_PanicNilError_RuntimeError : Nat := 69
def n_abi_Type_Align : Nat := 70
def n_maps_unhashableTypeError_Error : Nat := 71
def n_maps_unhashableTypeError_RuntimeError : Nat := 72
def n_api_Errno_Error : Nat := 73
def n_strings_Builder_Reset : Nat := 74
def n_abi_Kind_String : Nat := 75
def n_var_s_door_gosem_cut_vars_holds_initialisers_alone_see_the_manifest_s_row_cutvarsword_look_11_test_files_too : Nat := 76
def n_var_s_door_strconv_uint64pow10_is_laid_by_its_own_initialiser_plain_data_look_11 : Nat := 77
def n_var_s_door_math_bits_deBruijn32tab_is_laid_by_its_own_initialiser_plain_data_look_11 : Nat := 78
def n_var_s_door_math_bits_deBruijn64tab_is_laid_by_its_own_initialiser_plain_data_look_11 : Nat := 79
def n_var_s_door_the_look_of_gosem_cut_vars_went_over_the_folder_that_the_caller_named_as_the_repository_s_root_look_11 : Nat := 80
def n_gosem_cut_vars : Nat := 81
/-- stratagem/stratagemlaw19.TreeTells -/
def i_law19_TreeTells : IR := .seq (.rg [⟨(some 8), none, .mov (.c (.bool false))⟩] (some [0, 1, 2, 3]))
   (.seq (.seq (.rg [⟨(some 24), none, .call n_law19_awake []⟩,
    ⟨(some 25), none, .un .not (.t 24)⟩] (some [0, 1, 2, 3, 25]))
   (.cond (.t 25) (.seq (.rg [⟨(some 8), none, .mov (.c (.bool false))⟩] (some [8]))
   (.ret)) (.skip)))
   (.seq (.seq (.rg [⟨(some 26), none, .mov (.t 0)⟩,
    ⟨(some 27), none, .call n_law19_Large [(.t 26)]⟩,
    ⟨(some 28), none, .mov (.t 27)⟩,
    ⟨(some 29), (some (28, false)), .mov (.t 1)⟩,
    ⟨(some 30), (some (28, false)), .call n_law19_Large [(.t 29)]⟩,
    ⟨(some 31), none, .pick (.t 28) (.c (.bool true)) (.t 30)⟩] (some [0, 1, 2, 3, 31]))
   (.cond (.t 31) (.seq (.rg [⟨(some 8), none, .mov (.c (.bool true))⟩] (some [8]))
   (.ret)) (.skip)))
   (.seq (.rg [⟨(some 32), none, .mov (.t 0)⟩,
    ⟨(some 33), none, .call n_law19_Own [(.t 32)]⟩,
    ⟨(some 34), none, .mov (.t 1)⟩,
    ⟨(some 35), none, .call n_law19_Own [(.t 34)]⟩,
    ⟨(some 9), none, .mov (.t 33)⟩,
    ⟨(some 10), none, .mov (.t 35)⟩] (some [0, 1, 2, 3, 9, 10]))
   (.seq (.rg [⟨(some 11), none, .mov (.c (.int .i64 0))⟩,
    ⟨(some 12), none, .mov (.c (.int .i64 0))⟩] (some [0, 1, 2, 3, 9, 10, 11, 12]))
   (.seq (.seq (.rg [⟨(some 36), none, .mov (.t 9)⟩,
    ⟨(some 37), none, .call n_ref19_May [(.t 36)]⟩] (some [0, 1, 2, 3, 9, 10, 11, 12, 37]))
   (.cond (.t 37) (.seq (.rg [⟨(some 39), none, .mov (.t 9)⟩,
    ⟨(some 40), none, .call n_ref19_Sizes [(.t 39)]⟩,
    ⟨(some 38), none, .mov (.t 40)⟩,
    ⟨(some 41), none, .ext (.t 38) 0⟩,
    ⟨(some 42), none, .ext (.t 38) 1⟩,
    ⟨(some 13), none, .mov (.t 41)⟩,
    ⟨(some 14), none, .mov (.t 42)⟩] (some [0, 1, 2, 3, 9, 10, 13, 14]))
   (.dq [(⟨(some 43), none, .mov (.t 13)⟩, []),
    (⟨(some 44), none, .mov (.t 13)⟩, []),
    (⟨(some 45), none, .len (.t 44)⟩, [1]),
    (⟨(some 46), none, .bin .sub (.t 45) (.c (.int .i64 1))⟩, [1, 2]),
    (⟨(some 47), none, .iad 1 (.t 43) (.t 46)⟩, [0, 1, 2, 3]),
    (⟨(some 48), none, .ld false 1 (.t 47)⟩, [0, 1, 2, 3, 4]),
    (⟨(some 49), none, .mov (.t 14)⟩, []),
    (⟨(some 50), none, .mov (.t 14)⟩, []),
    (⟨(some 51), none, .len (.t 50)⟩, [7]),
    (⟨(some 52), none, .bin .sub (.t 51) (.c (.int .i64 1))⟩, [7, 8]),
    (⟨(some 53), none, .iad 1 (.t 49) (.t 52)⟩, [6, 7, 8, 9]),
    (⟨(some 54), none, .ld false 1 (.t 53)⟩, [6, 7, 8, 9, 10]),
    (⟨(some 11), none, .mov (.t 48)⟩, [0, 1, 2, 3, 4, 5]),
    (⟨(some 12), none, .mov (.t 54)⟩, [0, 1, 2, 3, 4, 5, 6, 7, 8, 9, 10, 11, 12])] (some [0, 1, 2, 3, 9, 10, 11, 12]))) (.skip)))
   (.seq (.rg [⟨(some 55), none, .mov (.t 9)⟩,
    ⟨(some 56), none, .call n_ref19_May [(.t 55)]⟩,
    ⟨(some 57), none, .mov (.t 56)⟩,
    ⟨(some 58), (some (57, true)), .mov (.t 10)⟩,
    ⟨(some 59), (some (57, true)), .call n_ref19_May [(.t 58)]⟩,
    ⟨(some 60), none, .pick (.t 57) (.t 59) (.c (.bool false))⟩,
    ⟨(some 61), none, .mov (.t 60)⟩,
    ⟨(some 62), (some (61, true)), .mov (.t 9)⟩,
    ⟨(some 63), (some (61, true)), .call n_ref19_Text [(.t 62)]⟩,
    ⟨(some 64), (some (61, true)), .mov (.t 10)⟩,
    ⟨(some 65), (some (61, true)), .call n_ref19_Text [(.t 64)]⟩,
    ⟨(some 66), (some (61, true)), .bin .eql (.t 63) (.t 65)⟩,
    ⟨(some 67), none, .pick (.t 61) (.t 66) (.c (.bool false))⟩,
    ⟨(some 15), none, .mov (.t 67)⟩] (some [0, 1, 2, 3, 9, 10, 11, 12, 15]))
   (.seq (.seq (.rg [⟨(some 68), none, .mov (.t 0)⟩,
    ⟨(some 69), none, .call n_tree_May [(.t 68)]⟩,
    ⟨(some 70), none, .mov (.t 9)⟩,
    ⟨(some 71), none, .call n_ref19_May [(.t 70)]⟩,
    ⟨(some 72), none, .eq true .bool (.t 69) (.t 71)⟩,
    ⟨(some 73), none, .mov (.t 72)⟩,
    ⟨(some 74), (some (73, false)), .mov (.t 0)⟩,
    ⟨(some 75), (some (73, false)), .call n_tree_Size [(.t 74)]⟩,
    ⟨(some 76), (some (73, false)), .mov (.t 11)⟩,
    ⟨(some 77), (some (73, false)), .bin .neq (.t 75) (.t 76)⟩,
    ⟨(some 78), none, .pick (.t 73) (.c (.bool true)) (.t 77)⟩,
    ⟨(some 79), none, .mov (.t 78)⟩,
    ⟨(some 80), (some (79, false)), .mov (.t 0)⟩,
    ⟨(some 81), (some (79, false)), .call n_tree_Depth [(.t 80)]⟩,
    ⟨(some 82), (some (79, false)), .mov (.t 12)⟩,
    ⟨(some 83), (some (79, false)), .bin .neq (.t 81) (.t 82)⟩,
    ⟨(some 84), none, .pick (.t 79) (.c (.bool true)) (.t 83)⟩,
    ⟨(some 85), none, .mov (.t 84)⟩,
    ⟨(some 86), (some (85, false)), .mov (.t 0)⟩,
    ⟨(some 87), (some (85, false)), .mov (.t 1)⟩,
    ⟨(some 88), (some (85, false)), .call n_tree_Same [(.t 86), (.t 87)]⟩,
    ⟨(some 89), (some (85, false)), .mov (.t 15)⟩,
    ⟨(some 90), (some (85, false)), .eq true .bool (.t 88) (.t 89)⟩,
    ⟨(some 91), none, .pick (.t 85) (.c (.bool true)) (.t 90)⟩,
    ⟨(some 92), none, .mov (.t 91)⟩,
    ⟨(some 93), (some (92, false)), .mov (.t 0)⟩,
    ⟨(some 94), (some (92, false)), .call n_tree_Share [(.t 93)]⟩,
    ⟨(some 95), (some (92, false)), .call n_law19_Own [(.t 94)]⟩,
    ⟨(some 96), (some (92, false)), .mov (.t 9)⟩,
    ⟨(some 97), (some (92, false)), .call n_ref19_Share [(.t 96)]⟩,
    ⟨(some 98), (some (92, false)), .call n_ref19_Equal [(.t 95), (.t 97)]⟩,
    ⟨(some 99), (some (92, false)), .un .not (.t 98)⟩,
    ⟨(some 100), none, .pick (.t 92) (.c (.bool true)) (.t 99)⟩] (some [0, 1, 2, 3, 9, 10, 100]))
   (.cond (.t 100) (.seq (.rg [⟨(some 8), none, .mov (.c (.bool false))⟩] (some [8]))
   (.ret)) (.skip)))
   (.seq (.rg [⟨(some 102), none, .mov (.t 2)⟩,
    ⟨(some 103), none, .mov (.t 3)⟩,
    ⟨(some 104), none, .mov (.t 0)⟩,
    ⟨(some 105), none, .mov (.t 1)⟩,
    ⟨(some 106), none, .bsf (.nsl 3) 2 [(0, (.t 104)), (1, (.t 105))]⟩,
    ⟨(some 107), none, .call n_tree_Plant [(.t 102), (.t 103), (.t 106)]⟩,
    ⟨(some 101), none, .mov (.t 107)⟩,
    ⟨(some 108), none, .ext (.t 101) 0⟩,
    ⟨(some 109), none, .ext (.t 101) 1⟩,
    ⟨(some 16), none, .mov (.t 108)⟩,
    ⟨(some 17), none, .mov (.t 109)⟩] (some [0, 2, 3, 9, 10, 16, 17]))
   (.seq (.rg [⟨(some 111), none, .mov (.t 2)⟩,
    ⟨(some 112), none, .mov (.t 3)⟩,
    ⟨(some 113), none, .mov (.t 9)⟩,
    ⟨(some 114), none, .mov (.t 10)⟩,
    ⟨(some 115), none, .bsf (.nsl 3) 2 [(0, (.t 113)), (1, (.t 114))]⟩,
    ⟨(some 116), none, .call n_ref19_Plant [(.t 111), (.t 112), (.t 115)]⟩,
    ⟨(some 110), none, .mov (.t 116)⟩,
    ⟨(some 117), none, .ext (.t 110) 0⟩,
    ⟨(some 118), none, .ext (.t 110) 1⟩,
    ⟨(some 18), none, .mov (.t 117)⟩,
    ⟨(some 19), none, .mov (.t 118)⟩] (some [0, 2, 3, 9, 16, 17, 18, 19]))
   (.seq (.rg [⟨(some 120), none, .mov (.t 2)⟩,
    ⟨(some 121), none, .mov (.t 3)⟩,
    ⟨(some 122), none, .mov (.t 0)⟩,
    ⟨(some 123), none, .bsf (.nsl 3) 1 [(0, (.t 122))]⟩,
    ⟨(some 124), none, .call n_tree_Plant [(.t 120), (.t 121), (.t 123)]⟩,
    ⟨(some 119), none, .mov (.t 124)⟩,
    ⟨(some 125), none, .ext (.t 119) 0⟩,
    ⟨(some 126), none, .ext (.t 119) 1⟩,
    ⟨(some 20), none, .mov (.t 125)⟩,
    ⟨(some 21), none, .mov (.t 126)⟩] (some [2, 3, 9, 16, 17, 18, 19, 20, 21]))
   (.seq (.rg [⟨(some 128), none, .mov (.t 2)⟩,
    ⟨(some 129), none, .mov (.t 3)⟩,
    ⟨(some 130), none, .mov (.t 9)⟩,
    ⟨(some 131), none, .bsf (.nsl 3) 1 [(0, (.t 130))]⟩,
    ⟨(some 132), none, .call n_ref19_Plant [(.t 128), (.t 129), (.t 131)]⟩,
    ⟨(some 127), none, .mov (.t 132)⟩,
    ⟨(some 133), none, .ext (.t 127) 0⟩,
    ⟨(some 134), none, .ext (.t 127) 1⟩,
    ⟨(some 22), none, .mov (.t 133)⟩,
    ⟨(some 23), none, .mov (.t 134)⟩] (some [16, 17, 18, 19, 20, 21, 22, 23]))
   (.seq (.rg [⟨(some 135), none, .mov (.t 16)⟩,
    ⟨(some 136), none, .call n_law19_Own [(.t 135)]⟩,
    ⟨(some 137), none, .mov (.t 18)⟩,
    ⟨(some 138), none, .call n_ref19_Equal [(.t 136), (.t 137)]⟩,
    ⟨(some 139), none, .mov (.t 138)⟩,
    ⟨(some 140), (some (139, true)), .mov (.t 17)⟩,
    ⟨(some 141), (some (139, true)), .mov (.t 19)⟩,
    ⟨(some 142), (some (139, true)), .bin .eql (.t 140) (.t 141)⟩,
    ⟨(some 143), none, .pick (.t 139) (.t 142) (.c (.bool false))⟩,
    ⟨(some 144), none, .mov (.t 143)⟩,
    ⟨(some 145), (some (144, true)), .mov (.t 20)⟩,
    ⟨(some 146), (some (144, true)), .call n_law19_Own [(.t 145)]⟩,
    ⟨(some 147), (some (144, true)), .mov (.t 22)⟩,
    ⟨(some 148), (some (144, true)), .call n_ref19_Equal [(.t 146), (.t 147)]⟩,
    ⟨(some 149), none, .pick (.t 144) (.t 148) (.c (.bool false))⟩,
    ⟨(some 150), none, .mov (.t 149)⟩,
    ⟨(some 151), (some (150, true)), .mov (.t 21)⟩,
    ⟨(some 152), (some (150, true)), .mov (.t 23)⟩,
    ⟨(some 153), (some (150, true)), .bin .eql (.t 151) (.t 152)⟩,
    ⟨(some 154), none, .pick (.t 150) (.t 153) (.c (.bool false))⟩,
    ⟨(some 8), none, .mov (.t 154)⟩] (some [8]))
   (.ret)))))))))))))
def F_law19_TreeTells : F := ⟨i_law19_TreeTells, [(8, none)], false⟩
/-- stratagem/stratagemlaw19.TreeShares -/
def b_law19_TreeShares_0 : IR := .seq (.rg [⟨(some 75), none, .bin .lss (.t 74) (.t 73)⟩] (some [3, 4, 69, 70, 73, 74, 75]))
   (.seq (.cond (.t 75) (.skip) (.ext 2))
   (.seq (.blk 3 (.seq (.rg [⟨(some 76), none, .mov (.t 74)⟩,
    ⟨(some 5), none, .mov (.t 76)⟩] (some [3, 4, 5, 69, 70, 73, 74]))
   (.seq (.dq [(⟨(some 77), none, .mov (.t 3)⟩, []),
    (⟨(some 78), none, .mov (.t 4)⟩, []),
    (⟨(some 79), none, .mov (.t 4)⟩, []),
    (⟨(some 80), none, .bin .add (.t 79) (.c (.int .i64 1))⟩, [2]),
    (⟨(some 81), none, .sll 3 (.t 77) (some (.t 78)) (some (.t 80)) none⟩, [0, 1, 2, 3]),
    (⟨(some 82), none, .call n_law19_Own [(.t 81)]⟩, [0, 1, 2, 3, 4]),
    (⟨(some 83), none, .mov (.t 3)⟩, []),
    (⟨(some 84), none, .mov (.t 5)⟩, []),
    (⟨(some 85), none, .mov (.t 5)⟩, []),
    (⟨(some 86), none, .bin .add (.t 85) (.c (.int .i64 1))⟩, [8]),
    (⟨(some 87), none, .sll 3 (.t 83) (some (.t 84)) (some (.t 86)) none⟩, [6, 7, 8, 9]),
    (⟨(some 88), none, .call n_law19_Own [(.t 87)]⟩, [0, 1, 2, 3, 4, 5, 6, 7, 8, 9, 10]),
    (⟨(some 89), none, .call n_ref19_Equal [(.t 82), (.t 88)]⟩, [0, 1, 2, 3, 4, 5, 6, 7, 8, 9, 10, 11])] (some [3, 4, 69, 70, 73, 74, 89]))
   (.cond (.t 89) (.seq (.rg [⟨(some 2), none, .mov (.c (.bool false))⟩] (some [2]))
   (.ret)) (.skip)))))
   (.rg [⟨(some 90), none, .bin .add (.t 74) (.c (.int .i64 1))⟩,
    ⟨(some 74), none, .mov (.t 90)⟩] (some [3, 4, 69, 70, 73, 74]))))
def i_law19_TreeShares_l0 : IR := .loop b_law19_TreeShares_0
theorem r_law19_TreeShares_0 {C : Cx} {Y : Yl} {fr : Fr} {h : List Ob} : evw C Y i_law19_TreeShares_l0 fr h = nxt (evw C Y b_law19_TreeShares_0 fr h) fun fr h => evw C Y i_law19_TreeShares_l0 fr h := w_loop
def b_law19_TreeShares_1 : IR := .seq (.rg [⟨(some 71), none, .bin .lss (.t 70) (.t 69)⟩] (some [3, 69, 70, 71]))
   (.seq (.cond (.t 71) (.skip) (.ext 0))
   (.seq (.blk 1 (.seq (.rg [⟨(some 72), none, .mov (.t 70)⟩,
    ⟨(some 4), none, .mov (.t 72)⟩] (some [3, 4, 69, 70]))
   (.seq (.rg [⟨(some 73), none, .mov (.t 4)⟩,
    ⟨(some 74), none, .mov (.c (.int .i64 0))⟩] (some [3, 4, 69, 70, 73, 74]))
   (.blk 2 (i_law19_TreeShares_l0)))))
   (.rg [⟨(some 91), none, .bin .add (.t 70) (.c (.int .i64 1))⟩,
    ⟨(some 70), none, .mov (.t 91)⟩] (some [3, 69, 70]))))
def i_law19_TreeShares_l1 : IR := .loop b_law19_TreeShares_1
theorem r_law19_TreeShares_1 {C : Cx} {Y : Yl} {fr : Fr} {h : List Ob} : evw C Y i_law19_TreeShares_l1 fr h = nxt (evw C Y b_law19_TreeShares_1 fr h) fun fr h => evw C Y i_law19_TreeShares_l1 fr h := w_loop
def i_law19_TreeShares : IR := .seq (.rg [⟨(some 2), none, .mov (.c (.bool false))⟩] (some [0]))
   (.seq (.seq (.rg [⟨(some 6), none, .call n_law19_awake []⟩,
    ⟨(some 7), none, .un .not (.t 6)⟩] (some [0, 7]))
   (.cond (.t 7) (.seq (.rg [⟨(some 2), none, .mov (.c (.bool false))⟩] (some [2]))
   (.ret)) (.skip)))
   (.seq (.seq (.rg [⟨(some 8), none, .mov (.t 0)⟩,
    ⟨(some 9), none, .len (.t 8)⟩,
    ⟨(some 10), none, .bin .gtr (.t 9) (.c (.int .i64 200))⟩] (some [0, 10]))
   (.cond (.t 10) (.seq (.rg [⟨(some 2), none, .mov (.c (.bool true))⟩] (some [2]))
   (.ret)) (.skip)))
   (.seq (.rg [⟨(some 11), none, .mov (.t 0)⟩,
    ⟨(some 12), none, .call n_tree_Share [(.t 11)]⟩,
    ⟨(some 3), none, .mov (.t 12)⟩] (some [0, 3]))
   (.seq (.seq (.rg [⟨(some 13), none, .mov (.t 0)⟩,
    ⟨(some 14), none, .call n_tree_May [(.t 13)]⟩,
    ⟨(some 15), none, .un .not (.t 14)⟩] (some [0, 3, 15]))
   (.cond (.t 15) (.seq (.rg [⟨(some 16), none, .mov (.t 3)⟩,
    ⟨(some 17), none, .len (.t 16)⟩,
    ⟨(some 18), none, .bin .eql (.t 17) (.c (.int .i64 0))⟩,
    ⟨(some 19), none, .mov (.t 18)⟩,
    ⟨(some 20), (some (19, true)), .mov (.t 0)⟩,
    ⟨(some 21), (some (19, true)), .call n_tree_Size [(.t 20)]⟩,
    ⟨(some 22), (some (19, true)), .bin .eql (.t 21) (.c (.int .i64 0))⟩,
    ⟨(some 23), none, .pick (.t 19) (.t 22) (.c (.bool false))⟩,
    ⟨(some 24), none, .mov (.t 23)⟩,
    ⟨(some 25), (some (24, true)), .mov (.t 0)⟩,
    ⟨(some 26), (some (24, true)), .call n_tree_Depth [(.t 25)]⟩,
    ⟨(some 27), (some (24, true)), .bin .eql (.t 26) (.c (.int .i64 0))⟩,
    ⟨(some 28), none, .pick (.t 24) (.t 27) (.c (.bool false))⟩,
    ⟨(some 2), none, .mov (.t 28)⟩] (some [2]))
   (.ret)) (.skip)))
   (.seq (.seq (.rg [⟨(some 29), none, .mov (.t 3)⟩,
    ⟨(some 30), none, .call n_tree_May [(.t 29)]⟩,
    ⟨(some 31), none, .un .not (.t 30)⟩,
    ⟨(some 32), none, .mov (.t 31)⟩,
    ⟨(some 33), (some (32, false)), .mov (.t 3)⟩,
    ⟨(some 34), (some (32, false)), .mov (.t 0)⟩,
    ⟨(some 35), (some (32, false)), .call n_tree_Same [(.t 33), (.t 34)]⟩,
    ⟨(some 36), (some (32, false)), .un .not (.t 35)⟩,
    ⟨(some 37), none, .pick (.t 32) (.c (.bool true)) (.t 36)⟩,
    ⟨(some 38), none, .mov (.t 37)⟩,
    ⟨(some 39), (some (38, false)), .mov (.t 3)⟩,
    ⟨(some 40), (some (38, false)), .call n_tree_Size [(.t 39)]⟩,
    ⟨(some 41), (some (38, false)), .mov (.t 0)⟩,
    ⟨(some 42), (some (38, false)), .call n_tree_Size [(.t 41)]⟩,
    ⟨(some 43), (some (38, false)), .bin .neq (.t 40) (.t 42)⟩,
    ⟨(some 44), none, .pick (.t 38) (.c (.bool true)) (.t 43)⟩,
    ⟨(some 45), none, .mov (.t 44)⟩,
    ⟨(some 46), (some (45, false)), .mov (.t 3)⟩,
    ⟨(some 47), (some (45, false)), .call n_tree_Depth [(.t 46)]⟩,
    ⟨(some 48), (some (45, false)), .mov (.t 0)⟩,
    ⟨(some 49), (some (45, false)), .call n_tree_Depth [(.t 48)]⟩,
    ⟨(some 50), (some (45, false)), .bin .neq (.t 47) (.t 49)⟩,
    ⟨(some 51), none, .pick (.t 45) (.c (.bool true)) (.t 50)⟩,
    ⟨(some 52), none, .mov (.t 51)⟩,
    ⟨(some 53), (some (52, false)), .mov (.t 3)⟩,
    ⟨(some 54), (some (52, false)), .len (.t 53)⟩,
    ⟨(some 55), (some (52, false)), .mov (.t 0)⟩,
    ⟨(some 56), (some (52, false)), .len (.t 55)⟩,
    ⟨(some 57), (some (52, false)), .bin .gtr (.t 54) (.t 56)⟩,
    ⟨(some 58), none, .pick (.t 52) (.c (.bool true)) (.t 57)⟩,
    ⟨(some 59), none, .mov (.t 58)⟩,
    ⟨(some 60), (some (59, false)), .mov (.t 3)⟩,
    ⟨(some 61), (some (59, false)), .call n_tree_Share [(.t 60)]⟩,
    ⟨(some 62), (some (59, false)), .call n_law19_Own [(.t 61)]⟩,
    ⟨(some 63), (some (59, false)), .mov (.t 3)⟩,
    ⟨(some 64), (some (59, false)), .call n_law19_Own [(.t 63)]⟩,
    ⟨(some 65), (some (59, false)), .call n_ref19_Equal [(.t 62), (.t 64)]⟩,
    ⟨(some 66), (some (59, false)), .un .not (.t 65)⟩,
    ⟨(some 67), none, .pick (.t 59) (.c (.bool true)) (.t 66)⟩] (some [3, 67]))
   (.cond (.t 67) (.seq (.rg [⟨(some 2), none, .mov (.c (.bool false))⟩] (some [2]))
   (.ret)) (.skip)))
   (.seq (.seq (.rg [⟨(some 68), none, .mov (.t 3)⟩,
    ⟨(some 69), none, .len (.t 68)⟩,
    ⟨(some 70), none, .mov (.c (.int .i64 0))⟩] (some [3, 69, 70]))
   (.blk 0 (i_law19_TreeShares_l1)))
   (.seq (.rg [⟨(some 2), none, .mov (.c (.bool true))⟩] (some [2]))
   (.ret))))))))
def F_law19_TreeShares : F := ⟨i_law19_TreeShares, [(2, none)], false⟩
/-- stratagem/stratagemlaw19.TreeSame -/
def i_law19_TreeSame : IR := .seq (.rg [⟨(some 8), none, .mov (.c (.bool false))⟩] (some [0, 1, 2, 3]))
   (.seq (.seq (.rg [⟨(some 18), none, .call n_law19_awake []⟩,
    ⟨(some 19), none, .un .not (.t 18)⟩] (some [0, 1, 2, 3, 19]))
   (.cond (.t 19) (.seq (.rg [⟨(some 8), none, .mov (.c (.bool false))⟩] (some [8]))
   (.ret)) (.skip)))
   (.seq (.seq (.rg [⟨(some 20), none, .mov (.t 0)⟩,
    ⟨(some 21), none, .len (.t 20)⟩,
    ⟨(some 22), none, .bin .gtr (.t 21) (.c (.int .i64 200))⟩,
    ⟨(some 23), none, .mov (.t 22)⟩,
    ⟨(some 24), (some (23, false)), .mov (.t 1)⟩,
    ⟨(some 25), (some (23, false)), .len (.t 24)⟩,
    ⟨(some 26), (some (23, false)), .bin .gtr (.t 25) (.c (.int .i64 200))⟩,
    ⟨(some 27), none, .pick (.t 23) (.c (.bool true)) (.t 26)⟩] (some [0, 1, 2, 3, 27]))
   (.cond (.t 27) (.seq (.rg [⟨(some 8), none, .mov (.c (.bool true))⟩] (some [8]))
   (.ret)) (.skip)))
   (.seq (.seq (.rg [⟨(some 28), none, .mov (.t 0)⟩,
    ⟨(some 29), none, .call n_tree_May [(.t 28)]⟩,
    ⟨(some 30), none, .un .not (.t 29)⟩,
    ⟨(some 31), none, .mov (.t 30)⟩,
    ⟨(some 32), (some (31, false)), .mov (.t 1)⟩,
    ⟨(some 33), (some (31, false)), .call n_tree_May [(.t 32)]⟩,
    ⟨(some 34), (some (31, false)), .un .not (.t 33)⟩,
    ⟨(some 35), none, .pick (.t 31) (.c (.bool true)) (.t 34)⟩] (some [0, 1, 2, 3, 35]))
   (.cond (.t 35) (.seq (.rg [⟨(some 36), none, .mov (.t 0)⟩,
    ⟨(some 37), none, .mov (.t 1)⟩,
    ⟨(some 38), none, .call n_tree_Same [(.t 36), (.t 37)]⟩,
    ⟨(some 39), none, .un .not (.t 38)⟩,
    ⟨(some 40), none, .mov (.t 39)⟩,
    ⟨(some 41), (some (40, true)), .mov (.t 1)⟩,
    ⟨(some 42), (some (40, true)), .mov (.t 0)⟩,
    ⟨(some 43), (some (40, true)), .call n_tree_Same [(.t 41), (.t 42)]⟩,
    ⟨(some 44), (some (40, true)), .un .not (.t 43)⟩,
    ⟨(some 45), none, .pick (.t 40) (.t 44) (.c (.bool false))⟩,
    ⟨(some 8), none, .mov (.t 45)⟩] (some [8]))
   (.ret)) (.skip)))
   (.seq (.rg [⟨(some 46), none, .mov (.t 0)⟩,
    ⟨(some 47), none, .call n_tree_Share [(.t 46)]⟩,
    ⟨(some 48), none, .mov (.t 1)⟩,
    ⟨(some 49), none, .call n_tree_Share [(.t 48)]⟩,
    ⟨(some 9), none, .mov (.t 47)⟩,
    ⟨(some 10), none, .mov (.t 49)⟩] (some [0, 1, 2, 3, 9, 10]))
   (.seq (.rg [⟨(some 50), none, .mov (.t 9)⟩,
    ⟨(some 51), none, .call n_law19_Own [(.t 50)]⟩,
    ⟨(some 52), none, .mov (.t 10)⟩,
    ⟨(some 53), none, .call n_law19_Own [(.t 52)]⟩,
    ⟨(some 54), none, .call n_ref19_Equal [(.t 51), (.t 53)]⟩,
    ⟨(some 11), none, .mov (.t 54)⟩] (some [0, 1, 2, 3, 9, 10, 11]))
   (.seq (.seq (.rg [⟨(some 55), none, .mov (.t 0)⟩,
    ⟨(some 56), none, .mov (.t 1)⟩,
    ⟨(some 57), none, .call n_tree_Same [(.t 55), (.t 56)]⟩,
    ⟨(some 58), none, .mov (.t 11)⟩,
    ⟨(some 59), none, .eq true .bool (.t 57) (.t 58)⟩,
    ⟨(some 60), none, .mov (.t 59)⟩,
    ⟨(some 61), (some (60, false)), .mov (.t 1)⟩,
    ⟨(some 62), (some (60, false)), .mov (.t 0)⟩,
    ⟨(some 63), (some (60, false)), .call n_tree_Same [(.t 61), (.t 62)]⟩,
    ⟨(some 64), (some (60, false)), .mov (.t 11)⟩,
    ⟨(some 65), (some (60, false)), .eq true .bool (.t 63) (.t 64)⟩,
    ⟨(some 66), none, .pick (.t 60) (.c (.bool true)) (.t 65)⟩,
    ⟨(some 67), none, .mov (.t 66)⟩,
    ⟨(some 68), (some (67, false)), .mov (.t 0)⟩,
    ⟨(some 69), (some (67, false)), .mov (.t 0)⟩,
    ⟨(some 70), (some (67, false)), .call n_tree_Same [(.t 68), (.t 69)]⟩,
    ⟨(some 71), (some (67, false)), .un .not (.t 70)⟩,
    ⟨(some 72), none, .pick (.t 67) (.c (.bool true)) (.t 71)⟩] (some [0, 1, 2, 3, 9, 10, 11, 72]))
   (.cond (.t 72) (.seq (.rg [⟨(some 8), none, .mov (.c (.bool false))⟩] (some [8]))
   (.ret)) (.skip)))
   (.seq (.rg [⟨(some 74), none, .mov (.t 2)⟩,
    ⟨(some 75), none, .mov (.t 3)⟩,
    ⟨(some 76), none, .mov (.t 0)⟩,
    ⟨(some 77), none, .mov (.t 1)⟩,
    ⟨(some 78), none, .bsf (.nsl 3) 2 [(0, (.t 76)), (1, (.t 77))]⟩,
    ⟨(some 79), none, .call n_tree_Plant [(.t 74), (.t 75), (.t 78)]⟩,
    ⟨(some 73), none, .mov (.t 79)⟩,
    ⟨(some 80), none, .ext (.t 73) 0⟩,
    ⟨(some 81), none, .ext (.t 73) 1⟩,
    ⟨(some 12), none, .mov (.t 80)⟩,
    ⟨(some 13), none, .mov (.t 81)⟩] (some [0, 1, 2, 3, 9, 10, 11, 12, 13]))
   (.seq (.rg [⟨(some 83), none, .mov (.t 2)⟩,
    ⟨(some 84), none, .mov (.t 3)⟩,
    ⟨(some 85), none, .mov (.t 9)⟩,
    ⟨(some 86), none, .mov (.t 10)⟩,
    ⟨(some 87), none, .bsf (.nsl 3) 2 [(0, (.t 85)), (1, (.t 86))]⟩,
    ⟨(some 88), none, .call n_tree_Plant [(.t 83), (.t 84), (.t 87)]⟩,
    ⟨(some 82), none, .mov (.t 88)⟩,
    ⟨(some 89), none, .ext (.t 82) 0⟩,
    ⟨(some 90), none, .ext (.t 82) 1⟩,
    ⟨(some 14), none, .mov (.t 89)⟩,
    ⟨(some 15), none, .mov (.t 90)⟩] (some [0, 1, 2, 3, 11, 12, 13, 14, 15]))
   (.seq (.seq (.rg [⟨(some 91), none, .mov (.t 13)⟩,
    ⟨(some 92), none, .mov (.t 15)⟩,
    ⟨(some 93), none, .bin .neq (.t 91) (.t 92)⟩,
    ⟨(some 94), none, .mov (.t 93)⟩,
    ⟨(some 95), (some (94, false)), .mov (.t 12)⟩,
    ⟨(some 96), (some (94, false)), .call n_law19_Own [(.t 95)]⟩,
    ⟨(some 97), (some (94, false)), .mov (.t 14)⟩,
    ⟨(some 98), (some (94, false)), .call n_law19_Own [(.t 97)]⟩,
    ⟨(some 99), (some (94, false)), .call n_ref19_Equal [(.t 96), (.t 98)]⟩,
    ⟨(some 100), (some (94, false)), .un .not (.t 99)⟩,
    ⟨(some 101), none, .pick (.t 94) (.c (.bool true)) (.t 100)⟩] (some [0, 1, 2, 3, 11, 12, 13, 101]))
   (.cond (.t 101) (.seq (.rg [⟨(some 8), none, .mov (.c (.bool false))⟩] (some [8]))
   (.ret)) (.skip)))
   (.seq (.seq (.rg [⟨(some 102), none, .mov (.t 13)⟩,
    ⟨(some 103), none, .bin .neq (.t 102) (.c (.int .i64 0))⟩,
    ⟨(some 104), none, .mov (.t 103)⟩,
    ⟨(some 105), (some (104, false)), .mov (.t 12)⟩,
    ⟨(some 106), (some (104, false)), .len (.t 105)⟩,
    ⟨(some 107), (some (104, false)), .bin .eql (.t 106) (.c (.int .i64 0))⟩,
    ⟨(some 108), none, .pick (.t 104) (.c (.bool true)) (.t 107)⟩] (some [0, 1, 2, 3, 11, 12, 13, 108]))
   (.cond (.t 108) (.seq (.rg [⟨(some 109), none, .mov (.t 13)⟩,
    ⟨(some 110), none, .bin .neq (.t 109) (.c (.int .i64 0))⟩,
    ⟨(some 111), none, .mov (.t 110)⟩,
    ⟨(some 112), (some (111, true)), .mov (.t 12)⟩,
    ⟨(some 113), (some (111, true)), .len (.t 112)⟩,
    ⟨(some 114), (some (111, true)), .bin .eql (.t 113) (.c (.int .i64 0))⟩,
    ⟨(some 115), none, .pick (.t 111) (.t 114) (.c (.bool false))⟩,
    ⟨(some 8), none, .mov (.t 115)⟩] (some [8]))
   (.ret)) (.skip)))
   (.seq (.rg [⟨(some 116), none, .mov (.t 12)⟩,
    ⟨(some 117), none, .mov (.t 12)⟩,
    ⟨(some 118), none, .len (.t 117)⟩,
    ⟨(some 119), none, .bin .sub (.t 118) (.c (.int .i64 1))⟩,
    ⟨(some 120), none, .iad 3 (.t 116) (.t 119)⟩,
    ⟨(some 121), none, .ld true 3 (.t 120)⟩,
    ⟨(some 16), none, .new (.agg [.int .i64 0, .int .i64 0, .nsl 1])⟩,
    ⟨none, none, .st 3 (.t 16) (.t 121)⟩] (some [0, 1, 2, 3, 11, 12, 16]))
   (.seq (.rg [⟨(some 122), none, .mov (.t 0)⟩,
    ⟨(some 123), none, .call n_tree_Size [(.t 122)]⟩,
    ⟨(some 124), none, .mov (.t 1)⟩,
    ⟨(some 125), none, .call n_tree_Size [(.t 124)]⟩,
    ⟨(some 126), none, .bin .add (.t 123) (.t 125)⟩,
    ⟨(some 17), none, .mov (.t 126)⟩] (some [0, 1, 2, 3, 11, 12, 16, 17]))
   (.seq (.dq [(⟨(some 127), none, .fad 0 (.t 16)⟩, []),
    (⟨(some 128), none, .ld false 1 (.t 127)⟩, [0]),
    (⟨(some 129), none, .mov (.t 2)⟩, []),
    (⟨(some 130), none, .bin .eql (.t 128) (.t 129)⟩, [0, 1, 2]),
    (⟨(some 131), none, .mov (.t 130)⟩, [0, 1, 2, 3]),
    (⟨(some 132), (some (131, true)), .fad 1 (.t 16)⟩, [0, 1, 2, 3, 4]),
    (⟨(some 133), (some (131, true)), .ld false 1 (.t 132)⟩, [0, 1, 2, 3, 4, 5]),
    (⟨(some 134), (some (131, true)), .mov (.t 3)⟩, [0, 1, 2, 3, 4]),
    (⟨(some 135), (some (131, true)), .bin .eql (.t 133) (.t 134)⟩, [0, 1, 2, 3, 4, 5, 6, 7]),
    (⟨(some 136), none, .pick (.t 131) (.t 135) (.c (.bool false))⟩, [0, 1, 2, 3, 4, 5, 6, 7, 8]),
    (⟨(some 137), none, .mov (.t 136)⟩, [0, 1, 2, 3, 4, 5, 6, 7, 8, 9]),
    (⟨(some 138), (some (137, true)), .fad 2 (.t 16)⟩, [0, 1, 2, 3, 4, 5, 6, 7, 8, 9, 10]),
    (⟨(some 139), (some (137, true)), .ld false 1 (.t 138)⟩, [0, 1, 2, 3, 4, 5, 6, 7, 8, 9, 10, 11]),
    (⟨(some 140), (some (137, true)), .len (.t 139)⟩, [0, 1, 2, 3, 4, 5, 6, 7, 8, 9, 10, 11, 12]),
    (⟨(some 141), (some (137, true)), .bin .eql (.t 140) (.c (.int .i64 2))⟩, [0, 1, 2, 3, 4, 5, 6, 7, 8, 9, 10, 11, 12, 13]),
    (⟨(some 142), none, .pick (.t 137) (.t 141) (.c (.bool false))⟩, [0, 1, 2, 3, 4, 5, 6, 7, 8, 9, 10, 11, 12, 13, 14]),
    (⟨(some 143), none, .mov (.t 142)⟩, [0, 1, 2, 3, 4, 5, 6, 7, 8, 9, 10, 11, 12, 13, 14, 15]),
    (⟨(some 144), (some (143, true)), .fad 2 (.t 16)⟩, [0, 1, 2, 3, 4, 5, 6, 7, 8, 9, 10, 11, 12, 13, 14, 15, 16]),
    (⟨(some 145), (some (143, true)), .ld false 1 (.t 144)⟩, [0, 1, 2, 3, 4, 5, 6, 7, 8, 9, 10, 11, 12, 13, 14, 15, 16, 17]),
    (⟨(some 146), (some (143, true)), .iad 1 (.t 145) (.c (.int .i64 0))⟩, [0, 1, 2, 3, 4, 5, 6, 7, 8, 9, 10, 11, 12, 13, 14, 15, 16, 17, 18]),
    (⟨(some 147), (some (143, true)), .ld false 1 (.t 146)⟩, [0, 1, 2, 3, 4, 5, 6, 7, 8, 9, 10, 11, 12, 13, 14, 15, 16, 17, 18, 19]),
    (⟨(some 148), (some (143, true)), .fad 2 (.t 16)⟩, [0, 1, 2, 3, 4, 5, 6, 7, 8, 9, 10, 11, 12, 13, 14, 15, 16]),
    (⟨(some 149), (some (143, true)), .ld false 1 (.t 148)⟩, [0, 1, 2, 3, 4, 5, 6, 7, 8, 9, 10, 11, 12, 13, 14, 15, 16, 21]),
    (⟨(some 150), (some (143, true)), .iad 1 (.t 149) (.c (.int .i64 1))⟩, [0, 1, 2, 3, 4, 5, 6, 7, 8, 9, 10, 11, 12, 13, 14, 15, 16, 21, 22]),
    (⟨(some 151), (some (143, true)), .ld false 1 (.t 150)⟩, [0, 1, 2, 3, 4, 5, 6, 7, 8, 9, 10, 11, 12, 13, 14, 15, 16, 21, 22, 23]),
    (⟨(some 152), (some (143, true)), .bin .eql (.t 147) (.t 151)⟩, [0, 1, 2, 3, 4, 5, 6, 7, 8, 9, 10, 11, 12, 13, 14, 15, 16, 17, 18, 19, 20, 21, 22, 23, 24]),
    (⟨(some 153), (some (143, true)), .mov (.t 11)⟩, [0, 1, 2, 3, 4, 5, 6, 7, 8, 9, 10, 11, 12, 13, 14, 15, 16]),
    (⟨(some 154), (some (143, true)), .eq false .bool (.t 152) (.t 153)⟩, [0, 1, 2, 3, 4, 5, 6, 7, 8, 9, 10, 11, 12, 13, 14, 15, 16, 17, 18, 19, 20, 21, 22, 23, 24, 25, 26]),
    (⟨(some 155), none, .pick (.t 143) (.t 154) (.c (.bool false))⟩, [0, 1, 2, 3, 4, 5, 6, 7, 8, 9, 10, 11, 12, 13, 14, 15, 16, 17, 18, 19, 20, 21, 22, 23, 24, 25, 26, 27]),
    (⟨(some 156), none, .mov (.t 155)⟩, [0, 1, 2, 3, 4, 5, 6, 7, 8, 9, 10, 11, 12, 13, 14, 15, 16, 17, 18, 19, 20, 21, 22, 23, 24, 25, 26, 27, 28]),
    (⟨(some 157), (some (156, true)), .mov (.t 17)⟩, [0, 1, 2, 3, 4, 5, 6, 7, 8, 9, 10, 11, 12, 13, 14, 15, 16, 17, 18, 19, 20, 21, 22, 23, 24, 25, 26, 27, 28, 29]),
    (⟨(some 158), (some (156, true)), .bin .lss (.t 157) (.c (.int .i64 0))⟩, [0, 1, 2, 3, 4, 5, 6, 7, 8, 9, 10, 11, 12, 13, 14, 15, 16, 17, 18, 19, 20, 21, 22, 23, 24, 25, 26, 27, 28, 29, 30]),
    (⟨(some 159), (some (156, true)), .mov (.t 158)⟩, [0, 1, 2, 3, 4, 5, 6, 7, 8, 9, 10, 11, 12, 13, 14, 15, 16, 17, 18, 19, 20, 21, 22, 23, 24, 25, 26, 27, 28, 29, 30, 31]),
    (⟨(some 160), (some (159, false)), .mov (.t 17)⟩, [0, 1, 2, 3, 4, 5, 6, 7, 8, 9, 10, 11, 12, 13, 14, 15, 16, 17, 18, 19, 20, 21, 22, 23, 24, 25, 26, 27, 28, 29, 30, 31, 32]),
    (⟨(some 161), (some (159, false)), .bin .gtr (.t 160) (.c (.int .i64 2305843009213693952))⟩, [0, 1, 2, 3, 4, 5, 6, 7, 8, 9, 10, 11, 12, 13, 14, 15, 16, 17, 18, 19, 20, 21, 22, 23, 24, 25, 26, 27, 28, 29, 30, 31, 32, 33]),
    (⟨(some 162), (some (156, true)), .pick (.t 159) (.c (.bool true)) (.t 161)⟩, [0, 1, 2, 3, 4, 5, 6, 7, 8, 9, 10, 11, 12, 13, 14, 15, 16, 17, 18, 19, 20, 21, 22, 23, 24, 25, 26, 27, 28, 29, 30, 31, 32, 33, 34]),
    (⟨(some 163), (some (156, true)), .mov (.t 162)⟩, [0, 1, 2, 3, 4, 5, 6, 7, 8, 9, 10, 11, 12, 13, 14, 15, 16, 17, 18, 19, 20, 21, 22, 23, 24, 25, 26, 27, 28, 29, 30, 31, 32, 33, 34, 35]),
    (⟨(some 164), (some (163, false)), .mov (.t 12)⟩, [0, 1, 2, 3, 4, 5, 6, 7, 8, 9, 10, 11, 12, 13, 14, 15, 16, 17, 18, 19, 20, 21, 22, 23, 24, 25, 26, 27, 28, 29, 30, 31, 32, 33, 34, 35, 36]),
    (⟨(some 165), (some (163, false)), .call n_tree_Size [(.t 164)]⟩, [0, 1, 2, 3, 4, 5, 6, 7, 8, 9, 10, 11, 12, 13, 14, 15, 16, 17, 18, 19, 20, 21, 22, 23, 24, 25, 26, 27, 28, 29, 30, 31, 32, 33, 34, 35, 36, 37]),
    (⟨(some 166), (some (163, false)), .mov (.t 17)⟩, [0, 1, 2, 3, 4, 5, 6, 7, 8, 9, 10, 11, 12, 13, 14, 15, 16, 17, 18, 19, 20, 21, 22, 23, 24, 25, 26, 27, 28, 29, 30, 31, 32, 33, 34, 35, 36]),
    (⟨(some 167), (some (163, false)), .bin .add (.t 166) (.c (.int .i64 1))⟩, [0, 1, 2, 3, 4, 5, 6, 7, 8, 9, 10, 11, 12, 13, 14, 15, 16, 17, 18, 19, 20, 21, 22, 23, 24, 25, 26, 27, 28, 29, 30, 31, 32, 33, 34, 35, 36, 39]),
    (⟨(some 168), (some (163, false)), .bin .eql (.t 165) (.t 167)⟩, [0, 1, 2, 3, 4, 5, 6, 7, 8, 9, 10, 11, 12, 13, 14, 15, 16, 17, 18, 19, 20, 21, 22, 23, 24, 25, 26, 27, 28, 29, 30, 31, 32, 33, 34, 35, 36, 37, 38, 39, 40]),
    (⟨(some 169), (some (156, true)), .pick (.t 163) (.c (.bool true)) (.t 168)⟩, [0, 1, 2, 3, 4, 5, 6, 7, 8, 9, 10, 11, 12, 13, 14, 15, 16, 17, 18, 19, 20, 21, 22, 23, 24, 25, 26, 27, 28, 29, 30, 31, 32, 33, 34, 35, 36, 37, 38, 39, 40, 41]),
    (⟨(some 170), none, .pick (.t 156) (.t 169) (.c (.bool false))⟩, [0, 1, 2, 3, 4, 5, 6, 7, 8, 9, 10, 11, 12, 13, 14, 15, 16, 17, 18, 19, 20, 21, 22, 23, 24, 25, 26, 27, 28, 29, 30, 31, 32, 33, 34, 35, 36, 37, 38, 39, 40, 41, 42]),
    (⟨(some 171), none, .mov (.t 170)⟩, [0, 1, 2, 3, 4, 5, 6, 7, 8, 9, 10, 11, 12, 13, 14, 15, 16, 17, 18, 19, 20, 21, 22, 23, 24, 25, 26, 27, 28, 29, 30, 31, 32, 33, 34, 35, 36, 37, 38, 39, 40, 41, 42, 43]),
    (⟨(some 172), (some (171, true)), .mov (.t 12)⟩, [0, 1, 2, 3, 4, 5, 6, 7, 8, 9, 10, 11, 12, 13, 14, 15, 16, 17, 18, 19, 20, 21, 22, 23, 24, 25, 26, 27, 28, 29, 30, 31, 32, 33, 34, 35, 36, 37, 38, 39, 40, 41, 42, 43, 44]),
    (⟨(some 173), (some (171, true)), .call n_tree_Depth [(.t 172)]⟩, [0, 1, 2, 3, 4, 5, 6, 7, 8, 9, 10, 11, 12, 13, 14, 15, 16, 17, 18, 19, 20, 21, 22, 23, 24, 25, 26, 27, 28, 29, 30, 31, 32, 33, 34, 35, 36, 37, 38, 39, 40, 41, 42, 43, 44, 45]),
    (⟨(some 174), (some (171, true)), .mov (.t 0)⟩, [0, 1, 2, 3, 4, 5, 6, 7, 8, 9, 10, 11, 12, 13, 14, 15, 16, 17, 18, 19, 20, 21, 22, 23, 24, 25, 26, 27, 28, 29, 30, 31, 32, 33, 34, 35, 36, 37, 38, 39, 40, 41, 42, 43, 44]),
    (⟨(some 175), (some (171, true)), .call n_tree_Depth [(.t 174)]⟩, [0, 1, 2, 3, 4, 5, 6, 7, 8, 9, 10, 11, 12, 13, 14, 15, 16, 17, 18, 19, 20, 21, 22, 23, 24, 25, 26, 27, 28, 29, 30, 31, 32, 33, 34, 35, 36, 37, 38, 39, 40, 41, 42, 43, 44, 45, 46, 47]),
    (⟨(some 176), (some (171, true)), .mov (.t 1)⟩, [0, 1, 2, 3, 4, 5, 6, 7, 8, 9, 10, 11, 12, 13, 14, 15, 16, 17, 18, 19, 20, 21, 22, 23, 24, 25, 26, 27, 28, 29, 30, 31, 32, 33, 34, 35, 36, 37, 38, 39, 40, 41, 42, 43, 44]),
    (⟨(some 177), (some (171, true)), .call n_tree_Depth [(.t 176)]⟩, [0, 1, 2, 3, 4, 5, 6, 7, 8, 9, 10, 11, 12, 13, 14, 15, 16, 17, 18, 19, 20, 21, 22, 23, 24, 25, 26, 27, 28, 29, 30, 31, 32, 33, 34, 35, 36, 37, 38, 39, 40, 41, 42, 43, 44, 45, 46, 47, 48, 49]),
    (⟨(some 178), (some (171, true)), .mxn true [(.t 175), (.t 177)]⟩, [0, 1, 2, 3, 4, 5, 6, 7, 8, 9, 10, 11, 12, 13, 14, 15, 16, 17, 18, 19, 20, 21, 22, 23, 24, 25, 26, 27, 28, 29, 30, 31, 32, 33, 34, 35, 36, 37, 38, 39, 40, 41, 42, 43, 44, 45, 46, 47, 48, 49, 50]),
    (⟨(some 179), (some (171, true)), .bin .add (.c (.int .i64 1)) (.t 178)⟩, [0, 1, 2, 3, 4, 5, 6, 7, 8, 9, 10, 11, 12, 13, 14, 15, 16, 17, 18, 19, 20, 21, 22, 23, 24, 25, 26, 27, 28, 29, 30, 31, 32, 33, 34, 35, 36, 37, 38, 39, 40, 41, 42, 43, 44, 45, 46, 47, 48, 49, 50, 51]),
    (⟨(some 180), (some (171, true)), .bin .eql (.t 173) (.t 179)⟩, [0, 1, 2, 3, 4, 5, 6, 7, 8, 9, 10, 11, 12, 13, 14, 15, 16, 17, 18, 19, 20, 21, 22, 23, 24, 25, 26, 27, 28, 29, 30, 31, 32, 33, 34, 35, 36, 37, 38, 39, 40, 41, 42, 43, 44, 45, 46, 47, 48, 49, 50, 51, 52]),
    (⟨(some 181), none, .pick (.t 171) (.t 180) (.c (.bool false))⟩, [0, 1, 2, 3, 4, 5, 6, 7, 8, 9, 10, 11, 12, 13, 14, 15, 16, 17, 18, 19, 20, 21, 22, 23, 24, 25, 26, 27, 28, 29, 30, 31, 32, 33, 34, 35, 36, 37, 38, 39, 40, 41, 42, 43, 44, 45, 46, 47, 48, 49, 50, 51, 52, 53]),
    (⟨(some 8), none, .mov (.t 181)⟩, [0, 1, 2, 3, 4, 5, 6, 7, 8, 9, 10, 11, 12, 13, 14, 15, 16, 17, 18, 19, 20, 21, 22, 23, 24, 25, 26, 27, 28, 29, 30, 31, 32, 33, 34, 35, 36, 37, 38, 39, 40, 41, 42, 43, 44, 45, 46, 47, 48, 49, 50, 51, 52, 53, 54])] (some [8]))
   (.ret))))))))))))))
def F_law19_TreeSame : F := ⟨i_law19_TreeSame, [(8, none)], false⟩
/-- stratagem/stratagemlaw19.awake -/
def i_law19_awake : IR := .seq (.rg [⟨(some 0), none, .mov (.c (.bool false))⟩] (some []))
   (.seq (.rg [⟨(some 9), none, .bld [.int .i64 0, .int .i64 0, .nsl 1] []⟩,
    ⟨(some 10), none, .bld [.int .i64 0, .int .i64 0, .nsl 1] []⟩,
    ⟨(some 11), none, .bsf (.int .i64 0) 2 [(0, (.c (.int .i64 0))), (1, (.c (.int .i64 1)))]⟩,
    ⟨(some 12), none, .bld [.int .i64 0, .int .i64 0, .nsl 1] [(0, 1, (.c (.int .i64 2))), (2, 1, (.t 11))]⟩,
    ⟨(some 13), none, .bsf (.agg [.int .i64 0, .int .i64 0, .nsl 1]) 3 [(0, (.t 9)), (1, (.t 10)), (2, (.t 12))]⟩,
    ⟨(some 1), none, .mov (.t 13)⟩] (some [1]))
   (.seq (.rg [⟨(some 14), none, .bld [.int .i64 0, .int .i64 0, .nsl 1] []⟩,
    ⟨(some 15), none, .bsf (.int .i64 0) 2 [(0, (.c (.int .i64 0))), (1, (.c (.int .i64 0)))]⟩,
    ⟨(some 16), none, .bld [.int .i64 0, .int .i64 0, .nsl 1] [(0, 1, (.c (.int .i64 2))), (2, 1, (.t 15))]⟩,
    ⟨(some 17), none, .bsf (.agg [.int .i64 0, .int .i64 0, .nsl 1]) 2 [(0, (.t 14)), (1, (.t 16))]⟩,
    ⟨(some 2), none, .mov (.t 17)⟩] (some [1, 2]))
   (.seq (.rg [⟨(some 19), none, .bld [.int .i64 0, .int .i64 0, .nsl 1] []⟩,
    ⟨(some 20), none, .bsf (.agg [.int .i64 0, .int .i64 0, .nsl 1]) 1 [(0, (.t 19))]⟩,
    ⟨(some 21), none, .bld [.int .i64 0, .int .i64 0, .nsl 1] []⟩,
    ⟨(some 22), none, .bsf (.agg [.int .i64 0, .int .i64 0, .nsl 1]) 1 [(0, (.t 21))]⟩,
    ⟨(some 23), none, .bsf (.nsl 3) 2 [(0, (.t 20)), (1, (.t 22))]⟩,
    ⟨(some 24), none, .call n_tree_Plant [(.c (.int .i64 2)), (.c (.int .i64 0)), (.t 23)]⟩,
    ⟨(some 18), none, .mov (.t 24)⟩,
    ⟨(some 25), none, .ext (.t 18) 0⟩,
    ⟨(some 26), none, .ext (.t 18) 1⟩,
    ⟨(some 3), none, .mov (.t 25)⟩,
    ⟨(some 4), none, .mov (.t 26)⟩] (some [1, 2, 3, 4]))
   (.seq (.rg [⟨(some 28), none, .mov (.t 1)⟩,
    ⟨(some 29), none, .bsf (.nsl 3) 1 [(0, (.t 28))]⟩,
    ⟨(some 30), none, .call n_tree_Plant [(.c (.int .i64 1)), (.c (.int .i64 5)), (.t 29)]⟩,
    ⟨(some 27), none, .mov (.t 30)⟩,
    ⟨(some 31), none, .ext (.t 27) 0⟩,
    ⟨(some 32), none, .ext (.t 27) 1⟩,
    ⟨(some 5), none, .mov (.t 31)⟩,
    ⟨(some 6), none, .mov (.t 32)⟩] (some [1, 2, 3, 4, 5, 6]))
   (.seq (.rg [⟨(some 34), none, .mov (.t 1)⟩,
    ⟨(some 35), none, .bsf (.nsl 3) 1 [(0, (.t 34))]⟩,
    ⟨(some 36), none, .call n_tree_Plant [(.c (.int .i64 1)), (.c (.int .i64 64)), (.t 35)]⟩,
    ⟨(some 33), none, .mov (.t 36)⟩,
    ⟨(some 37), none, .ext (.t 33) 0⟩,
    ⟨(some 38), none, .ext (.t 33) 1⟩,
    ⟨(some 7), none, .mov (.t 37)⟩,
    ⟨(some 8), none, .mov (.t 38)⟩] (some [1, 2, 3, 4, 5, 6, 8]))
   (.seq (.rg [⟨(some 39), none, .mov (.t 1)⟩,
    ⟨(some 40), none, .call n_tree_May [(.t 39)]⟩,
    ⟨(some 41), none, .mov (.t 40)⟩,
    ⟨(some 42), (some (41, true)), .call n_tree_May [(.c (.nsl 3))]⟩,
    ⟨(some 43), (some (41, true)), .un .not (.t 42)⟩,
    ⟨(some 44), none, .pick (.t 41) (.t 43) (.c (.bool false))⟩,
    ⟨(some 45), none, .mov (.t 44)⟩,
    ⟨(some 46), (some (45, true)), .bld [.int .i64 0, .int .i64 0, .nsl 1] [(0, 1, (.c (.int .i64 1)))]⟩,
    ⟨(some 47), (some (45, true)), .bsf (.agg [.int .i64 0, .int .i64 0, .nsl 1]) 1 [(0, (.t 46))]⟩,
    ⟨(some 48), (some (45, true)), .call n_tree_May [(.t 47)]⟩,
    ⟨(some 49), (some (45, true)), .un .not (.t 48)⟩,
    ⟨(some 50), none, .pick (.t 45) (.t 49) (.c (.bool false))⟩,
    ⟨(some 51), none, .mov (.t 50)⟩,
    ⟨(some 52), (some (51, true)), .mov (.t 1)⟩,
    ⟨(some 53), (some (51, true)), .call n_tree_Size [(.t 52)]⟩,
    ⟨(some 54), (some (51, true)), .bin .eql (.t 53) (.c (.int .i64 3))⟩,
    ⟨(some 55), none, .pick (.t 51) (.t 54) (.c (.bool false))⟩,
    ⟨(some 56), none, .mov (.t 55)⟩,
    ⟨(some 57), (some (56, true)), .mov (.t 1)⟩,
    ⟨(some 58), (some (56, true)), .call n_tree_Depth [(.t 57)]⟩,
    ⟨(some 59), (some (56, true)), .bin .eql (.t 58) (.c (.int .i64 2))⟩,
    ⟨(some 60), none, .pick (.t 56) (.t 59) (.c (.bool false))⟩,
    ⟨(some 61), none, .mov (.t 60)⟩,
    ⟨(some 62), (some (61, true)), .mov (.t 1)⟩,
    ⟨(some 63), (some (61, true)), .call n_tree_Share [(.t 62)]⟩,
    ⟨(some 64), (some (61, true)), .call n_law19_Own [(.t 63)]⟩,
    ⟨(some 65), (some (61, true)), .mov (.t 2)⟩,
    ⟨(some 66), (some (61, true)), .call n_law19_Own [(.t 65)]⟩,
    ⟨(some 67), (some (61, true)), .call n_ref19_Equal [(.t 64), (.t 66)]⟩,
    ⟨(some 68), none, .pick (.t 61) (.t 67) (.c (.bool false))⟩,
    ⟨(some 69), none, .mov (.t 68)⟩,
    ⟨(some 70), (some (69, true)), .mov (.t 1)⟩,
    ⟨(some 71), (some (69, true)), .mov (.t 2)⟩,
    ⟨(some 72), (some (69, true)), .call n_tree_Same [(.t 70), (.t 71)]⟩,
    ⟨(some 73), none, .pick (.t 69) (.t 72) (.c (.bool false))⟩,
    ⟨(some 74), none, .mov (.t 73)⟩,
    ⟨(some 75), (some (74, true)), .mov (.t 1)⟩,
    ⟨(some 76), (some (74, true)), .bld [.int .i64 0, .int .i64 0, .nsl 1] []⟩,
    ⟨(some 77), (some (74, true)), .bsf (.agg [.int .i64 0, .int .i64 0, .nsl 1]) 1 [(0, (.t 76))]⟩,
    ⟨(some 78), (some (74, true)), .call n_tree_Same [(.t 75), (.t 77)]⟩,
    ⟨(some 79), (some (74, true)), .un .not (.t 78)⟩,
    ⟨(some 80), none, .pick (.t 74) (.t 79) (.c (.bool false))⟩,
    ⟨(some 81), none, .mov (.t 80)⟩,
    ⟨(some 82), (some (81, true)), .mov (.t 4)⟩,
    ⟨(some 83), (some (81, true)), .bin .eql (.t 82) (.c (.int .i64 0))⟩,
    ⟨(some 84), none, .pick (.t 81) (.t 83) (.c (.bool false))⟩,
    ⟨(some 85), none, .mov (.t 84)⟩,
    ⟨(some 86), (some (85, true)), .mov (.t 3)⟩,
    ⟨(some 87), (some (85, true)), .call n_law19_Own [(.t 86)]⟩,
    ⟨(some 88), (some (85, true)), .mov (.t 2)⟩,
    ⟨(some 89), (some (85, true)), .call n_law19_Own [(.t 88)]⟩,
    ⟨(some 90), (some (85, true)), .call n_ref19_Equal [(.t 87), (.t 89)]⟩,
    ⟨(some 91), none, .pick (.t 85) (.t 90) (.c (.bool false))⟩,
    ⟨(some 92), none, .mov (.t 91)⟩,
    ⟨(some 93), (some (92, true)), .mov (.t 6)⟩,
    ⟨(some 94), (some (92, true)), .bin .eql (.t 93) (.c (.int .i64 0))⟩,
    ⟨(some 95), none, .pick (.t 92) (.t 94) (.c (.bool false))⟩,
    ⟨(some 96), none, .mov (.t 95)⟩,
    ⟨(some 97), (some (96, true)), .mov (.t 5)⟩,
    ⟨(some 98), (some (96, true)), .len (.t 97)⟩,
    ⟨(some 99), (some (96, true)), .bin .eql (.t 98) (.c (.int .i64 3))⟩,
    ⟨(some 100), none, .pick (.t 96) (.t 99) (.c (.bool false))⟩,
    ⟨(some 101), none, .mov (.t 100)⟩,
    ⟨(some 102), (some (101, true)), .mov (.t 5)⟩,
    ⟨(some 103), (some (101, true)), .iad 3 (.t 102) (.c (.int .i64 2))⟩,
    ⟨(some 104), (some (101, true)), .fad 1 (.t 103)⟩,
    ⟨(some 105), (some (101, true)), .ld false 1 (.t 104)⟩,
    ⟨(some 106), (some (101, true)), .bin .eql (.t 105) (.c (.int .i64 5))⟩,
    ⟨(some 107), none, .pick (.t 101) (.t 106) (.c (.bool false))⟩,
    ⟨(some 108), none, .mov (.t 107)⟩,
    ⟨(some 109), (some (108, true)), .mov (.t 8)⟩,
    ⟨(some 110), (some (108, true)), .bin .eql (.t 109) (.c (.int .i64 1))⟩,
    ⟨(some 111), none, .pick (.t 108) (.t 110) (.c (.bool false))⟩,
    ⟨(some 0), none, .mov (.t 111)⟩] (some [0]))
   (.ret)))))))
def F_law19_awake : F := ⟨i_law19_awake, [(0, none)], false⟩
/-- stratagem/stratagemlaw19.Large -/
def b_law19_Large_0 : IR := .seq (.rg [⟨(some 13), none, .bin .lss (.t 12) (.t 11)⟩] (some [0, 10, 11, 12, 13]))
   (.seq (.cond (.t 13) (.skip) (.ext 0))
   (.seq (.blk 1 (.seq (.rg [⟨(some 14), none, .iad 3 (.t 10) (.t 12)⟩,
    ⟨(some 15), none, .ld true 3 (.t 14)⟩,
    ⟨(some 4), none, .new (.agg [.int .i64 0, .int .i64 0, .nsl 1])⟩,
    ⟨none, none, .st 3 (.t 4) (.t 15)⟩] (some [0, 4, 10, 11, 12]))
   (.seq (.rg [⟨(some 16), none, .fad 2 (.t 4)⟩,
    ⟨(some 17), none, .ld false 1 (.t 16)⟩,
    ⟨(some 18), none, .len (.t 17)⟩,
    ⟨(some 19), none, .bin .gtr (.t 18) (.c (.int .i64 200))⟩] (some [0, 10, 11, 12, 19]))
   (.cond (.t 19) (.seq (.rg [⟨(some 2), none, .mov (.c (.bool true))⟩] (some [2]))
   (.ret)) (.skip)))))
   (.rg [⟨(some 20), none, .bin .add (.t 12) (.c (.int .i64 1))⟩,
    ⟨(some 12), none, .mov (.t 20)⟩] (some [0, 10, 11, 12]))))
def i_law19_Large_l0 : IR := .loop b_law19_Large_0
theorem r_law19_Large_0 {C : Cx} {Y : Yl} {fr : Fr} {h : List Ob} : evw C Y i_law19_Large_l0 fr h = nxt (evw C Y b_law19_Large_0 fr h) fun fr h => evw C Y i_law19_Large_l0 fr h := w_loop
def i_law19_Large : IR := .seq (.rg [⟨(some 2), none, .mov (.c (.bool false))⟩] (some [0]))
   (.seq (.seq (.rg [⟨(some 7), none, .mov (.t 0)⟩,
    ⟨(some 8), none, .len (.t 7)⟩,
    ⟨(some 9), none, .bin .gtr (.t 8) (.c (.int .i64 200))⟩] (some [0, 9]))
   (.cond (.t 9) (.seq (.rg [⟨(some 2), none, .mov (.c (.bool true))⟩] (some [2]))
   (.ret)) (.skip)))
   (.seq (.seq (.rg [⟨(some 10), none, .mov (.t 0)⟩,
    ⟨(some 11), none, .len (.t 10)⟩,
    ⟨(some 12), none, .mov (.c (.int .i64 0))⟩] (some [0, 10, 11, 12]))
   (.blk 0 (i_law19_Large_l0)))
   (.seq (.seq (.rg [⟨(some 21), none, .mov (.t 0)⟩,
    ⟨(some 22), none, .call n_law19_Own [(.t 21)]⟩,
    ⟨(some 23), none, .call n_ref19_May [(.t 22)]⟩,
    ⟨(some 24), none, .un .not (.t 23)⟩] (some [0, 24]))
   (.cond (.t 24) (.seq (.rg [⟨(some 2), none, .mov (.c (.bool false))⟩] (some [2]))
   (.ret)) (.skip)))
   (.seq (.rg [⟨(some 26), none, .mov (.t 0)⟩,
    ⟨(some 27), none, .call n_law19_Own [(.t 26)]⟩,
    ⟨(some 28), none, .call n_ref19_Sizes [(.t 27)]⟩,
    ⟨(some 25), none, .mov (.t 28)⟩,
    ⟨(some 29), none, .ext (.t 25) 0⟩,
    ⟨(some 30), none, .ext (.t 25) 1⟩,
    ⟨(some 5), none, .mov (.t 29)⟩,
    ⟨(some 6), none, .mov (.t 30)⟩] (some [5]))
   (.seq (.rg [⟨(some 31), none, .mov (.t 5)⟩,
    ⟨(some 32), none, .mov (.t 5)⟩,
    ⟨(some 33), none, .len (.t 32)⟩,
    ⟨(some 34), none, .bin .sub (.t 33) (.c (.int .i64 1))⟩,
    ⟨(some 35), none, .iad 1 (.t 31) (.t 34)⟩,
    ⟨(some 36), none, .ld false 1 (.t 35)⟩,
    ⟨(some 37), none, .bin .gtr (.t 36) (.c (.int .i64 400))⟩,
    ⟨(some 2), none, .mov (.t 37)⟩] (some [2]))
   (.ret))))))
def F_law19_Large : F := ⟨i_law19_Large, [(2, none)], false⟩
/-- stratagem/stratagemlaw19.Own -/
def b_law19_Own_0 : IR := .seq (.rg [⟨(some 10), none, .bin .lss (.t 9) (.t 8)⟩] (some [3, 7, 8, 9, 10]))
   (.seq (.cond (.t 10) (.skip) (.ext 0))
   (.seq (.blk 1 (.seq (.rg [⟨(some 11), none, .iad 3 (.t 7) (.t 9)⟩,
    ⟨(some 12), none, .ld true 3 (.t 11)⟩,
    ⟨(some 5), none, .new (.agg [.int .i64 0, .int .i64 0, .nsl 1])⟩,
    ⟨none, none, .st 3 (.t 5) (.t 12)⟩] (some [3, 5, 7, 8, 9]))
   (.rg [⟨(some 13), none, .mov (.t 3)⟩,
    ⟨(some 14), none, .ld true 3 (.t 5)⟩,
    ⟨(some 15), none, .bsf (.agg [.int .i64 0, .int .i64 0, .nsl 1]) 1 [(0, (.t 14))]⟩,
    ⟨(some 16), none, .app 3 40 (.t 13) (.t 15)⟩,
    ⟨(some 3), none, .mov (.t 16)⟩] (some [3, 7, 8, 9]))))
   (.rg [⟨(some 17), none, .bin .add (.t 9) (.c (.int .i64 1))⟩,
    ⟨(some 9), none, .mov (.t 17)⟩] (some [3, 7, 8, 9]))))
def i_law19_Own_l0 : IR := .loop b_law19_Own_0
theorem r_law19_Own_0 {C : Cx} {Y : Yl} {fr : Fr} {h : List Ob} : evw C Y i_law19_Own_l0 fr h = nxt (evw C Y b_law19_Own_0 fr h) fun fr h => evw C Y i_law19_Own_l0 fr h := w_loop
def i_law19_Own : IR := .seq (.rg [⟨(some 2), none, .mov (.c (.nsl 3))⟩] (some [0]))
   (.seq (.rg [⟨(some 6), none, .bsl (.agg [.int .i64 0, .int .i64 0, .nsl 1]) 0 []⟩,
    ⟨(some 3), none, .mov (.t 6)⟩] (some [0, 3]))
   (.seq (.seq (.rg [⟨(some 7), none, .mov (.t 0)⟩,
    ⟨(some 8), none, .len (.t 7)⟩,
    ⟨(some 9), none, .mov (.c (.int .i64 0))⟩] (some [3, 7, 8, 9]))
   (.blk 0 (i_law19_Own_l0)))
   (.seq (.rg [⟨(some 18), none, .mov (.t 3)⟩,
    ⟨(some 2), none, .mov (.t 18)⟩] (some [2]))
   (.ret))))
def F_law19_Own : F := ⟨i_law19_Own, [(2, none)], false⟩
/-- stratagem/stratagemref19.May -/
def b_ref19_May_0 : IR := .seq (.seq (.rg [⟨(some 29), none, .mov (.t 4)⟩,
    ⟨(some 30), none, .mov (.t 0)⟩,
    ⟨(some 31), none, .mov (.t 3)⟩,
    ⟨(some 32), none, .iad 3 (.t 30) (.t 31)⟩,
    ⟨(some 33), none, .fad 2 (.t 32)⟩,
    ⟨(some 34), none, .ld false 1 (.t 33)⟩,
    ⟨(some 35), none, .len (.t 34)⟩,
    ⟨(some 36), none, .bin .lss (.t 29) (.t 35)⟩] (some [0, 3, 4, 36]))
   (.cond (.t 36) (.skip) (.ext 2)))
   (.seq (.blk 3 (.seq (.rg [⟨(some 39), none, .mov (.t 0)⟩,
    ⟨(some 40), none, .mov (.t 3)⟩,
    ⟨(some 41), none, .iad 3 (.t 39) (.t 40)⟩,
    ⟨(some 42), none, .fad 2 (.t 41)⟩,
    ⟨(some 43), none, .ld false 1 (.t 42)⟩,
    ⟨(some 44), none, .mov (.t 4)⟩,
    ⟨(some 45), none, .iad 1 (.t 43) (.t 44)⟩,
    ⟨(some 46), none, .ld false 1 (.t 45)⟩,
    ⟨(some 47), none, .bin .lss (.t 46) (.c (.int .i64 0))⟩,
    ⟨(some 48), none, .mov (.t 47)⟩,
    ⟨(some 49), (some (48, false)), .mov (.t 0)⟩,
    ⟨(some 50), (some (48, false)), .mov (.t 3)⟩,
    ⟨(some 51), (some (48, false)), .iad 3 (.t 49) (.t 50)⟩,
    ⟨(some 52), (some (48, false)), .fad 2 (.t 51)⟩,
    ⟨(some 53), (some (48, false)), .ld false 1 (.t 52)⟩,
    ⟨(some 54), (some (48, false)), .mov (.t 4)⟩,
    ⟨(some 55), (some (48, false)), .iad 1 (.t 53) (.t 54)⟩,
    ⟨(some 56), (some (48, false)), .ld false 1 (.t 55)⟩,
    ⟨(some 57), (some (48, false)), .mov (.t 3)⟩,
    ⟨(some 58), (some (48, false)), .bin .geq (.t 56) (.t 57)⟩,
    ⟨(some 59), none, .pick (.t 48) (.c (.bool true)) (.t 58)⟩] (some [0, 3, 4, 59]))
   (.cond (.t 59) (.seq (.rg [⟨(some 2), none, .mov (.c (.bool false))⟩] (some [2]))
   (.ret)) (.skip))))
   (.rg [⟨(some 37), none, .mov (.t 4)⟩,
    ⟨(some 38), none, .bin .add (.t 37) (.c (.int .i64 1))⟩,
    ⟨(some 4), none, .mov (.t 38)⟩] (some [0, 3, 4])))
def i_ref19_May_l0 : IR := .loop b_ref19_May_0
theorem r_ref19_May_0 {C : Cx} {Y : Yl} {fr : Fr} {h : List Ob} : evw C Y i_ref19_May_l0 fr h = nxt (evw C Y b_ref19_May_0 fr h) fun fr h => evw C Y i_ref19_May_l0 fr h := w_loop
def b_ref19_May_1 : IR := .seq (.seq (.rg [⟨(some 5), none, .mov (.t 3)⟩,
    ⟨(some 6), none, .mov (.t 0)⟩,
    ⟨(some 7), none, .len (.t 6)⟩,
    ⟨(some 8), none, .bin .lss (.t 5) (.t 7)⟩] (some [0, 3, 8]))
   (.cond (.t 8) (.skip) (.ext 0)))
   (.seq (.blk 1 (.seq (.seq (.dq [(⟨(some 11), none, .mov (.t 0)⟩, []),
    (⟨(some 12), none, .mov (.t 3)⟩, []),
    (⟨(some 13), none, .iad 3 (.t 11) (.t 12)⟩, [0, 1]),
    (⟨(some 14), none, .fad 0 (.t 13)⟩, [0, 1, 2]),
    (⟨(some 15), none, .ld false 1 (.t 14)⟩, [0, 1, 2, 3]),
    (⟨(some 16), none, .mov (.t 0)⟩, []),
    (⟨(some 17), none, .mov (.t 3)⟩, []),
    (⟨(some 18), none, .iad 3 (.t 16) (.t 17)⟩, [5, 6]),
    (⟨(some 19), none, .fad 1 (.t 18)⟩, [5, 6, 7]),
    (⟨(some 20), none, .ld false 1 (.t 19)⟩, [5, 6, 7, 8]),
    (⟨(some 21), none, .mov (.t 0)⟩, []),
    (⟨(some 22), none, .mov (.t 3)⟩, []),
    (⟨(some 23), none, .iad 3 (.t 21) (.t 22)⟩, [10, 11]),
    (⟨(some 24), none, .fad 2 (.t 23)⟩, [10, 11, 12]),
    (⟨(some 25), none, .ld false 1 (.t 24)⟩, [10, 11, 12, 13]),
    (⟨(some 26), none, .len (.t 25)⟩, [10, 11, 12, 13, 14]),
    (⟨(some 27), none, .call n_ref19_Fits [(.t 15), (.t 20), (.t 26)]⟩, [0, 1, 2, 3, 4, 5, 6, 7, 8, 9, 10, 11, 12, 13, 14, 15]),
    (⟨(some 28), none, .un .not (.t 27)⟩, [0, 1, 2, 3, 4, 5, 6, 7, 8, 9, 10, 11, 12, 13, 14, 15, 16])] (some [0, 3, 28]))
   (.cond (.t 28) (.seq (.rg [⟨(some 2), none, .mov (.c (.bool false))⟩] (some [2]))
   (.ret)) (.skip)))
   (.seq (.rg [⟨(some 4), none, .mov (.c (.int .i64 0))⟩] (some [0, 3, 4]))
   (.blk 2 (i_ref19_May_l0)))))
   (.rg [⟨(some 9), none, .mov (.t 3)⟩,
    ⟨(some 10), none, .bin .add (.t 9) (.c (.int .i64 1))⟩,
    ⟨(some 3), none, .mov (.t 10)⟩] (some [0, 3])))
def i_ref19_May_l1 : IR := .loop b_ref19_May_1
theorem r_ref19_May_1 {C : Cx} {Y : Yl} {fr : Fr} {h : List Ob} : evw C Y i_ref19_May_l1 fr h = nxt (evw C Y b_ref19_May_1 fr h) fun fr h => evw C Y i_ref19_May_l1 fr h := w_loop
def i_ref19_May : IR := .seq (.rg [⟨(some 2), none, .mov (.c (.bool false))⟩] (some [0]))
   (.seq (.seq (.rg [⟨(some 3), none, .mov (.c (.int .i64 0))⟩] (some [0, 3]))
   (.blk 0 (i_ref19_May_l1)))
   (.seq (.rg [⟨(some 60), none, .mov (.t 0)⟩,
    ⟨(some 61), none, .len (.t 60)⟩,
    ⟨(some 62), none, .bin .geq (.t 61) (.c (.int .i64 1))⟩,
    ⟨(some 63), none, .mov (.t 62)⟩,
    ⟨(some 64), (some (63, true)), .mov (.t 0)⟩,
    ⟨(some 65), (some (63, true)), .len (.t 64)⟩,
    ⟨(some 66), (some (63, true)), .bin .leq (.t 65) (.c (.int .i64 100000))⟩,
    ⟨(some 67), none, .pick (.t 63) (.t 66) (.c (.bool false))⟩,
    ⟨(some 2), none, .mov (.t 67)⟩] (some [2]))
   (.ret)))
def F_ref19_May : F := ⟨i_ref19_May, [(2, none)], false⟩
/-- stratagem/stratagemref19.Sizes -/
def b_ref19_Sizes_0 : IR := .seq (.seq (.rg [⟨(some 19), none, .mov (.t 9)⟩,
    ⟨(some 20), none, .mov (.t 0)⟩,
    ⟨(some 21), none, .mov (.t 6)⟩,
    ⟨(some 22), none, .iad 3 (.t 20) (.t 21)⟩,
    ⟨(some 23), none, .fad 2 (.t 22)⟩,
    ⟨(some 24), none, .ld false 1 (.t 23)⟩,
    ⟨(some 25), none, .len (.t 24)⟩,
    ⟨(some 26), none, .bin .lss (.t 19) (.t 25)⟩] (some [0, 4, 5, 6, 7, 8, 9, 26]))
   (.cond (.t 26) (.skip) (.ext 2)))
   (.seq (.blk 3 (.seq (.rg [⟨(some 29), none, .mov (.t 0)⟩,
    ⟨(some 30), none, .mov (.t 6)⟩,
    ⟨(some 31), none, .iad 3 (.t 29) (.t 30)⟩,
    ⟨(some 32), none, .fad 2 (.t 31)⟩,
    ⟨(some 33), none, .ld false 1 (.t 32)⟩,
    ⟨(some 34), none, .mov (.t 9)⟩,
    ⟨(some 35), none, .iad 1 (.t 33) (.t 34)⟩,
    ⟨(some 36), none, .ld false 1 (.t 35)⟩,
    ⟨(some 10), none, .mov (.t 36)⟩] (some [0, 4, 5, 6, 7, 8, 9, 10]))
   (.seq (.seq (.rg [⟨(some 37), none, .mov (.t 4)⟩,
    ⟨(some 38), none, .mov (.t 10)⟩,
    ⟨(some 39), none, .iad 1 (.t 37) (.t 38)⟩,
    ⟨(some 40), none, .ld false 1 (.t 39)⟩,
    ⟨(some 41), none, .mov (.t 7)⟩,
    ⟨(some 42), none, .bin .sub (.c (.int .i64 9223372036854775807)) (.t 41)⟩,
    ⟨(some 43), none, .bin .gtr (.t 40) (.t 42)⟩] (some [0, 4, 5, 6, 7, 8, 9, 10, 43]))
   (.cond (.t 43) (.rg [⟨(some 7), none, .mov (.c (.int .i64 9223372036854775807))⟩] (some [0, 4, 5, 6, 7, 8, 9, 10])) (.rg [⟨(some 44), none, .mov (.t 7)⟩,
    ⟨(some 45), none, .mov (.t 4)⟩,
    ⟨(some 46), none, .mov (.t 10)⟩,
    ⟨(some 47), none, .iad 1 (.t 45) (.t 46)⟩,
    ⟨(some 48), none, .ld false 1 (.t 47)⟩,
    ⟨(some 49), none, .bin .add (.t 44) (.t 48)⟩,
    ⟨(some 7), none, .mov (.t 49)⟩] (some [0, 4, 5, 6, 7, 8, 9, 10]))))
   (.seq (.rg [⟨(some 50), none, .mov (.t 5)⟩,
    ⟨(some 51), none, .mov (.t 10)⟩,
    ⟨(some 52), none, .iad 1 (.t 50) (.t 51)⟩,
    ⟨(some 53), none, .ld false 1 (.t 52)⟩,
    ⟨(some 54), none, .bin .add (.t 53) (.c (.int .i64 1))⟩,
    ⟨(some 55), none, .mov (.t 8)⟩,
    ⟨(some 56), none, .bin .gtr (.t 54) (.t 55)⟩] (some [0, 4, 5, 6, 7, 8, 9, 10, 56]))
   (.cond (.t 56) (.rg [⟨(some 57), none, .mov (.t 5)⟩,
    ⟨(some 58), none, .mov (.t 10)⟩,
    ⟨(some 59), none, .iad 1 (.t 57) (.t 58)⟩,
    ⟨(some 60), none, .ld false 1 (.t 59)⟩,
    ⟨(some 61), none, .bin .add (.t 60) (.c (.int .i64 1))⟩,
    ⟨(some 8), none, .mov (.t 61)⟩] (some [0, 4, 5, 6, 7, 8, 9])) (.skip))))))
   (.rg [⟨(some 27), none, .mov (.t 9)⟩,
    ⟨(some 28), none, .bin .add (.t 27) (.c (.int .i64 1))⟩,
    ⟨(some 9), none, .mov (.t 28)⟩] (some [0, 4, 5, 6, 7, 8, 9])))
def i_ref19_Sizes_l0 : IR := .loop b_ref19_Sizes_0
theorem r_ref19_Sizes_0 {C : Cx} {Y : Yl} {fr : Fr} {h : List Ob} : evw C Y i_ref19_Sizes_l0 fr h = nxt (evw C Y b_ref19_Sizes_0 fr h) fun fr h => evw C Y i_ref19_Sizes_l0 fr h := w_loop
def b_ref19_Sizes_1 : IR := .seq (.seq (.rg [⟨(some 13), none, .mov (.t 6)⟩,
    ⟨(some 14), none, .mov (.t 0)⟩,
    ⟨(some 15), none, .len (.t 14)⟩,
    ⟨(some 16), none, .bin .lss (.t 13) (.t 15)⟩] (some [0, 4, 5, 6, 16]))
   (.cond (.t 16) (.skip) (.ext 0)))
   (.seq (.blk 1 (.seq (.rg [⟨(some 7), none, .mov (.c (.int .i64 1))⟩] (some [0, 4, 5, 6, 7]))
   (.seq (.rg [⟨(some 8), none, .mov (.c (.int .i64 1))⟩] (some [0, 4, 5, 6, 7, 8]))
   (.seq (.seq (.rg [⟨(some 9), none, .mov (.c (.int .i64 0))⟩] (some [0, 4, 5, 6, 7, 8, 9]))
   (.blk 2 (i_ref19_Sizes_l0)))
   (.seq (.rg [⟨(some 62), none, .mov (.t 4)⟩,
    ⟨(some 63), none, .mov (.t 7)⟩,
    ⟨(some 64), none, .bsf (.int .i64 0) 1 [(0, (.t 63))]⟩,
    ⟨(some 65), none, .app 1 8 (.t 62) (.t 64)⟩,
    ⟨(some 4), none, .mov (.t 65)⟩] (some [0, 4, 5, 6, 8]))
   (.rg [⟨(some 66), none, .mov (.t 5)⟩,
    ⟨(some 67), none, .mov (.t 8)⟩,
    ⟨(some 68), none, .bsf (.int .i64 0) 1 [(0, (.t 67))]⟩,
    ⟨(some 69), none, .app 1 8 (.t 66) (.t 68)⟩,
    ⟨(some 5), none, .mov (.t 69)⟩] (some [0, 4, 5, 6])))))))
   (.rg [⟨(some 17), none, .mov (.t 6)⟩,
    ⟨(some 18), none, .bin .add (.t 17) (.c (.int .i64 1))⟩,
    ⟨(some 6), none, .mov (.t 18)⟩] (some [0, 4, 5, 6])))
def i_ref19_Sizes_l1 : IR := .loop b_ref19_Sizes_1
theorem r_ref19_Sizes_1 {C : Cx} {Y : Yl} {fr : Fr} {h : List Ob} : evw C Y i_ref19_Sizes_l1 fr h = nxt (evw C Y b_ref19_Sizes_1 fr h) fun fr h => evw C Y i_ref19_Sizes_l1 fr h := w_loop
def i_ref19_Sizes : IR := .seq (.rg [⟨(some 2), none, .mov (.c (.nsl 1))⟩,
    ⟨(some 3), none, .mov (.c (.nsl 1))⟩] (some [0]))
   (.seq (.rg [⟨(some 11), none, .bsl (.int .i64 0) 0 []⟩,
    ⟨(some 4), none, .mov (.t 11)⟩] (some [0, 4]))
   (.seq (.rg [⟨(some 12), none, .bsl (.int .i64 0) 0 []⟩,
    ⟨(some 5), none, .mov (.t 12)⟩] (some [0, 4, 5]))
   (.seq (.seq (.rg [⟨(some 6), none, .mov (.c (.int .i64 0))⟩] (some [0, 4, 5, 6]))
   (.blk 0 (i_ref19_Sizes_l1)))
   (.seq (.rg [⟨(some 70), none, .mov (.t 4)⟩,
    ⟨(some 71), none, .mov (.t 5)⟩,
    ⟨(some 2), none, .mov (.t 70)⟩,
    ⟨(some 3), none, .mov (.t 71)⟩] (some [2, 3]))
   (.ret)))))
def F_ref19_Sizes : F := ⟨i_ref19_Sizes, [(2, none), (3, none)], false⟩
/-- stratagem/stratagemref19.Text -/
def i_ref19_Text : IR := .seq (.rg [⟨(some 2), none, .mov (.c (.str []))⟩] (some [0]))
   (.seq (.rg [⟨(some 8), none, .mov (.t 0)⟩,
    ⟨(some 9), none, .mov (.t 0)⟩,
    ⟨(some 10), none, .len (.t 9)⟩,
    ⟨(some 11), none, .bin .sub (.t 10) (.c (.int .i64 1))⟩,
    ⟨(some 12), none, .call n_ref19_walk [(.t 8), (.t 11), (.c (.nsl 1)), (.c (.nsl 3))]⟩,
    ⟨(some 7), none, .mov (.t 12)⟩,
    ⟨(some 13), none, .ext (.t 7) 0⟩,
    ⟨(some 14), none, .ext (.t 7) 1⟩,
    ⟨(some 15), none, .ext (.t 7) 2⟩,
    ⟨(some 16), none, .ext (.t 7) 3⟩,
    ⟨(some 3), none, .mov (.t 13)⟩,
    ⟨(some 4), none, .mov (.t 14)⟩,
    ⟨(some 5), none, .mov (.t 15)⟩,
    ⟨(some 6), none, .mov (.t 16)⟩] (some [3]))
   (.seq (.rg [⟨(some 17), none, .mov (.t 3)⟩,
    ⟨(some 2), none, .mov (.t 17)⟩] (some [2]))
   (.ret)))
def F_ref19_Text : F := ⟨i_ref19_Text, [(2, none)], false⟩
/-- stratagem/tree.May -/
def b_tree_May_0 : IR := .seq (.rg [⟨(some 16), none, .bin .lss (.t 15) (.t 14)⟩] (some [13, 14, 15, 16]))
   (.seq (.cond (.t 16) (.skip) (.ext 0))
   (.seq (.blk 1 (.seq (.rg [⟨(some 17), none, .mov (.t 15)⟩,
    ⟨(some 18), none, .iad 3 (.t 13) (.t 15)⟩,
    ⟨(some 19), none, .ld true 3 (.t 18)⟩,
    ⟨(some 3), none, .new (.int .i64 0)⟩,
    ⟨(some 4), none, .new (.agg [.int .i64 0, .int .i64 0, .nsl 1])⟩,
    ⟨none, none, .st 1 (.t 3) (.t 17)⟩,
    ⟨none, none, .st 3 (.t 4) (.t 19)⟩] (some [3, 4, 13, 14, 15]))
   (.seq (.rg [⟨(some 20), none, .fad 0 (.t 4)⟩,
    ⟨(some 21), none, .ld false 1 (.t 20)⟩,
    ⟨(some 22), none, .fad 1 (.t 4)⟩,
    ⟨(some 23), none, .ld false 1 (.t 22)⟩,
    ⟨(some 24), none, .fad 2 (.t 4)⟩,
    ⟨(some 25), none, .ld false 1 (.t 24)⟩,
    ⟨(some 26), none, .len (.t 25)⟩,
    ⟨(some 27), none, .call n_tree_fits [(.t 21), (.t 23), (.t 26)]⟩,
    ⟨(some 28), none, .un .not (.t 27)⟩,
    ⟨(some 29), none, .mov (.t 28)⟩,
    ⟨(some 30), (some (29, false)), .fad 2 (.t 4)⟩,
    ⟨(some 31), (some (29, false)), .ld false 1 (.t 30)⟩,
    ⟨(some 32), (some (29, false)), .mkf (.func n_tree_May_1) [] [(.t 3)]⟩,
    ⟨(some 33), (some (29, false)), .call n_slices_ContainsFunc_sint_int [(.t 31), (.t 32)]⟩,
    ⟨(some 34), none, .pick (.t 29) (.c (.bool true)) (.t 33)⟩] (some [13, 14, 15, 34]))
   (.cond (.t 34) (.seq (.rg [⟨(some 2), none, .mov (.c (.bool false))⟩] (some [2]))
   (.ret)) (.skip)))))
   (.rg [⟨(some 35), none, .bin .add (.t 15) (.c (.int .i64 1))⟩,
    ⟨(some 15), none, .mov (.t 35)⟩] (some [13, 14, 15]))))
def i_tree_May_l0 : IR := .loop b_tree_May_0
theorem r_tree_May_0 {C : Cx} {Y : Yl} {fr : Fr} {h : List Ob} : evw C Y i_tree_May_l0 fr h = nxt (evw C Y b_tree_May_0 fr h) fun fr h => evw C Y i_tree_May_l0 fr h := w_loop
def i_tree_May : IR := .seq (.rg [⟨(some 2), none, .mov (.c (.bool false))⟩] (some [0]))
   (.seq (.seq (.rg [⟨(some 5), none, .mov (.t 0)⟩,
    ⟨(some 6), none, .len (.t 5)⟩,
    ⟨(some 7), none, .bin .eql (.t 6) (.c (.int .i64 0))⟩,
    ⟨(some 8), none, .mov (.t 7)⟩,
    ⟨(some 9), (some (8, false)), .mov (.t 0)⟩,
    ⟨(some 10), (some (8, false)), .len (.t 9)⟩,
    ⟨(some 11), (some (8, false)), .bin .gtr (.t 10) (.c (.int .i64 100000))⟩,
    ⟨(some 12), none, .pick (.t 8) (.c (.bool true)) (.t 11)⟩] (some [0, 12]))
   (.cond (.t 12) (.seq (.rg [⟨(some 2), none, .mov (.c (.bool false))⟩] (some [2]))
   (.ret)) (.skip)))
   (.seq (.seq (.rg [⟨(some 13), none, .mov (.t 0)⟩,
    ⟨(some 14), none, .len (.t 13)⟩,
    ⟨(some 15), none, .mov (.c (.int .i64 0))⟩] (some [13, 14, 15]))
   (.blk 0 (i_tree_May_l0)))
   (.seq (.rg [⟨(some 2), none, .mov (.c (.bool true))⟩] (some [2]))
   (.ret))))
def F_tree_May : F := ⟨i_tree_May, [(2, none)], false⟩
/-- stratagem/tree.Size -/
def i_tree_Size : IR := .seq (.rg [⟨(some 2), none, .mov (.c (.int .i64 0))⟩] (some [0]))
   (.seq (.rg [⟨(some 4), none, .mov (.t 0)⟩,
    ⟨(some 5), none, .mkf (.func n_tree_Tree_up) [(.t 4)] []⟩,
    ⟨(some 3), none, .mov (.t 5)⟩] (some [3]))
   (.seq (.rg [⟨(some 6), none, .mov (.t 3)⟩,
    ⟨(some 7), none, .callv (.t 6) [(.c (.fn (.func n_tree_Size_1) [] []))]⟩,
    ⟨(some 2), none, .mov (.t 7)⟩] (some [2]))
   (.ret)))
def F_tree_Size : F := ⟨i_tree_Size, [(2, none)], false⟩
/-- stratagem/tree.Depth -/
def i_tree_Depth : IR := .seq (.rg [⟨(some 2), none, .mov (.c (.int .i64 0))⟩] (some [0]))
   (.seq (.rg [⟨(some 4), none, .mov (.t 0)⟩,
    ⟨(some 5), none, .mkf (.func n_tree_Tree_up) [(.t 4)] []⟩,
    ⟨(some 3), none, .mov (.t 5)⟩] (some [3]))
   (.seq (.rg [⟨(some 6), none, .mov (.t 3)⟩,
    ⟨(some 7), none, .callv (.t 6) [(.c (.fn (.func n_tree_Depth_1) [] []))]⟩,
    ⟨(some 2), none, .mov (.t 7)⟩] (some [2]))
   (.ret)))
def F_tree_Depth : F := ⟨i_tree_Depth, [(2, none)], false⟩
/-- stratagem/tree.Same -/
def i_tree_Same : IR := .seq (.rg [⟨(some 4), none, .mov (.c (.bool false))⟩] (some [0, 1]))
   (.seq (.rg [⟨(some 8), none, .mov (.t 0)⟩,
    ⟨(some 9), none, .call n_tree_Share [(.t 8)]⟩,
    ⟨(some 10), none, .mov (.t 1)⟩,
    ⟨(some 11), none, .call n_tree_Share [(.t 10)]⟩,
    ⟨(some 5), none, .mov (.t 9)⟩,
    ⟨(some 6), none, .mov (.t 11)⟩] (some [5, 6]))
   (.seq (.rg [⟨(some 7), none, .mov (.c (.fn (.func n_tree_Same_1) [] []))⟩] (some [5, 6, 7]))
   (.seq (.rg [⟨(some 12), none, .mov (.t 5)⟩,
    ⟨(some 13), none, .len (.t 12)⟩,
    ⟨(some 14), none, .bin .gtr (.t 13) (.c (.int .i64 0))⟩,
    ⟨(some 15), none, .mov (.t 14)⟩,
    ⟨(some 16), (some (15, true)), .mov (.t 5)⟩,
    ⟨(some 17), (some (15, true)), .mov (.t 6)⟩,
    ⟨(some 18), (some (15, true)), .mov (.t 7)⟩,
    ⟨(some 19), (some (15, true)), .call n_slices_EqualFunc_tree_Tree_tree_Tree_tree_Node_tree_Node [(.t 16), (.t 17), (.t 18)]⟩,
    ⟨(some 20), none, .pick (.t 15) (.t 19) (.c (.bool false))⟩,
    ⟨(some 4), none, .mov (.t 20)⟩] (some [4]))
   (.ret))))
def F_tree_Same : F := ⟨i_tree_Same, [(4, none)], false⟩
/-- stratagem/stratagemref19.Equal -/
def b_ref19_Equal_0 : IR := .seq (.seq (.rg [⟨(some 57), none, .mov (.t 6)⟩,
    ⟨(some 58), none, .mov (.t 0)⟩,
    ⟨(some 59), none, .mov (.t 5)⟩,
    ⟨(some 60), none, .iad 3 (.t 58) (.t 59)⟩,
    ⟨(some 61), none, .fad 2 (.t 60)⟩,
    ⟨(some 62), none, .ld false 1 (.t 61)⟩,
    ⟨(some 63), none, .len (.t 62)⟩,
    ⟨(some 64), none, .bin .lss (.t 57) (.t 63)⟩] (some [0, 1, 5, 6, 64]))
   (.cond (.t 64) (.skip) (.ext 2)))
   (.seq (.blk 3 (.seq (.dq [(⟨(some 67), none, .mov (.t 0)⟩, []),
    (⟨(some 68), none, .mov (.t 5)⟩, []),
    (⟨(some 69), none, .iad 3 (.t 67) (.t 68)⟩, [0, 1]),
    (⟨(some 70), none, .fad 2 (.t 69)⟩, [0, 1, 2]),
    (⟨(some 71), none, .ld false 1 (.t 70)⟩, [0, 1, 2, 3]),
    (⟨(some 72), none, .mov (.t 6)⟩, []),
    (⟨(some 73), none, .iad 1 (.t 71) (.t 72)⟩, [0, 1, 2, 3, 4, 5]),
    (⟨(some 74), none, .ld false 1 (.t 73)⟩, [0, 1, 2, 3, 4, 5, 6]),
    (⟨(some 75), none, .mov (.t 1)⟩, []),
    (⟨(some 76), none, .mov (.t 5)⟩, []),
    (⟨(some 77), none, .iad 3 (.t 75) (.t 76)⟩, [8, 9]),
    (⟨(some 78), none, .fad 2 (.t 77)⟩, [8, 9, 10]),
    (⟨(some 79), none, .ld false 1 (.t 78)⟩, [8, 9, 10, 11]),
    (⟨(some 80), none, .mov (.t 6)⟩, []),
    (⟨(some 81), none, .iad 1 (.t 79) (.t 80)⟩, [8, 9, 10, 11, 12, 13]),
    (⟨(some 82), none, .ld false 1 (.t 81)⟩, [8, 9, 10, 11, 12, 13, 14]),
    (⟨(some 83), none, .bin .neq (.t 74) (.t 82)⟩, [0, 1, 2, 3, 4, 5, 6, 7, 8, 9, 10, 11, 12, 13, 14, 15])] (some [0, 1, 5, 6, 83]))
   (.cond (.t 83) (.seq (.rg [⟨(some 4), none, .mov (.c (.bool false))⟩] (some [4]))
   (.ret)) (.skip))))
   (.rg [⟨(some 65), none, .mov (.t 6)⟩,
    ⟨(some 66), none, .bin .add (.t 65) (.c (.int .i64 1))⟩,
    ⟨(some 6), none, .mov (.t 66)⟩] (some [0, 1, 5, 6])))
def i_ref19_Equal_l0 : IR := .loop b_ref19_Equal_0
theorem r_ref19_Equal_0 {C : Cx} {Y : Yl} {fr : Fr} {h : List Ob} : evw C Y i_ref19_Equal_l0 fr h = nxt (evw C Y b_ref19_Equal_0 fr h) fun fr h => evw C Y i_ref19_Equal_l0 fr h := w_loop
def b_ref19_Equal_1 : IR := .seq (.seq (.rg [⟨(some 12), none, .mov (.t 5)⟩,
    ⟨(some 13), none, .mov (.t 0)⟩,
    ⟨(some 14), none, .len (.t 13)⟩,
    ⟨(some 15), none, .bin .lss (.t 12) (.t 14)⟩] (some [0, 1, 5, 15]))
   (.cond (.t 15) (.skip) (.ext 0)))
   (.seq (.blk 1 (.seq (.seq (.dq [(⟨(some 18), none, .mov (.t 0)⟩, []),
    (⟨(some 19), none, .mov (.t 5)⟩, []),
    (⟨(some 20), none, .iad 3 (.t 18) (.t 19)⟩, [0, 1]),
    (⟨(some 21), none, .fad 0 (.t 20)⟩, [0, 1, 2]),
    (⟨(some 22), none, .ld false 1 (.t 21)⟩, [0, 1, 2, 3]),
    (⟨(some 23), none, .mov (.t 1)⟩, []),
    (⟨(some 24), none, .mov (.t 5)⟩, []),
    (⟨(some 25), none, .iad 3 (.t 23) (.t 24)⟩, [5, 6]),
    (⟨(some 26), none, .fad 0 (.t 25)⟩, [5, 6, 7]),
    (⟨(some 27), none, .ld false 1 (.t 26)⟩, [5, 6, 7, 8]),
    (⟨(some 28), none, .bin .neq (.t 22) (.t 27)⟩, [0, 1, 2, 3, 4, 5, 6, 7, 8, 9]),
    (⟨(some 29), none, .mov (.t 28)⟩, [0, 1, 2, 3, 4, 5, 6, 7, 8, 9, 10]),
    (⟨(some 30), (some (29, false)), .mov (.t 0)⟩, [0, 1, 2, 3, 4, 5, 6, 7, 8, 9, 10, 11]),
    (⟨(some 31), (some (29, false)), .mov (.t 5)⟩, [0, 1, 2, 3, 4, 5, 6, 7, 8, 9, 10, 11]),
    (⟨(some 32), (some (29, false)), .iad 3 (.t 30) (.t 31)⟩, [0, 1, 2, 3, 4, 5, 6, 7, 8, 9, 10, 11, 12, 13]),
    (⟨(some 33), (some (29, false)), .fad 1 (.t 32)⟩, [0, 1, 2, 3, 4, 5, 6, 7, 8, 9, 10, 11, 12, 13, 14]),
    (⟨(some 34), (some (29, false)), .ld false 1 (.t 33)⟩, [0, 1, 2, 3, 4, 5, 6, 7, 8, 9, 10, 11, 12, 13, 14, 15]),
    (⟨(some 35), (some (29, false)), .mov (.t 1)⟩, [0, 1, 2, 3, 4, 5, 6, 7, 8, 9, 10, 11]),
    (⟨(some 36), (some (29, false)), .mov (.t 5)⟩, [0, 1, 2, 3, 4, 5, 6, 7, 8, 9, 10, 11]),
    (⟨(some 37), (some (29, false)), .iad 3 (.t 35) (.t 36)⟩, [0, 1, 2, 3, 4, 5, 6, 7, 8, 9, 10, 11, 17, 18]),
    (⟨(some 38), (some (29, false)), .fad 1 (.t 37)⟩, [0, 1, 2, 3, 4, 5, 6, 7, 8, 9, 10, 11, 17, 18, 19]),
    (⟨(some 39), (some (29, false)), .ld false 1 (.t 38)⟩, [0, 1, 2, 3, 4, 5, 6, 7, 8, 9, 10, 11, 17, 18, 19, 20]),
    (⟨(some 40), (some (29, false)), .bin .neq (.t 34) (.t 39)⟩, [0, 1, 2, 3, 4, 5, 6, 7, 8, 9, 10, 11, 12, 13, 14, 15, 16, 17, 18, 19, 20, 21]),
    (⟨(some 41), none, .pick (.t 29) (.c (.bool true)) (.t 40)⟩, [0, 1, 2, 3, 4, 5, 6, 7, 8, 9, 10, 11, 12, 13, 14, 15, 16, 17, 18, 19, 20, 21, 22]),
    (⟨(some 42), none, .mov (.t 41)⟩, [0, 1, 2, 3, 4, 5, 6, 7, 8, 9, 10, 11, 12, 13, 14, 15, 16, 17, 18, 19, 20, 21, 22, 23]),
    (⟨(some 43), (some (42, false)), .mov (.t 0)⟩, [0, 1, 2, 3, 4, 5, 6, 7, 8, 9, 10, 11, 12, 13, 14, 15, 16, 17, 18, 19, 20, 21, 22, 23, 24]),
    (⟨(some 44), (some (42, false)), .mov (.t 5)⟩, [0, 1, 2, 3, 4, 5, 6, 7, 8, 9, 10, 11, 12, 13, 14, 15, 16, 17, 18, 19, 20, 21, 22, 23, 24]),
    (⟨(some 45), (some (42, false)), .iad 3 (.t 43) (.t 44)⟩, [0, 1, 2, 3, 4, 5, 6, 7, 8, 9, 10, 11, 12, 13, 14, 15, 16, 17, 18, 19, 20, 21, 22, 23, 24, 25, 26]),
    (⟨(some 46), (some (42, false)), .fad 2 (.t 45)⟩, [0, 1, 2, 3, 4, 5, 6, 7, 8, 9, 10, 11, 12, 13, 14, 15, 16, 17, 18, 19, 20, 21, 22, 23, 24, 25, 26, 27]),
    (⟨(some 47), (some (42, false)), .ld false 1 (.t 46)⟩, [0, 1, 2, 3, 4, 5, 6, 7, 8, 9, 10, 11, 12, 13, 14, 15, 16, 17, 18, 19, 20, 21, 22, 23, 24, 25, 26, 27, 28]),
    (⟨(some 48), (some (42, false)), .len (.t 47)⟩, [0, 1, 2, 3, 4, 5, 6, 7, 8, 9, 10, 11, 12, 13, 14, 15, 16, 17, 18, 19, 20, 21, 22, 23, 24, 25, 26, 27, 28, 29]),
    (⟨(some 49), (some (42, false)), .mov (.t 1)⟩, [0, 1, 2, 3, 4, 5, 6, 7, 8, 9, 10, 11, 12, 13, 14, 15, 16, 17, 18, 19, 20, 21, 22, 23, 24]),
    (⟨(some 50), (some (42, false)), .mov (.t 5)⟩, [0, 1, 2, 3, 4, 5, 6, 7, 8, 9, 10, 11, 12, 13, 14, 15, 16, 17, 18, 19, 20, 21, 22, 23, 24]),
    (⟨(some 51), (some (42, false)), .iad 3 (.t 49) (.t 50)⟩, [0, 1, 2, 3, 4, 5, 6, 7, 8, 9, 10, 11, 12, 13, 14, 15, 16, 17, 18, 19, 20, 21, 22, 23, 24, 31, 32]),
    (⟨(some 52), (some (42, false)), .fad 2 (.t 51)⟩, [0, 1, 2, 3, 4, 5, 6, 7, 8, 9, 10, 11, 12, 13, 14, 15, 16, 17, 18, 19, 20, 21, 22, 23, 24, 31, 32, 33]),
    (⟨(some 53), (some (42, false)), .ld false 1 (.t 52)⟩, [0, 1, 2, 3, 4, 5, 6, 7, 8, 9, 10, 11, 12, 13, 14, 15, 16, 17, 18, 19, 20, 21, 22, 23, 24, 31, 32, 33, 34]),
    (⟨(some 54), (some (42, false)), .len (.t 53)⟩, [0, 1, 2, 3, 4, 5, 6, 7, 8, 9, 10, 11, 12, 13, 14, 15, 16, 17, 18, 19, 20, 21, 22, 23, 24, 31, 32, 33, 34, 35]),
    (⟨(some 55), (some (42, false)), .bin .neq (.t 48) (.t 54)⟩, [0, 1, 2, 3, 4, 5, 6, 7, 8, 9, 10, 11, 12, 13, 14, 15, 16, 17, 18, 19, 20, 21, 22, 23, 24, 25, 26, 27, 28, 29, 30, 31, 32, 33, 34, 35, 36]),
    (⟨(some 56), none, .pick (.t 42) (.c (.bool true)) (.t 55)⟩, [0, 1, 2, 3, 4, 5, 6, 7, 8, 9, 10, 11, 12, 13, 14, 15, 16, 17, 18, 19, 20, 21, 22, 23, 24, 25, 26, 27, 28, 29, 30, 31, 32, 33, 34, 35, 36, 37])] (some [0, 1, 5, 56]))
   (.cond (.t 56) (.seq (.rg [⟨(some 4), none, .mov (.c (.bool false))⟩] (some [4]))
   (.ret)) (.skip)))
   (.seq (.rg [⟨(some 6), none, .mov (.c (.int .i64 0))⟩] (some [0, 1, 5, 6]))
   (.blk 2 (i_ref19_Equal_l0)))))
   (.rg [⟨(some 16), none, .mov (.t 5)⟩,
    ⟨(some 17), none, .bin .add (.t 16) (.c (.int .i64 1))⟩,
    ⟨(some 5), none, .mov (.t 17)⟩] (some [0, 1, 5])))
def i_ref19_Equal_l1 : IR := .loop b_ref19_Equal_1
theorem r_ref19_Equal_1 {C : Cx} {Y : Yl} {fr : Fr} {h : List Ob} : evw C Y i_ref19_Equal_l1 fr h = nxt (evw C Y b_ref19_Equal_1 fr h) fun fr h => evw C Y i_ref19_Equal_l1 fr h := w_loop
def i_ref19_Equal : IR := .seq (.rg [⟨(some 4), none, .mov (.c (.bool false))⟩] (some [0, 1]))
   (.seq (.seq (.rg [⟨(some 7), none, .mov (.t 0)⟩,
    ⟨(some 8), none, .len (.t 7)⟩,
    ⟨(some 9), none, .mov (.t 1)⟩,
    ⟨(some 10), none, .len (.t 9)⟩,
    ⟨(some 11), none, .bin .neq (.t 8) (.t 10)⟩] (some [0, 1, 11]))
   (.cond (.t 11) (.seq (.rg [⟨(some 4), none, .mov (.c (.bool false))⟩] (some [4]))
   (.ret)) (.skip)))
   (.seq (.seq (.rg [⟨(some 5), none, .mov (.c (.int .i64 0))⟩] (some [0, 1, 5]))
   (.blk 0 (i_ref19_Equal_l1)))
   (.seq (.rg [⟨(some 4), none, .mov (.c (.bool true))⟩] (some [4]))
   (.ret))))
def F_ref19_Equal : F := ⟨i_ref19_Equal, [(4, none)], false⟩
/-- stratagem/tree.Share -/
def i_tree_Share : IR := .seq (.rg [⟨(some 2), none, .mov (.c (.nsl 3))⟩] (some [0]))
   (.seq (.seq (.rg [⟨(some 4), none, .mov (.t 0)⟩,
    ⟨(some 5), none, .call n_tree_May [(.t 4)]⟩,
    ⟨(some 6), none, .un .not (.t 5)⟩] (some [0, 6]))
   (.cond (.t 6) (.seq (.rg [⟨(some 2), none, .mov (.c (.nsl 3))⟩] (some [2]))
   (.ret)) (.skip)))
   (.seq (.rg [⟨(some 7), none, .op .mkm []⟩,
    ⟨(some 8), none, .bld [.nsl 3, .nmp] [(1, 1, (.t 7))]⟩,
    ⟨(some 9), none, .box (.t 8)⟩,
    ⟨(some 3), none, .mov (.t 9)⟩] (some [0, 3]))
   (.seq (.rg [⟨(some 10), none, .mov (.t 3)⟩,
    ⟨(some 11), none, .mov (.t 0)⟩,
    ⟨(some 12), none, .mov (.t 0)⟩,
    ⟨(some 13), none, .len (.t 12)⟩,
    ⟨(some 14), none, .bin .sub (.t 13) (.c (.int .i64 1))⟩,
    ⟨(some 15), none, .mov (.t 0)⟩,
    ⟨(some 16), none, .len (.t 15)⟩,
    ⟨(some 17), none, .mks 8 (.int .i64 0) (.t 16) (.t 16)⟩,
    ⟨(some 18), none, .call n_tree_sharer_walk [(.t 10), (.t 11), (.t 14), (.t 17)]⟩] (some [3]))
   (.seq (.rg [⟨(some 19), none, .mov (.t 3)⟩,
    ⟨(some 20), none, .nck (.t 19)⟩,
    ⟨(some 21), none, .fad 0 (.t 20)⟩,
    ⟨(some 22), none, .ld false 1 (.t 21)⟩,
    ⟨(some 2), none, .mov (.t 22)⟩] (some [2]))
   (.ret)))))
def F_tree_Share : F := ⟨i_tree_Share, [(2, none)], false⟩
/-- stratagem/stratagemref19.Share -/
def i_ref19_Share : IR := .seq (.rg [⟨(some 2), none, .mov (.c (.nsl 3))⟩] (some [0]))
   (.seq (.seq (.rg [⟨(some 7), none, .mov (.t 0)⟩,
    ⟨(some 8), none, .call n_ref19_May [(.t 7)]⟩,
    ⟨(some 9), none, .un .not (.t 8)⟩] (some [0, 9]))
   (.cond (.t 9) (.seq (.rg [⟨(some 2), none, .mov (.c (.nsl 3))⟩] (some [2]))
   (.ret)) (.skip)))
   (.seq (.rg [⟨(some 11), none, .mov (.t 0)⟩,
    ⟨(some 12), none, .mov (.t 0)⟩,
    ⟨(some 13), none, .len (.t 12)⟩,
    ⟨(some 14), none, .bin .sub (.t 13) (.c (.int .i64 1))⟩,
    ⟨(some 15), none, .call n_ref19_walk [(.t 11), (.t 14), (.c (.nsl 1)), (.c (.nsl 3))]⟩,
    ⟨(some 10), none, .mov (.t 15)⟩,
    ⟨(some 16), none, .ext (.t 10) 0⟩,
    ⟨(some 17), none, .ext (.t 10) 1⟩,
    ⟨(some 18), none, .ext (.t 10) 2⟩,
    ⟨(some 19), none, .ext (.t 10) 3⟩,
    ⟨(some 3), none, .mov (.t 16)⟩,
    ⟨(some 4), none, .mov (.t 17)⟩,
    ⟨(some 5), none, .mov (.t 18)⟩,
    ⟨(some 6), none, .mov (.t 19)⟩] (some [5]))
   (.seq (.rg [⟨(some 20), none, .mov (.t 5)⟩,
    ⟨(some 2), none, .mov (.t 20)⟩] (some [2]))
   (.ret))))
def F_ref19_Share : F := ⟨i_ref19_Share, [(2, none)], false⟩
/-- stratagem/tree.Plant -/
def b_tree_Plant_0 : IR := .seq (.rg [⟨(some 31), none, .bin .lss (.t 30) (.t 29)⟩] (some [8, 9, 28, 29, 30, 31]))
   (.seq (.cond (.t 31) (.skip) (.ext 0))
   (.seq (.blk 1 (.seq (.rg [⟨(some 32), none, .iad 1 (.t 28) (.t 30)⟩,
    ⟨(some 33), none, .ld false 1 (.t 32)⟩,
    ⟨(some 11), none, .mov (.t 33)⟩] (some [8, 9, 11, 28, 29, 30]))
   (.dc [(⟨(some 34), none, .fad 2 (.t 9)⟩, [], false),
    (⟨(some 35), none, .ld false 1 (.t 34)⟩, [0], false),
    (⟨(some 36), none, .mov (.t 8)⟩, [], false),
    (⟨(some 37), none, .mov (.t 11)⟩, [], false),
    (⟨(some 38), none, .mov (.t 11)⟩, [], false),
    (⟨(some 39), none, .len (.t 38)⟩, [4], false),
    (⟨(some 40), none, .bin .sub (.t 39) (.c (.int .i64 1))⟩, [4, 5], false),
    (⟨(some 41), none, .mov (.t 11)⟩, [], false),
    (⟨(some 42), none, .len (.t 41)⟩, [7], false),
    (⟨(some 43), none, .mks 8 (.int .i64 0) (.t 42) (.t 42)⟩, [7, 8], true),
    (⟨(some 44), none, .call n_tree_sharer_walk [(.t 36), (.t 37), (.t 40), (.t 43)]⟩, [2, 3, 4, 5, 6, 7, 8, 9], true),
    (⟨(some 45), none, .bsf (.int .i64 0) 1 [(0, (.t 44))]⟩, [2, 3, 4, 5, 6, 7, 8, 9, 10], false),
    (⟨(some 46), none, .app 1 8 (.t 35) (.t 45)⟩, [0, 1, 2, 3, 4, 5, 6, 7, 8, 9, 10, 11], true),
    (⟨(some 47), none, .fad 2 (.t 9)⟩, [0, 1, 2, 3, 4, 5, 6, 7, 8, 9, 10, 11, 12], false),
    (⟨none, none, .st 1 (.t 47) (.t 46)⟩, [0, 1, 2, 3, 4, 5, 6, 7, 8, 9, 10, 11, 12, 13], true)] (some [8, 9, 28, 29, 30]))))
   (.rg [⟨(some 48), none, .bin .add (.t 30) (.c (.int .i64 1))⟩,
    ⟨(some 30), none, .mov (.t 48)⟩] (some [8, 9, 28, 29, 30]))))
def i_tree_Plant_l0 : IR := .loop b_tree_Plant_0
theorem r_tree_Plant_0 {C : Cx} {Y : Yl} {fr : Fr} {h : List Ob} : evw C Y i_tree_Plant_l0 fr h = nxt (evw C Y b_tree_Plant_0 fr h) fun fr h => evw C Y i_tree_Plant_l0 fr h := w_loop
def i_tree_Plant : IR := .seq (.rg [⟨(some 6), none, .mov (.c (.nsl 3))⟩,
    ⟨(some 7), none, .mov (.c (.int .i64 0))⟩] (some [0, 1, 2]))
   (.seq (.seq (.rg [⟨(some 12), none, .mov (.t 0)⟩,
    ⟨(some 13), none, .mov (.t 1)⟩,
    ⟨(some 14), none, .mov (.t 2)⟩,
    ⟨(some 15), none, .len (.t 14)⟩,
    ⟨(some 16), none, .call n_tree_fits [(.t 12), (.t 13), (.t 15)]⟩,
    ⟨(some 17), none, .un .not (.t 16)⟩,
    ⟨(some 18), none, .mov (.t 17)⟩,
    ⟨(some 19), (some (18, false)), .mov (.t 2)⟩,
    ⟨(some 20), (some (18, false)), .call n_slices_ContainsFunc_stree_Tree_tree_Tree [(.t 19), (.c (.fn (.func n_tree_Plant_1) [] []))]⟩,
    ⟨(some 21), none, .pick (.t 18) (.c (.bool true)) (.t 20)⟩] (some [0, 1, 2, 21]))
   (.cond (.t 21) (.seq (.rg [⟨(some 6), none, .mov (.c (.nsl 3))⟩,
    ⟨(some 7), none, .mov (.c (.int .i64 1))⟩] (some [6, 7]))
   (.ret)) (.skip)))
   (.seq (.rg [⟨(some 22), none, .op .mkm []⟩,
    ⟨(some 23), none, .bld [.nsl 3, .nmp] [(1, 1, (.t 22))]⟩,
    ⟨(some 24), none, .box (.t 23)⟩,
    ⟨(some 8), none, .mov (.t 24)⟩] (some [0, 1, 2, 8]))
   (.seq (.rg [⟨(some 25), none, .mov (.t 0)⟩,
    ⟨(some 26), none, .mov (.t 1)⟩,
    ⟨(some 27), none, .bld [.int .i64 0, .int .i64 0, .nsl 1] [(0, 1, (.t 25)), (1, 1, (.t 26))]⟩,
    ⟨(some 9), none, .new (.agg [.int .i64 0, .int .i64 0, .nsl 1])⟩,
    ⟨none, none, .st 3 (.t 9) (.t 27)⟩] (some [2, 8, 9]))
   (.seq (.seq (.rg [⟨(some 28), none, .mov (.t 2)⟩,
    ⟨(some 29), none, .len (.t 28)⟩,
    ⟨(some 30), none, .mov (.c (.int .i64 0))⟩] (some [8, 9, 28, 29, 30]))
   (.blk 0 (i_tree_Plant_l0)))
   (.seq (.rg [⟨(some 49), none, .mov (.t 8)⟩,
    ⟨(some 50), none, .fzd true 3 (.t 9)⟩,
    ⟨(some 51), none, .call n_tree_sharer_put [(.t 49), (.t 50)]⟩] (some [8]))
   (.seq (.seq (.rg [⟨(some 52), none, .mov (.t 8)⟩,
    ⟨(some 53), none, .nck (.t 52)⟩,
    ⟨(some 54), none, .fad 0 (.t 53)⟩,
    ⟨(some 55), none, .ld false 1 (.t 54)⟩,
    ⟨(some 56), none, .len (.t 55)⟩,
    ⟨(some 57), none, .bin .gtr (.t 56) (.c (.int .i64 100000))⟩] (some [8, 57]))
   (.cond (.t 57) (.seq (.rg [⟨(some 6), none, .mov (.c (.nsl 3))⟩,
    ⟨(some 7), none, .mov (.c (.int .i64 5))⟩] (some [6, 7]))
   (.ret)) (.skip)))
   (.seq (.rg [⟨(some 58), none, .mov (.t 8)⟩,
    ⟨(some 59), none, .nck (.t 58)⟩,
    ⟨(some 60), none, .fad 0 (.t 59)⟩,
    ⟨(some 61), none, .ld false 1 (.t 60)⟩,
    ⟨(some 6), none, .mov (.t 61)⟩,
    ⟨(some 7), none, .mov (.c (.int .i64 0))⟩] (some [6, 7]))
   (.ret))))))))
def F_tree_Plant : F := ⟨i_tree_Plant, [(6, none), (7, none)], false⟩
/-- stratagem/stratagemref19.Plant -/
def b_ref19_Plant_0 : IR := .seq (.seq (.rg [⟨(some 59), none, .mov (.t 15)⟩,
    ⟨(some 60), none, .fad 2 (.t 13)⟩,
    ⟨(some 61), none, .ld false 1 (.t 60)⟩,
    ⟨(some 62), none, .len (.t 61)⟩,
    ⟨(some 63), none, .bin .lss (.t 59) (.t 62)⟩] (some [0, 1, 2, 8, 9, 10, 11, 12, 13, 14, 15, 63]))
   (.cond (.t 63) (.skip) (.ext 4)))
   (.seq (.blk 5 (.rg [⟨(some 66), none, .mov (.t 14)⟩,
    ⟨(some 67), none, .fad 2 (.t 13)⟩,
    ⟨(some 68), none, .ld false 1 (.t 67)⟩,
    ⟨(some 69), none, .mov (.t 15)⟩,
    ⟨(some 70), none, .iad 1 (.t 68) (.t 69)⟩,
    ⟨(some 71), none, .ld false 1 (.t 70)⟩,
    ⟨(some 72), none, .mov (.t 11)⟩,
    ⟨(some 73), none, .bin .add (.t 71) (.t 72)⟩,
    ⟨(some 74), none, .bsf (.int .i64 0) 1 [(0, (.t 73))]⟩,
    ⟨(some 75), none, .app 1 8 (.t 66) (.t 74)⟩,
    ⟨(some 14), none, .mov (.t 75)⟩] (some [0, 1, 2, 8, 9, 10, 11, 12, 13, 14, 15])))
   (.rg [⟨(some 64), none, .mov (.t 15)⟩,
    ⟨(some 65), none, .bin .add (.t 64) (.c (.int .i64 1))⟩,
    ⟨(some 15), none, .mov (.t 65)⟩] (some [0, 1, 2, 8, 9, 10, 11, 12, 13, 14, 15])))
def i_ref19_Plant_l0 : IR := .loop b_ref19_Plant_0
theorem r_ref19_Plant_0 {C : Cx} {Y : Yl} {fr : Fr} {h : List Ob} : evw C Y i_ref19_Plant_l0 fr h = nxt (evw C Y b_ref19_Plant_0 fr h) fun fr h => evw C Y i_ref19_Plant_l0 fr h := w_loop
def b_ref19_Plant_1 : IR := .seq (.seq (.rg [⟨(some 42), none, .mov (.t 12)⟩,
    ⟨(some 43), none, .mov (.t 2)⟩,
    ⟨(some 44), none, .mov (.t 10)⟩,
    ⟨(some 45), none, .iad 1 (.t 43) (.t 44)⟩,
    ⟨(some 46), none, .ld false 1 (.t 45)⟩,
    ⟨(some 47), none, .len (.t 46)⟩,
    ⟨(some 48), none, .bin .lss (.t 42) (.t 47)⟩] (some [0, 1, 2, 8, 9, 10, 11, 12, 48]))
   (.cond (.t 48) (.skip) (.ext 2)))
   (.seq (.blk 3 (.seq (.rg [⟨(some 51), none, .mov (.t 2)⟩,
    ⟨(some 52), none, .mov (.t 10)⟩,
    ⟨(some 53), none, .iad 1 (.t 51) (.t 52)⟩,
    ⟨(some 54), none, .ld false 1 (.t 53)⟩,
    ⟨(some 55), none, .mov (.t 12)⟩,
    ⟨(some 56), none, .iad 3 (.t 54) (.t 55)⟩,
    ⟨(some 57), none, .ld true 3 (.t 56)⟩,
    ⟨(some 13), none, .new (.agg [.int .i64 0, .int .i64 0, .nsl 1])⟩,
    ⟨none, none, .st 3 (.t 13) (.t 57)⟩] (some [0, 1, 2, 8, 9, 10, 11, 12, 13]))
   (.seq (.rg [⟨(some 58), none, .bsl (.int .i64 0) 0 []⟩,
    ⟨(some 14), none, .mov (.t 58)⟩] (some [0, 1, 2, 8, 9, 10, 11, 12, 13, 14]))
   (.seq (.seq (.rg [⟨(some 15), none, .mov (.c (.int .i64 0))⟩] (some [0, 1, 2, 8, 9, 10, 11, 12, 13, 14, 15]))
   (.blk 4 (i_ref19_Plant_l0)))
   (.rg [⟨(some 76), none, .mov (.t 8)⟩,
    ⟨(some 77), none, .fad 0 (.t 13)⟩,
    ⟨(some 78), none, .ld false 1 (.t 77)⟩,
    ⟨(some 79), none, .fad 1 (.t 13)⟩,
    ⟨(some 80), none, .ld false 1 (.t 79)⟩,
    ⟨(some 81), none, .fz (.t 14)⟩,
    ⟨(some 82), none, .bld [.int .i64 0, .int .i64 0, .nsl 1] [(0, 1, (.t 78)), (1, 1, (.t 80)), (2, 1, (.t 81))]⟩,
    ⟨(some 83), none, .bsf (.agg [.int .i64 0, .int .i64 0, .nsl 1]) 1 [(0, (.t 82))]⟩,
    ⟨(some 84), none, .app 3 40 (.t 76) (.t 83)⟩,
    ⟨(some 8), none, .mov (.t 84)⟩] (some [0, 1, 2, 8, 9, 10, 11, 12]))))))
   (.rg [⟨(some 49), none, .mov (.t 12)⟩,
    ⟨(some 50), none, .bin .add (.t 49) (.c (.int .i64 1))⟩,
    ⟨(some 12), none, .mov (.t 50)⟩] (some [0, 1, 2, 8, 9, 10, 11, 12])))
def i_ref19_Plant_l1 : IR := .loop b_ref19_Plant_1
theorem r_ref19_Plant_1 {C : Cx} {Y : Yl} {fr : Fr} {h : List Ob} : evw C Y i_ref19_Plant_l1 fr h = nxt (evw C Y b_ref19_Plant_1 fr h) fun fr h => evw C Y i_ref19_Plant_l1 fr h := w_loop
def b_ref19_Plant_2 : IR := .seq (.seq (.rg [⟨(some 28), none, .mov (.t 10)⟩,
    ⟨(some 29), none, .mov (.t 2)⟩,
    ⟨(some 30), none, .len (.t 29)⟩,
    ⟨(some 31), none, .bin .lss (.t 28) (.t 30)⟩] (some [0, 1, 2, 8, 9, 10, 31]))
   (.cond (.t 31) (.skip) (.ext 0)))
   (.seq (.blk 1 (.seq (.seq (.rg [⟨(some 34), none, .mov (.t 2)⟩,
    ⟨(some 35), none, .mov (.t 10)⟩,
    ⟨(some 36), none, .iad 1 (.t 34) (.t 35)⟩,
    ⟨(some 37), none, .ld false 1 (.t 36)⟩,
    ⟨(some 38), none, .call n_ref19_May [(.t 37)]⟩,
    ⟨(some 39), none, .un .not (.t 38)⟩] (some [0, 1, 2, 8, 9, 10, 39]))
   (.cond (.t 39) (.seq (.rg [⟨(some 6), none, .mov (.c (.nsl 3))⟩,
    ⟨(some 7), none, .mov (.c (.int .i64 1))⟩] (some [6, 7]))
   (.ret)) (.skip)))
   (.seq (.rg [⟨(some 40), none, .mov (.t 8)⟩,
    ⟨(some 41), none, .len (.t 40)⟩,
    ⟨(some 11), none, .mov (.t 41)⟩] (some [0, 1, 2, 8, 9, 10, 11]))
   (.seq (.seq (.rg [⟨(some 12), none, .mov (.c (.int .i64 0))⟩] (some [0, 1, 2, 8, 9, 10, 11, 12]))
   (.blk 2 (i_ref19_Plant_l1)))
   (.rg [⟨(some 85), none, .mov (.t 9)⟩,
    ⟨(some 86), none, .mov (.t 8)⟩,
    ⟨(some 87), none, .len (.t 86)⟩,
    ⟨(some 88), none, .bin .sub (.t 87) (.c (.int .i64 1))⟩,
    ⟨(some 89), none, .bsf (.int .i64 0) 1 [(0, (.t 88))]⟩,
    ⟨(some 90), none, .app 1 8 (.t 85) (.t 89)⟩,
    ⟨(some 9), none, .mov (.t 90)⟩] (some [0, 1, 2, 8, 9, 10]))))))
   (.rg [⟨(some 32), none, .mov (.t 10)⟩,
    ⟨(some 33), none, .bin .add (.t 32) (.c (.int .i64 1))⟩,
    ⟨(some 10), none, .mov (.t 33)⟩] (some [0, 1, 2, 8, 9, 10])))
def i_ref19_Plant_l2 : IR := .loop b_ref19_Plant_2
theorem r_ref19_Plant_2 {C : Cx} {Y : Yl} {fr : Fr} {h : List Ob} : evw C Y i_ref19_Plant_l2 fr h = nxt (evw C Y b_ref19_Plant_2 fr h) fun fr h => evw C Y i_ref19_Plant_l2 fr h := w_loop
def i_ref19_Plant : IR := .seq (.rg [⟨(some 6), none, .mov (.c (.nsl 3))⟩,
    ⟨(some 7), none, .mov (.c (.int .i64 0))⟩] (some [0, 1, 2]))
   (.seq (.seq (.rg [⟨(some 20), none, .mov (.t 0)⟩,
    ⟨(some 21), none, .mov (.t 1)⟩,
    ⟨(some 22), none, .mov (.t 2)⟩,
    ⟨(some 23), none, .len (.t 22)⟩,
    ⟨(some 24), none, .call n_ref19_Fits [(.t 20), (.t 21), (.t 23)]⟩,
    ⟨(some 25), none, .un .not (.t 24)⟩] (some [0, 1, 2, 25]))
   (.cond (.t 25) (.seq (.rg [⟨(some 6), none, .mov (.c (.nsl 3))⟩,
    ⟨(some 7), none, .mov (.c (.int .i64 1))⟩] (some [6, 7]))
   (.ret)) (.skip)))
   (.seq (.rg [⟨(some 26), none, .bsl (.agg [.int .i64 0, .int .i64 0, .nsl 1]) 0 []⟩,
    ⟨(some 8), none, .mov (.t 26)⟩] (some [0, 1, 2, 8]))
   (.seq (.rg [⟨(some 27), none, .bsl (.int .i64 0) 0 []⟩,
    ⟨(some 9), none, .mov (.t 27)⟩] (some [0, 1, 2, 8, 9]))
   (.seq (.seq (.rg [⟨(some 10), none, .mov (.c (.int .i64 0))⟩] (some [0, 1, 2, 8, 9, 10]))
   (.blk 0 (i_ref19_Plant_l2)))
   (.seq (.rg [⟨(some 91), none, .mov (.t 8)⟩,
    ⟨(some 92), none, .mov (.t 0)⟩,
    ⟨(some 93), none, .mov (.t 1)⟩,
    ⟨(some 94), none, .fz (.t 9)⟩,
    ⟨(some 95), none, .bld [.int .i64 0, .int .i64 0, .nsl 1] [(0, 1, (.t 92)), (1, 1, (.t 93)), (2, 1, (.t 94))]⟩,
    ⟨(some 96), none, .bsf (.agg [.int .i64 0, .int .i64 0, .nsl 1]) 1 [(0, (.t 95))]⟩,
    ⟨(some 97), none, .app 3 40 (.t 91) (.t 96)⟩,
    ⟨(some 8), none, .fz (.t 97)⟩] (some [8]))
   (.seq (.rg [⟨(some 99), none, .mov (.t 8)⟩,
    ⟨(some 100), none, .mov (.t 8)⟩,
    ⟨(some 101), none, .len (.t 100)⟩,
    ⟨(some 102), none, .bin .sub (.t 101) (.c (.int .i64 1))⟩,
    ⟨(some 103), none, .call n_ref19_walk [(.t 99), (.t 102), (.c (.nsl 1)), (.c (.nsl 3))]⟩,
    ⟨(some 98), none, .mov (.t 103)⟩,
    ⟨(some 104), none, .ext (.t 98) 0⟩,
    ⟨(some 105), none, .ext (.t 98) 1⟩,
    ⟨(some 106), none, .ext (.t 98) 2⟩,
    ⟨(some 107), none, .ext (.t 98) 3⟩,
    ⟨(some 16), none, .mov (.t 104)⟩,
    ⟨(some 17), none, .mov (.t 105)⟩,
    ⟨(some 18), none, .mov (.t 106)⟩,
    ⟨(some 19), none, .mov (.t 107)⟩] (some [18]))
   (.seq (.rg [⟨(some 108), none, .mov (.t 18)⟩,
    ⟨(some 6), none, .mov (.t 108)⟩,
    ⟨(some 7), none, .mov (.c (.int .i64 0))⟩] (some [6, 7]))
   (.ret))))))))
def F_ref19_Plant : F := ⟨i_ref19_Plant, [(6, none), (7, none)], false⟩
/-- stratagem/stratagemref19.Fits -/
def i_ref19_Fits : IR := .seq (.rg [⟨(some 6), none, .mov (.c (.bool false))⟩] (some [0, 1, 2]))
   (.seq (.rg [⟨(some 7), none, .mov (.t 0)⟩,
    ⟨(some 8), none, .bin .eql (.t 7) (.c (.int .i64 0))⟩,
    ⟨(some 9), none, .mov (.t 8)⟩,
    ⟨(some 10), (some (9, true)), .mov (.t 1)⟩,
    ⟨(some 11), (some (9, true)), .bin .eql (.t 10) (.c (.int .i64 0))⟩,
    ⟨(some 12), none, .pick (.t 9) (.t 11) (.c (.bool false))⟩,
    ⟨(some 13), none, .mov (.t 12)⟩,
    ⟨(some 14), (some (13, true)), .mov (.t 2)⟩,
    ⟨(some 15), (some (13, true)), .bin .eql (.t 14) (.c (.int .i64 0))⟩,
    ⟨(some 16), none, .pick (.t 13) (.t 15) (.c (.bool false))⟩,
    ⟨(some 17), none, .mov (.t 16)⟩,
    ⟨(some 18), (some (17, false)), .mov (.t 0)⟩,
    ⟨(some 19), (some (17, false)), .bin .eql (.t 18) (.c (.int .i64 1))⟩,
    ⟨(some 20), (some (17, false)), .mov (.t 19)⟩,
    ⟨(some 21), (some (20, true)), .mov (.t 1)⟩,
    ⟨(some 22), (some (20, true)), .bin .geq (.t 21) (.c (.int .i64 0))⟩,
    ⟨(some 23), (some (17, false)), .pick (.t 20) (.t 22) (.c (.bool false))⟩,
    ⟨(some 24), (some (17, false)), .mov (.t 23)⟩,
    ⟨(some 25), (some (24, true)), .mov (.t 1)⟩,
    ⟨(some 26), (some (24, true)), .bin .lss (.t 25) (.c (.int .i64 64))⟩,
    ⟨(some 27), (some (17, false)), .pick (.t 24) (.t 26) (.c (.bool false))⟩,
    ⟨(some 28), (some (17, false)), .mov (.t 27)⟩,
    ⟨(some 29), (some (28, true)), .mov (.t 2)⟩,
    ⟨(some 30), (some (28, true)), .bin .eql (.t 29) (.c (.int .i64 1))⟩,
    ⟨(some 31), (some (17, false)), .pick (.t 28) (.t 30) (.c (.bool false))⟩,
    ⟨(some 32), none, .pick (.t 17) (.c (.bool true)) (.t 31)⟩,
    ⟨(some 33), none, .mov (.t 32)⟩,
    ⟨(some 34), (some (33, false)), .mov (.t 0)⟩,
    ⟨(some 35), (some (33, false)), .bin .eql (.t 34) (.c (.int .i64 2))⟩,
    ⟨(some 36), (some (33, false)), .mov (.t 35)⟩,
    ⟨(some 37), (some (36, true)), .mov (.t 1)⟩,
    ⟨(some 38), (some (36, true)), .bin .eql (.t 37) (.c (.int .i64 0))⟩,
    ⟨(some 39), (some (33, false)), .pick (.t 36) (.t 38) (.c (.bool false))⟩,
    ⟨(some 40), (some (33, false)), .mov (.t 39)⟩,
    ⟨(some 41), (some (40, true)), .mov (.t 2)⟩,
    ⟨(some 42), (some (40, true)), .bin .gtr (.t 41) (.c (.int .i64 0))⟩,
    ⟨(some 43), (some (33, false)), .pick (.t 40) (.t 42) (.c (.bool false))⟩,
    ⟨(some 44), (some (33, false)), .mov (.t 43)⟩,
    ⟨(some 45), (some (44, true)), .mov (.t 2)⟩,
    ⟨(some 46), (some (44, true)), .bin .lss (.t 45) (.c (.int .i64 65))⟩,
    ⟨(some 47), (some (33, false)), .pick (.t 44) (.t 46) (.c (.bool false))⟩,
    ⟨(some 48), none, .pick (.t 33) (.c (.bool true)) (.t 47)⟩,
    ⟨(some 6), none, .mov (.t 48)⟩] (some [6]))
   (.ret))
def F_ref19_Fits : F := ⟨i_ref19_Fits, [(6, none)], false⟩
/-- stratagem/stratagemref19.walk -/
def b_ref19_walk_0 : IR := .seq (.seq (.rg [⟨(some 34), none, .mov (.t 14)⟩,
    ⟨(some 35), none, .mov (.t 0)⟩,
    ⟨(some 36), none, .mov (.t 1)⟩,
    ⟨(some 37), none, .iad 3 (.t 35) (.t 36)⟩,
    ⟨(some 38), none, .fad 2 (.t 37)⟩,
    ⟨(some 39), none, .ld false 1 (.t 38)⟩,
    ⟨(some 40), none, .len (.t 39)⟩,
    ⟨(some 41), none, .bin .lss (.t 34) (.t 40)⟩] (some [0, 1, 2, 3, 12, 13, 14, 41]))
   (.cond (.t 41) (.skip) (.ext 0)))
   (.seq (.blk 1 (.seq (.rg [⟨(some 15), none, .mov (.c (.str []))⟩] (some [0, 1, 2, 3, 12, 13, 14]))
   (.seq (.rg [⟨(some 16), none, .mov (.c (.int .i64 0))⟩] (some [0, 1, 2, 3, 12, 13, 14]))
   (.seq (.rg [⟨(some 45), none, .mov (.t 0)⟩,
    ⟨(some 46), none, .mov (.t 0)⟩,
    ⟨(some 47), none, .mov (.t 1)⟩,
    ⟨(some 48), none, .iad 3 (.t 46) (.t 47)⟩,
    ⟨(some 49), none, .fad 2 (.t 48)⟩,
    ⟨(some 50), none, .ld false 1 (.t 49)⟩,
    ⟨(some 51), none, .mov (.t 14)⟩,
    ⟨(some 52), none, .iad 1 (.t 50) (.t 51)⟩,
    ⟨(some 53), none, .ld false 1 (.t 52)⟩,
    ⟨(some 54), none, .mov (.t 2)⟩,
    ⟨(some 55), none, .mov (.t 3)⟩,
    ⟨(some 56), none, .call n_ref19_walk [(.t 45), (.t 53), (.t 54), (.t 55)]⟩,
    ⟨(some 44), none, .mov (.t 56)⟩,
    ⟨(some 57), none, .ext (.t 44) 0⟩,
    ⟨(some 58), none, .ext (.t 44) 1⟩,
    ⟨(some 59), none, .ext (.t 44) 2⟩,
    ⟨(some 60), none, .ext (.t 44) 3⟩,
    ⟨(some 15), none, .mov (.t 57)⟩,
    ⟨(some 2), none, .mov (.t 58)⟩,
    ⟨(some 3), none, .mov (.t 59)⟩,
    ⟨(some 16), none, .mov (.t 60)⟩] (some [0, 1, 2, 3, 12, 13, 14, 15, 16]))
   (.seq (.rg [⟨(some 61), none, .mov (.t 12)⟩,
    ⟨(some 62), none, .mov (.t 15)⟩,
    ⟨(some 63), none, .bin .add (.t 61) (.t 62)⟩,
    ⟨(some 12), none, .mov (.t 63)⟩] (some [0, 1, 2, 3, 12, 13, 14, 16]))
   (.rg [⟨(some 64), none, .mov (.t 13)⟩,
    ⟨(some 65), none, .mov (.t 16)⟩,
    ⟨(some 66), none, .bsl (.int .i64 0) 1 [(0, (.t 65))]⟩,
    ⟨(some 67), none, .app 1 8 (.t 64) (.t 66)⟩,
    ⟨(some 13), none, .mov (.t 67)⟩] (some [0, 1, 2, 3, 12, 13, 14])))))))
   (.rg [⟨(some 42), none, .mov (.t 14)⟩,
    ⟨(some 43), none, .bin .add (.t 42) (.c (.int .i64 1))⟩,
    ⟨(some 14), none, .mov (.t 43)⟩] (some [0, 1, 2, 3, 12, 13, 14])))
def i_ref19_walk_l0 : IR := .loop b_ref19_walk_0
theorem r_ref19_walk_0 {C : Cx} {Y : Yl} {fr : Fr} {h : List Ob} : evw C Y i_ref19_walk_l0 fr h = nxt (evw C Y b_ref19_walk_0 fr h) fun fr h => evw C Y i_ref19_walk_l0 fr h := w_loop
def b_ref19_walk_1 : IR := .seq (.seq (.rg [⟨(some 70), none, .mov (.t 17)⟩,
    ⟨(some 71), none, .mov (.t 2)⟩,
    ⟨(some 72), none, .len (.t 71)⟩,
    ⟨(some 73), none, .bin .lss (.t 70) (.t 72)⟩] (some [0, 1, 2, 3, 12, 13, 17, 73]))
   (.cond (.t 73) (.skip) (.ext 2)))
   (.seq (.blk 3 (.seq (.rg [⟨(some 76), none, .mov (.t 2)⟩,
    ⟨(some 77), none, .mov (.t 17)⟩,
    ⟨(some 78), none, .iad 1 (.t 76) (.t 77)⟩,
    ⟨(some 79), none, .ld false 1 (.t 78)⟩,
    ⟨(some 80), none, .mov (.t 12)⟩,
    ⟨(some 81), none, .bin .eql (.t 79) (.t 80)⟩] (some [0, 1, 2, 3, 12, 13, 17, 81]))
   (.cond (.t 81) (.seq (.rg [⟨(some 82), none, .mov (.t 12)⟩,
    ⟨(some 83), none, .mov (.t 2)⟩,
    ⟨(some 84), none, .mov (.t 3)⟩,
    ⟨(some 85), none, .mov (.t 17)⟩,
    ⟨(some 8), none, .mov (.t 82)⟩,
    ⟨(some 9), none, .mov (.t 83)⟩,
    ⟨(some 10), none, .mov (.t 84)⟩,
    ⟨(some 11), none, .mov (.t 85)⟩] (some [8, 9, 10, 11]))
   (.ret)) (.skip))))
   (.rg [⟨(some 74), none, .mov (.t 17)⟩,
    ⟨(some 75), none, .bin .add (.t 74) (.c (.int .i64 1))⟩,
    ⟨(some 17), none, .mov (.t 75)⟩] (some [0, 1, 2, 3, 12, 13, 17])))
def i_ref19_walk_l1 : IR := .loop b_ref19_walk_1
theorem r_ref19_walk_1 {C : Cx} {Y : Yl} {fr : Fr} {h : List Ob} : evw C Y i_ref19_walk_l1 fr h = nxt (evw C Y b_ref19_walk_1 fr h) fun fr h => evw C Y i_ref19_walk_l1 fr h := w_loop
def i_ref19_walk : IR := .seq (.rg [⟨(some 8), none, .mov (.c (.str []))⟩,
    ⟨(some 9), none, .mov (.c (.nsl 1))⟩,
    ⟨(some 10), none, .mov (.c (.nsl 3))⟩,
    ⟨(some 11), none, .mov (.c (.int .i64 0))⟩] (some [0, 1, 2, 3]))
   (.seq (.dq [(⟨(some 18), none, .mov (.t 0)⟩, []),
    (⟨(some 19), none, .mov (.t 1)⟩, []),
    (⟨(some 20), none, .iad 3 (.t 18) (.t 19)⟩, [0, 1]),
    (⟨(some 21), none, .fad 0 (.t 20)⟩, [0, 1, 2]),
    (⟨(some 22), none, .ld false 1 (.t 21)⟩, [0, 1, 2, 3]),
    (⟨(some 23), none, .call n_ref19_digits [(.t 22)]⟩, [0, 1, 2, 3, 4]),
    (⟨(some 24), none, .bin .add (.c (.str [40])) (.t 23)⟩, [0, 1, 2, 3, 4, 5]),
    (⟨(some 25), none, .bin .add (.t 24) (.c (.str [32]))⟩, [0, 1, 2, 3, 4, 5, 6]),
    (⟨(some 26), none, .mov (.t 0)⟩, []),
    (⟨(some 27), none, .mov (.t 1)⟩, []),
    (⟨(some 28), none, .iad 3 (.t 26) (.t 27)⟩, [8, 9]),
    (⟨(some 29), none, .fad 1 (.t 28)⟩, [8, 9, 10]),
    (⟨(some 30), none, .ld false 1 (.t 29)⟩, [8, 9, 10, 11]),
    (⟨(some 31), none, .call n_ref19_digits [(.t 30)]⟩, [0, 1, 2, 3, 4, 5, 8, 9, 10, 11, 12]),
    (⟨(some 32), none, .bin .add (.t 25) (.t 31)⟩, [0, 1, 2, 3, 4, 5, 6, 7, 8, 9, 10, 11, 12, 13]),
    (⟨(some 12), none, .mov (.t 32)⟩, [0, 1, 2, 3, 4, 5, 6, 7, 8, 9, 10, 11, 12, 13, 14])] (some [0, 1, 2, 3, 12]))
   (.seq (.rg [⟨(some 33), none, .bsl (.int .i64 0) 0 []⟩,
    ⟨(some 13), none, .mov (.t 33)⟩] (some [0, 1, 2, 3, 12, 13]))
   (.seq (.seq (.rg [⟨(some 14), none, .mov (.c (.int .i64 0))⟩] (some [0, 1, 2, 3, 12, 13, 14]))
   (.blk 0 (i_ref19_walk_l0)))
   (.seq (.rg [⟨(some 68), none, .mov (.t 12)⟩,
    ⟨(some 69), none, .bin .add (.t 68) (.c (.str [41]))⟩,
    ⟨(some 12), none, .mov (.t 69)⟩] (some [0, 1, 2, 3, 12, 13]))
   (.seq (.seq (.rg [⟨(some 17), none, .mov (.c (.int .i64 0))⟩] (some [0, 1, 2, 3, 12, 13, 17]))
   (.blk 2 (i_ref19_walk_l1)))
   (.seq (.rg [⟨(some 86), none, .bsl (.str []) 0 []⟩,
    ⟨(some 87), none, .mov (.t 2)⟩,
    ⟨(some 88), none, .app 1 16 (.t 86) (.t 87)⟩,
    ⟨(some 89), none, .mov (.t 12)⟩,
    ⟨(some 90), none, .bsl (.str []) 1 [(0, (.t 89))]⟩,
    ⟨(some 91), none, .app 1 16 (.t 88) (.t 90)⟩,
    ⟨(some 2), none, .mov (.t 91)⟩] (some [0, 1, 2, 3, 12, 13]))
   (.seq (.dr [(⟨(some 92), none, .bsl (.agg [.int .i64 0, .int .i64 0, .nsl 1]) 0 []⟩, []),
    (⟨(some 93), none, .mov (.t 3)⟩, []),
    (⟨(some 94), none, .app 3 40 (.t 92) (.t 93)⟩, [0, 1]),
    (⟨(some 95), none, .mov (.t 0)⟩, []),
    (⟨(some 96), none, .mov (.t 1)⟩, []),
    (⟨(some 97), none, .iad 3 (.t 95) (.t 96)⟩, [3, 4]),
    (⟨(some 98), none, .fad 0 (.t 97)⟩, [3, 4, 5]),
    (⟨(some 99), none, .ld false 1 (.t 98)⟩, [3, 4, 5, 6]),
    (⟨(some 100), none, .mov (.t 0)⟩, []),
    (⟨(some 101), none, .mov (.t 1)⟩, []),
    (⟨(some 102), none, .iad 3 (.t 100) (.t 101)⟩, [8, 9]),
    (⟨(some 103), none, .fad 1 (.t 102)⟩, [8, 9, 10]),
    (⟨(some 104), none, .ld false 1 (.t 103)⟩, [8, 9, 10, 11]),
    (⟨(some 105), none, .mov (.t 13)⟩, []),
    (⟨(some 106), none, .bld [.int .i64 0, .int .i64 0, .nsl 1] [(0, 1, (.t 99)), (1, 1, (.t 104)), (2, 1, (.t 105))]⟩, [3, 4, 5, 6, 7, 8, 9, 10, 11, 12, 13]),
    (⟨(some 107), none, .bsl (.agg [.int .i64 0, .int .i64 0, .nsl 1]) 1 [(0, (.t 106))]⟩, [3, 4, 5, 6, 7, 8, 9, 10, 11, 12, 13, 14]),
    (⟨(some 108), none, .app 3 40 (.t 94) (.t 107)⟩, [0, 1, 2, 3, 4, 5, 6, 7, 8, 9, 10, 11, 12, 13, 14, 15]),
    (⟨(some 3), none, .mov (.t 108)⟩, [0, 1, 2, 3, 4, 5, 6, 7, 8, 9, 10, 11, 12, 13, 14, 15, 16])] (some [2, 3, 12]))
   (.seq (.rg [⟨(some 109), none, .mov (.t 12)⟩,
    ⟨(some 110), none, .mov (.t 2)⟩,
    ⟨(some 111), none, .mov (.t 3)⟩,
    ⟨(some 112), none, .mov (.t 3)⟩,
    ⟨(some 113), none, .len (.t 112)⟩,
    ⟨(some 114), none, .bin .sub (.t 113) (.c (.int .i64 1))⟩,
    ⟨(some 8), none, .mov (.t 109)⟩,
    ⟨(some 9), none, .mov (.t 110)⟩,
    ⟨(some 10), none, .mov (.t 111)⟩,
    ⟨(some 11), none, .mov (.t 114)⟩] (some [8, 9, 10, 11]))
   (.ret)))))))))
def F_ref19_walk : F := ⟨i_ref19_walk, [(8, none), (9, none), (10, none), (11, none)], false⟩
/-- stratagem/tree.fits -/
def i_tree_fits : IR := .seq (.rg [⟨(some 6), none, .mov (.c (.bool false))⟩] (some [0, 1, 2]))
   (.seq (.seq (.rg [⟨(some 7), none, .mov (.t 0)⟩] (some [1, 2, 7]))
   (.blk 0 (.seq (.rg [⟨(some 9), none, .bin .eql (.t 7) (.c (.int .i64 0))⟩,
    ⟨(some 8), none, .mov (.t 9)⟩] (some [1, 2, 7, 8]))
   (.cond (.t 8) (.seq (.rg [⟨(some 10), none, .mov (.t 1)⟩,
    ⟨(some 11), none, .bin .eql (.t 10) (.c (.int .i64 0))⟩,
    ⟨(some 12), none, .mov (.t 11)⟩,
    ⟨(some 13), (some (12, true)), .mov (.t 2)⟩,
    ⟨(some 14), (some (12, true)), .bin .eql (.t 13) (.c (.int .i64 0))⟩,
    ⟨(some 15), none, .pick (.t 12) (.t 14) (.c (.bool false))⟩,
    ⟨(some 6), none, .mov (.t 15)⟩] (some [6]))
   (.ret)) (.seq (.rg [⟨(some 17), none, .bin .eql (.t 7) (.c (.int .i64 1))⟩,
    ⟨(some 16), none, .mov (.t 17)⟩] (some [1, 2, 7, 16]))
   (.cond (.t 16) (.seq (.rg [⟨(some 18), none, .mov (.t 1)⟩,
    ⟨(some 19), none, .bin .geq (.t 18) (.c (.int .i64 0))⟩,
    ⟨(some 20), none, .mov (.t 19)⟩,
    ⟨(some 21), (some (20, true)), .mov (.t 1)⟩,
    ⟨(some 22), (some (20, true)), .bin .leq (.t 21) (.c (.int .i64 63))⟩,
    ⟨(some 23), none, .pick (.t 20) (.t 22) (.c (.bool false))⟩,
    ⟨(some 24), none, .mov (.t 23)⟩,
    ⟨(some 25), (some (24, true)), .mov (.t 2)⟩,
    ⟨(some 26), (some (24, true)), .bin .eql (.t 25) (.c (.int .i64 1))⟩,
    ⟨(some 27), none, .pick (.t 24) (.t 26) (.c (.bool false))⟩,
    ⟨(some 6), none, .mov (.t 27)⟩] (some [6]))
   (.ret)) (.seq (.rg [⟨(some 29), none, .bin .eql (.t 7) (.c (.int .i64 2))⟩,
    ⟨(some 28), none, .mov (.t 29)⟩] (some [1, 2, 28]))
   (.cond (.t 28) (.seq (.rg [⟨(some 30), none, .mov (.t 1)⟩,
    ⟨(some 31), none, .bin .eql (.t 30) (.c (.int .i64 0))⟩,
    ⟨(some 32), none, .mov (.t 31)⟩,
    ⟨(some 33), (some (32, true)), .mov (.t 2)⟩,
    ⟨(some 34), (some (32, true)), .bin .geq (.t 33) (.c (.int .i64 1))⟩,
    ⟨(some 35), none, .pick (.t 32) (.t 34) (.c (.bool false))⟩,
    ⟨(some 36), none, .mov (.t 35)⟩,
    ⟨(some 37), (some (36, true)), .mov (.t 2)⟩,
    ⟨(some 38), (some (36, true)), .bin .leq (.t 37) (.c (.int .i64 64))⟩,
    ⟨(some 39), none, .pick (.t 36) (.t 38) (.c (.bool false))⟩,
    ⟨(some 6), none, .mov (.t 39)⟩] (some [6]))
   (.ret)) (.skip)))))))))
   (.seq (.rg [⟨(some 6), none, .mov (.c (.bool false))⟩] (some [6]))
   (.ret)))
def F_tree_fits : F := ⟨i_tree_fits, [(6, none)], false⟩
/-- slices.ContainsFunc[[]int,int] -/
def i_slices_ContainsFunc_sint_int : IR := .seq (.rg [⟨(some 4), none, .mov (.c (.bool false))⟩] (some [0, 1]))
   (.seq (.rg [⟨(some 5), none, .mov (.t 0)⟩,
    ⟨(some 6), none, .mov (.t 1)⟩,
    ⟨(some 7), none, .call n_slices_IndexFunc_sint_int [(.t 5), (.t 6)]⟩,
    ⟨(some 8), none, .bin .geq (.t 7) (.c (.int .i64 0))⟩,
    ⟨(some 4), none, .mov (.t 8)⟩] (some [4]))
   (.ret))
def F_slices_ContainsFunc_sint_int : F := ⟨i_slices_ContainsFunc_sint_int, [(4, none)], false⟩
/-- stratagem/tree.May$1 -/
def i_tree_May_1 : IR := .seq (.rg [⟨(some 3), none, .mov (.c (.bool false))⟩] (some [0, 1]))
   (.seq (.rg [⟨(some 4), none, .mov (.t 0)⟩,
    ⟨(some 5), none, .bin .lss (.t 4) (.c (.int .i64 0))⟩,
    ⟨(some 6), none, .mov (.t 5)⟩,
    ⟨(some 7), (some (6, false)), .mov (.t 0)⟩,
    ⟨(some 8), (some (6, false)), .ld false 1 (.t 1)⟩,
    ⟨(some 9), (some (6, false)), .bin .geq (.t 7) (.t 8)⟩,
    ⟨(some 10), none, .pick (.t 6) (.c (.bool true)) (.t 9)⟩,
    ⟨(some 3), none, .mov (.t 10)⟩] (some [3]))
   (.ret))
def F_tree_May_1 : F := ⟨i_tree_May_1, [(3, none)], false⟩
/-- (stratagem/tree.Tree).up -/
def b_tree_Tree_up_0 : IR := .seq (.rg [⟨(some 24), none, .bin .lss (.t 23) (.t 22)⟩] (some [1, 5, 8, 14, 15, 16, 21, 22, 23, 24]))
   (.seq (.cond (.t 24) (.skip) (.ext 2))
   (.seq (.blk 3 (.seq (.rg [⟨(some 25), none, .iad 1 (.t 21) (.t 23)⟩,
    ⟨(some 26), none, .ld false 1 (.t 25)⟩,
    ⟨(some 10), none, .mov (.t 26)⟩] (some [1, 5, 8, 10, 14, 15, 16, 21, 22, 23]))
   (.rg [⟨(some 27), none, .mov (.t 8)⟩,
    ⟨(some 28), none, .mov (.t 5)⟩,
    ⟨(some 29), none, .mov (.t 10)⟩,
    ⟨(some 30), none, .iad 1 (.t 28) (.t 29)⟩,
    ⟨(some 31), none, .ld false 1 (.t 30)⟩,
    ⟨(some 32), none, .bsf (.int .i64 0) 1 [(0, (.t 31))]⟩,
    ⟨(some 33), none, .app 1 8 (.t 27) (.t 32)⟩,
    ⟨(some 8), none, .mov (.t 33)⟩] (some [1, 5, 8, 14, 15, 16, 21, 22, 23]))))
   (.rg [⟨(some 34), none, .bin .add (.t 23) (.c (.int .i64 1))⟩,
    ⟨(some 23), none, .mov (.t 34)⟩] (some [1, 5, 8, 14, 15, 16, 21, 22, 23]))))
def i_tree_Tree_up_l0 : IR := .loop b_tree_Tree_up_0
theorem r_tree_Tree_up_0 {C : Cx} {Y : Yl} {fr : Fr} {h : List Ob} : evw C Y i_tree_Tree_up_l0 fr h = nxt (evw C Y b_tree_Tree_up_0 fr h) fun fr h => evw C Y i_tree_Tree_up_l0 fr h := w_loop
def b_tree_Tree_up_1 : IR := .seq (.rg [⟨(some 17), none, .bin .lss (.t 16) (.t 15)⟩] (some [1, 5, 14, 15, 16, 17]))
   (.seq (.cond (.t 17) (.skip) (.ext 0))
   (.seq (.blk 1 (.seq (.rg [⟨(some 18), none, .iad 3 (.t 14) (.t 16)⟩,
    ⟨(some 19), none, .ld true 3 (.t 18)⟩,
    ⟨(some 7), none, .new (.agg [.int .i64 0, .int .i64 0, .nsl 1])⟩,
    ⟨none, none, .st 3 (.t 7) (.t 19)⟩] (some [1, 5, 7, 14, 15, 16]))
   (.seq (.rg [⟨(some 8), none, .mov (.c (.nsl 1))⟩] (some [1, 5, 7, 8, 14, 15, 16]))
   (.seq (.seq (.rg [⟨(some 20), none, .fad 2 (.t 7)⟩,
    ⟨(some 21), none, .ld false 1 (.t 20)⟩,
    ⟨(some 22), none, .len (.t 21)⟩,
    ⟨(some 23), none, .mov (.c (.int .i64 0))⟩] (some [1, 5, 8, 14, 15, 16, 21, 22, 23]))
   (.blk 2 (i_tree_Tree_up_l0)))
   (.rg [⟨(some 35), none, .mov (.t 5)⟩,
    ⟨(some 36), none, .mov (.t 1)⟩,
    ⟨(some 37), none, .mov (.t 8)⟩,
    ⟨(some 38), none, .callv (.t 36) [(.t 37)]⟩,
    ⟨(some 39), none, .bsf (.int .i64 0) 1 [(0, (.t 38))]⟩,
    ⟨(some 40), none, .app 1 8 (.t 35) (.t 39)⟩,
    ⟨(some 5), none, .mov (.t 40)⟩] (some [1, 5, 14, 15, 16]))))))
   (.rg [⟨(some 41), none, .bin .add (.t 16) (.c (.int .i64 1))⟩,
    ⟨(some 16), none, .mov (.t 41)⟩] (some [1, 5, 14, 15, 16]))))
def i_tree_Tree_up_l1 : IR := .loop b_tree_Tree_up_1
theorem r_tree_Tree_up_1 {C : Cx} {Y : Yl} {fr : Fr} {h : List Ob} : evw C Y i_tree_Tree_up_l1 fr h = nxt (evw C Y b_tree_Tree_up_1 fr h) fun fr h => evw C Y i_tree_Tree_up_l1 fr h := w_loop
def i_tree_Tree_up : IR := .seq (.rg [⟨(some 4), none, .mov (.c (.int .i64 0))⟩] (some [0, 1]))
   (.seq (.seq (.rg [⟨(some 11), none, .mov (.t 0)⟩,
    ⟨(some 12), none, .call n_tree_May [(.t 11)]⟩,
    ⟨(some 13), none, .un .not (.t 12)⟩] (some [0, 1, 13]))
   (.cond (.t 13) (.seq (.rg [⟨(some 4), none, .mov (.c (.int .i64 0))⟩] (some [4]))
   (.ret)) (.skip)))
   (.seq (.rg [⟨(some 5), none, .mov (.c (.nsl 1))⟩] (some [0, 1, 5]))
   (.seq (.seq (.rg [⟨(some 14), none, .mov (.t 0)⟩,
    ⟨(some 15), none, .len (.t 14)⟩,
    ⟨(some 16), none, .mov (.c (.int .i64 0))⟩] (some [1, 5, 14, 15, 16]))
   (.blk 0 (i_tree_Tree_up_l1)))
   (.seq (.rg [⟨(some 42), none, .mov (.t 5)⟩,
    ⟨(some 43), none, .mov (.t 5)⟩,
    ⟨(some 44), none, .len (.t 43)⟩,
    ⟨(some 45), none, .bin .sub (.t 44) (.c (.int .i64 1))⟩,
    ⟨(some 46), none, .iad 1 (.t 42) (.t 45)⟩,
    ⟨(some 47), none, .ld false 1 (.t 46)⟩,
    ⟨(some 4), none, .mov (.t 47)⟩] (some [4]))
   (.ret)))))
def F_tree_Tree_up : F := ⟨i_tree_Tree_up, [(4, none)], false⟩
/-- stratagem/tree.Size$1 -/
def b_tree_Size_1_0 : IR := .seq (.rg [⟨(some 9), none, .bin .lss (.t 8) (.t 7)⟩] (some [3, 6, 7, 8, 9]))
   (.seq (.cond (.t 9) (.skip) (.ext 0))
   (.seq (.blk 1 (.seq (.rg [⟨(some 10), none, .iad 1 (.t 6) (.t 8)⟩,
    ⟨(some 11), none, .ld false 1 (.t 10)⟩,
    ⟨(some 5), none, .mov (.t 11)⟩] (some [3, 5, 6, 7, 8]))
   (.seq (.seq (.rg [⟨(some 12), none, .mov (.t 3)⟩,
    ⟨(some 13), none, .mov (.t 5)⟩,
    ⟨(some 14), none, .bin .sub (.c (.int .i64 9223372036854775807)) (.t 13)⟩,
    ⟨(some 15), none, .bin .gtr (.t 12) (.t 14)⟩] (some [3, 5, 6, 7, 8, 15]))
   (.cond (.t 15) (.seq (.rg [⟨(some 2), none, .mov (.c (.int .i64 9223372036854775807))⟩] (some [2]))
   (.ret)) (.skip)))
   (.rg [⟨(some 16), none, .mov (.t 3)⟩,
    ⟨(some 17), none, .mov (.t 5)⟩,
    ⟨(some 18), none, .bin .add (.t 16) (.t 17)⟩,
    ⟨(some 3), none, .mov (.t 18)⟩] (some [3, 6, 7, 8])))))
   (.rg [⟨(some 19), none, .bin .add (.t 8) (.c (.int .i64 1))⟩,
    ⟨(some 8), none, .mov (.t 19)⟩] (some [3, 6, 7, 8]))))
def i_tree_Size_1_l0 : IR := .loop b_tree_Size_1_0
theorem r_tree_Size_1_0 {C : Cx} {Y : Yl} {fr : Fr} {h : List Ob} : evw C Y i_tree_Size_1_l0 fr h = nxt (evw C Y b_tree_Size_1_0 fr h) fun fr h => evw C Y i_tree_Size_1_l0 fr h := w_loop
def i_tree_Size_1 : IR := .seq (.rg [⟨(some 2), none, .mov (.c (.int .i64 0))⟩] (some [0]))
   (.seq (.rg [⟨(some 3), none, .mov (.c (.int .i64 1))⟩] (some [0, 3]))
   (.seq (.seq (.rg [⟨(some 6), none, .mov (.t 0)⟩,
    ⟨(some 7), none, .len (.t 6)⟩,
    ⟨(some 8), none, .mov (.c (.int .i64 0))⟩] (some [3, 6, 7, 8]))
   (.blk 0 (i_tree_Size_1_l0)))
   (.seq (.rg [⟨(some 20), none, .mov (.t 3)⟩,
    ⟨(some 2), none, .mov (.t 20)⟩] (some [2]))
   (.ret))))
def F_tree_Size_1 : F := ⟨i_tree_Size_1, [(2, none)], false⟩
/-- stratagem/tree.Depth$1 -/
def i_tree_Depth_1 : IR := .seq (.rg [⟨(some 2), none, .mov (.c (.int .i64 0))⟩] (some [0]))
   (.seq (.rg [⟨(some 3), none, .mov (.t 0)⟩,
    ⟨(some 4), none, .bsf (.int .i64 0) 1 [(0, (.c (.int .i64 0)))]⟩,
    ⟨(some 5), none, .app 1 8 (.t 3) (.t 4)⟩,
    ⟨(some 6), none, .call n_slices_Max_sint_int [(.t 5)]⟩,
    ⟨(some 7), none, .bin .add (.c (.int .i64 1)) (.t 6)⟩,
    ⟨(some 2), none, .mov (.t 7)⟩] (some [2]))
   (.ret))
def F_tree_Depth_1 : F := ⟨i_tree_Depth_1, [(2, none)], true⟩
/-- slices.Max[[]int,int] -/
def b_slices_Max_sint_int_0 : IR := .seq (.seq (.rg [⟨(some 12), none, .mov (.t 4)⟩,
    ⟨(some 13), none, .mov (.t 0)⟩,
    ⟨(some 14), none, .len (.t 13)⟩,
    ⟨(some 15), none, .bin .lss (.t 12) (.t 14)⟩] (some [0, 3, 4, 15]))
   (.cond (.t 15) (.skip) (.ext 0)))
   (.seq (.blk 1 (.rg [⟨(some 18), none, .mov (.t 3)⟩,
    ⟨(some 19), none, .mov (.t 0)⟩,
    ⟨(some 20), none, .mov (.t 4)⟩,
    ⟨(some 21), none, .iad 1 (.t 19) (.t 20)⟩,
    ⟨(some 22), none, .ld false 1 (.t 21)⟩,
    ⟨(some 23), none, .mxn true [(.t 18), (.t 22)]⟩,
    ⟨(some 3), none, .mov (.t 23)⟩] (some [0, 3, 4])))
   (.rg [⟨(some 16), none, .mov (.t 4)⟩,
    ⟨(some 17), none, .bin .add (.t 16) (.c (.int .i64 1))⟩,
    ⟨(some 4), none, .mov (.t 17)⟩] (some [0, 3, 4])))
def i_slices_Max_sint_int_l0 : IR := .loop b_slices_Max_sint_int_0
theorem r_slices_Max_sint_int_0 {C : Cx} {Y : Yl} {fr : Fr} {h : List Ob} : evw C Y i_slices_Max_sint_int_l0 fr h = nxt (evw C Y b_slices_Max_sint_int_0 fr h) fun fr h => evw C Y i_slices_Max_sint_int_l0 fr h := w_loop
def i_slices_Max_sint_int : IR := .seq (.rg [⟨(some 2), none, .mov (.c (.int .i64 0))⟩] (some [0]))
   (.seq (.seq (.rg [⟨(some 5), none, .mov (.t 0)⟩,
    ⟨(some 6), none, .len (.t 5)⟩,
    ⟨(some 7), none, .bin .lss (.t 6) (.c (.int .i64 1))⟩] (some [0, 7]))
   (.cond (.t 7) (.rg [⟨(some 8), none, .mki 9 (.c (.str [115, 108, 105, 99, 101, 115, 46, 77, 97, 120, 58, 32, 101, 109, 112, 116, 121, 32, 108, 105, 115, 116]))⟩,
    ⟨none, none, .pan (.t 8)⟩] (some [0])) (.skip)))
   (.seq (.rg [⟨(some 9), none, .mov (.t 0)⟩,
    ⟨(some 10), none, .iad 1 (.t 9) (.c (.int .i64 0))⟩,
    ⟨(some 11), none, .ld false 1 (.t 10)⟩,
    ⟨(some 3), none, .mov (.t 11)⟩] (some [0, 3]))
   (.seq (.seq (.rg [⟨(some 4), none, .mov (.c (.int .i64 1))⟩] (some [0, 3, 4]))
   (.blk 0 (i_slices_Max_sint_int_l0)))
   (.seq (.rg [⟨(some 24), none, .mov (.t 3)⟩,
    ⟨(some 2), none, .mov (.t 24)⟩] (some [2]))
   (.ret)))))
def F_slices_Max_sint_int : F := ⟨i_slices_Max_sint_int, [(2, none)], false⟩
/-- stratagem/tree.Same$1 -/
def i_tree_Same_1 : IR := .seq (.rg [⟨(some 2), none, .box (.t 0)⟩,
    ⟨(some 3), none, .box (.t 1)⟩,
    ⟨(some 4), none, .mov (.c (.bool false))⟩] (some [2, 3]))
   (.seq (.dq [(⟨(some 5), none, .ld true 3 (.t 2)⟩, []),
    (⟨(some 6), none, .call n_tree_text [(.t 5)]⟩, [0]),
    (⟨(some 7), none, .ld true 3 (.t 3)⟩, []),
    (⟨(some 8), none, .call n_tree_text [(.t 7)]⟩, [0, 1, 2]),
    (⟨(some 9), none, .bin .eql (.t 6) (.t 8)⟩, [0, 1, 2, 3]),
    (⟨(some 4), none, .mov (.t 9)⟩, [0, 1, 2, 3, 4])] (some [4]))
   (.ret))
def F_tree_Same_1 : F := ⟨i_tree_Same_1, [(4, none)], false⟩
/-- slices.EqualFunc[stratagem/tree.Tree,stratagem/tree.Tree,stratagem/tree.Node,stratagem/tree.Node] -/
def b_slices_EqualFunc_tree_Tree_tree_Tree_tree_Node_tree_Node_0 : IR := .seq (.rg [⟨(some 18), none, .bin .lss (.t 17) (.t 16)⟩] (some [1, 2, 15, 16, 17, 18]))
   (.seq (.cond (.t 18) (.skip) (.ext 0))
   (.seq (.blk 1 (.seq (.rg [⟨(some 19), none, .mov (.t 17)⟩,
    ⟨(some 20), none, .iad 3 (.t 15) (.t 17)⟩,
    ⟨(some 21), none, .ld true 3 (.t 20)⟩,
    ⟨(some 8), none, .new (.agg [.int .i64 0, .int .i64 0, .nsl 1])⟩,
    ⟨(some 7), none, .mov (.t 19)⟩,
    ⟨none, none, .st 3 (.t 8) (.t 21)⟩] (some [1, 2, 7, 8, 15, 16, 17]))
   (.seq (.rg [⟨(some 22), none, .mov (.t 1)⟩,
    ⟨(some 23), none, .mov (.t 7)⟩,
    ⟨(some 24), none, .iad 3 (.t 22) (.t 23)⟩,
    ⟨(some 25), none, .ld true 3 (.t 24)⟩,
    ⟨(some 9), none, .new (.agg [.int .i64 0, .int .i64 0, .nsl 1])⟩,
    ⟨none, none, .st 3 (.t 9) (.t 25)⟩] (some [1, 2, 8, 9, 15, 16, 17]))
   (.seq (.rg [⟨(some 26), none, .mov (.t 2)⟩,
    ⟨(some 27), none, .ld true 3 (.t 8)⟩,
    ⟨(some 28), none, .ld true 3 (.t 9)⟩,
    ⟨(some 29), none, .callv (.t 26) [(.t 27), (.t 28)]⟩,
    ⟨(some 30), none, .un .not (.t 29)⟩] (some [1, 2, 15, 16, 17, 30]))
   (.cond (.t 30) (.seq (.rg [⟨(some 6), none, .mov (.c (.bool false))⟩] (some [6]))
   (.ret)) (.skip))))))
   (.rg [⟨(some 31), none, .bin .add (.t 17) (.c (.int .i64 1))⟩,
    ⟨(some 17), none, .mov (.t 31)⟩] (some [1, 2, 15, 16, 17]))))
def i_slices_EqualFunc_tree_Tree_tree_Tree_tree_Node_tree_Node_l0 : IR := .loop b_slices_EqualFunc_tree_Tree_tree_Tree_tree_Node_tree_Node_0
theorem r_slices_EqualFunc_tree_Tree_tree_Tree_tree_Node_tree_Node_0 {C : Cx} {Y : Yl} {fr : Fr} {h : List Ob} : evw C Y i_slices_EqualFunc_tree_Tree_tree_Tree_tree_Node_tree_Node_l0 fr h = nxt (evw C Y b_slices_EqualFunc_tree_Tree_tree_Tree_tree_Node_tree_Node_0 fr h) fun fr h => evw C Y i_slices_EqualFunc_tree_Tree_tree_Tree_tree_Node_tree_Node_l0 fr h := w_loop
def i_slices_EqualFunc_tree_Tree_tree_Tree_tree_Node_tree_Node : IR := .seq (.rg [⟨(some 6), none, .mov (.c (.bool false))⟩] (some [0, 1, 2]))
   (.seq (.seq (.rg [⟨(some 10), none, .mov (.t 0)⟩,
    ⟨(some 11), none, .len (.t 10)⟩,
    ⟨(some 12), none, .mov (.t 1)⟩,
    ⟨(some 13), none, .len (.t 12)⟩,
    ⟨(some 14), none, .bin .neq (.t 11) (.t 13)⟩] (some [0, 1, 2, 14]))
   (.cond (.t 14) (.seq (.rg [⟨(some 6), none, .mov (.c (.bool false))⟩] (some [6]))
   (.ret)) (.skip)))
   (.seq (.seq (.rg [⟨(some 15), none, .mov (.t 0)⟩,
    ⟨(some 16), none, .len (.t 15)⟩,
    ⟨(some 17), none, .mov (.c (.int .i64 0))⟩] (some [1, 2, 15, 16, 17]))
   (.blk 0 (i_slices_EqualFunc_tree_Tree_tree_Tree_tree_Node_tree_Node_l0)))
   (.seq (.rg [⟨(some 6), none, .mov (.c (.bool true))⟩] (some [6]))
   (.ret))))
def F_slices_EqualFunc_tree_Tree_tree_Tree_tree_Node_tree_Node : F := ⟨i_slices_EqualFunc_tree_Tree_tree_Tree_tree_Node_tree_Node, [(6, none)], false⟩
/-- (*stratagem/tree.sharer).walk -/
def b_tree_sharer_walk_0 : IR := .seq (.rg [⟨(some 40), none, .bin .lss (.t 39) (.t 38)⟩] (some [0, 1, 2, 3, 9, 37, 38, 39, 40]))
   (.seq (.cond (.t 40) (.skip) (.ext 0))
   (.seq (.blk 1 (.seq (.rg [⟨(some 41), none, .iad 1 (.t 37) (.t 39)⟩,
    ⟨(some 42), none, .ld false 1 (.t 41)⟩,
    ⟨(some 11), none, .mov (.t 42)⟩] (some [0, 1, 2, 3, 9, 11, 37, 38, 39]))
   (.dc [(⟨(some 43), none, .fad 2 (.t 9)⟩, [], false),
    (⟨(some 44), none, .ld false 1 (.t 43)⟩, [0], false),
    (⟨(some 45), none, .mov (.t 0)⟩, [], false),
    (⟨(some 46), none, .mov (.t 1)⟩, [], false),
    (⟨(some 47), none, .mov (.t 11)⟩, [], false),
    (⟨(some 48), none, .mov (.t 3)⟩, [], false),
    (⟨(some 49), none, .call n_tree_sharer_walk [(.t 45), (.t 46), (.t 47), (.t 48)]⟩, [2, 3, 4, 5], true),
    (⟨(some 50), none, .bsf (.int .i64 0) 1 [(0, (.t 49))]⟩, [2, 3, 4, 5, 6], false),
    (⟨(some 51), none, .app 1 8 (.t 44) (.t 50)⟩, [0, 1, 2, 3, 4, 5, 6, 7], true),
    (⟨(some 52), none, .fad 2 (.t 9)⟩, [0, 1, 2, 3, 4, 5, 6, 7, 8], false),
    (⟨none, none, .st 1 (.t 52) (.t 51)⟩, [0, 1, 2, 3, 4, 5, 6, 7, 8, 9], true)] (some [0, 1, 2, 3, 9, 37, 38, 39]))))
   (.rg [⟨(some 53), none, .bin .add (.t 39) (.c (.int .i64 1))⟩,
    ⟨(some 39), none, .mov (.t 53)⟩] (some [0, 1, 2, 3, 9, 37, 38, 39]))))
def i_tree_sharer_walk_l0 : IR := .loop b_tree_sharer_walk_0
theorem r_tree_sharer_walk_0 {C : Cx} {Y : Yl} {fr : Fr} {h : List Ob} : evw C Y i_tree_sharer_walk_l0 fr h = nxt (evw C Y b_tree_sharer_walk_0 fr h) fun fr h => evw C Y i_tree_sharer_walk_l0 fr h := w_loop
def i_tree_sharer_walk : IR := .seq (.rg [⟨(some 8), none, .mov (.c (.int .i64 0))⟩] (some [0, 1, 2, 3]))
   (.seq (.seq (.rg [⟨(some 12), none, .mov (.t 3)⟩,
    ⟨(some 13), none, .mov (.t 2)⟩,
    ⟨(some 14), none, .iad 1 (.t 12) (.t 13)⟩,
    ⟨(some 15), none, .ld false 1 (.t 14)⟩,
    ⟨(some 16), none, .bin .gtr (.t 15) (.c (.int .i64 0))⟩] (some [0, 1, 2, 3, 16]))
   (.cond (.t 16) (.seq (.rg [⟨(some 17), none, .mov (.t 3)⟩,
    ⟨(some 18), none, .mov (.t 2)⟩,
    ⟨(some 19), none, .iad 1 (.t 17) (.t 18)⟩,
    ⟨(some 20), none, .ld false 1 (.t 19)⟩,
    ⟨(some 21), none, .bin .sub (.t 20) (.c (.int .i64 1))⟩,
    ⟨(some 8), none, .mov (.t 21)⟩] (some [8]))
   (.ret)) (.skip)))
   (.seq (.dc [(⟨(some 22), none, .mov (.t 1)⟩, [], false),
    (⟨(some 23), none, .mov (.t 2)⟩, [], false),
    (⟨(some 24), none, .iad 3 (.t 22) (.t 23)⟩, [0, 1], false),
    (⟨(some 25), none, .fad 0 (.t 24)⟩, [0, 1, 2], false),
    (⟨(some 26), none, .ld false 1 (.t 25)⟩, [0, 1, 2, 3], false),
    (⟨(some 27), none, .mov (.t 1)⟩, [], false),
    (⟨(some 28), none, .mov (.t 2)⟩, [], false),
    (⟨(some 29), none, .iad 3 (.t 27) (.t 28)⟩, [5, 6], false),
    (⟨(some 30), none, .fad 1 (.t 29)⟩, [5, 6, 7], false),
    (⟨(some 31), none, .ld false 1 (.t 30)⟩, [5, 6, 7, 8], false),
    (⟨(some 32), none, .bld [.int .i64 0, .int .i64 0, .nsl 1] [(0, 1, (.t 26)), (1, 1, (.t 31))]⟩, [0, 1, 2, 3, 4, 5, 6, 7, 8, 9], false),
    (⟨(some 9), none, .new (.agg [.int .i64 0, .int .i64 0, .nsl 1])⟩, [], true),
    (⟨none, none, .st 3 (.t 9) (.t 32)⟩, [0, 1, 2, 3, 4, 5, 6, 7, 8, 9, 10, 11], true)] (some [0, 1, 2, 3, 9]))
   (.seq (.seq (.rg [⟨(some 33), none, .mov (.t 1)⟩,
    ⟨(some 34), none, .mov (.t 2)⟩,
    ⟨(some 35), none, .iad 3 (.t 33) (.t 34)⟩,
    ⟨(some 36), none, .fad 2 (.t 35)⟩,
    ⟨(some 37), none, .ld false 1 (.t 36)⟩,
    ⟨(some 38), none, .len (.t 37)⟩,
    ⟨(some 39), none, .mov (.c (.int .i64 0))⟩] (some [0, 1, 2, 3, 9, 37, 38, 39]))
   (.blk 0 (i_tree_sharer_walk_l0)))
   (.seq (.rg [⟨(some 54), none, .mov (.t 3)⟩,
    ⟨(some 55), none, .mov (.t 2)⟩,
    ⟨(some 56), none, .mov (.t 0)⟩,
    ⟨(some 57), none, .fzd true 3 (.t 9)⟩,
    ⟨(some 58), none, .call n_tree_sharer_put [(.t 56), (.t 57)]⟩,
    ⟨(some 59), none, .bin .add (.t 58) (.c (.int .i64 1))⟩,
    ⟨(some 60), none, .iad 1 (.t 54) (.t 55)⟩,
    ⟨none, none, .st 1 (.t 60) (.t 59)⟩] (some [2, 3]))
   (.seq (.rg [⟨(some 61), none, .mov (.t 3)⟩,
    ⟨(some 62), none, .mov (.t 2)⟩,
    ⟨(some 63), none, .iad 1 (.t 61) (.t 62)⟩,
    ⟨(some 64), none, .ld false 1 (.t 63)⟩,
    ⟨(some 65), none, .bin .sub (.t 64) (.c (.int .i64 1))⟩,
    ⟨(some 8), none, .mov (.t 65)⟩] (some [8]))
   (.ret))))))
def F_tree_sharer_walk : F := ⟨i_tree_sharer_walk, [(8, none)], true⟩
/-- slices.ContainsFunc[[]stratagem/tree.Tree,stratagem/tree.Tree] -/
def i_slices_ContainsFunc_stree_Tree_tree_Tree : IR := .seq (.rg [⟨(some 4), none, .mov (.c (.bool false))⟩] (some [0, 1]))
   (.seq (.rg [⟨(some 5), none, .mov (.t 0)⟩,
    ⟨(some 6), none, .mov (.t 1)⟩,
    ⟨(some 7), none, .call n_slices_IndexFunc_stree_Tree_tree_Tree [(.t 5), (.t 6)]⟩,
    ⟨(some 8), none, .bin .geq (.t 7) (.c (.int .i64 0))⟩,
    ⟨(some 4), none, .mov (.t 8)⟩] (some [4]))
   (.ret))
def F_slices_ContainsFunc_stree_Tree_tree_Tree : F := ⟨i_slices_ContainsFunc_stree_Tree_tree_Tree, [(4, none)], false⟩
/-- stratagem/tree.Plant$1 -/
def i_tree_Plant_1 : IR := .seq (.rg [⟨(some 2), none, .mov (.c (.bool false))⟩] (some [0]))
   (.seq (.rg [⟨(some 3), none, .mov (.t 0)⟩,
    ⟨(some 4), none, .call n_tree_May [(.t 3)]⟩,
    ⟨(some 5), none, .un .not (.t 4)⟩,
    ⟨(some 2), none, .mov (.t 5)⟩] (some [2]))
   (.ret))
def F_tree_Plant_1 : F := ⟨i_tree_Plant_1, [(2, none)], false⟩
/-- (*stratagem/tree.sharer).put -/
def i_tree_sharer_put : IR := .seq (.rg [⟨(some 3), none, .box (.t 1)⟩,
    ⟨(some 4), none, .mov (.c (.int .i64 0))⟩] (some [0, 3]))
   (.seq (.rg [⟨(some 6), none, .ld true 3 (.t 3)⟩,
    ⟨(some 7), none, .call n_tree_text [(.t 6)]⟩,
    ⟨(some 5), none, .mov (.t 7)⟩] (some [0, 3, 5]))
   (.seq (.seq (.rg [⟨(some 8), none, .mov (.t 0)⟩,
    ⟨(some 9), none, .nck (.t 8)⟩,
    ⟨(some 10), none, .fad 1 (.t 9)⟩,
    ⟨(some 11), none, .ld false 1 (.t 10)⟩,
    ⟨(some 12), none, .mov (.t 5)⟩,
    ⟨(some 13), none, .op (.lku none (.int .i64 0) false) [(.t 11), (.t 12)]⟩,
    ⟨(some 14), none, .bin .eql (.t 13) (.c (.int .i64 0))⟩] (some [0, 3, 5, 14]))
   (.cond (.t 14) (.seq (.dc [(⟨(some 15), none, .mov (.t 0)⟩, [], false),
    (⟨(some 16), none, .mov (.t 0)⟩, [], false),
    (⟨(some 17), none, .nck (.t 16)⟩, [1], false),
    (⟨(some 18), none, .fad 0 (.t 17)⟩, [1, 2], false),
    (⟨(some 19), none, .ld false 1 (.t 18)⟩, [1, 2, 3], false),
    (⟨(some 20), none, .ld true 3 (.t 3)⟩, [], false),
    (⟨(some 21), none, .bsf (.agg [.int .i64 0, .int .i64 0, .nsl 1]) 1 [(0, (.t 20))]⟩, [5], false),
    (⟨(some 22), none, .app 3 40 (.t 19) (.t 21)⟩, [1, 2, 3, 4, 5, 6], true),
    (⟨(some 23), none, .nck (.t 15)⟩, [0, 1, 2, 3, 4, 5, 6, 7], false),
    (⟨(some 24), none, .fad 0 (.t 23)⟩, [0, 1, 2, 3, 4, 5, 6, 7, 8], false),
    (⟨none, none, .st 1 (.t 24) (.t 22)⟩, [0, 1, 2, 3, 4, 5, 6, 7, 8, 9], true)] (some [0, 5]))
   (.dq [(⟨(some 25), none, .mov (.t 0)⟩, []),
    (⟨(some 26), none, .nck (.t 25)⟩, [0]),
    (⟨(some 27), none, .fad 1 (.t 26)⟩, [0, 1]),
    (⟨(some 28), none, .ld false 1 (.t 27)⟩, [0, 1, 2]),
    (⟨(some 29), none, .mov (.t 5)⟩, []),
    (⟨(some 30), none, .mov (.t 0)⟩, []),
    (⟨(some 31), none, .nck (.t 30)⟩, [5]),
    (⟨(some 32), none, .fad 0 (.t 31)⟩, [5, 6]),
    (⟨(some 33), none, .ld false 1 (.t 32)⟩, [5, 6, 7]),
    (⟨(some 34), none, .len (.t 33)⟩, [5, 6, 7, 8]),
    (⟨none, none, .op (.mpu none) [(.t 28), (.t 29), (.t 34)]⟩, [0, 1, 2, 3, 4, 5, 6, 7, 8, 9])] (some [0, 5]))) (.skip)))
   (.seq (.rg [⟨(some 35), none, .mov (.t 0)⟩,
    ⟨(some 36), none, .nck (.t 35)⟩,
    ⟨(some 37), none, .fad 1 (.t 36)⟩,
    ⟨(some 38), none, .ld false 1 (.t 37)⟩,
    ⟨(some 39), none, .mov (.t 5)⟩,
    ⟨(some 40), none, .op (.lku none (.int .i64 0) false) [(.t 38), (.t 39)]⟩,
    ⟨(some 41), none, .bin .sub (.t 40) (.c (.int .i64 1))⟩,
    ⟨(some 4), none, .mov (.t 41)⟩] (some [4]))
   (.ret))))
def F_tree_sharer_put : F := ⟨i_tree_sharer_put, [(4, none)], true⟩
/-- stratagem/stratagemref19.digits -/
def i_ref19_digits : IR := .seq (.rg [⟨(some 2), none, .mov (.c (.str []))⟩] (some [0]))
   (.seq (.seq (.rg [⟨(some 3), none, .mov (.t 0)⟩,
    ⟨(some 4), none, .bin .lss (.t 3) (.c (.int .i64 10))⟩] (some [0, 4]))
   (.cond (.t 4) (.seq (.rg [⟨(some 5), none, .mov (.t 0)⟩,
    ⟨(some 6), none, .bin .add (.c (.int .i64 48)) (.t 5)⟩,
    ⟨(some 7), none, .conv .u8 (.t 6)⟩,
    ⟨(some 8), none, .bsl (.int .u8 0) 1 [(0, (.t 7))]⟩,
    ⟨(some 9), none, .b2s (.t 8)⟩,
    ⟨(some 2), none, .mov (.t 9)⟩] (some [2]))
   (.ret)) (.skip)))
   (.seq (.rg [⟨(some 10), none, .mov (.t 0)⟩,
    ⟨(some 11), none, .bin .quo (.t 10) (.c (.int .i64 10))⟩,
    ⟨(some 12), none, .call n_ref19_digits [(.t 11)]⟩,
    ⟨(some 13), none, .mov (.t 0)⟩,
    ⟨(some 14), none, .bin .rem (.t 13) (.c (.int .i64 10))⟩,
    ⟨(some 15), none, .call n_ref19_digits [(.t 14)]⟩,
    ⟨(some 16), none, .bin .add (.t 12) (.t 15)⟩,
    ⟨(some 2), none, .mov (.t 16)⟩] (some [2]))
   (.ret)))
def F_ref19_digits : F := ⟨i_ref19_digits, [(2, none)], false⟩
/-- slices.IndexFunc[[]int,int] -/
def b_slices_IndexFunc_sint_int_0 : IR := .seq (.rg [⟨(some 9), none, .bin .lss (.t 8) (.t 7)⟩] (some [0, 1, 7, 8, 9]))
   (.seq (.cond (.t 9) (.skip) (.ext 0))
   (.seq (.blk 1 (.seq (.rg [⟨(some 10), none, .mov (.t 8)⟩,
    ⟨(some 5), none, .mov (.t 10)⟩] (some [0, 1, 5, 7, 8]))
   (.seq (.rg [⟨(some 11), none, .mov (.t 1)⟩,
    ⟨(some 12), none, .mov (.t 0)⟩,
    ⟨(some 13), none, .mov (.t 5)⟩,
    ⟨(some 14), none, .iad 1 (.t 12) (.t 13)⟩,
    ⟨(some 15), none, .ld false 1 (.t 14)⟩,
    ⟨(some 16), none, .callv (.t 11) [(.t 15)]⟩] (some [0, 1, 5, 7, 8, 16]))
   (.cond (.t 16) (.seq (.rg [⟨(some 17), none, .mov (.t 5)⟩,
    ⟨(some 4), none, .mov (.t 17)⟩] (some [4]))
   (.ret)) (.skip)))))
   (.rg [⟨(some 18), none, .bin .add (.t 8) (.c (.int .i64 1))⟩,
    ⟨(some 8), none, .mov (.t 18)⟩] (some [0, 1, 7, 8]))))
def i_slices_IndexFunc_sint_int_l0 : IR := .loop b_slices_IndexFunc_sint_int_0
theorem r_slices_IndexFunc_sint_int_0 {C : Cx} {Y : Yl} {fr : Fr} {h : List Ob} : evw C Y i_slices_IndexFunc_sint_int_l0 fr h = nxt (evw C Y b_slices_IndexFunc_sint_int_0 fr h) fun fr h => evw C Y i_slices_IndexFunc_sint_int_l0 fr h := w_loop
def i_slices_IndexFunc_sint_int : IR := .seq (.rg [⟨(some 4), none, .mov (.c (.int .i64 0))⟩] (some [0, 1]))
   (.seq (.seq (.rg [⟨(some 6), none, .mov (.t 0)⟩,
    ⟨(some 7), none, .len (.t 6)⟩,
    ⟨(some 8), none, .mov (.c (.int .i64 0))⟩] (some [0, 1, 7, 8]))
   (.blk 0 (i_slices_IndexFunc_sint_int_l0)))
   (.seq (.rg [⟨(some 4), none, .mov (.c (.int .i64 (-1)))⟩] (some [4]))
   (.ret)))
def F_slices_IndexFunc_sint_int : F := ⟨i_slices_IndexFunc_sint_int, [(4, none)], false⟩
/-- slices.IndexFunc[[]stratagem/tree.Tree,stratagem/tree.Tree] -/
def b_slices_IndexFunc_stree_Tree_tree_Tree_0 : IR := .seq (.rg [⟨(some 9), none, .bin .lss (.t 8) (.t 7)⟩] (some [0, 1, 7, 8, 9]))
   (.seq (.cond (.t 9) (.skip) (.ext 0))
   (.seq (.blk 1 (.seq (.rg [⟨(some 10), none, .mov (.t 8)⟩,
    ⟨(some 5), none, .mov (.t 10)⟩] (some [0, 1, 5, 7, 8]))
   (.seq (.rg [⟨(some 11), none, .mov (.t 1)⟩,
    ⟨(some 12), none, .mov (.t 0)⟩,
    ⟨(some 13), none, .mov (.t 5)⟩,
    ⟨(some 14), none, .iad 1 (.t 12) (.t 13)⟩,
    ⟨(some 15), none, .ld false 1 (.t 14)⟩,
    ⟨(some 16), none, .callv (.t 11) [(.t 15)]⟩] (some [0, 1, 5, 7, 8, 16]))
   (.cond (.t 16) (.seq (.rg [⟨(some 17), none, .mov (.t 5)⟩,
    ⟨(some 4), none, .mov (.t 17)⟩] (some [4]))
   (.ret)) (.skip)))))
   (.rg [⟨(some 18), none, .bin .add (.t 8) (.c (.int .i64 1))⟩,
    ⟨(some 8), none, .mov (.t 18)⟩] (some [0, 1, 7, 8]))))
def i_slices_IndexFunc_stree_Tree_tree_Tree_l0 : IR := .loop b_slices_IndexFunc_stree_Tree_tree_Tree_0
theorem r_slices_IndexFunc_stree_Tree_tree_Tree_0 {C : Cx} {Y : Yl} {fr : Fr} {h : List Ob} : evw C Y i_slices_IndexFunc_stree_Tree_tree_Tree_l0 fr h = nxt (evw C Y b_slices_IndexFunc_stree_Tree_tree_Tree_0 fr h) fun fr h => evw C Y i_slices_IndexFunc_stree_Tree_tree_Tree_l0 fr h := w_loop
def i_slices_IndexFunc_stree_Tree_tree_Tree : IR := .seq (.rg [⟨(some 4), none, .mov (.c (.int .i64 0))⟩] (some [0, 1]))
   (.seq (.seq (.rg [⟨(some 6), none, .mov (.t 0)⟩,
    ⟨(some 7), none, .len (.t 6)⟩,
    ⟨(some 8), none, .mov (.c (.int .i64 0))⟩] (some [0, 1, 7, 8]))
   (.blk 0 (i_slices_IndexFunc_stree_Tree_tree_Tree_l0)))
   (.seq (.rg [⟨(some 4), none, .mov (.c (.int .i64 (-1)))⟩] (some [4]))
   (.ret)))
def F_slices_IndexFunc_stree_Tree_tree_Tree : F := ⟨i_slices_IndexFunc_stree_Tree_tree_Tree, [(4, none)], false⟩
theorem ok_law19_TreeTells : mF Go.Proofs.Tryd.prog n_law19_TreeTells F_law19_TreeTells = true := by kernel_rfl
theorem ok_law19_TreeShares : mF Go.Proofs.Tryd.prog n_law19_TreeShares F_law19_TreeShares = true := by kernel_rfl
theorem ok_law19_TreeSame : mF Go.Proofs.Tryd.prog n_law19_TreeSame F_law19_TreeSame = true := by kernel_rfl
theorem ok_law19_awake : mF Go.Proofs.Tryd.prog n_law19_awake F_law19_awake = true := by kernel_rfl
theorem ok_law19_Large : mF Go.Proofs.Tryd.prog n_law19_Large F_law19_Large = true := by kernel_rfl
theorem ok_law19_Own : mF Go.Proofs.Tryd.prog n_law19_Own F_law19_Own = true := by kernel_rfl
theorem ok_ref19_May : mF Go.Proofs.Tryd.prog n_ref19_May F_ref19_May = true := by kernel_rfl
theorem ok_ref19_Sizes : mF Go.Proofs.Tryd.prog n_ref19_Sizes F_ref19_Sizes = true := by kernel_rfl
theorem ok_ref19_Text : mF Go.Proofs.Tryd.prog n_ref19_Text F_ref19_Text = true := by kernel_rfl
theorem ok_tree_May : mF Go.Proofs.Tryd.prog n_tree_May F_tree_May = true := by kernel_rfl
theorem ok_tree_Size : mF Go.Proofs.Tryd.prog n_tree_Size F_tree_Size = true := by kernel_rfl
theorem ok_tree_Depth : mF Go.Proofs.Tryd.prog n_tree_Depth F_tree_Depth = true := by kernel_rfl
theorem ok_tree_Same : mF Go.Proofs.Tryd.prog n_tree_Same F_tree_Same = true := by kernel_rfl
theorem ok_ref19_Equal : mF Go.Proofs.Tryd.prog n_ref19_Equal F_ref19_Equal = true := by kernel_rfl
theorem ok_tree_Share : mF Go.Proofs.Tryd.prog n_tree_Share F_tree_Share = true := by kernel_rfl
theorem ok_ref19_Share : mF Go.Proofs.Tryd.prog n_ref19_Share F_ref19_Share = true := by kernel_rfl
theorem ok_tree_Plant : mF Go.Proofs.Tryd.prog n_tree_Plant F_tree_Plant = true := by kernel_rfl
theorem ok_ref19_Plant : mF Go.Proofs.Tryd.prog n_ref19_Plant F_ref19_Plant = true := by kernel_rfl
theorem ok_ref19_Fits : mF Go.Proofs.Tryd.prog n_ref19_Fits F_ref19_Fits = true := by kernel_rfl
theorem ok_ref19_walk : mF Go.Proofs.Tryd.prog n_ref19_walk F_ref19_walk = true := by kernel_rfl
theorem ok_tree_fits : mF Go.Proofs.Tryd.prog n_tree_fits F_tree_fits = true := by kernel_rfl
theorem ok_slices_ContainsFunc_sint_int : mF Go.Proofs.Tryd.prog n_slices_ContainsFunc_sint_int F_slices_ContainsFunc_sint_int = true := by kernel_rfl
theorem ok_tree_May_1 : mF Go.Proofs.Tryd.prog n_tree_May_1 F_tree_May_1 = true := by kernel_rfl
theorem ok_tree_Tree_up : mF Go.Proofs.Tryd.prog n_tree_Tree_up F_tree_Tree_up = true := by kernel_rfl
theorem ok_tree_Size_1 : mF Go.Proofs.Tryd.prog n_tree_Size_1 F_tree_Size_1 = true := by kernel_rfl
theorem ok_tree_Depth_1 : mF Go.Proofs.Tryd.prog n_tree_Depth_1 F_tree_Depth_1 = true := by kernel_rfl
theorem ok_slices_Max_sint_int : mF Go.Proofs.Tryd.prog n_slices_Max_sint_int F_slices_Max_sint_int = true := by kernel_rfl
theorem ok_tree_Same_1 : mF Go.Proofs.Tryd.prog n_tree_Same_1 F_tree_Same_1 = true := by kernel_rfl
theorem ok_slices_EqualFunc_tree_Tree_tree_Tree_tree_Node_tree_Node : mF Go.Proofs.Tryd.prog n_slices_EqualFunc_tree_Tree_tree_Tree_tree_Node_tree_Node F_slices_EqualFunc_tree_Tree_tree_Tree_tree_Node_tree_Node = true := by kernel_rfl
theorem ok_tree_sharer_walk : mF Go.Proofs.Tryd.prog n_tree_sharer_walk F_tree_sharer_walk = true := by kernel_rfl
theorem ok_slices_ContainsFunc_stree_Tree_tree_Tree : mF Go.Proofs.Tryd.prog n_slices_ContainsFunc_stree_Tree_tree_Tree F_slices_ContainsFunc_stree_Tree_tree_Tree = true := by kernel_rfl
theorem ok_tree_Plant_1 : mF Go.Proofs.Tryd.prog n_tree_Plant_1 F_tree_Plant_1 = true := by kernel_rfl
theorem ok_tree_sharer_put : mF Go.Proofs.Tryd.prog n_tree_sharer_put F_tree_sharer_put = true := by kernel_rfl
theorem ok_ref19_digits : mF Go.Proofs.Tryd.prog n_ref19_digits F_ref19_digits = true := by kernel_rfl
theorem ok_slices_IndexFunc_sint_int : mF Go.Proofs.Tryd.prog n_slices_IndexFunc_sint_int F_slices_IndexFunc_sint_int = true := by kernel_rfl
theorem ok_slices_IndexFunc_stree_Tree_tree_Tree : mF Go.Proofs.Tryd.prog n_slices_IndexFunc_stree_Tree_tree_Tree F_slices_IndexFunc_stree_Tree_tree_Tree = true := by kernel_rfl
def tbl : List (Nat × F) := [(n_law19_TreeTells, F_law19_TreeTells), (n_law19_TreeShares, F_law19_TreeShares), (n_law19_TreeSame, F_law19_TreeSame), (n_law19_awake, F_law19_awake), (n_law19_Large, F_law19_Large), (n_law19_Own, F_law19_Own), (n_ref19_May, F_ref19_May), (n_ref19_Sizes, F_ref19_Sizes), (n_ref19_Text, F_ref19_Text), (n_tree_May, F_tree_May), (n_tree_Size, F_tree_Size), (n_tree_Depth, F_tree_Depth), (n_tree_Same, F_tree_Same), (n_ref19_Equal, F_ref19_Equal), (n_tree_Share, F_tree_Share), (n_ref19_Share, F_ref19_Share), (n_tree_Plant, F_tree_Plant), (n_ref19_Plant, F_ref19_Plant), (n_ref19_Fits, F_ref19_Fits), (n_ref19_walk, F_ref19_walk), (n_tree_fits, F_tree_fits), (n_slices_ContainsFunc_sint_int, F_slices_ContainsFunc_sint_int), (n_tree_May_1, F_tree_May_1), (n_tree_Tree_up, F_tree_Tree_up), (n_tree_Size_1, F_tree_Size_1), (n_tree_Depth_1, F_tree_Depth_1), (n_slices_Max_sint_int, F_slices_Max_sint_int), (n_tree_Same_1, F_tree_Same_1), (n_slices_EqualFunc_tree_Tree_tree_Tree_tree_Node_tree_Node, F_slices_EqualFunc_tree_Tree_tree_Tree_tree_Node_tree_Node), (n_tree_sharer_walk, F_tree_sharer_walk), (n_slices_ContainsFunc_stree_Tree_tree_Tree, F_slices_ContainsFunc_stree_Tree_tree_Tree), (n_tree_Plant_1, F_tree_Plant_1), (n_tree_sharer_put, F_tree_sharer_put), (n_ref19_digits, F_ref19_digits), (n_slices_IndexFunc_sint_int, F_slices_IndexFunc_sint_int), (n_slices_IndexFunc_stree_Tree_tree_Tree, F_slices_IndexFunc_stree_Tree_tree_Tree)]
def T (n : Nat) : Option F := (tbl.find? fun p => p.1 == n).map (·.2)
theorem T_law19_TreeTells : T n_law19_TreeTells = some F_law19_TreeTells := rfl
theorem T_law19_TreeShares : T n_law19_TreeShares = some F_law19_TreeShares := rfl
theorem T_law19_TreeSame : T n_law19_TreeSame = some F_law19_TreeSame := rfl
theorem T_law19_awake : T n_law19_awake = some F_law19_awake := rfl
theorem T_law19_Large : T n_law19_Large = some F_law19_Large := rfl
theorem T_law19_Own : T n_law19_Own = some F_law19_Own := rfl
theorem T_ref19_May : T n_ref19_May = some F_ref19_May := rfl
theorem T_ref19_Sizes : T n_ref19_Sizes = some F_ref19_Sizes := rfl
theorem T_ref19_Text : T n_ref19_Text = some F_ref19_Text := rfl
theorem T_tree_May : T n_tree_May = some F_tree_May := rfl
theorem T_tree_Size : T n_tree_Size = some F_tree_Size := rfl
theorem T_tree_Depth : T n_tree_Depth = some F_tree_Depth := rfl
theorem T_tree_Same : T n_tree_Same = some F_tree_Same := rfl
theorem T_ref19_Equal : T n_ref19_Equal = some F_ref19_Equal := rfl
theorem T_tree_Share : T n_tree_Share = some F_tree_Share := rfl
theorem T_ref19_Share : T n_ref19_Share = some F_ref19_Share := rfl
theorem T_tree_Plant : T n_tree_Plant = some F_tree_Plant := rfl
theorem T_ref19_Plant : T n_ref19_Plant = some F_ref19_Plant := rfl
theorem T_ref19_Fits : T n_ref19_Fits = some F_ref19_Fits := rfl
theorem T_ref19_walk : T n_ref19_walk = some F_ref19_walk := rfl
theorem T_tree_fits : T n_tree_fits = some F_tree_fits := rfl
theorem T_slices_ContainsFunc_sint_int : T n_slices_ContainsFunc_sint_int = some F_slices_ContainsFunc_sint_int := rfl
theorem T_tree_May_1 : T n_tree_May_1 = some F_tree_May_1 := rfl
theorem T_tree_Tree_up : T n_tree_Tree_up = some F_tree_Tree_up := rfl
theorem T_tree_Size_1 : T n_tree_Size_1 = some F_tree_Size_1 := rfl
theorem T_tree_Depth_1 : T n_tree_Depth_1 = some F_tree_Depth_1 := rfl
theorem T_slices_Max_sint_int : T n_slices_Max_sint_int = some F_slices_Max_sint_int := rfl
theorem T_tree_Same_1 : T n_tree_Same_1 = some F_tree_Same_1 := rfl
theorem T_slices_EqualFunc_tree_Tree_tree_Tree_tree_Node_tree_Node : T n_slices_EqualFunc_tree_Tree_tree_Tree_tree_Node_tree_Node = some F_slices_EqualFunc_tree_Tree_tree_Tree_tree_Node_tree_Node := rfl
theorem T_tree_sharer_walk : T n_tree_sharer_walk = some F_tree_sharer_walk := rfl
theorem T_slices_ContainsFunc_stree_Tree_tree_Tree : T n_slices_ContainsFunc_stree_Tree_tree_Tree = some F_slices_ContainsFunc_stree_Tree_tree_Tree := rfl
theorem T_tree_Plant_1 : T n_tree_Plant_1 = some F_tree_Plant_1 := rfl
theorem T_tree_sharer_put : T n_tree_sharer_put = some F_tree_sharer_put := rfl
theorem T_ref19_digits : T n_ref19_digits = some F_ref19_digits := rfl
theorem T_slices_IndexFunc_sint_int : T n_slices_IndexFunc_sint_int = some F_slices_IndexFunc_sint_int := rfl
theorem T_slices_IndexFunc_stree_Tree_tree_Tree : T n_slices_IndexFunc_stree_Tree_tree_Tree = some F_slices_IndexFunc_stree_Tree_tree_Tree := rfl
theorem T_ok : ∀ f F, T f = some F → mF Go.Proofs.Tryd.prog f F = true := by
  intro f F h
  unfold T at h
  obtain ⟨p, hp, rfl⟩ := Option.map_eq_some_iff.1 h
  have h1 := List.mem_of_find?_eq_some hp
  have h2 : p.1 = f := by simpa using List.find?_some hp
  subst h2
  clear h hp
  simp only [tbl, List.mem_cons, List.not_mem_nil, or_false] at h1
  rcases h1 with rfl | rfl | rfl | rfl | rfl | rfl | rfl | rfl | rfl | rfl | rfl | rfl | rfl | rfl | rfl | rfl | rfl | rfl | rfl | rfl | rfl | rfl | rfl | rfl | rfl | rfl | rfl | rfl | rfl | rfl | rfl | rfl | rfl | rfl | rfl | rfl
  · exact ok_law19_TreeTells
  · exact ok_law19_TreeShares
  · exact ok_law19_TreeSame
  · exact ok_law19_awake
  · exact ok_law19_Large
  · exact ok_law19_Own
  · exact ok_ref19_May
  · exact ok_ref19_Sizes
  · exact ok_ref19_Text
  · exact ok_tree_May
  · exact ok_tree_Size
  · exact ok_tree_Depth
  · exact ok_tree_Same
  · exact ok_ref19_Equal
  · exact ok_tree_Share
  · exact ok_ref19_Share
  · exact ok_tree_Plant
  · exact ok_ref19_Plant
  · exact ok_ref19_Fits
  · exact ok_ref19_walk
  · exact ok_tree_fits
  · exact ok_slices_ContainsFunc_sint_int
  · exact ok_tree_May_1
  · exact ok_tree_Tree_up
  · exact ok_tree_Size_1
  · exact ok_tree_Depth_1
  · exact ok_slices_Max_sint_int
  · exact ok_tree_Same_1
  · exact ok_slices_EqualFunc_tree_Tree_tree_Tree_tree_Node_tree_Node
  · exact ok_tree_sharer_walk
  · exact ok_slices_ContainsFunc_stree_Tree_tree_Tree
  · exact ok_tree_Plant_1
  · exact ok_tree_sharer_put
  · exact ok_ref19_digits
  · exact ok_slices_IndexFunc_sint_int
  · exact ok_slices_IndexFunc_stree_Tree_tree_Tree
end Go.RR.M
