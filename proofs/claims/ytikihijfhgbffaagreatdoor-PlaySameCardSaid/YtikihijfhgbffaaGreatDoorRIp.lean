/- The code of the functions, by name, for the second reading; that it is theirs. -/
import Derived.Test.YtikihijfhgbffaaGreatDoorRIpa
import Derived.Test.YtikihijfhgbffaaGreatDoorProg
import Derived.KernelRfl
import Derived.Test.YtikihijfhgbffaaGreatDoorR4
set_option linter.unusedVariables false
set_option linter.unusedSimpArgs false
set_option linter.unusedVariables false
namespace Go.RR.M
open Go Go.RR
def i_ref11_Holds_l1 : IR := .loop b_ref11_Holds_1
def b_ref11_Holds_2 : IR := .seq (.seq (.rg [⟨some 108, none, .mov (.t 9)⟩,
 ⟨some 109, none, .mov (.t 8)⟩,
 ⟨some 110, none, .bin .lss (.t 108) (.t 109)⟩] (some [5, 8, 9, 110]))
 (.cond (.t 110) (.skip) (.ext 7)))
 (.seq (.blk 8 (.seq (.dq [(⟨some 113, none, .mov (.t 5)⟩, []),
 (⟨some 114, none, .mov (.t 8)⟩, []),
 (⟨some 115, none, .iad 1 (.t 113) (.t 114)⟩, [0, 1]),
 (⟨some 116, none, .ld false 1 (.t 115)⟩, [0, 1, 2]),
 (⟨some 117, none, .mov (.t 5)⟩, []),
 (⟨some 118, none, .mov (.t 9)⟩, []),
 (⟨some 119, none, .iad 1 (.t 117) (.t 118)⟩, [4, 5]),
 (⟨some 120, none, .ld false 1 (.t 119)⟩, [4, 5, 6]),
 (⟨some 121, none, .bin .eql (.t 116) (.t 120)⟩, [0, 1, 2, 3, 4, 5, 6, 7])] (some [5, 8, 9, 121]))
 (.cond (.t 121) (.seq (.rg [⟨some 4, none, .mov (.c (.bool false))⟩] (some [4]))
 (.ret)) (.skip))))
 (.rg [⟨some 111, none, .mov (.t 9)⟩,
 ⟨some 112, none, .bin .add (.t 111) (.c (.int .i64 1))⟩,
 ⟨some 9, none, .mov (.t 112)⟩] (some [5, 8, 9])))
def i_ref11_Holds_l2 : IR := .loop b_ref11_Holds_2
def b_ref11_Holds_3 : IR := .seq (.seq (.rg [⟨some 102, none, .mov (.t 8)⟩,
 ⟨some 103, none, .mov (.t 5)⟩,
 ⟨some 104, none, .len (.t 103)⟩,
 ⟨some 105, none, .bin .lss (.t 102) (.t 104)⟩] (some [5, 8, 105]))
 (.cond (.t 105) (.skip) (.ext 5)))
 (.seq (.blk 6 (.seq (.rg [⟨some 9, none, .mov (.c (.int .i64 0))⟩] (some [5, 8, 9]))
 (.blk 7 (i_ref11_Holds_l2))))
 (.rg [⟨some 106, none, .mov (.t 8)⟩,
 ⟨some 107, none, .bin .add (.t 106) (.c (.int .i64 1))⟩,
 ⟨some 8, none, .mov (.t 107)⟩] (some [5, 8])))
def i_ref11_Holds_l3 : IR := .loop b_ref11_Holds_3
def b_ref11_Holds_4 : IR := .seq (.seq (.rg [⟨some 131, none, .mov (.t 12)⟩,
 ⟨some 132, none, .mov (.t 5)⟩,
 ⟨some 133, none, .len (.t 132)⟩,
 ⟨some 134, none, .bin .lss (.t 131) (.t 133)⟩] (some [2, 5, 10, 11, 12, 134]))
 (.cond (.t 134) (.skip) (.ext 11)))
 (.seq (.blk 12 (.dq [(⟨some 137, none, .mov (.t 11)⟩, []),
 (⟨some 138, none, .mov (.t 137)⟩, [0]),
 (⟨some 139, (some (138, true)), .fad 5 (.t 2)⟩, [0, 1]),
 (⟨some 140, (some (138, true)), .ld false 1 (.t 139)⟩, [0, 1, 2]),
 (⟨some 141, (some (138, true)), .mov (.t 10)⟩, [0, 1]),
 (⟨some 142, (some (138, true)), .mov (.t 12)⟩, [0, 1]),
 (⟨some 143, (some (138, true)), .bin .add (.t 141) (.t 142)⟩, [0, 1, 4, 5]),
 (⟨some 144, (some (138, true)), .iad 1 (.t 140) (.t 143)⟩, [0, 1, 2, 3, 4, 5, 6]),
 (⟨some 145, (some (138, true)), .ld false 1 (.t 144)⟩, [0, 1, 2, 3, 4, 5, 6, 7]),
 (⟨some 146, (some (138, true)), .mov (.t 5)⟩, [0, 1]),
 (⟨some 147, (some (138, true)), .mov (.t 12)⟩, [0, 1]),
 (⟨some 148, (some (138, true)), .iad 1 (.t 146) (.t 147)⟩, [0, 1, 9, 10]),
 (⟨some 149, (some (138, true)), .ld false 1 (.t 148)⟩, [0, 1, 9, 10, 11]),
 (⟨some 150, (some (138, true)), .bin .eql (.t 145) (.t 149)⟩, [0, 1, 2, 3, 4, 5, 6, 7, 8, 9, 10, 11, 12]),
 (⟨some 151, none, .pick (.t 138) (.t 150) (.c (.bool false))⟩, [0, 1, 2, 3, 4, 5, 6, 7, 8, 9, 10, 11, 12, 13]),
 (⟨some 11, none, .mov (.t 151)⟩, [0, 1, 2, 3, 4, 5, 6, 7, 8, 9, 10, 11, 12, 13, 14])] (some [2, 5, 10, 11, 12])))
 (.rg [⟨some 135, none, .mov (.t 12)⟩,
 ⟨some 136, none, .bin .add (.t 135) (.c (.int .i64 1))⟩,
 ⟨some 12, none, .mov (.t 136)⟩] (some [2, 5, 10, 11, 12])))
def i_ref11_Holds_l4 : IR := .loop b_ref11_Holds_4
def b_ref11_Holds_5 : IR := .seq (.seq (.rg [⟨some 122, none, .mov (.t 10)⟩,
 ⟨some 123, none, .fad 5 (.t 2)⟩,
 ⟨some 124, none, .ld false 1 (.t 123)⟩,
 ⟨some 125, none, .len (.t 124)⟩,
 ⟨some 126, none, .bin .lss (.t 122) (.t 125)⟩] (some [2, 5, 10, 126]))
 (.cond (.t 126) (.skip) (.ext 9)))
 (.seq (.blk 10 (.seq (.rg [⟨some 11, none, .mov (.c (.bool true))⟩] (some [2, 5, 10, 11]))
 (.seq (.seq (.rg [⟨some 12, none, .mov (.c (.int .i64 0))⟩] (some [2, 5, 10, 11, 12]))
 (.blk 11 (i_ref11_Holds_l4)))
 (.seq (.rg [⟨some 152, none, .mov (.t 11)⟩] (some [2, 5, 10, 152]))
 (.cond (.t 152) (.seq (.rg [⟨some 4, none, .mov (.c (.bool true))⟩] (some [4]))
 (.ret)) (.skip))))))
 (.rg [⟨some 127, none, .mov (.t 10)⟩,
 ⟨some 128, none, .mov (.t 5)⟩,
 ⟨some 129, none, .len (.t 128)⟩,
 ⟨some 130, none, .bin .add (.t 127) (.t 129)⟩,
 ⟨some 10, none, .mov (.t 130)⟩] (some [2, 5, 10])))
def i_ref11_Holds_l5 : IR := .loop b_ref11_Holds_5
def i_ref11_Holds : IR := .seq (.rg [⟨some 2, none, .box (.t 0)⟩,
 ⟨some 4, none, .mov (.c (.bool false))⟩] (some [1, 2]))
 (.seq (.rg [⟨some 13, none, .bsl (.int .i64 0) 0 []⟩,
 ⟨some 5, none, .mov (.t 13)⟩] (some [1, 2, 5]))
 (.seq (.seq (.rg [⟨some 6, none, .mov (.c (.int .i64 0))⟩] (some [1, 2, 5, 6]))
 (.blk 0 (i_ref11_Holds_l0)))
 (.seq (.seq (.rg [⟨some 32, none, .fad 0 (.t 2)⟩,
 ⟨some 33, none, .ld false 1 (.t 32)⟩] (some [1, 2, 5, 33]))
 (.blk 2 (.seq (.rg [⟨some 35, none, .bin .eql (.t 33) (.c (.int .i64 1))⟩,
 ⟨some 34, none, .mov (.t 35)⟩] (some [1, 2, 5, 33, 34]))
 (.cond (.t 34) (.seq (.rg [⟨some 36, none, .ld true 6 (.t 2)⟩,
 ⟨some 37, none, .fad 1 (.t 2)⟩,
 ⟨some 38, none, .ld false 1 (.t 37)⟩,
 ⟨some 39, none, .mov (.t 1)⟩,
 ⟨some 40, none, .call n_ref11_sum [(.t 36), (.t 38), (.t 39)]⟩,
 ⟨some 4, none, .mov (.t 40)⟩] (some [4]))
 (.ret)) (.seq (.rg [⟨some 42, none, .bin .eql (.t 33) (.c (.int .i64 2))⟩,
 ⟨some 41, none, .mov (.t 42)⟩] (some [1, 2, 5, 33, 41]))
 (.cond (.t 41) (.seq (.dq [(⟨some 43, none, .mov (.t 5)⟩, []),
 (⟨some 44, none, .iad 1 (.t 43) (.c (.int .i64 0))⟩, [0]),
 (⟨some 45, none, .ld false 1 (.t 44)⟩, [0, 1]),
 (⟨some 46, none, .mov (.t 5)⟩, []),
 (⟨some 47, none, .iad 1 (.t 46) (.c (.int .i64 1))⟩, [3]),
 (⟨some 48, none, .ld false 1 (.t 47)⟩, [3, 4]),
 (⟨some 49, none, .bin .mul (.t 45) (.t 48)⟩, [0, 1, 2, 3, 4, 5]),
 (⟨some 50, none, .mov (.t 5)⟩, []),
 (⟨some 51, none, .iad 1 (.t 50) (.c (.int .i64 2))⟩, [7]),
 (⟨some 52, none, .ld false 1 (.t 51)⟩, [7, 8]),
 (⟨some 53, none, .bin .eql (.t 49) (.t 52)⟩, [0, 1, 2, 3, 4, 5, 6, 7, 8, 9]),
 (⟨some 4, none, .mov (.t 53)⟩, [0, 1, 2, 3, 4, 5, 6, 7, 8, 9, 10])] (some [4]))
 (.ret)) (.seq (.rg [⟨some 55, none, .bin .eql (.t 33) (.c (.int .i64 3))⟩,
 ⟨some 54, none, .mov (.t 55)⟩] (some [1, 2, 5, 33, 54]))
 (.cond (.t 54) (.seq (.seq (.rg [⟨some 56, none, .mov (.t 5)⟩,
 ⟨some 57, none, .iad 1 (.t 56) (.c (.int .i64 0))⟩,
 ⟨some 58, none, .ld false 1 (.t 57)⟩,
 ⟨some 59, none, .bin .neq (.t 58) (.c (.int .i64 0))⟩,
 ⟨some 60, none, .mov (.t 59)⟩,
 ⟨some 61, (some (60, true)), .mov (.t 5)⟩,
 ⟨some 62, (some (60, true)), .iad 1 (.t 61) (.c (.int .i64 0))⟩,
 ⟨some 63, (some (60, true)), .ld false 1 (.t 62)⟩,
 ⟨some 64, (some (60, true)), .bin .neq (.t 63) (.c (.int .i64 1))⟩,
 ⟨some 65, none, .pick (.t 60) (.t 64) (.c (.bool false))⟩] (some [1, 2, 5, 65]))
 (.cond (.t 65) (.seq (.rg [⟨some 4, none, .mov (.c (.bool false))⟩] (some [4]))
 (.ret)) (.skip)))
 (.seq (.dq [(⟨some 66, none, .ld true 6 (.t 2)⟩, []),
 (⟨some 67, none, .fad 1 (.t 2)⟩, []),
 (⟨some 68, none, .ld false 1 (.t 67)⟩, [1]),
 (⟨some 69, none, .sll 1 (.t 68) (some (.c (.int .i64 1))) none none⟩, [1, 2]),
 (⟨some 70, none, .mov (.t 1)⟩, []),
 (⟨some 71, none, .call n_ref11_sum [(.t 66), (.t 69), (.t 70)]⟩, [0, 1, 2, 3, 4]),
 (⟨some 72, none, .mov (.t 5)⟩, []),
 (⟨some 73, none, .iad 1 (.t 72) (.c (.int .i64 0))⟩, [6]),
 (⟨some 74, none, .ld false 1 (.t 73)⟩, [6, 7]),
 (⟨some 75, none, .bin .eql (.t 74) (.c (.int .i64 1))⟩, [6, 7, 8]),
 (⟨some 76, none, .eq false .bool (.t 71) (.t 75)⟩, [0, 1, 2, 3, 4, 5, 6, 7, 8, 9]),
 (⟨some 4, none, .mov (.t 76)⟩, [0, 1, 2, 3, 4, 5, 6, 7, 8, 9, 10])] (some [4]))
 (.ret))) (.seq (.rg [⟨some 78, none, .bin .eql (.t 33) (.c (.int .i64 4))⟩,
 ⟨some 77, none, .mov (.t 78)⟩] (some [2, 5, 33, 77]))
 (.cond (.t 77) (.seq (.seq (.rg [⟨some 7, none, .mov (.c (.int .i64 0))⟩] (some [2, 5, 7]))
 (.blk 3 (i_ref11_Holds_l1)))
 (.seq (.rg [⟨some 4, none, .mov (.c (.bool false))⟩] (some [4]))
 (.ret))) (.seq (.rg [⟨some 101, none, .bin .eql (.t 33) (.c (.int .i64 5))⟩,
 ⟨some 100, none, .mov (.t 101)⟩] (some [2, 5, 100]))
 (.cond (.t 100) (.seq (.seq (.rg [⟨some 8, none, .mov (.c (.int .i64 0))⟩] (some [5, 8]))
 (.blk 5 (i_ref11_Holds_l3)))
 (.seq (.rg [⟨some 4, none, .mov (.c (.bool true))⟩] (some [4]))
 (.ret))) (.skip)))))))))))))
 (.seq (.seq (.rg [⟨some 10, none, .mov (.c (.int .i64 0))⟩] (some [2, 5, 10]))
 (.blk 9 (i_ref11_Holds_l5)))
 (.seq (.rg [⟨some 4, none, .mov (.c (.bool false))⟩] (some [4]))
 (.ret))))))
def F_ref11_Holds : F := ⟨i_ref11_Holds, [(4, none)], false⟩
def i_tree_fits : IR := .seq (.rg [⟨some 6, none, .mov (.c (.bool false))⟩] (some [0, 1, 2]))
 (.seq (.seq (.rg [⟨some 7, none, .mov (.t 0)⟩] (some [1, 2, 7]))
 (.blk 0 (.seq (.rg [⟨some 9, none, .bin .eql (.t 7) (.c (.int .i64 0))⟩,
 ⟨some 8, none, .mov (.t 9)⟩] (some [1, 2, 7, 8]))
 (.cond (.t 8) (.seq (.rg [⟨some 10, none, .mov (.t 1)⟩,
 ⟨some 11, none, .bin .eql (.t 10) (.c (.int .i64 0))⟩,
 ⟨some 12, none, .mov (.t 11)⟩,
 ⟨some 13, (some (12, true)), .mov (.t 2)⟩,
 ⟨some 14, (some (12, true)), .bin .eql (.t 13) (.c (.int .i64 0))⟩,
 ⟨some 15, none, .pick (.t 12) (.t 14) (.c (.bool false))⟩,
 ⟨some 6, none, .mov (.t 15)⟩] (some [6]))
 (.ret)) (.seq (.rg [⟨some 17, none, .bin .eql (.t 7) (.c (.int .i64 1))⟩,
 ⟨some 16, none, .mov (.t 17)⟩] (some [1, 2, 7, 16]))
 (.cond (.t 16) (.seq (.rg [⟨some 18, none, .mov (.t 1)⟩,
 ⟨some 19, none, .bin .geq (.t 18) (.c (.int .i64 0))⟩,
 ⟨some 20, none, .mov (.t 19)⟩,
 ⟨some 21, (some (20, true)), .mov (.t 1)⟩,
 ⟨some 22, (some (20, true)), .bin .leq (.t 21) (.c (.int .i64 63))⟩,
 ⟨some 23, none, .pick (.t 20) (.t 22) (.c (.bool false))⟩,
 ⟨some 24, none, .mov (.t 23)⟩,
 ⟨some 25, (some (24, true)), .mov (.t 2)⟩,
 ⟨some 26, (some (24, true)), .bin .eql (.t 25) (.c (.int .i64 1))⟩,
 ⟨some 27, none, .pick (.t 24) (.t 26) (.c (.bool false))⟩,
 ⟨some 6, none, .mov (.t 27)⟩] (some [6]))
 (.ret)) (.seq (.rg [⟨some 29, none, .bin .eql (.t 7) (.c (.int .i64 2))⟩,
 ⟨some 28, none, .mov (.t 29)⟩] (some [1, 2, 28]))
 (.cond (.t 28) (.seq (.rg [⟨some 30, none, .mov (.t 1)⟩,
 ⟨some 31, none, .bin .eql (.t 30) (.c (.int .i64 0))⟩,
 ⟨some 32, none, .mov (.t 31)⟩,
 ⟨some 33, (some (32, true)), .mov (.t 2)⟩,
 ⟨some 34, (some (32, true)), .bin .geq (.t 33) (.c (.int .i64 1))⟩,
 ⟨some 35, none, .pick (.t 32) (.t 34) (.c (.bool false))⟩,
 ⟨some 36, none, .mov (.t 35)⟩,
 ⟨some 37, (some (36, true)), .mov (.t 2)⟩,
 ⟨some 38, (some (36, true)), .bin .leq (.t 37) (.c (.int .i64 64))⟩,
 ⟨some 39, none, .pick (.t 36) (.t 38) (.c (.bool false))⟩,
 ⟨some 6, none, .mov (.t 39)⟩] (some [6]))
 (.ret)) (.skip)))))))))
 (.seq (.rg [⟨some 6, none, .mov (.c (.bool false))⟩] (some [6]))
 (.ret)))
def F_tree_fits : F := ⟨i_tree_fits, [(6, none)], false⟩
def i_slices_ContainsFunc_sint_int : IR := .seq (.rg [⟨some 4, none, .mov (.c (.bool false))⟩] (some [0, 1]))
 (.seq (.rg [⟨some 5, none, .mov (.t 0)⟩,
 ⟨some 6, none, .mov (.t 1)⟩,
 ⟨some 7, none, .call n_slices_IndexFunc_sint_int [(.t 5), (.t 6)]⟩,
 ⟨some 8, none, .bin .geq (.t 7) (.c (.int .i64 0))⟩,
 ⟨some 4, none, .mov (.t 8)⟩] (some [4]))
 (.ret))
def F_slices_ContainsFunc_sint_int : F := ⟨i_slices_ContainsFunc_sint_int, [(4, none)], false⟩
def i_tree_May_1 : IR := .seq (.rg [⟨some 3, none, .mov (.c (.bool false))⟩] (some [0, 1]))
 (.seq (.rg [⟨some 4, none, .mov (.t 0)⟩,
 ⟨some 5, none, .bin .lss (.t 4) (.c (.int .i64 0))⟩,
 ⟨some 6, none, .mov (.t 5)⟩,
 ⟨some 7, (some (6, false)), .mov (.t 0)⟩,
 ⟨some 8, (some (6, false)), .ld false 1 (.t 1)⟩,
 ⟨some 9, (some (6, false)), .bin .geq (.t 7) (.t 8)⟩,
 ⟨some 10, none, .pick (.t 6) (.c (.bool true)) (.t 9)⟩,
 ⟨some 3, none, .mov (.t 10)⟩] (some [3]))
 (.ret))
def F_tree_May_1 : F := ⟨i_tree_May_1, [(3, none)], false⟩
def i_play_table_yes : IR := .seq (.rg [⟨some 3, none, .box (.t 1)⟩,
 ⟨some 4, none, .mov (.c (.bool false))⟩] (some [0, 3]))
 (.seq (.rg [⟨some 6, none, .mov (.t 0)⟩,
 ⟨some 7, none, .nck (.t 6)⟩,
 ⟨some 8, none, .fad 3 (.t 7)⟩,
 ⟨some 9, none, .ld false 1 (.t 8)⟩,
 ⟨some 10, none, .mkf (.func n_play_table_yes_1) [] [(.t 3)]⟩,
 ⟨some 11, none, .call n_slices_IndexFunc_sint_int [(.t 9), (.t 10)]⟩,
 ⟨some 5, none, .mov (.t 11)⟩] (some [0, 5]))
 (.seq (.rg [⟨some 12, none, .mov (.t 0)⟩,
 ⟨some 13, none, .nck (.t 12)⟩,
 ⟨some 14, none, .fad 0 (.t 13)⟩,
 ⟨some 15, none, .fad 0 (.t 14)⟩,
 ⟨some 16, none, .ld false 1 (.t 15)⟩,
 ⟨some 17, none, .mov (.t 5)⟩,
 ⟨some 18, none, .iad 3 (.t 16) (.t 17)⟩,
 ⟨some 19, none, .fad 0 (.t 18)⟩,
 ⟨some 20, none, .ld false 1 (.t 19)⟩,
 ⟨some 21, none, .un .not (.t 20)⟩,
 ⟨some 4, none, .mov (.t 21)⟩] (some [4]))
 (.ret)))
def F_play_table_yes : F := ⟨i_play_table_yes, [(4, none)], false⟩
def i_play_table_next : IR := .seq (.rg [⟨some 2, none, .box (.t 0)⟩,
 ⟨some 3, none, .box (.t 1)⟩,
 ⟨some 4, none, .mov (.c (.nilf))⟩] (some [2, 3]))
 (.seq (.rg [⟨some 5, none, .mkf (.func n_play_table_next_1) [] [(.t 2), (.t 3)]⟩,
 ⟨some 4, none, .mov (.t 5)⟩] (some [4]))
 (.ret))
def F_play_table_next : F := ⟨i_play_table_next, [(4, none)], false⟩
def i_ref19_Fits : IR := .seq (.rg [⟨some 6, none, .mov (.c (.bool false))⟩] (some [0, 1, 2]))
 (.seq (.rg [⟨some 7, none, .mov (.t 0)⟩,
 ⟨some 8, none, .bin .eql (.t 7) (.c (.int .i64 0))⟩,
 ⟨some 9, none, .mov (.t 8)⟩,
 ⟨some 10, (some (9, true)), .mov (.t 1)⟩,
 ⟨some 11, (some (9, true)), .bin .eql (.t 10) (.c (.int .i64 0))⟩,
 ⟨some 12, none, .pick (.t 9) (.t 11) (.c (.bool false))⟩,
 ⟨some 13, none, .mov (.t 12)⟩,
 ⟨some 14, (some (13, true)), .mov (.t 2)⟩,
 ⟨some 15, (some (13, true)), .bin .eql (.t 14) (.c (.int .i64 0))⟩,
 ⟨some 16, none, .pick (.t 13) (.t 15) (.c (.bool false))⟩,
 ⟨some 17, none, .mov (.t 16)⟩,
 ⟨some 18, (some (17, false)), .mov (.t 0)⟩,
 ⟨some 19, (some (17, false)), .bin .eql (.t 18) (.c (.int .i64 1))⟩,
 ⟨some 20, (some (17, false)), .mov (.t 19)⟩,
 ⟨some 21, (some (20, true)), .mov (.t 1)⟩,
 ⟨some 22, (some (20, true)), .bin .geq (.t 21) (.c (.int .i64 0))⟩,
 ⟨some 23, (some (17, false)), .pick (.t 20) (.t 22) (.c (.bool false))⟩,
 ⟨some 24, (some (17, false)), .mov (.t 23)⟩,
 ⟨some 25, (some (24, true)), .mov (.t 1)⟩,
 ⟨some 26, (some (24, true)), .bin .lss (.t 25) (.c (.int .i64 64))⟩,
 ⟨some 27, (some (17, false)), .pick (.t 24) (.t 26) (.c (.bool false))⟩,
 ⟨some 28, (some (17, false)), .mov (.t 27)⟩,
 ⟨some 29, (some (28, true)), .mov (.t 2)⟩,
 ⟨some 30, (some (28, true)), .bin .eql (.t 29) (.c (.int .i64 1))⟩,
 ⟨some 31, (some (17, false)), .pick (.t 28) (.t 30) (.c (.bool false))⟩,
 ⟨some 32, none, .pick (.t 17) (.c (.bool true)) (.t 31)⟩,
 ⟨some 33, none, .mov (.t 32)⟩,
 ⟨some 34, (some (33, false)), .mov (.t 0)⟩,
 ⟨some 35, (some (33, false)), .bin .eql (.t 34) (.c (.int .i64 2))⟩,
 ⟨some 36, (some (33, false)), .mov (.t 35)⟩,
 ⟨some 37, (some (36, true)), .mov (.t 1)⟩,
 ⟨some 38, (some (36, true)), .bin .eql (.t 37) (.c (.int .i64 0))⟩,
 ⟨some 39, (some (33, false)), .pick (.t 36) (.t 38) (.c (.bool false))⟩,
 ⟨some 40, (some (33, false)), .mov (.t 39)⟩,
 ⟨some 41, (some (40, true)), .mov (.t 2)⟩,
 ⟨some 42, (some (40, true)), .bin .gtr (.t 41) (.c (.int .i64 0))⟩,
 ⟨some 43, (some (33, false)), .pick (.t 40) (.t 42) (.c (.bool false))⟩,
 ⟨some 44, (some (33, false)), .mov (.t 43)⟩,
 ⟨some 45, (some (44, true)), .mov (.t 2)⟩,
 ⟨some 46, (some (44, true)), .bin .lss (.t 45) (.c (.int .i64 65))⟩,
 ⟨some 47, (some (33, false)), .pick (.t 44) (.t 46) (.c (.bool false))⟩,
 ⟨some 48, none, .pick (.t 33) (.c (.bool true)) (.t 47)⟩,
 ⟨some 6, none, .mov (.t 48)⟩] (some [6]))
 (.ret))
def F_ref19_Fits : F := ⟨i_ref19_Fits, [(6, none)], false⟩
def i_ref20_Nums : IR := .seq (.rg [⟨some 2, none, .box (.t 0)⟩,
 ⟨some 4, none, .mov (.c (.nsl 1))⟩] (some [1, 2]))
 (.seq (.rg [⟨some 5, none, .ld true 2 (.t 2)⟩,
 ⟨some 6, none, .call n_ref08_Vars [(.t 5)]⟩,
 ⟨some 7, none, .mov (.t 1)⟩,
 ⟨some 8, none, .iad 2 (.t 6) (.t 7)⟩,
 ⟨some 9, none, .fad 1 (.t 8)⟩,
 ⟨some 10, none, .ld false 1 (.t 9)⟩,
 ⟨some 11, none, .call n_ref03_Values [(.t 10)]⟩,
 ⟨some 4, none, .mov (.t 11)⟩] (some [4]))
 (.ret))
def F_ref20_Nums : F := ⟨i_ref20_Nums, [(4, none)], false⟩
def b_ref20_Yes_0 : IR := .seq (.seq (.rg [⟨some 9, none, .mov (.t 6)⟩,
 ⟨some 10, none, .mov (.t 5)⟩,
 ⟨some 11, none, .len (.t 10)⟩,
 ⟨some 12, none, .bin .lss (.t 9) (.t 11)⟩] (some [1, 2, 5, 6, 12]))
 (.cond (.t 12) (.skip) (.ext 0)))
 (.seq (.blk 1 (.seq (.rg [⟨some 15, none, .mov (.t 1)⟩,
 ⟨some 16, none, .mov (.t 5)⟩,
 ⟨some 17, none, .mov (.t 6)⟩,
 ⟨some 18, none, .iad 1 (.t 16) (.t 17)⟩,
 ⟨some 19, none, .ld false 1 (.t 18)⟩,
 ⟨some 20, none, .bin .lss (.t 15) (.t 19)⟩] (some [1, 2, 5, 6, 20]))
 (.cond (.t 20) (.seq (.rg [⟨some 21, none, .fad 0 (.t 2)⟩,
 ⟨some 22, none, .ld false 1 (.t 21)⟩,
 ⟨some 23, none, .mov (.t 6)⟩,
 ⟨some 24, none, .iad 3 (.t 22) (.t 23)⟩,
 ⟨some 25, none, .fad 0 (.t 24)⟩,
 ⟨some 26, none, .ld false 1 (.t 25)⟩,
 ⟨some 27, none, .un .not (.t 26)⟩,
 ⟨some 4, none, .mov (.t 27)⟩] (some [4]))
 (.ret)) (.skip))))
 (.rg [⟨some 13, none, .mov (.t 6)⟩,
 ⟨some 14, none, .bin .add (.t 13) (.c (.int .i64 1))⟩,
 ⟨some 6, none, .mov (.t 14)⟩] (some [1, 2, 5, 6])))
def i_ref20_Yes_l0 : IR := .loop b_ref20_Yes_0
def i_ref20_Yes : IR := .seq (.rg [⟨some 2, none, .box (.t 0)⟩,
 ⟨some 4, none, .mov (.c (.bool false))⟩] (some [1, 2]))
 (.seq (.rg [⟨some 7, none, .ld true 2 (.t 2)⟩,
 ⟨some 8, none, .call n_ref08_Ends [(.t 7)]⟩,
 ⟨some 5, none, .mov (.t 8)⟩] (some [1, 2, 5]))
 (.seq (.seq (.rg [⟨some 6, none, .mov (.c (.int .i64 0))⟩] (some [1, 2, 5, 6]))
 (.blk 0 (i_ref20_Yes_l0)))
 (.seq (.rg [⟨some 4, none, .mov (.c (.bool false))⟩] (some [4]))
 (.ret))))
def F_ref20_Yes : F := ⟨i_ref20_Yes, [(4, none)], false⟩
def i_ref20_with : IR := .seq (.rg [⟨some 4, none, .mov (.c (.nsl 1))⟩] (some [0, 1]))
 (.seq (.rg [⟨some 5, none, .bsl (.int .i64 0) 0 []⟩,
 ⟨some 6, none, .mov (.t 0)⟩,
 ⟨some 7, none, .app 1 8 (.t 5) (.t 6)⟩,
 ⟨some 8, none, .mov (.t 1)⟩,
 ⟨some 9, none, .bsf (.int .i64 0) 1 [(0, (.t 8))]⟩,
 ⟨some 10, none, .app 1 8 (.t 7) (.t 9)⟩,
 ⟨some 4, none, .mov (.t 10)⟩] (some [4]))
 (.ret))
def F_ref20_with : F := ⟨i_ref20_with, [(4, none)], false⟩
def b_ref08_all_0 : IR := .seq (.seq (.rg [⟨some 6, none, .mov (.t 5)⟩,
 ⟨some 7, none, .mov (.t 0)⟩,
 ⟨some 8, none, .len (.t 7)⟩,
 ⟨some 9, none, .bin .lss (.t 6) (.t 8)⟩] (some [0, 1, 5, 9]))
 (.cond (.t 9) (.skip) (.ext 0)))
 (.seq (.blk 1 (.seq (.rg [⟨some 12, none, .mov (.t 0)⟩,
 ⟨some 13, none, .mov (.t 5)⟩,
 ⟨some 14, none, .iad 1 (.t 12) (.t 13)⟩,
 ⟨some 15, none, .ld false 1 (.t 14)⟩,
 ⟨some 16, none, .mov (.t 1)⟩,
 ⟨some 17, none, .un .neg (.t 16)⟩,
 ⟨some 18, none, .bin .lss (.t 15) (.t 17)⟩,
 ⟨some 19, none, .mov (.t 18)⟩,
 ⟨some 20, (some (19, false)), .mov (.t 0)⟩,
 ⟨some 21, (some (19, false)), .mov (.t 5)⟩,
 ⟨some 22, (some (19, false)), .iad 1 (.t 20) (.t 21)⟩,
 ⟨some 23, (some (19, false)), .ld false 1 (.t 22)⟩,
 ⟨some 24, (some (19, false)), .mov (.t 1)⟩,
 ⟨some 25, (some (19, false)), .bin .gtr (.t 23) (.t 24)⟩,
 ⟨some 26, none, .pick (.t 19) (.c (.bool true)) (.t 25)⟩] (some [0, 1, 5, 26]))
 (.cond (.t 26) (.seq (.rg [⟨some 4, none, .mov (.c (.bool false))⟩] (some [4]))
 (.ret)) (.skip))))
 (.rg [⟨some 10, none, .mov (.t 5)⟩,
 ⟨some 11, none, .bin .add (.t 10) (.c (.int .i64 1))⟩,
 ⟨some 5, none, .mov (.t 11)⟩] (some [0, 1, 5])))
def i_ref08_all_l0 : IR := .loop b_ref08_all_0
def i_ref08_all : IR := .seq (.rg [⟨some 4, none, .mov (.c (.bool false))⟩] (some [0, 1]))
 (.seq (.seq (.rg [⟨some 5, none, .mov (.c (.int .i64 0))⟩] (some [0, 1, 5]))
 (.blk 0 (i_ref08_all_l0)))
 (.seq (.rg [⟨some 4, none, .mov (.c (.bool true))⟩] (some [4]))
 (.ret)))
def F_ref08_all : F := ⟨i_ref08_all, [(4, none)], false⟩
def b_ref03_Right_0 : IR := .seq (.seq (.rg [⟨some 4, none, .mov (.t 3)⟩,
 ⟨some 5, none, .mov (.t 0)⟩,
 ⟨some 6, none, .len (.t 5)⟩,
 ⟨some 7, none, .bin .lss (.t 4) (.t 6)⟩] (some [0, 3, 7]))
 (.cond (.t 7) (.skip) (.ext 0)))
 (.seq (.blk 1 (.seq (.seq (.dq [(⟨some 10, none, .mov (.t 0)⟩, []),
 (⟨some 11, none, .mov (.t 3)⟩, []),
 (⟨some 12, none, .iad 2 (.t 10) (.t 11)⟩, [0, 1]),
 (⟨some 13, none, .fad 0 (.t 12)⟩, [0, 1, 2]),
 (⟨some 14, none, .ld false 1 (.t 13)⟩, [0, 1, 2, 3]),
 (⟨some 15, none, .bin .lss (.t 14) (.c (.int .i64 (-1048576)))⟩, [0, 1, 2, 3, 4]),
 (⟨some 16, none, .mov (.t 15)⟩, [0, 1, 2, 3, 4, 5]),
 (⟨some 17, (some (16, false)), .mov (.t 0)⟩, [0, 1, 2, 3, 4, 5, 6]),
 (⟨some 18, (some (16, false)), .mov (.t 3)⟩, [0, 1, 2, 3, 4, 5, 6]),
 (⟨some 19, (some (16, false)), .iad 2 (.t 17) (.t 18)⟩, [0, 1, 2, 3, 4, 5, 6, 7, 8]),
 (⟨some 20, (some (16, false)), .fad 1 (.t 19)⟩, [0, 1, 2, 3, 4, 5, 6, 7, 8, 9]),
 (⟨some 21, (some (16, false)), .ld false 1 (.t 20)⟩, [0, 1, 2, 3, 4, 5, 6, 7, 8, 9, 10]),
 (⟨some 22, (some (16, false)), .bin .gtr (.t 21) (.c (.int .i64 1048576))⟩, [0, 1, 2, 3, 4, 5, 6, 7, 8, 9, 10, 11]),
 (⟨some 23, none, .pick (.t 16) (.c (.bool true)) (.t 22)⟩, [0, 1, 2, 3, 4, 5, 6, 7, 8, 9, 10, 11, 12]),
 (⟨some 24, none, .mov (.t 23)⟩, [0, 1, 2, 3, 4, 5, 6, 7, 8, 9, 10, 11, 12, 13]),
 (⟨some 25, (some (24, false)), .mov (.t 0)⟩, [0, 1, 2, 3, 4, 5, 6, 7, 8, 9, 10, 11, 12, 13, 14]),
 (⟨some 26, (some (24, false)), .mov (.t 3)⟩, [0, 1, 2, 3, 4, 5, 6, 7, 8, 9, 10, 11, 12, 13, 14]),
 (⟨some 27, (some (24, false)), .iad 2 (.t 25) (.t 26)⟩, [0, 1, 2, 3, 4, 5, 6, 7, 8, 9, 10, 11, 12, 13, 14, 15, 16]),
 (⟨some 28, (some (24, false)), .fad 0 (.t 27)⟩, [0, 1, 2, 3, 4, 5, 6, 7, 8, 9, 10, 11, 12, 13, 14, 15, 16, 17]),
 (⟨some 29, (some (24, false)), .ld false 1 (.t 28)⟩, [0, 1, 2, 3, 4, 5, 6, 7, 8, 9, 10, 11, 12, 13, 14, 15, 16, 17, 18]),
 (⟨some 30, (some (24, false)), .mov (.t 0)⟩, [0, 1, 2, 3, 4, 5, 6, 7, 8, 9, 10, 11, 12, 13, 14]),
 (⟨some 31, (some (24, false)), .mov (.t 3)⟩, [0, 1, 2, 3, 4, 5, 6, 7, 8, 9, 10, 11, 12, 13, 14]),
 (⟨some 32, (some (24, false)), .iad 2 (.t 30) (.t 31)⟩, [0, 1, 2, 3, 4, 5, 6, 7, 8, 9, 10, 11, 12, 13, 14, 20, 21]),
 (⟨some 33, (some (24, false)), .fad 1 (.t 32)⟩, [0, 1, 2, 3, 4, 5, 6, 7, 8, 9, 10, 11, 12, 13, 14, 20, 21, 22]),
 (⟨some 34, (some (24, false)), .ld false 1 (.t 33)⟩, [0, 1, 2, 3, 4, 5, 6, 7, 8, 9, 10, 11, 12, 13, 14, 20, 21, 22, 23]),
 (⟨some 35, (some (24, false)), .bin .gtr (.t 29) (.t 34)⟩, [0, 1, 2, 3, 4, 5, 6, 7, 8, 9, 10, 11, 12, 13, 14, 15, 16, 17, 18, 19, 20, 21, 22, 23, 24]),
 (⟨some 36, none, .pick (.t 24) (.c (.bool true)) (.t 35)⟩, [0, 1, 2, 3, 4, 5, 6, 7, 8, 9, 10, 11, 12, 13, 14, 15, 16, 17, 18, 19, 20, 21, 22, 23, 24, 25])] (some [0, 3, 36]))
 (.cond (.t 36) (.seq (.rg [⟨some 2, none, .mov (.c (.bool false))⟩] (some [2]))
 (.ret)) (.skip)))
 (.seq (.dq [(⟨some 37, none, .mov (.t 3)⟩, []),
 (⟨some 38, none, .bin .gtr (.t 37) (.c (.int .i64 0))⟩, [0]),
 (⟨some 39, none, .mov (.t 38)⟩, [0, 1]),
 (⟨some 40, (some (39, true)), .mov (.t 0)⟩, [0, 1, 2]),
 (⟨some 41, (some (39, true)), .mov (.t 3)⟩, [0, 1, 2]),
 (⟨some 42, (some (39, true)), .iad 2 (.t 40) (.t 41)⟩, [0, 1, 2, 3, 4]),
 (⟨some 43, (some (39, true)), .fad 0 (.t 42)⟩, [0, 1, 2, 3, 4, 5]),
 (⟨some 44, (some (39, true)), .ld false 1 (.t 43)⟩, [0, 1, 2, 3, 4, 5, 6]),
 (⟨some 45, (some (39, true)), .mov (.t 0)⟩, [0, 1, 2]),
 (⟨some 46, (some (39, true)), .mov (.t 3)⟩, [0, 1, 2]),
 (⟨some 47, (some (39, true)), .bin .sub (.t 46) (.c (.int .i64 1))⟩, [0, 1, 2, 9]),
 (⟨some 48, (some (39, true)), .iad 2 (.t 45) (.t 47)⟩, [0, 1, 2, 8, 9, 10]),
 (⟨some 49, (some (39, true)), .fad 1 (.t 48)⟩, [0, 1, 2, 8, 9, 10, 11]),
 (⟨some 50, (some (39, true)), .ld false 1 (.t 49)⟩, [0, 1, 2, 8, 9, 10, 11, 12]),
 (⟨some 51, (some (39, true)), .bin .sub (.t 44) (.t 50)⟩, [0, 1, 2, 3, 4, 5, 6, 7, 8, 9, 10, 11, 12, 13]),
 (⟨some 52, (some (39, true)), .bin .lss (.t 51) (.c (.int .i64 2))⟩, [0, 1, 2, 3, 4, 5, 6, 7, 8, 9, 10, 11, 12, 13, 14]),
 (⟨some 53, none, .pick (.t 39) (.t 52) (.c (.bool false))⟩, [0, 1, 2, 3, 4, 5, 6, 7, 8, 9, 10, 11, 12, 13, 14, 15])] (some [0, 3, 53]))
 (.cond (.t 53) (.seq (.rg [⟨some 2, none, .mov (.c (.bool false))⟩] (some [2]))
 (.ret)) (.skip)))))
 (.rg [⟨some 8, none, .mov (.t 3)⟩,
 ⟨some 9, none, .bin .add (.t 8) (.c (.int .i64 1))⟩,
 ⟨some 3, none, .mov (.t 9)⟩] (some [0, 3])))
def i_ref03_Right_l0 : IR := .loop b_ref03_Right_0
theorem r_ref03_Right_0 {C : Cx} {Y : Yl} {fr : Fr} {h : List Ob} : evw C Y i_ref03_Right_l0 fr h = nxt (evw C Y b_ref03_Right_0 fr h) fun fr h => evw C Y i_ref03_Right_l0 fr h := w_loop
def i_ref03_Right : IR := .seq (.rg [⟨some 2, none, .mov (.c (.bool false))⟩] (some [0]))
 (.seq (.seq (.rg [⟨some 3, none, .mov (.c (.int .i64 0))⟩] (some [0, 3]))
 (.blk 0 (i_ref03_Right_l0)))
 (.seq (.rg [⟨some 2, none, .mov (.c (.bool true))⟩] (some [2]))
 (.ret)))
def F_ref03_Right : F := ⟨i_ref03_Right, [(2, none)], false⟩
def i_tree_sharer_put : IR := .seq (.rg [⟨some 3, none, .box (.t 1)⟩,
 ⟨some 4, none, .mov (.c (.int .i64 0))⟩] (some [0, 3]))
 (.seq (.rg [⟨some 6, none, .ld true 3 (.t 3)⟩,
 ⟨some 7, none, .call n_tree_text [(.t 6)]⟩,
 ⟨some 5, none, .mov (.t 7)⟩] (some [0, 3, 5]))
 (.seq (.seq (.rg [⟨some 8, none, .mov (.t 0)⟩,
 ⟨some 9, none, .nck (.t 8)⟩,
 ⟨some 10, none, .fad 1 (.t 9)⟩,
 ⟨some 11, none, .ld false 1 (.t 10)⟩,
 ⟨some 12, none, .mov (.t 5)⟩,
 ⟨some 13, none, .op (.lku none (.int .i64 0) false) [(.t 11), (.t 12)]⟩,
 ⟨some 14, none, .bin .eql (.t 13) (.c (.int .i64 0))⟩] (some [0, 3, 5, 14]))
 (.cond (.t 14) (.seq (.dc [(⟨some 15, none, .mov (.t 0)⟩, [], false),
 (⟨some 16, none, .mov (.t 0)⟩, [], false),
 (⟨some 17, none, .nck (.t 16)⟩, [1], false),
 (⟨some 18, none, .fad 0 (.t 17)⟩, [1, 2], false),
 (⟨some 19, none, .ld false 1 (.t 18)⟩, [1, 2, 3], false),
 (⟨some 20, none, .ld true 3 (.t 3)⟩, [], false),
 (⟨some 21, none, .bsf (.agg [.int .i64 0, .int .i64 0, .nsl 1]) 1 [(0, (.t 20))]⟩, [5], false),
 (⟨some 22, none, .app 3 40 (.t 19) (.t 21)⟩, [1, 2, 3, 4, 5, 6], true),
 (⟨some 23, none, .nck (.t 15)⟩, [0, 1, 2, 3, 4, 5, 6, 7], false),
 (⟨some 24, none, .fad 0 (.t 23)⟩, [0, 1, 2, 3, 4, 5, 6, 7, 8], false),
 (⟨none, none, .st 1 (.t 24) (.t 22)⟩, [0, 1, 2, 3, 4, 5, 6, 7, 8, 9], true)] (some [0, 5]))
 (.dq [(⟨some 25, none, .mov (.t 0)⟩, []),
 (⟨some 26, none, .nck (.t 25)⟩, [0]),
 (⟨some 27, none, .fad 1 (.t 26)⟩, [0, 1]),
 (⟨some 28, none, .ld false 1 (.t 27)⟩, [0, 1, 2]),
 (⟨some 29, none, .mov (.t 5)⟩, []),
 (⟨some 30, none, .mov (.t 0)⟩, []),
 (⟨some 31, none, .nck (.t 30)⟩, [5]),
 (⟨some 32, none, .fad 0 (.t 31)⟩, [5, 6]),
 (⟨some 33, none, .ld false 1 (.t 32)⟩, [5, 6, 7]),
 (⟨some 34, none, .len (.t 33)⟩, [5, 6, 7, 8]),
 (⟨none, none, .op (.mpu none) [(.t 28), (.t 29), (.t 34)]⟩, [0, 1, 2, 3, 4, 5, 6, 7, 8, 9])] (some [0, 5]))) (.skip)))
 (.seq (.rg [⟨some 35, none, .mov (.t 0)⟩,
 ⟨some 36, none, .nck (.t 35)⟩,
 ⟨some 37, none, .fad 1 (.t 36)⟩,
 ⟨some 38, none, .ld false 1 (.t 37)⟩,
 ⟨some 39, none, .mov (.t 5)⟩,
 ⟨some 40, none, .op (.lku none (.int .i64 0) false) [(.t 38), (.t 39)]⟩,
 ⟨some 41, none, .bin .sub (.t 40) (.c (.int .i64 1))⟩,
 ⟨some 4, none, .mov (.t 41)⟩] (some [4]))
 (.ret))))
def F_tree_sharer_put : F := ⟨i_tree_sharer_put, [(4, none)], true⟩
def i_model_big_1 : IR := .seq (.rg [⟨some 1, none, .box (.t 0)⟩,
 ⟨some 2, none, .mov (.c (.bool false))⟩] (some [1]))
 (.seq (.rg [⟨some 3, none, .fad 2 (.t 1)⟩,
 ⟨some 4, none, .ld false 1 (.t 3)⟩,
 ⟨some 5, none, .len (.t 4)⟩,
 ⟨some 6, none, .bin .gtr (.t 5) (.c (.int .i64 16))⟩,
 ⟨some 2, none, .mov (.t 6)⟩] (some [2]))
 (.ret))
def F_model_big_1 : F := ⟨i_model_big_1, [(2, none)], false⟩
def b_slices_IndexFunc_sapi_Block_api_Block_0 : IR := .seq (.rg [⟨some 9, none, .bin .lss (.t 8) (.t 7)⟩] (some [0, 1, 7, 8, 9]))
 (.seq (.cond (.t 9) (.skip) (.ext 0))
 (.seq (.blk 1 (.seq (.rg [⟨some 10, none, .mov (.t 8)⟩,
 ⟨some 5, none, .mov (.t 10)⟩] (some [0, 1, 5, 7, 8]))
 (.seq (.rg [⟨some 11, none, .mov (.t 1)⟩,
 ⟨some 12, none, .mov (.t 0)⟩,
 ⟨some 13, none, .mov (.t 5)⟩,
 ⟨some 14, none, .iad 3 (.t 12) (.t 13)⟩,
 ⟨some 15, none, .ld true 3 (.t 14)⟩,
 ⟨some 16, none, .callv (.t 11) [(.t 15)]⟩] (some [0, 1, 5, 7, 8, 16]))
 (.cond (.t 16) (.seq (.rg [⟨some 17, none, .mov (.t 5)⟩,
 ⟨some 4, none, .mov (.t 17)⟩] (some [4]))
 (.ret)) (.skip)))))
 (.rg [⟨some 18, none, .bin .add (.t 8) (.c (.int .i64 1))⟩,
 ⟨some 8, none, .mov (.t 18)⟩] (some [0, 1, 7, 8]))))
def i_slices_IndexFunc_sapi_Block_api_Block_l0 : IR := .loop b_slices_IndexFunc_sapi_Block_api_Block_0
def i_slices_IndexFunc_sapi_Block_api_Block : IR := .seq (.rg [⟨some 4, none, .mov (.c (.int .i64 0))⟩] (some [0, 1]))
 (.seq (.seq (.rg [⟨some 6, none, .mov (.t 0)⟩,
 ⟨some 7, none, .len (.t 6)⟩,
 ⟨some 8, none, .mov (.c (.int .i64 0))⟩] (some [0, 1, 7, 8]))
 (.blk 0 (i_slices_IndexFunc_sapi_Block_api_Block_l0)))
 (.seq (.rg [⟨some 4, none, .mov (.c (.int .i64 (-1)))⟩] (some [4]))
 (.ret)))
def F_slices_IndexFunc_sapi_Block_api_Block : F := ⟨i_slices_IndexFunc_sapi_Block_api_Block, [(4, none)], false⟩
def b_slices_IndexFunc_sapi_Decl_api_Decl_0 : IR := .seq (.rg [⟨some 9, none, .bin .lss (.t 8) (.t 7)⟩] (some [0, 1, 7, 8, 9]))
 (.seq (.cond (.t 9) (.skip) (.ext 0))
 (.seq (.blk 1 (.seq (.rg [⟨some 10, none, .mov (.t 8)⟩,
 ⟨some 5, none, .mov (.t 10)⟩] (some [0, 1, 5, 7, 8]))
 (.seq (.rg [⟨some 11, none, .mov (.t 1)⟩,
 ⟨some 12, none, .mov (.t 0)⟩,
 ⟨some 13, none, .mov (.t 5)⟩,
 ⟨some 14, none, .iad 2 (.t 12) (.t 13)⟩,
 ⟨some 15, none, .ld true 2 (.t 14)⟩,
 ⟨some 16, none, .callv (.t 11) [(.t 15)]⟩] (some [0, 1, 5, 7, 8, 16]))
 (.cond (.t 16) (.seq (.rg [⟨some 17, none, .mov (.t 5)⟩,
 ⟨some 4, none, .mov (.t 17)⟩] (some [4]))
 (.ret)) (.skip)))))
 (.rg [⟨some 18, none, .bin .add (.t 8) (.c (.int .i64 1))⟩,
 ⟨some 8, none, .mov (.t 18)⟩] (some [0, 1, 7, 8]))))
def i_slices_IndexFunc_sapi_Decl_api_Decl_l0 : IR := .loop b_slices_IndexFunc_sapi_Decl_api_Decl_0
def i_slices_IndexFunc_sapi_Decl_api_Decl : IR := .seq (.rg [⟨some 4, none, .mov (.c (.int .i64 0))⟩] (some [0, 1]))
 (.seq (.seq (.rg [⟨some 6, none, .mov (.t 0)⟩,
 ⟨some 7, none, .len (.t 6)⟩,
 ⟨some 8, none, .mov (.c (.int .i64 0))⟩] (some [0, 1, 7, 8]))
 (.blk 0 (i_slices_IndexFunc_sapi_Decl_api_Decl_l0)))
 (.seq (.rg [⟨some 4, none, .mov (.c (.int .i64 (-1)))⟩] (some [4]))
 (.ret)))
def F_slices_IndexFunc_sapi_Decl_api_Decl : F := ⟨i_slices_IndexFunc_sapi_Decl_api_Decl, [(4, none)], false⟩
def i_strings_Contains : IR := .seq (.rg [⟨some 4, none, .mov (.c (.bool false))⟩] (some [0, 1]))
 (.seq (.rg [⟨some 5, none, .mov (.t 0)⟩,
 ⟨some 6, none, .mov (.t 1)⟩,
 ⟨some 7, none, .call n_strings_Index [(.t 5), (.t 6)]⟩,
 ⟨some 8, none, .bin .geq (.t 7) (.c (.int .i64 0))⟩,
 ⟨some 4, none, .mov (.t 8)⟩] (some [4]))
 (.ret))
def F_strings_Contains : F := ⟨i_strings_Contains, [(4, none)], false⟩
def i_strings_Trim : IR := .seq (.rg [⟨some 4, none, .mov (.c (.str []))⟩] (some [0, 1]))
 (.seq (.seq (.rg [⟨some 7, none, .mov (.t 0)⟩,
 ⟨some 8, none, .bin .eql (.t 7) (.c (.str []))⟩,
 ⟨some 9, none, .mov (.t 8)⟩,
 ⟨some 10, (some (9, false)), .mov (.t 1)⟩,
 ⟨some 11, (some (9, false)), .bin .eql (.t 10) (.c (.str []))⟩,
 ⟨some 12, none, .pick (.t 9) (.c (.bool true)) (.t 11)⟩] (some [0, 1, 12]))
 (.cond (.t 12) (.seq (.rg [⟨some 13, none, .mov (.t 0)⟩,
 ⟨some 4, none, .mov (.t 13)⟩] (some [4]))
 (.ret)) (.skip)))
 (.seq (.seq (.rg [⟨some 14, none, .mov (.t 1)⟩,
 ⟨some 15, none, .slen (.t 14)⟩,
 ⟨some 16, none, .bin .eql (.t 15) (.c (.int .i64 1))⟩,
 ⟨some 17, none, .mov (.t 16)⟩,
 ⟨some 18, (some (17, true)), .mov (.t 1)⟩,
 ⟨some 19, (some (17, true)), .ixs (.t 18) (.c (.int .i64 0))⟩,
 ⟨some 20, (some (17, true)), .bin .lss (.t 19) (.c (.int .u8 128))⟩,
 ⟨some 21, none, .pick (.t 17) (.t 20) (.c (.bool false))⟩] (some [0, 1, 21]))
 (.cond (.t 21) (.seq (.dq [(⟨some 22, none, .mov (.t 0)⟩, []),
 (⟨some 23, none, .mov (.t 1)⟩, []),
 (⟨some 24, none, .ixs (.t 23) (.c (.int .i64 0))⟩, [1]),
 (⟨some 25, none, .call n_strings_trimRightByte [(.t 22), (.t 24)]⟩, [0, 1, 2]),
 (⟨some 26, none, .mov (.t 1)⟩, []),
 (⟨some 27, none, .ixs (.t 26) (.c (.int .i64 0))⟩, [4]),
 (⟨some 28, none, .call n_strings_trimLeftByte [(.t 25), (.t 27)]⟩, [0, 1, 2, 3, 4, 5]),
 (⟨some 4, none, .mov (.t 28)⟩, [0, 1, 2, 3, 4, 5, 6])] (some [4]))
 (.ret)) (.skip)))
 (.seq (.seq (.rg [⟨some 30, none, .mov (.t 1)⟩,
 ⟨some 31, none, .call n_strings_makeASCIISet [(.t 30)]⟩,
 ⟨some 29, none, .mov (.t 31)⟩,
 ⟨some 32, none, .ext (.t 29) 0⟩,
 ⟨some 33, none, .ext (.t 29) 1⟩,
 ⟨some 5, none, .new (.agg [.bool false, .bool false, .bool false, .bool false, .bool false, .bool false, .bool false, .bool false, .bool false, .bool false, .bool false, .bool false, .bool false, .bool false, .bool false, .bool false, .bool false, .bool false, .bool false, .bool false, .bool false, .bool false, .bool false, .bool false, .bool false, .bool false, .bool false, .bool false, .bool false, .bool false, .bool false, .bool false, .bool false, .bool false, .bool false, .bool false, .bool false, .bool false, .bool false, .bool false, .bool false, .bool false, .bool false, .bool false, .bool false, .bool false, .bool false, .bool false, .bool false, .bool false, .bool false, .bool false, .bool false, .bool false, .bool false, .bool false, .bool false, .bool false, .bool false, .bool false, .bool false, .bool false, .bool false, .bool false, .bool false, .bool false, .bool false, .bool false, .bool false, .bool false, .bool false, .bool false, .bool false, .bool false, .bool false, .bool false, .bool false, .bool false, .bool false, .bool false, .bool false, .bool false, .bool false, .bool false, .bool false, .bool false, .bool false, .bool false, .bool false, .bool false, .bool false, .bool false, .bool false, .bool false, .bool false, .bool false, .bool false, .bool false, .bool false, .bool false, .bool false, .bool false, .bool false, .bool false, .bool false, .bool false, .bool false, .bool false, .bool false, .bool false, .bool false, .bool false, .bool false, .bool false, .bool false, .bool false, .bool false, .bool false, .bool false, .bool false, .bool false, .bool false, .bool false, .bool false, .bool false, .bool false, .bool false, .bool false, .bool false, .bool false, .bool false, .bool false, .bool false, .bool false, .bool false, .bool false, .bool false, .bool false, .bool false, .bool false, .bool false, .bool false, .bool false, .bool false, .bool false, .bool false, .bool false, .bool false, .bool false, .bool false, .bool false, .bool false, .bool false, .bool false, .bool false, .bool false, .bool false, .bool false, .bool false, .bool false, .bool false, .bool false, .bool false, .bool false, .bool false, .bool false, .bool false, .bool false, .bool false, .bool false, .bool false, .bool false, .bool false, .bool false, .bool false, .bool false, .bool false, .bool false, .bool false, .bool false, .bool false, .bool false, .bool false, .bool false, .bool false, .bool false, .bool false, .bool false, .bool false, .bool false, .bool false, .bool false, .bool false, .bool false, .bool false, .bool false, .bool false, .bool false, .bool false, .bool false, .bool false, .bool false, .bool false, .bool false, .bool false, .bool false, .bool false, .bool false, .bool false, .bool false, .bool false, .bool false, .bool false, .bool false, .bool false, .bool false, .bool false, .bool false, .bool false, .bool false, .bool false, .bool false, .bool false, .bool false, .bool false, .bool false, .bool false, .bool false, .bool false, .bool false, .bool false, .bool false, .bool false, .bool false, .bool false, .bool false, .bool false, .bool false, .bool false, .bool false, .bool false, .bool false, .bool false, .bool false, .bool false, .bool false, .bool false, .bool false, .bool false, .bool false, .bool false, .bool false, .bool false, .bool false, .bool false, .bool false])⟩,
 ⟨none, none, .st 256 (.t 5) (.t 32)⟩,
 ⟨some 6, none, .mov (.t 33)⟩] (some [0, 1, 5, 6]))
 (.seq (.rg [⟨some 34, none, .mov (.t 6)⟩] (some [0, 1, 5, 34]))
 (.cond (.t 34) (.seq (.rg [⟨some 35, none, .mov (.t 0)⟩,
 ⟨some 36, none, .call n_strings_trimRightASCII [(.t 35), (.t 5)]⟩,
 ⟨some 37, none, .call n_strings_trimLeftASCII [(.t 36), (.t 5)]⟩,
 ⟨some 4, none, .mov (.t 37)⟩] (some [4]))
 (.ret)) (.skip))))
 (.seq (.rg [⟨some 38, none, .mov (.t 0)⟩,
 ⟨some 39, none, .mov (.t 1)⟩,
 ⟨some 40, none, .call n_strings_trimRightUnicode [(.t 38), (.t 39)]⟩,
 ⟨some 41, none, .mov (.t 1)⟩,
 ⟨some 42, none, .call n_strings_trimLeftUnicode [(.t 40), (.t 41)]⟩,
 ⟨some 4, none, .mov (.t 42)⟩] (some [4]))
 (.ret)))))
def F_strings_Trim : F := ⟨i_strings_Trim, [(4, none)], false⟩
def b_spans_Right_0 : IR := .seq (.rg [⟨some 8, none, .bin .lss (.t 7) (.t 6)⟩] (some [0, 5, 6, 7, 8]))
 (.seq (.cond (.t 8) (.skip) (.ext 0))
 (.seq (.blk 1 (.seq (.rg [⟨some 9, none, .mov (.t 7)⟩,
 ⟨some 10, none, .iad 2 (.t 5) (.t 7)⟩,
 ⟨some 11, none, .ld true 2 (.t 10)⟩,
 ⟨some 4, none, .new (.agg [.int .i64 0, .int .i64 0])⟩,
 ⟨some 3, none, .mov (.t 9)⟩,
 ⟨none, none, .st 2 (.t 4) (.t 11)⟩] (some [0, 3, 4, 5, 6, 7]))
 (.seq (.dq [(⟨some 12, none, .fad 0 (.t 4)⟩, []),
 (⟨some 13, none, .ld false 1 (.t 12)⟩, [0]),
 (⟨some 14, none, .fad 1 (.t 4)⟩, []),
 (⟨some 15, none, .ld false 1 (.t 14)⟩, [2]),
 (⟨some 16, none, .bin .gtr (.t 13) (.t 15)⟩, [0, 1, 2, 3]),
 (⟨some 17, none, .mov (.t 16)⟩, [0, 1, 2, 3, 4]),
 (⟨some 18, (some (17, false)), .fad 0 (.t 4)⟩, [0, 1, 2, 3, 4, 5]),
 (⟨some 19, (some (17, false)), .ld false 1 (.t 18)⟩, [0, 1, 2, 3, 4, 5, 6]),
 (⟨some 20, (some (17, false)), .bin .lss (.t 19) (.c (.int .i64 (-1048576)))⟩, [0, 1, 2, 3, 4, 5, 6, 7]),
 (⟨some 21, none, .pick (.t 17) (.c (.bool true)) (.t 20)⟩, [0, 1, 2, 3, 4, 5, 6, 7, 8]),
 (⟨some 22, none, .mov (.t 21)⟩, [0, 1, 2, 3, 4, 5, 6, 7, 8, 9]),
 (⟨some 23, (some (22, false)), .fad 1 (.t 4)⟩, [0, 1, 2, 3, 4, 5, 6, 7, 8, 9, 10]),
 (⟨some 24, (some (22, false)), .ld false 1 (.t 23)⟩, [0, 1, 2, 3, 4, 5, 6, 7, 8, 9, 10, 11]),
 (⟨some 25, (some (22, false)), .bin .gtr (.t 24) (.c (.int .i64 1048576))⟩, [0, 1, 2, 3, 4, 5, 6, 7, 8, 9, 10, 11, 12]),
 (⟨some 26, none, .pick (.t 22) (.c (.bool true)) (.t 25)⟩, [0, 1, 2, 3, 4, 5, 6, 7, 8, 9, 10, 11, 12, 13]),
 (⟨some 27, none, .mov (.t 26)⟩, [0, 1, 2, 3, 4, 5, 6, 7, 8, 9, 10, 11, 12, 13, 14]),
 (⟨some 28, (some (27, false)), .mov (.t 3)⟩, [0, 1, 2, 3, 4, 5, 6, 7, 8, 9, 10, 11, 12, 13, 14, 15]),
 (⟨some 29, (some (27, false)), .bin .gtr (.t 28) (.c (.int .i64 0))⟩, [0, 1, 2, 3, 4, 5, 6, 7, 8, 9, 10, 11, 12, 13, 14, 15, 16]),
 (⟨some 30, (some (27, false)), .mov (.t 29)⟩, [0, 1, 2, 3, 4, 5, 6, 7, 8, 9, 10, 11, 12, 13, 14, 15, 16, 17]),
 (⟨some 31, (some (30, true)), .fad 0 (.t 4)⟩, [0, 1, 2, 3, 4, 5, 6, 7, 8, 9, 10, 11, 12, 13, 14, 15, 16, 17, 18]),
 (⟨some 32, (some (30, true)), .ld false 1 (.t 31)⟩, [0, 1, 2, 3, 4, 5, 6, 7, 8, 9, 10, 11, 12, 13, 14, 15, 16, 17, 18, 19]),
 (⟨some 33, (some (30, true)), .mov (.t 0)⟩, [0, 1, 2, 3, 4, 5, 6, 7, 8, 9, 10, 11, 12, 13, 14, 15, 16, 17, 18]),
 (⟨some 34, (some (30, true)), .mov (.t 3)⟩, [0, 1, 2, 3, 4, 5, 6, 7, 8, 9, 10, 11, 12, 13, 14, 15, 16, 17, 18]),
 (⟨some 35, (some (30, true)), .bin .sub (.t 34) (.c (.int .i64 1))⟩, [0, 1, 2, 3, 4, 5, 6, 7, 8, 9, 10, 11, 12, 13, 14, 15, 16, 17, 18, 22]),
 (⟨some 36, (some (30, true)), .iad 2 (.t 33) (.t 35)⟩, [0, 1, 2, 3, 4, 5, 6, 7, 8, 9, 10, 11, 12, 13, 14, 15, 16, 17, 18, 21, 22, 23]),
 (⟨some 37, (some (30, true)), .fad 1 (.t 36)⟩, [0, 1, 2, 3, 4, 5, 6, 7, 8, 9, 10, 11, 12, 13, 14, 15, 16, 17, 18, 21, 22, 23, 24]),
 (⟨some 38, (some (30, true)), .ld false 1 (.t 37)⟩, [0, 1, 2, 3, 4, 5, 6, 7, 8, 9, 10, 11, 12, 13, 14, 15, 16, 17, 18, 21, 22, 23, 24, 25]),
 (⟨some 39, (some (30, true)), .bin .add (.t 38) (.c (.int .i64 1))⟩, [0, 1, 2, 3, 4, 5, 6, 7, 8, 9, 10, 11, 12, 13, 14, 15, 16, 17, 18, 21, 22, 23, 24, 25, 26]),
 (⟨some 40, (some (30, true)), .bin .leq (.t 32) (.t 39)⟩, [0, 1, 2, 3, 4, 5, 6, 7, 8, 9, 10, 11, 12, 13, 14, 15, 16, 17, 18, 19, 20, 21, 22, 23, 24, 25, 26, 27]),
 (⟨some 41, (some (27, false)), .pick (.t 30) (.t 40) (.c (.bool false))⟩, [0, 1, 2, 3, 4, 5, 6, 7, 8, 9, 10, 11, 12, 13, 14, 15, 16, 17, 18, 19, 20, 21, 22, 23, 24, 25, 26, 27, 28]),
 (⟨some 42, none, .pick (.t 27) (.c (.bool true)) (.t 41)⟩, [0, 1, 2, 3, 4, 5, 6, 7, 8, 9, 10, 11, 12, 13, 14, 15, 16, 17, 18, 19, 20, 21, 22, 23, 24, 25, 26, 27, 28, 29])] (some [0, 5, 6, 7, 42]))
 (.cond (.t 42) (.seq (.rg [⟨some 2, none, .mov (.c (.bool false))⟩] (some [2]))
 (.ret)) (.skip)))))
 (.rg [⟨some 43, none, .bin .add (.t 7) (.c (.int .i64 1))⟩,
 ⟨some 7, none, .mov (.t 43)⟩] (some [0, 5, 6, 7]))))
def i_spans_Right_l0 : IR := .loop b_spans_Right_0
theorem r_spans_Right_0 {C : Cx} {Y : Yl} {fr : Fr} {h : List Ob} : evw C Y i_spans_Right_l0 fr h = nxt (evw C Y b_spans_Right_0 fr h) fun fr h => evw C Y i_spans_Right_l0 fr h := w_loop
def i_spans_Right : IR := .seq (.rg [⟨some 2, none, .mov (.c (.bool false))⟩] (some [0]))
 (.seq (.seq (.rg [⟨some 5, none, .mov (.t 0)⟩,
 ⟨some 6, none, .len (.t 5)⟩,
 ⟨some 7, none, .mov (.c (.int .i64 0))⟩] (some [0, 5, 6, 7]))
 (.blk 0 (i_spans_Right_l0)))
 (.seq (.rg [⟨some 2, none, .mov (.c (.bool true))⟩] (some [2]))
 (.ret)))
def F_spans_Right : F := ⟨i_spans_Right, [(2, none)], false⟩
def i_slices_ContainsFunc_sapi_Con_api_Con : IR := .seq (.rg [⟨some 4, none, .mov (.c (.bool false))⟩] (some [0, 1]))
 (.seq (.rg [⟨some 5, none, .mov (.t 0)⟩,
 ⟨some 6, none, .mov (.t 1)⟩,
 ⟨some 7, none, .call n_slices_IndexFunc_sapi_Con_api_Con [(.t 5), (.t 6)]⟩,
 ⟨some 8, none, .bin .geq (.t 7) (.c (.int .i64 0))⟩,
 ⟨some 4, none, .mov (.t 8)⟩] (some [4]))
 (.ret))
def F_slices_ContainsFunc_sapi_Con_api_Con : F := ⟨i_slices_ContainsFunc_sapi_Con_api_Con, [(4, none)], false⟩
def i_model_wrong_1 : IR := .seq (.rg [⟨some 3, none, .box (.t 0)⟩,
 ⟨some 4, none, .mov (.c (.bool false))⟩] (some [1, 2, 3]))
 (.seq (.dq [(⟨some 5, none, .ld true 6 (.t 3)⟩, []),
 (⟨some 6, none, .ld false 1 (.t 1)⟩, []),
 (⟨some 7, none, .ld false 1 (.t 2)⟩, []),
 (⟨some 8, none, .iad 1 (.t 6) (.t 7)⟩, [1, 2]),
 (⟨some 9, none, .ld false 1 (.t 8)⟩, [1, 2, 3]),
 (⟨some 10, none, .call n_model_Right [(.t 5), (.t 9)]⟩, [0, 1, 2, 3, 4]),
 (⟨some 11, none, .un .not (.t 10)⟩, [0, 1, 2, 3, 4, 5]),
 (⟨some 4, none, .mov (.t 11)⟩, [0, 1, 2, 3, 4, 5, 6])] (some [4]))
 (.ret))
def F_model_wrong_1 : F := ⟨i_model_wrong_1, [(4, none)], false⟩
def i_model_Right : IR := .seq (.rg [⟨some 2, none, .box (.t 0)⟩,
 ⟨some 4, none, .mov (.c (.bool false))⟩] (some [1, 2]))
 (.seq (.rg [⟨some 6, none, .bsl (.nilf) 6 [(0, (.c (.fn (.func n_model_looker_linear) [] []))), (1, (.c (.fn (.func n_model_looker_product) [] []))), (2, (.c (.fn (.func n_model_looker_iff) [] []))), (3, (.c (.fn (.func n_model_looker_element) [] []))), (4, (.c (.fn (.func n_model_looker_differ) [] []))), (5, (.c (.fn (.func n_model_looker_table) [] [])))]⟩,
 ⟨some 5, none, .mov (.t 6)⟩] (some [1, 2, 5]))
 (.seq (.dq [(⟨some 7, none, .fad 0 (.t 2)⟩, []),
 (⟨some 8, none, .ld false 1 (.t 7)⟩, [0]),
 (⟨some 9, none, .bin .geq (.t 8) (.c (.int .i64 1))⟩, [0, 1]),
 (⟨some 10, none, .mov (.t 9)⟩, [0, 1, 2]),
 (⟨some 11, (some (10, true)), .fad 0 (.t 2)⟩, [0, 1, 2, 3]),
 (⟨some 12, (some (10, true)), .ld false 1 (.t 11)⟩, [0, 1, 2, 3, 4]),
 (⟨some 13, (some (10, true)), .mov (.t 5)⟩, [0, 1, 2, 3]),
 (⟨some 14, (some (10, true)), .len (.t 13)⟩, [0, 1, 2, 3, 6]),
 (⟨some 15, (some (10, true)), .bin .leq (.t 12) (.t 14)⟩, [0, 1, 2, 3, 4, 5, 6, 7]),
 (⟨some 16, none, .pick (.t 10) (.t 15) (.c (.bool false))⟩, [0, 1, 2, 3, 4, 5, 6, 7, 8]),
 (⟨some 17, none, .mov (.t 16)⟩, [0, 1, 2, 3, 4, 5, 6, 7, 8, 9]),
 (⟨some 18, (some (17, true)), .mov (.t 5)⟩, [0, 1, 2, 3, 4, 5, 6, 7, 8, 9, 10]),
 (⟨some 19, (some (17, true)), .fad 0 (.t 2)⟩, [0, 1, 2, 3, 4, 5, 6, 7, 8, 9, 10]),
 (⟨some 20, (some (17, true)), .ld false 1 (.t 19)⟩, [0, 1, 2, 3, 4, 5, 6, 7, 8, 9, 10, 12]),
 (⟨some 21, (some (17, true)), .bin .sub (.t 20) (.c (.int .i64 1))⟩, [0, 1, 2, 3, 4, 5, 6, 7, 8, 9, 10, 12, 13]),
 (⟨some 22, (some (17, true)), .iad 1 (.t 18) (.t 21)⟩, [0, 1, 2, 3, 4, 5, 6, 7, 8, 9, 10, 11, 12, 13, 14]),
 (⟨some 23, (some (17, true)), .ld false 1 (.t 22)⟩, [0, 1, 2, 3, 4, 5, 6, 7, 8, 9, 10, 11, 12, 13, 14, 15]),
 (⟨some 24, (some (17, true)), .ld true 6 (.t 2)⟩, [0, 1, 2, 3, 4, 5, 6, 7, 8, 9, 10]),
 (⟨some 25, (some (17, true)), .mov (.t 1)⟩, [0, 1, 2, 3, 4, 5, 6, 7, 8, 9, 10]),
 (⟨some 26, (some (17, true)), .bld [.int .i64 0, .nsl 1, .nsl 1, .int .i64 0, .int .i64 0, .nsl 1, .int .i64 0] [(0, 6, (.t 24)), (6, 1, (.t 25))]⟩, [0, 1, 2, 3, 4, 5, 6, 7, 8, 9, 10, 17, 18]),
 (⟨some 27, (some (17, true)), .callv (.t 23) [(.t 26)]⟩, [0, 1, 2, 3, 4, 5, 6, 7, 8, 9, 10, 11, 12, 13, 14, 15, 16, 17, 18, 19]),
 (⟨some 28, none, .pick (.t 17) (.t 27) (.c (.bool false))⟩, [0, 1, 2, 3, 4, 5, 6, 7, 8, 9, 10, 11, 12, 13, 14, 15, 16, 17, 18, 19, 20]),
 (⟨some 4, none, .mov (.t 28)⟩, [0, 1, 2, 3, 4, 5, 6, 7, 8, 9, 10, 11, 12, 13, 14, 15, 16, 17, 18, 19, 20, 21])] (some [4]))
 (.ret)))
def F_model_Right : F := ⟨i_model_Right, [(4, none)], false⟩
def i_model_wrong_2 : IR := .seq (.rg [⟨some 2, none, .box (.t 0)⟩,
 ⟨some 3, none, .mov (.c (.bool false))⟩] (some [1, 2]))
 (.seq (.dq [(⟨some 4, none, .ld true 6 (.t 2)⟩, []),
 (⟨some 5, none, .ld false 1 (.t 1)⟩, []),
 (⟨some 6, none, .ld false 1 (.t 1)⟩, []),
 (⟨some 7, none, .len (.t 6)⟩, [2]),
 (⟨some 8, none, .bin .sub (.t 7) (.c (.int .i64 1))⟩, [2, 3]),
 (⟨some 9, none, .iad 1 (.t 5) (.t 8)⟩, [1, 2, 3, 4]),
 (⟨some 10, none, .ld false 1 (.t 9)⟩, [1, 2, 3, 4, 5]),
 (⟨some 11, none, .call n_model_Right [(.t 4), (.t 10)]⟩, [0, 1, 2, 3, 4, 5, 6]),
 (⟨some 12, none, .un .not (.t 11)⟩, [0, 1, 2, 3, 4, 5, 6, 7]),
 (⟨some 3, none, .mov (.t 12)⟩, [0, 1, 2, 3, 4, 5, 6, 7, 8])] (some [3]))
 (.ret))
def F_model_wrong_2 : F := ⟨i_model_wrong_2, [(3, none)], false⟩
def b_ground_Right_0 : IR := .seq (.rg [⟨some 10, none, .bin .lss (.t 9) (.t 8)⟩] (some [0, 3, 7, 8, 9, 10]))
 (.seq (.cond (.t 10) (.skip) (.ext 0))
 (.seq (.blk 1 (.seq (.rg [⟨some 11, none, .iad 1 (.t 7) (.t 9)⟩,
 ⟨some 12, none, .ld false 1 (.t 11)⟩,
 ⟨some 6, none, .mov (.t 12)⟩] (some [0, 3, 6, 7, 8, 9]))
 (.seq (.rg [⟨some 13, none, .mov (.t 6)⟩,
 ⟨some 14, none, .bin .lss (.t 13) (.c (.int .i64 (-1048576)))⟩,
 ⟨some 15, none, .mov (.t 14)⟩,
 ⟨some 16, (some (15, false)), .mov (.t 6)⟩,
 ⟨some 17, (some (15, false)), .bin .gtr (.t 16) (.c (.int .i64 1048576))⟩,
 ⟨some 18, none, .pick (.t 15) (.c (.bool true)) (.t 17)⟩] (some [0, 3, 7, 8, 9, 18]))
 (.cond (.t 18) (.seq (.rg [⟨some 4, none, .mov (.c (.bool false))⟩] (some [4]))
 (.ret)) (.skip)))))
 (.rg [⟨some 19, none, .bin .add (.t 9) (.c (.int .i64 1))⟩,
 ⟨some 9, none, .mov (.t 19)⟩] (some [0, 3, 7, 8, 9]))))
def i_ground_Right_l0 : IR := .loop b_ground_Right_0
theorem r_ground_Right_0 {C : Cx} {Y : Yl} {fr : Fr} {h : List Ob} : evw C Y i_ground_Right_l0 fr h = nxt (evw C Y b_ground_Right_0 fr h) fun fr h => evw C Y i_ground_Right_l0 fr h := w_loop
def i_ground_Right : IR := .seq (.rg [⟨some 3, none, .box (.t 1)⟩,
 ⟨some 4, none, .mov (.c (.bool false))⟩] (some [0, 3]))
 (.seq (.seq (.rg [⟨some 7, none, .ld false 1 (.t 3)⟩,
 ⟨some 8, none, .len (.t 7)⟩,
 ⟨some 9, none, .mov (.c (.int .i64 0))⟩] (some [0, 3, 7, 8, 9]))
 (.blk 0 (i_ground_Right_l0)))
 (.seq (.rg [⟨some 20, none, .mov (.t 0)⟩,
 ⟨some 21, none, .mkf (.func n_ground_Right_1) [] [(.t 3)]⟩,
 ⟨some 22, none, .call n_slices_ContainsFunc_sapi_Con_api_Con [(.t 20), (.t 21)]⟩,
 ⟨some 23, none, .un .not (.t 22)⟩,
 ⟨some 4, none, .mov (.t 23)⟩] (some [4]))
 (.ret)))
def F_ground_Right : F := ⟨i_ground_Right, [(4, none)], false⟩
def i_ground_All_1 : IR := .seq (.rg [⟨some 2, none, .box (.t 0)⟩,
 ⟨some 3, none, .mov (.c (.bool false))⟩] (some [1, 2]))
 (.seq (.rg [⟨some 4, none, .ld true 6 (.t 2)⟩,
 ⟨some 5, none, .ld false 1 (.t 1)⟩,
 ⟨some 6, none, .call n_ground_holds [(.t 4), (.t 5)]⟩,
 ⟨some 7, none, .un .not (.t 6)⟩,
 ⟨some 3, none, .mov (.t 7)⟩] (some [3]))
 (.ret))
def F_ground_All_1 : F := ⟨i_ground_All_1, [(3, none)], false⟩
def b_ground_holds_0 : IR := .seq (.rg [⟨some 15, none, .bin .lss (.t 14) (.t 13)⟩] (some [2, 5, 6, 13, 14, 15]))
 (.seq (.cond (.t 15) (.skip) (.ext 0))
 (.seq (.blk 1 (.seq (.rg [⟨some 16, none, .mov (.t 14)⟩,
 ⟨some 7, none, .mov (.t 16)⟩] (some [2, 5, 6, 7, 13, 14]))
 (.rg [⟨some 17, none, .mov (.t 6)⟩,
 ⟨some 18, none, .mov (.t 5)⟩,
 ⟨some 19, none, .mov (.t 7)⟩,
 ⟨some 20, none, .callv (.t 18) [(.t 19)]⟩,
 ⟨some 21, none, .bsf (.int .i64 0) 1 [(0, (.t 20))]⟩,
 ⟨some 22, none, .app 1 8 (.t 17) (.t 21)⟩,
 ⟨some 6, none, .mov (.t 22)⟩] (some [2, 5, 6, 13, 14]))))
 (.rg [⟨some 23, none, .bin .add (.t 14) (.c (.int .i64 1))⟩,
 ⟨some 14, none, .mov (.t 23)⟩] (some [2, 5, 6, 13, 14]))))
def i_ground_holds_l0 : IR := .loop b_ground_holds_0
theorem r_ground_holds_0 {C : Cx} {Y : Yl} {fr : Fr} {h : List Ob} : evw C Y i_ground_holds_l0 fr h = nxt (evw C Y b_ground_holds_0 fr h) fun fr h => evw C Y i_ground_holds_l0 fr h := w_loop
def b_ground_holds_1 : IR := .seq (.seq (.rg [⟨some 99, none, .mov (.t 9)⟩,
 ⟨some 100, none, .len (.t 99)⟩,
 ⟨some 101, none, .bin .gtr (.t 100) (.c (.int .i64 0))⟩] (some [6, 9, 101]))
 (.cond (.t 101) (.skip) (.ext 3)))
 (.seq (.blk 4 (.seq (.rg [⟨some 106, none, .mov (.t 9)⟩,
 ⟨some 107, none, .mov (.t 6)⟩,
 ⟨some 108, none, .len (.t 107)⟩,
 ⟨some 109, none, .sll 1 (.t 106) none (some (.t 108)) none⟩,
 ⟨some 110, none, .mov (.t 6)⟩,
 ⟨some 111, none, .call n_slices_Equal_sint_int [(.t 109), (.t 110)]⟩] (some [6, 9, 111]))
 (.cond (.t 111) (.seq (.rg [⟨some 4, none, .mov (.c (.bool true))⟩] (some [4]))
 (.ret)) (.skip))))
 (.rg [⟨some 102, none, .mov (.t 9)⟩,
 ⟨some 103, none, .mov (.t 6)⟩,
 ⟨some 104, none, .len (.t 103)⟩,
 ⟨some 105, none, .sll 1 (.t 102) (some (.t 104)) none none⟩,
 ⟨some 9, none, .mov (.t 105)⟩] (some [6, 9])))
def i_ground_holds_l1 : IR := .loop b_ground_holds_1
theorem r_ground_holds_1 {C : Cx} {Y : Yl} {fr : Fr} {h : List Ob} : evw C Y i_ground_holds_l1 fr h = nxt (evw C Y b_ground_holds_1 fr h) fun fr h => evw C Y i_ground_holds_l1 fr h := w_loop
def i_ground_holds : IR := .seq (.rg [⟨some 2, none, .box (.t 0)⟩,
 ⟨some 3, none, .box (.t 1)⟩,
 ⟨some 4, none, .mov (.c (.bool false))⟩] (some [2, 3]))
 (.seq (.rg [⟨some 10, none, .mkf (.func n_ground_holds_1) [] [(.t 3), (.t 2)]⟩,
 ⟨some 5, none, .mov (.t 10)⟩] (some [2, 5]))
 (.seq (.rg [⟨some 6, none, .mov (.c (.nsl 1))⟩] (some [2, 5, 6]))
 (.seq (.seq (.rg [⟨some 11, none, .fad 1 (.t 2)⟩,
 ⟨some 12, none, .ld false 1 (.t 11)⟩,
 ⟨some 13, none, .len (.t 12)⟩,
 ⟨some 14, none, .mov (.c (.int .i64 0))⟩] (some [2, 5, 6, 13, 14]))
 (.blk 0 (i_ground_holds_l0)))
 (.seq (.seq (.rg [⟨some 24, none, .fad 0 (.t 2)⟩,
 ⟨some 25, none, .ld false 1 (.t 24)⟩] (some [2, 5, 6, 25]))
 (.blk 2 (.seq (.rg [⟨some 27, none, .bin .eql (.t 25) (.c (.int .i64 1))⟩,
 ⟨some 26, none, .mov (.t 27)⟩] (some [2, 5, 6, 25, 26]))
 (.cond (.t 26) (.seq (.rg [⟨some 28, none, .ld true 6 (.t 2)⟩,
 ⟨some 29, none, .mov (.t 6)⟩,
 ⟨some 30, none, .call n_ground_compared [(.t 28), (.t 29)]⟩,
 ⟨some 4, none, .mov (.t 30)⟩] (some [4]))
 (.ret)) (.seq (.rg [⟨some 32, none, .bin .eql (.t 25) (.c (.int .i64 2))⟩,
 ⟨some 31, none, .mov (.t 32)⟩] (some [2, 5, 6, 25, 31]))
 (.cond (.t 31) (.seq (.rg [⟨some 33, none, .mov (.t 5)⟩,
 ⟨some 34, none, .callv (.t 33) [(.c (.int .i64 0))]⟩,
 ⟨some 35, none, .mov (.t 5)⟩,
 ⟨some 36, none, .callv (.t 35) [(.c (.int .i64 1))]⟩,
 ⟨some 37, none, .bin .mul (.t 34) (.t 36)⟩,
 ⟨some 38, none, .mov (.t 5)⟩,
 ⟨some 39, none, .callv (.t 38) [(.c (.int .i64 2))]⟩,
 ⟨some 40, none, .bin .eql (.t 37) (.t 39)⟩,
 ⟨some 4, none, .mov (.t 40)⟩] (some [4]))
 (.ret)) (.seq (.rg [⟨some 42, none, .bin .eql (.t 25) (.c (.int .i64 3))⟩,
 ⟨some 41, none, .mov (.t 42)⟩] (some [2, 5, 6, 25, 41]))
 (.cond (.t 41) (.seq (.dq [(⟨some 43, none, .ld true 6 (.t 2)⟩, []),
 (⟨some 44, none, .mov (.t 6)⟩, []),
 (⟨some 45, none, .sll 1 (.t 44) (some (.c (.int .i64 1))) none none⟩, [1]),
 (⟨some 46, none, .call n_ground_compared [(.t 43), (.t 45)]⟩, [0, 1, 2]),
 (⟨some 8, none, .mov (.t 46)⟩, [0, 1, 2, 3])] (some [5, 8]))
 (.seq (.rg [⟨some 47, none, .mov (.t 5)⟩,
 ⟨some 48, none, .callv (.t 47) [(.c (.int .i64 0))]⟩,
 ⟨some 49, none, .bin .eql (.t 48) (.c (.int .i64 1))⟩,
 ⟨some 50, none, .mov (.t 49)⟩,
 ⟨some 51, (some (50, true)), .mov (.t 8)⟩,
 ⟨some 52, none, .pick (.t 50) (.t 51) (.c (.bool false))⟩,
 ⟨some 53, none, .mov (.t 52)⟩,
 ⟨some 54, (some (53, false)), .mov (.t 5)⟩,
 ⟨some 55, (some (53, false)), .callv (.t 54) [(.c (.int .i64 0))]⟩,
 ⟨some 56, (some (53, false)), .bin .eql (.t 55) (.c (.int .i64 0))⟩,
 ⟨some 57, (some (53, false)), .mov (.t 56)⟩,
 ⟨some 58, (some (57, true)), .mov (.t 8)⟩,
 ⟨some 59, (some (57, true)), .un .not (.t 58)⟩,
 ⟨some 60, (some (53, false)), .pick (.t 57) (.t 59) (.c (.bool false))⟩,
 ⟨some 61, none, .pick (.t 53) (.c (.bool true)) (.t 60)⟩,
 ⟨some 4, none, .mov (.t 61)⟩] (some [4]))
 (.ret))) (.seq (.rg [⟨some 63, none, .bin .eql (.t 25) (.c (.int .i64 4))⟩,
 ⟨some 62, none, .mov (.t 63)⟩] (some [2, 5, 6, 25, 62]))
 (.cond (.t 62) (.seq (.dq [(⟨some 64, none, .mov (.t 5)⟩, []),
 (⟨some 65, none, .callv (.t 64) [(.c (.int .i64 0))]⟩, [0]),
 (⟨some 66, none, .bin .geq (.t 65) (.c (.int .i64 0))⟩, [0, 1]),
 (⟨some 67, none, .mov (.t 66)⟩, [0, 1, 2]),
 (⟨some 68, (some (67, true)), .mov (.t 5)⟩, [0, 1, 2, 3]),
 (⟨some 69, (some (67, true)), .callv (.t 68) [(.c (.int .i64 0))]⟩, [0, 1, 2, 3, 4]),
 (⟨some 70, (some (67, true)), .fad 5 (.t 2)⟩, [0, 1, 2, 3]),
 (⟨some 71, (some (67, true)), .ld false 1 (.t 70)⟩, [0, 1, 2, 3, 6]),
 (⟨some 72, (some (67, true)), .len (.t 71)⟩, [0, 1, 2, 3, 6, 7]),
 (⟨some 73, (some (67, true)), .bin .lss (.t 69) (.t 72)⟩, [0, 1, 2, 3, 4, 5, 6, 7, 8]),
 (⟨some 74, none, .pick (.t 67) (.t 73) (.c (.bool false))⟩, [0, 1, 2, 3, 4, 5, 6, 7, 8, 9]),
 (⟨some 75, none, .mov (.t 74)⟩, [0, 1, 2, 3, 4, 5, 6, 7, 8, 9, 10]),
 (⟨some 76, (some (75, true)), .fad 5 (.t 2)⟩, [0, 1, 2, 3, 4, 5, 6, 7, 8, 9, 10, 11]),
 (⟨some 77, (some (75, true)), .ld false 1 (.t 76)⟩, [0, 1, 2, 3, 4, 5, 6, 7, 8, 9, 10, 11, 12]),
 (⟨some 78, (some (75, true)), .mov (.t 5)⟩, [0, 1, 2, 3, 4, 5, 6, 7, 8, 9, 10, 11]),
 (⟨some 79, (some (75, true)), .callv (.t 78) [(.c (.int .i64 0))]⟩, [0, 1, 2, 3, 4, 5, 6, 7, 8, 9, 10, 11, 14]),
 (⟨some 80, (some (75, true)), .iad 1 (.t 77) (.t 79)⟩, [0, 1, 2, 3, 4, 5, 6, 7, 8, 9, 10, 11, 12, 13, 14, 15]),
 (⟨some 81, (some (75, true)), .ld false 1 (.t 80)⟩, [0, 1, 2, 3, 4, 5, 6, 7, 8, 9, 10, 11, 12, 13, 14, 15, 16]),
 (⟨some 82, (some (75, true)), .mov (.t 5)⟩, [0, 1, 2, 3, 4, 5, 6, 7, 8, 9, 10, 11]),
 (⟨some 83, (some (75, true)), .callv (.t 82) [(.c (.int .i64 1))]⟩, [0, 1, 2, 3, 4, 5, 6, 7, 8, 9, 10, 11, 14, 15, 18]),
 (⟨some 84, (some (75, true)), .bin .eql (.t 81) (.t 83)⟩, [0, 1, 2, 3, 4, 5, 6, 7, 8, 9, 10, 11, 12, 13, 14, 15, 16, 17, 18, 19]),
 (⟨some 85, none, .pick (.t 75) (.t 84) (.c (.bool false))⟩, [0, 1, 2, 3, 4, 5, 6, 7, 8, 9, 10, 11, 12, 13, 14, 15, 16, 17, 18, 19, 20]),
 (⟨some 4, none, .mov (.t 85)⟩, [0, 1, 2, 3, 4, 5, 6, 7, 8, 9, 10, 11, 12, 13, 14, 15, 16, 17, 18, 19, 20, 21])] (some [4]))
 (.ret)) (.seq (.rg [⟨some 87, none, .bin .eql (.t 25) (.c (.int .i64 5))⟩,
 ⟨some 86, none, .mov (.t 87)⟩] (some [2, 6, 86]))
 (.cond (.t 86) (.seq (.rg [⟨some 88, none, .mov (.t 6)⟩,
 ⟨some 89, none, .call n_slices_Sort_sint_int [(.t 88)]⟩] (some [2, 6]))
 (.seq (.dc [(⟨some 90, none, .mov (.t 6)⟩, [], false),
 (⟨some 91, none, .call n_slices_Compact_sint_int [(.t 90)]⟩, [0], true),
 (⟨some 92, none, .len (.t 91)⟩, [0, 1], false),
 (⟨some 93, none, .fad 1 (.t 2)⟩, [], false),
 (⟨some 94, none, .ld false 1 (.t 93)⟩, [3], false),
 (⟨some 95, none, .len (.t 94)⟩, [3, 4], false),
 (⟨some 96, none, .bin .eql (.t 92) (.t 95)⟩, [0, 1, 2, 3, 4, 5], false),
 (⟨some 4, none, .mov (.t 96)⟩, [0, 1, 2, 3, 4, 5, 6], false)] (some [4]))
 (.ret))) (.skip)))))))))))))
 (.seq (.seq (.rg [⟨some 97, none, .fad 5 (.t 2)⟩,
 ⟨some 98, none, .ld false 1 (.t 97)⟩,
 ⟨some 9, none, .mov (.t 98)⟩] (some [6, 9]))
 (.blk 3 (i_ground_holds_l1)))
 (.seq (.rg [⟨some 4, none, .mov (.c (.bool false))⟩] (some [4]))
 (.ret)))))))
def F_ground_holds : F := ⟨i_ground_holds, [(4, none)], false⟩
def b_ref11_sum_0 : IR := .seq (.seq (.rg [⟨some 11, none, .mov (.t 8)⟩,
 ⟨some 12, none, .mov (.t 1)⟩,
 ⟨some 13, none, .len (.t 12)⟩,
 ⟨some 14, none, .bin .lss (.t 11) (.t 13)⟩] (some [1, 2, 3, 7, 8, 14]))
 (.cond (.t 14) (.skip) (.ext 0)))
 (.seq (.blk 1 (.dq [(⟨some 17, none, .mov (.t 7)⟩, []),
 (⟨some 18, none, .fad 2 (.t 3)⟩, []),
 (⟨some 19, none, .ld false 1 (.t 18)⟩, [1]),
 (⟨some 20, none, .mov (.t 8)⟩, []),
 (⟨some 21, none, .iad 1 (.t 19) (.t 20)⟩, [1, 2, 3]),
 (⟨some 22, none, .ld false 1 (.t 21)⟩, [1, 2, 3, 4]),
 (⟨some 23, none, .mov (.t 2)⟩, []),
 (⟨some 24, none, .mov (.t 1)⟩, []),
 (⟨some 25, none, .mov (.t 8)⟩, []),
 (⟨some 26, none, .iad 1 (.t 24) (.t 25)⟩, [7, 8]),
 (⟨some 27, none, .ld false 1 (.t 26)⟩, [7, 8, 9]),
 (⟨some 28, none, .iad 1 (.t 23) (.t 27)⟩, [6, 7, 8, 9, 10]),
 (⟨some 29, none, .ld false 1 (.t 28)⟩, [6, 7, 8, 9, 10, 11]),
 (⟨some 30, none, .bin .mul (.t 22) (.t 29)⟩, [1, 2, 3, 4, 5, 6, 7, 8, 9, 10, 11, 12]),
 (⟨some 31, none, .bin .add (.t 17) (.t 30)⟩, [0, 1, 2, 3, 4, 5, 6, 7, 8, 9, 10, 11, 12, 13]),
 (⟨some 7, none, .mov (.t 31)⟩, [0, 1, 2, 3, 4, 5, 6, 7, 8, 9, 10, 11, 12, 13, 14])] (some [1, 2, 3, 7, 8])))
 (.rg [⟨some 15, none, .mov (.t 8)⟩,
 ⟨some 16, none, .bin .add (.t 15) (.c (.int .i64 1))⟩,
 ⟨some 8, none, .mov (.t 16)⟩] (some [1, 2, 3, 7, 8])))
def i_ref11_sum_l0 : IR := .loop b_ref11_sum_0
def i_ref11_sum : IR := .seq (.rg [⟨some 3, none, .box (.t 0)⟩,
 ⟨some 6, none, .mov (.c (.bool false))⟩] (some [1, 2, 3]))
 (.seq (.rg [⟨some 7, none, .mov (.c (.int .i64 0))⟩] (some [1, 2, 3, 7]))
 (.seq (.seq (.rg [⟨some 8, none, .mov (.c (.int .i64 0))⟩] (some [1, 2, 3, 7, 8]))
 (.blk 0 (i_ref11_sum_l0)))
 (.seq (.rg [⟨some 32, none, .mov (.t 7)⟩,
 ⟨some 33, none, .fad 4 (.t 3)⟩,
 ⟨some 34, none, .ld false 1 (.t 33)⟩,
 ⟨some 35, none, .bin .lss (.t 32) (.t 34)⟩,
 ⟨some 9, none, .mov (.t 35)⟩] (some [3, 7, 9]))
 (.seq (.rg [⟨some 36, none, .mov (.t 7)⟩,
 ⟨some 37, none, .fad 4 (.t 3)⟩,
 ⟨some 38, none, .ld false 1 (.t 37)⟩,
 ⟨some 39, none, .bin .eql (.t 36) (.t 38)⟩,
 ⟨some 10, none, .mov (.t 39)⟩] (some [3, 9, 10]))
 (.seq (.rg [⟨some 40, none, .mov (.t 10)⟩,
 ⟨some 41, none, .mov (.t 10)⟩,
 ⟨some 42, none, .un .not (.t 41)⟩,
 ⟨some 43, none, .mov (.t 9)⟩,
 ⟨some 44, none, .mov (.t 9)⟩,
 ⟨some 45, none, .mov (.t 44)⟩,
 ⟨some 46, (some (45, false)), .mov (.t 10)⟩,
 ⟨some 47, none, .pick (.t 45) (.c (.bool true)) (.t 46)⟩,
 ⟨some 48, none, .mov (.t 9)⟩,
 ⟨some 49, none, .un .not (.t 48)⟩,
 ⟨some 50, none, .mov (.t 49)⟩,
 ⟨some 51, (some (50, true)), .mov (.t 10)⟩,
 ⟨some 52, (some (50, true)), .un .not (.t 51)⟩,
 ⟨some 53, none, .pick (.t 50) (.t 52) (.c (.bool false))⟩,
 ⟨some 54, none, .mov (.t 9)⟩,
 ⟨some 55, none, .un .not (.t 54)⟩,
 ⟨some 56, none, .bsl (.bool false) 6 [(0, (.t 40)), (1, (.t 42)), (2, (.t 43)), (3, (.t 47)), (4, (.t 53)), (5, (.t 55))]⟩,
 ⟨some 57, none, .fad 3 (.t 3)⟩,
 ⟨some 58, none, .ld false 1 (.t 57)⟩,
 ⟨some 59, none, .iad 1 (.t 56) (.t 58)⟩,
 ⟨some 60, none, .ld false 1 (.t 59)⟩,
 ⟨some 6, none, .mov (.t 60)⟩] (some [6]))
 (.ret))))))
def F_ref11_sum : F := ⟨i_ref11_sum, [(6, none)], false⟩
def b_slices_IndexFunc_sint_int_0 : IR := .seq (.rg [⟨some 9, none, .bin .lss (.t 8) (.t 7)⟩] (some [0, 1, 7, 8, 9]))
 (.seq (.cond (.t 9) (.skip) (.ext 0))
 (.seq (.blk 1 (.seq (.rg [⟨some 10, none, .mov (.t 8)⟩,
 ⟨some 5, none, .mov (.t 10)⟩] (some [0, 1, 5, 7, 8]))
 (.seq (.rg [⟨some 11, none, .mov (.t 1)⟩,
 ⟨some 12, none, .mov (.t 0)⟩,
 ⟨some 13, none, .mov (.t 5)⟩,
 ⟨some 14, none, .iad 1 (.t 12) (.t 13)⟩,
 ⟨some 15, none, .ld false 1 (.t 14)⟩,
 ⟨some 16, none, .callv (.t 11) [(.t 15)]⟩] (some [0, 1, 5, 7, 8, 16]))
 (.cond (.t 16) (.seq (.rg [⟨some 17, none, .mov (.t 5)⟩,
 ⟨some 4, none, .mov (.t 17)⟩] (some [4]))
 (.ret)) (.skip)))))
 (.rg [⟨some 18, none, .bin .add (.t 8) (.c (.int .i64 1))⟩,
 ⟨some 8, none, .mov (.t 18)⟩] (some [0, 1, 7, 8]))))
def i_slices_IndexFunc_sint_int_l0 : IR := .loop b_slices_IndexFunc_sint_int_0
def i_slices_IndexFunc_sint_int : IR := .seq (.rg [⟨some 4, none, .mov (.c (.int .i64 0))⟩] (some [0, 1]))
 (.seq (.seq (.rg [⟨some 6, none, .mov (.t 0)⟩,
 ⟨some 7, none, .len (.t 6)⟩,
 ⟨some 8, none, .mov (.c (.int .i64 0))⟩] (some [0, 1, 7, 8]))
 (.blk 0 (i_slices_IndexFunc_sint_int_l0)))
 (.seq (.rg [⟨some 4, none, .mov (.c (.int .i64 (-1)))⟩] (some [4]))
 (.ret)))
def F_slices_IndexFunc_sint_int : F := ⟨i_slices_IndexFunc_sint_int, [(4, none)], false⟩
def i_play_table_yes_1 : IR := .seq (.rg [⟨some 3, none, .mov (.c (.bool false))⟩] (some [0, 1]))
 (.seq (.rg [⟨some 4, none, .ld false 1 (.t 1)⟩,
 ⟨some 5, none, .len (.t 4)⟩,
 ⟨some 6, none, .mov (.t 0)⟩,
 ⟨some 7, none, .bin .lss (.t 5) (.t 6)⟩,
 ⟨some 3, none, .mov (.t 7)⟩] (some [3]))
 (.ret))
def F_play_table_yes_1 : F := ⟨i_play_table_yes_1, [(3, none)], false⟩
def b_play_table_next_1_0 : IR := .seq (.rg [⟨some 20, none, .bin .lss (.t 19) (.t 18)⟩] (some [0, 2, 4, 18, 19, 20]))
 (.seq (.cond (.t 20) (.skip) (.ext 0))
 (.seq (.blk 1 (.seq (.rg [⟨some 21, none, .mov (.t 19)⟩,
 ⟨some 5, none, .mov (.t 21)⟩] (some [0, 2, 4, 5, 18, 19]))
 (.seq (.rg [⟨some 23, none, .mov (.t 4)⟩,
 ⟨some 24, none, .mov (.t 5)⟩,
 ⟨some 25, none, .call n_spans_At [(.t 23), (.t 24)]⟩,
 ⟨some 22, none, .mov (.t 25)⟩,
 ⟨some 26, none, .ext (.t 22) 0⟩,
 ⟨some 27, none, .ext (.t 22) 1⟩,
 ⟨some 6, none, .mov (.t 26)⟩,
 ⟨some 7, none, .mov (.t 27)⟩] (some [0, 2, 4, 5, 6, 18, 19]))
 (.seq (.rg [⟨some 28, none, .mov (.t 0)⟩,
 ⟨some 29, none, .mov (.t 5)⟩,
 ⟨some 30, none, .ld false 1 (.t 2)⟩,
 ⟨some 31, none, .call n_slices_Clone_sint_int [(.t 30)]⟩,
 ⟨some 32, none, .mov (.t 6)⟩,
 ⟨some 33, none, .bsf (.int .i64 0) 1 [(0, (.t 32))]⟩,
 ⟨some 34, none, .app 1 8 (.t 31) (.t 33)⟩,
 ⟨some 35, none, .callv (.t 28) [(.t 29), (.t 34)]⟩,
 ⟨some 36, none, .un .not (.t 35)⟩] (some [0, 2, 4, 18, 19, 36]))
 (.cond (.t 36) (.ret) (.skip))))))
 (.rg [⟨some 37, none, .bin .add (.t 19) (.c (.int .i64 1))⟩,
 ⟨some 19, none, .mov (.t 37)⟩] (some [0, 2, 4, 18, 19]))))
def i_play_table_next_1_l0 : IR := .loop b_play_table_next_1_0
theorem r_play_table_next_1_0 {C : Cx} {Y : Yl} {fr : Fr} {h : List Ob} : evw C Y i_play_table_next_1_l0 fr h = nxt (evw C Y b_play_table_next_1_0 fr h) fun fr h => evw C Y i_play_table_next_1_l0 fr h := w_loop
def i_play_table_next_1 : IR := .seq (.dq [(⟨some 8, none, .ld false 1 (.t 1)⟩, []),
 (⟨some 9, none, .nck (.t 8)⟩, [0]),
 (⟨some 10, none, .fad 2 (.t 9)⟩, [0, 1]),
 (⟨some 11, none, .ld false 1 (.t 10)⟩, [0, 1, 2]),
 (⟨some 12, none, .ld false 1 (.t 2)⟩, []),
 (⟨some 13, none, .len (.t 12)⟩, [4]),
 (⟨some 14, none, .iad 2 (.t 11) (.t 13)⟩, [0, 1, 2, 3, 4, 5]),
 (⟨some 15, none, .fad 1 (.t 14)⟩, [0, 1, 2, 3, 4, 5, 6]),
 (⟨some 16, none, .ld false 1 (.t 15)⟩, [0, 1, 2, 3, 4, 5, 6, 7]),
 (⟨some 4, none, .mov (.t 16)⟩, [0, 1, 2, 3, 4, 5, 6, 7, 8])] (some [0, 2, 4]))
 (.seq (.rg [⟨some 17, none, .mov (.t 4)⟩,
 ⟨some 18, none, .call n_spans_Size [(.t 17)]⟩,
 ⟨some 19, none, .mov (.c (.int .i64 0))⟩] (some [0, 2, 4, 18, 19]))
 (.blk 0 (i_play_table_next_1_l0)))
def F_play_table_next_1 : F := ⟨i_play_table_next_1, [], true⟩
def b_spans_At_0 : IR := .seq (.rg [⟨some 20, none, .bin .lss (.t 19) (.t 18)⟩] (some [1, 17, 18, 19, 20]))
 (.seq (.cond (.t 20) (.skip) (.ext 0))
 (.seq (.blk 1 (.seq (.rg [⟨some 21, none, .iad 2 (.t 17) (.t 19)⟩,
 ⟨some 22, none, .ld true 2 (.t 21)⟩,
 ⟨some 7, none, .new (.agg [.int .i64 0, .int .i64 0])⟩,
 ⟨none, none, .st 2 (.t 7) (.t 22)⟩] (some [1, 7, 17, 18, 19]))
 (.seq (.rg [⟨some 23, none, .fad 1 (.t 7)⟩,
 ⟨some 24, none, .ld false 1 (.t 23)⟩,
 ⟨some 25, none, .fad 0 (.t 7)⟩,
 ⟨some 26, none, .ld false 1 (.t 25)⟩,
 ⟨some 27, none, .bin .sub (.t 24) (.t 26)⟩,
 ⟨some 28, none, .bin .add (.t 27) (.c (.int .i64 1))⟩,
 ⟨some 8, none, .mov (.t 28)⟩] (some [1, 7, 8, 17, 18, 19]))
 (.seq (.seq (.rg [⟨some 29, none, .mov (.t 1)⟩,
 ⟨some 30, none, .mov (.t 8)⟩,
 ⟨some 31, none, .bin .lss (.t 29) (.t 30)⟩] (some [1, 7, 8, 17, 18, 19, 31]))
 (.cond (.t 31) (.seq (.rg [⟨some 32, none, .fad 0 (.t 7)⟩,
 ⟨some 33, none, .ld false 1 (.t 32)⟩,
 ⟨some 34, none, .mov (.t 1)⟩,
 ⟨some 35, none, .bin .add (.t 33) (.t 34)⟩,
 ⟨some 4, none, .mov (.t 35)⟩,
 ⟨some 5, none, .mov (.c (.bool true))⟩] (some [4, 5]))
 (.ret)) (.skip)))
 (.rg [⟨some 36, none, .mov (.t 1)⟩,
 ⟨some 37, none, .mov (.t 8)⟩,
 ⟨some 38, none, .bin .sub (.t 36) (.t 37)⟩,
 ⟨some 1, none, .mov (.t 38)⟩] (some [1, 17, 18, 19]))))))
 (.rg [⟨some 39, none, .bin .add (.t 19) (.c (.int .i64 1))⟩,
 ⟨some 19, none, .mov (.t 39)⟩] (some [1, 17, 18, 19]))))
def i_spans_At_l0 : IR := .loop b_spans_At_0
theorem r_spans_At_0 {C : Cx} {Y : Yl} {fr : Fr} {h : List Ob} : evw C Y i_spans_At_l0 fr h = nxt (evw C Y b_spans_At_0 fr h) fun fr h => evw C Y i_spans_At_l0 fr h := w_loop
def i_spans_At : IR := .seq (.rg [⟨some 4, none, .mov (.c (.int .i64 0))⟩,
 ⟨some 5, none, .mov (.c (.bool false))⟩] (some [0, 1]))
 (.seq (.seq (.rg [⟨some 9, none, .mov (.t 1)⟩,
 ⟨some 10, none, .bin .lss (.t 9) (.c (.int .i64 0))⟩,
 ⟨some 11, none, .mov (.t 10)⟩,
 ⟨some 12, (some (11, false)), .mov (.t 1)⟩,
 ⟨some 13, (some (11, false)), .mov (.t 0)⟩,
 ⟨some 14, (some (11, false)), .call n_spans_Size [(.t 13)]⟩,
 ⟨some 15, (some (11, false)), .bin .geq (.t 12) (.t 14)⟩,
 ⟨some 16, none, .pick (.t 11) (.c (.bool true)) (.t 15)⟩] (some [0, 1, 16]))
 (.cond (.t 16) (.seq (.rg [⟨some 4, none, .mov (.c (.int .i64 0))⟩,
 ⟨some 5, none, .mov (.c (.bool false))⟩] (some [4, 5]))
 (.ret)) (.skip)))
 (.seq (.seq (.rg [⟨some 17, none, .mov (.t 0)⟩,
 ⟨some 18, none, .len (.t 17)⟩,
 ⟨some 19, none, .mov (.c (.int .i64 0))⟩] (some [1, 17, 18, 19]))
 (.blk 0 (i_spans_At_l0)))
 (.seq (.rg [⟨some 4, none, .mov (.c (.int .i64 0))⟩,
 ⟨some 5, none, .mov (.c (.bool false))⟩] (some [4, 5]))
 (.ret))))
def F_spans_At : F := ⟨i_spans_At, [(4, none), (5, none)], false⟩
def b_ref03_Values_0 : IR := .seq (.seq (.rg [⟨some 18, none, .mov (.t 5)⟩,
 ⟨some 19, none, .mov (.t 0)⟩,
 ⟨some 20, none, .mov (.t 4)⟩,
 ⟨some 21, none, .iad 2 (.t 19) (.t 20)⟩,
 ⟨some 22, none, .fad 1 (.t 21)⟩,
 ⟨some 23, none, .ld false 1 (.t 22)⟩,
 ⟨some 24, none, .bin .leq (.t 18) (.t 23)⟩] (some [0, 3, 4, 5, 24]))
 (.cond (.t 24) (.skip) (.ext 2)))
 (.seq (.blk 3 (.rg [⟨some 27, none, .mov (.t 3)⟩,
 ⟨some 28, none, .mov (.t 5)⟩,
 ⟨some 29, none, .bsf (.int .i64 0) 1 [(0, (.t 28))]⟩,
 ⟨some 30, none, .app 1 8 (.t 27) (.t 29)⟩,
 ⟨some 3, none, .mov (.t 30)⟩] (some [0, 3, 4, 5])))
 (.rg [⟨some 25, none, .mov (.t 5)⟩,
 ⟨some 26, none, .bin .add (.t 25) (.c (.int .i64 1))⟩,
 ⟨some 5, none, .mov (.t 26)⟩] (some [0, 3, 4, 5])))
def i_ref03_Values_l0 : IR := .loop b_ref03_Values_0
def b_ref03_Values_1 : IR := .seq (.seq (.rg [⟨some 7, none, .mov (.t 4)⟩,
 ⟨some 8, none, .mov (.t 0)⟩,
 ⟨some 9, none, .len (.t 8)⟩,
 ⟨some 10, none, .bin .lss (.t 7) (.t 9)⟩] (some [0, 3, 4, 10]))
 (.cond (.t 10) (.skip) (.ext 0)))
 (.seq (.blk 1 (.seq (.rg [⟨some 13, none, .mov (.t 0)⟩,
 ⟨some 14, none, .mov (.t 4)⟩,
 ⟨some 15, none, .iad 2 (.t 13) (.t 14)⟩,
 ⟨some 16, none, .fad 0 (.t 15)⟩,
 ⟨some 17, none, .ld false 1 (.t 16)⟩,
 ⟨some 5, none, .mov (.t 17)⟩] (some [0, 3, 4, 5]))
 (.blk 2 (i_ref03_Values_l0))))
 (.rg [⟨some 11, none, .mov (.t 4)⟩,
 ⟨some 12, none, .bin .add (.t 11) (.c (.int .i64 1))⟩,
 ⟨some 4, none, .mov (.t 12)⟩] (some [0, 3, 4])))
def i_ref03_Values_l1 : IR := .loop b_ref03_Values_1
def i_ref03_Values : IR := .seq (.rg [⟨some 2, none, .mov (.c (.nsl 1))⟩] (some [0]))
 (.seq (.rg [⟨some 6, none, .bsl (.int .i64 0) 0 []⟩,
 ⟨some 3, none, .mov (.t 6)⟩] (some [0, 3]))
 (.seq (.seq (.rg [⟨some 4, none, .mov (.c (.int .i64 0))⟩] (some [0, 3, 4]))
 (.blk 0 (i_ref03_Values_l1)))
 (.seq (.rg [⟨some 31, none, .mov (.t 3)⟩,
 ⟨some 2, none, .mov (.t 31)⟩] (some [2]))
 (.ret))))
def F_ref03_Values : F := ⟨i_ref03_Values, [(2, none)], true⟩
def i_strings_Index : IR := .seq (.rg [⟨some 4, none, .mov (.c (.int .i64 0))⟩] (some [0, 1]))
 (.seq (.rg [⟨some 5, none, .mov (.t 0)⟩,
 ⟨some 6, none, .mov (.t 1)⟩,
 ⟨some 7, none, .call n_stringslite_Index [(.t 5), (.t 6)]⟩,
 ⟨some 4, none, .mov (.t 7)⟩] (some [4]))
 (.ret))
def F_strings_Index : F := ⟨i_strings_Index, [(4, none)], false⟩
def b_strings_trimLeftByte_0 : IR := .seq (.seq (.rg [⟨some 5, none, .mov (.t 0)⟩,
 ⟨some 6, none, .slen (.t 5)⟩,
 ⟨some 7, none, .bin .gtr (.t 6) (.c (.int .i64 0))⟩,
 ⟨some 8, none, .mov (.t 7)⟩,
 ⟨some 9, (some (8, true)), .mov (.t 0)⟩,
 ⟨some 10, (some (8, true)), .ixs (.t 9) (.c (.int .i64 0))⟩,
 ⟨some 11, (some (8, true)), .mov (.t 1)⟩,
 ⟨some 12, (some (8, true)), .bin .eql (.t 10) (.t 11)⟩,
 ⟨some 13, none, .pick (.t 8) (.t 12) (.c (.bool false))⟩] (some [0, 1, 13]))
 (.cond (.t 13) (.skip) (.ext 0)))
 (.blk 1 (.rg [⟨some 14, none, .mov (.t 0)⟩,
 ⟨some 15, none, .sls (.t 14) (some (.c (.int .i64 1))) none⟩,
 ⟨some 0, none, .mov (.t 15)⟩] (some [0, 1])))
def i_strings_trimLeftByte_l0 : IR := .loop b_strings_trimLeftByte_0
def i_strings_trimLeftByte : IR := .seq (.rg [⟨some 4, none, .mov (.c (.str []))⟩] (some [0, 1]))
 (.seq (.blk 0 (i_strings_trimLeftByte_l0))
 (.seq (.rg [⟨some 16, none, .mov (.t 0)⟩,
 ⟨some 4, none, .mov (.t 16)⟩] (some [4]))
 (.ret)))
def F_strings_trimLeftByte : F := ⟨i_strings_trimLeftByte, [(4, none)], false⟩
def b_strings_trimRightByte_0 : IR := .seq (.seq (.rg [⟨some 5, none, .mov (.t 0)⟩,
 ⟨some 6, none, .slen (.t 5)⟩,
 ⟨some 7, none, .bin .gtr (.t 6) (.c (.int .i64 0))⟩,
 ⟨some 8, none, .mov (.t 7)⟩,
 ⟨some 9, (some (8, true)), .mov (.t 0)⟩,
 ⟨some 10, (some (8, true)), .mov (.t 0)⟩,
 ⟨some 11, (some (8, true)), .slen (.t 10)⟩,
 ⟨some 12, (some (8, true)), .bin .sub (.t 11) (.c (.int .i64 1))⟩,
 ⟨some 13, (some (8, true)), .ixs (.t 9) (.t 12)⟩,
 ⟨some 14, (some (8, true)), .mov (.t 1)⟩,
 ⟨some 15, (some (8, true)), .bin .eql (.t 13) (.t 14)⟩,
 ⟨some 16, none, .pick (.t 8) (.t 15) (.c (.bool false))⟩] (some [0, 1, 16]))
 (.cond (.t 16) (.skip) (.ext 0)))
 (.blk 1 (.rg [⟨some 17, none, .mov (.t 0)⟩,
 ⟨some 18, none, .mov (.t 0)⟩,
 ⟨some 19, none, .slen (.t 18)⟩,
 ⟨some 20, none, .bin .sub (.t 19) (.c (.int .i64 1))⟩,
 ⟨some 21, none, .sls (.t 17) none (some (.t 20))⟩,
 ⟨some 0, none, .mov (.t 21)⟩] (some [0, 1])))
def i_strings_trimRightByte_l0 : IR := .loop b_strings_trimRightByte_0
def i_strings_trimRightByte : IR := .seq (.rg [⟨some 4, none, .mov (.c (.str []))⟩] (some [0, 1]))
 (.seq (.blk 0 (i_strings_trimRightByte_l0))
 (.seq (.rg [⟨some 22, none, .mov (.t 0)⟩,
 ⟨some 4, none, .mov (.t 22)⟩] (some [4]))
 (.ret)))
def F_strings_trimRightByte : F := ⟨i_strings_trimRightByte, [(4, none)], false⟩
def b_strings_makeASCIISet_0 : IR := .seq (.seq (.rg [⟨some 6, none, .mov (.t 4)⟩,
 ⟨some 7, none, .mov (.t 0)⟩,
 ⟨some 8, none, .slen (.t 7)⟩,
 ⟨some 9, none, .bin .lss (.t 6) (.t 8)⟩] (some [0, 2, 4, 9]))
 (.cond (.t 9) (.skip) (.ext 0)))
 (.seq (.blk 1 (.seq (.rg [⟨some 12, none, .mov (.t 0)⟩,
 ⟨some 13, none, .mov (.t 4)⟩,
 ⟨some 14, none, .ixs (.t 12) (.t 13)⟩,
 ⟨some 5, none, .mov (.t 14)⟩] (some [0, 2, 4, 5]))
 (.seq (.seq (.rg [⟨some 15, none, .mov (.t 5)⟩,
 ⟨some 16, none, .bin .geq (.t 15) (.c (.int .u8 128))⟩] (some [0, 2, 4, 5, 16]))
 (.cond (.t 16) (.seq (.rg [⟨some 17, none, .ld true 256 (.t 2)⟩,
 ⟨none, none, .st 256 (.t 2) (.t 17)⟩,
 ⟨some 3, none, .mov (.c (.bool false))⟩] (some [2, 3]))
 (.ret)) (.skip)))
 (.rg [⟨some 18, none, .mov (.t 5)⟩,
 ⟨some 19, none, .op (.iaa 256 1) [(.t 2), (.t 18)]⟩,
 ⟨none, none, .st 1 (.t 19) (.c (.bool true))⟩] (some [0, 2, 4])))))
 (.rg [⟨some 10, none, .mov (.t 4)⟩,
 ⟨some 11, none, .bin .add (.t 10) (.c (.int .i64 1))⟩,
 ⟨some 4, none, .mov (.t 11)⟩] (some [0, 2, 4])))
def i_strings_makeASCIISet_l0 : IR := .loop b_strings_makeASCIISet_0
def i_strings_makeASCIISet : IR := .seq (.rg [⟨some 2, none, .new (.agg [.bool false, .bool false, .bool false, .bool false, .bool false, .bool false, .bool false, .bool false, .bool false, .bool false, .bool false, .bool false, .bool false, .bool false, .bool false, .bool false, .bool false, .bool false, .bool false, .bool false, .bool false, .bool false, .bool false, .bool false, .bool false, .bool false, .bool false, .bool false, .bool false, .bool false, .bool false, .bool false, .bool false, .bool false, .bool false, .bool false, .bool false, .bool false, .bool false, .bool false, .bool false, .bool false, .bool false, .bool false, .bool false, .bool false, .bool false, .bool false, .bool false, .bool false, .bool false, .bool false, .bool false, .bool false, .bool false, .bool false, .bool false, .bool false, .bool false, .bool false, .bool false, .bool false, .bool false, .bool false, .bool false, .bool false, .bool false, .bool false, .bool false, .bool false, .bool false, .bool false, .bool false, .bool false, .bool false, .bool false, .bool false, .bool false, .bool false, .bool false, .bool false, .bool false, .bool false, .bool false, .bool false, .bool false, .bool false, .bool false, .bool false, .bool false, .bool false, .bool false, .bool false, .bool false, .bool false, .bool false, .bool false, .bool false, .bool false, .bool false, .bool false, .bool false, .bool false, .bool false, .bool false, .bool false, .bool false, .bool false, .bool false, .bool false, .bool false, .bool false, .bool false, .bool false, .bool false, .bool false, .bool false, .bool false, .bool false, .bool false, .bool false, .bool false, .bool false, .bool false, .bool false, .bool false, .bool false, .bool false, .bool false, .bool false, .bool false, .bool false, .bool false, .bool false, .bool false, .bool false, .bool false, .bool false, .bool false, .bool false, .bool false, .bool false, .bool false, .bool false, .bool false, .bool false, .bool false, .bool false, .bool false, .bool false, .bool false, .bool false, .bool false, .bool false, .bool false, .bool false, .bool false, .bool false, .bool false, .bool false, .bool false, .bool false, .bool false, .bool false, .bool false, .bool false, .bool false, .bool false, .bool false, .bool false, .bool false, .bool false, .bool false, .bool false, .bool false, .bool false, .bool false, .bool false, .bool false, .bool false, .bool false, .bool false, .bool false, .bool false, .bool false, .bool false, .bool false, .bool false, .bool false, .bool false, .bool false, .bool false, .bool false, .bool false, .bool false, .bool false, .bool false, .bool false, .bool false, .bool false, .bool false, .bool false, .bool false, .bool false, .bool false, .bool false, .bool false, .bool false, .bool false, .bool false, .bool false, .bool false, .bool false, .bool false, .bool false, .bool false, .bool false, .bool false, .bool false, .bool false, .bool false, .bool false, .bool false, .bool false, .bool false, .bool false, .bool false, .bool false, .bool false, .bool false, .bool false, .bool false, .bool false, .bool false, .bool false, .bool false, .bool false, .bool false, .bool false, .bool false, .bool false, .bool false, .bool false, .bool false, .bool false, .bool false, .bool false, .bool false, .bool false, .bool false, .bool false, .bool false, .bool false, .bool false, .bool false, .bool false])⟩,
 ⟨some 3, none, .mov (.c (.bool false))⟩] (some [0, 2]))
 (.seq (.seq (.rg [⟨some 4, none, .mov (.c (.int .i64 0))⟩] (some [0, 2, 4]))
 (.blk 0 (i_strings_makeASCIISet_l0)))
 (.seq (.rg [⟨some 20, none, .ld true 256 (.t 2)⟩,
 ⟨none, none, .st 256 (.t 2) (.t 20)⟩,
 ⟨some 3, none, .mov (.c (.bool true))⟩] (some [2, 3]))
 (.ret)))
def F_strings_makeASCIISet : F := ⟨i_strings_makeASCIISet, [(2, some (true, 256)), (3, none)], false⟩
def b_strings_trimLeftASCII_0 : IR := .seq (.seq (.rg [⟨some 5, none, .mov (.t 0)⟩,
 ⟨some 6, none, .slen (.t 5)⟩,
 ⟨some 7, none, .bin .gtr (.t 6) (.c (.int .i64 0))⟩] (some [0, 1, 7]))
 (.cond (.t 7) (.skip) (.ext 0)))
 (.blk 1 (.seq (.seq (.rg [⟨some 8, none, .mov (.t 1)⟩,
 ⟨some 9, none, .mov (.t 0)⟩,
 ⟨some 10, none, .ixs (.t 9) (.c (.int .i64 0))⟩,
 ⟨some 11, none, .call n_strings_asciiSet_contains [(.t 8), (.t 10)]⟩,
 ⟨some 12, none, .un .not (.t 11)⟩] (some [0, 1, 12]))
 (.cond (.t 12) (.ext 0) (.skip)))
 (.rg [⟨some 13, none, .mov (.t 0)⟩,
 ⟨some 14, none, .sls (.t 13) (some (.c (.int .i64 1))) none⟩,
 ⟨some 0, none, .mov (.t 14)⟩] (some [0, 1]))))
def i_strings_trimLeftASCII_l0 : IR := .loop b_strings_trimLeftASCII_0
theorem r_strings_trimLeftASCII_0 {C : Cx} {Y : Yl} {fr : Fr} {h : List Ob} : evw C Y i_strings_trimLeftASCII_l0 fr h = nxt (evw C Y b_strings_trimLeftASCII_0 fr h) fun fr h => evw C Y i_strings_trimLeftASCII_l0 fr h := w_loop
def i_strings_trimLeftASCII : IR := .seq (.rg [⟨some 4, none, .mov (.c (.str []))⟩] (some [0, 1]))
 (.seq (.blk 0 (i_strings_trimLeftASCII_l0))
 (.seq (.rg [⟨some 15, none, .mov (.t 0)⟩,
 ⟨some 4, none, .mov (.t 15)⟩] (some [4]))
 (.ret)))
def F_strings_trimLeftASCII : F := ⟨i_strings_trimLeftASCII, [(4, none)], false⟩
def b_strings_trimRightASCII_0 : IR := .seq (.seq (.rg [⟨some 5, none, .mov (.t 0)⟩,
 ⟨some 6, none, .slen (.t 5)⟩,
 ⟨some 7, none, .bin .gtr (.t 6) (.c (.int .i64 0))⟩] (some [0, 1, 7]))
 (.cond (.t 7) (.skip) (.ext 0)))
 (.blk 1 (.seq (.seq (.rg [⟨some 8, none, .mov (.t 1)⟩,
 ⟨some 9, none, .mov (.t 0)⟩,
 ⟨some 10, none, .mov (.t 0)⟩,
 ⟨some 11, none, .slen (.t 10)⟩,
 ⟨some 12, none, .bin .sub (.t 11) (.c (.int .i64 1))⟩,
 ⟨some 13, none, .ixs (.t 9) (.t 12)⟩,
 ⟨some 14, none, .call n_strings_asciiSet_contains [(.t 8), (.t 13)]⟩,
 ⟨some 15, none, .un .not (.t 14)⟩] (some [0, 1, 15]))
 (.cond (.t 15) (.ext 0) (.skip)))
 (.rg [⟨some 16, none, .mov (.t 0)⟩,
 ⟨some 17, none, .mov (.t 0)⟩,
 ⟨some 18, none, .slen (.t 17)⟩,
 ⟨some 19, none, .bin .sub (.t 18) (.c (.int .i64 1))⟩,
 ⟨some 20, none, .sls (.t 16) none (some (.t 19))⟩,
 ⟨some 0, none, .mov (.t 20)⟩] (some [0, 1]))))
def i_strings_trimRightASCII_l0 : IR := .loop b_strings_trimRightASCII_0
theorem r_strings_trimRightASCII_0 {C : Cx} {Y : Yl} {fr : Fr} {h : List Ob} : evw C Y i_strings_trimRightASCII_l0 fr h = nxt (evw C Y b_strings_trimRightASCII_0 fr h) fun fr h => evw C Y i_strings_trimRightASCII_l0 fr h := w_loop
def i_strings_trimRightASCII : IR := .seq (.rg [⟨some 4, none, .mov (.c (.str []))⟩] (some [0, 1]))
 (.seq (.blk 0 (i_strings_trimRightASCII_l0))
 (.seq (.rg [⟨some 21, none, .mov (.t 0)⟩,
 ⟨some 4, none, .mov (.t 21)⟩] (some [4]))
 (.ret)))
def F_strings_trimRightASCII : F := ⟨i_strings_trimRightASCII, [(4, none)], false⟩
def b_strings_trimLeftUnicode_0 : IR := .seq (.seq (.rg [⟨some 7, none, .mov (.t 0)⟩,
 ⟨some 8, none, .slen (.t 7)⟩,
 ⟨some 9, none, .bin .gtr (.t 8) (.c (.int .i64 0))⟩] (some [0, 1, 9]))
 (.cond (.t 9) (.skip) (.ext 0)))
 (.blk 1 (.seq (.rg [⟨some 11, none, .mov (.t 0)⟩,
 ⟨some 12, none, .call n_unicode_utf8_DecodeRuneInString [(.t 11)]⟩,
 ⟨some 10, none, .mov (.t 12)⟩,
 ⟨some 13, none, .ext (.t 10) 0⟩,
 ⟨some 14, none, .ext (.t 10) 1⟩,
 ⟨some 5, none, .mov (.t 13)⟩,
 ⟨some 6, none, .mov (.t 14)⟩] (some [0, 1, 5, 6]))
 (.seq (.seq (.rg [⟨some 15, none, .mov (.t 1)⟩,
 ⟨some 16, none, .mov (.t 5)⟩,
 ⟨some 17, none, .call n_strings_ContainsRune [(.t 15), (.t 16)]⟩,
 ⟨some 18, none, .un .not (.t 17)⟩] (some [0, 1, 6, 18]))
 (.cond (.t 18) (.ext 0) (.skip)))
 (.rg [⟨some 19, none, .mov (.t 0)⟩,
 ⟨some 20, none, .mov (.t 6)⟩,
 ⟨some 21, none, .sls (.t 19) (some (.t 20)) none⟩,
 ⟨some 0, none, .mov (.t 21)⟩] (some [0, 1])))))
def i_strings_trimLeftUnicode_l0 : IR := .loop b_strings_trimLeftUnicode_0
def i_strings_trimLeftUnicode : IR := .seq (.rg [⟨some 4, none, .mov (.c (.str []))⟩] (some [0, 1]))
 (.seq (.blk 0 (i_strings_trimLeftUnicode_l0))
 (.seq (.rg [⟨some 22, none, .mov (.t 0)⟩,
 ⟨some 4, none, .mov (.t 22)⟩] (some [4]))
 (.ret)))
def F_strings_trimLeftUnicode : F := ⟨i_strings_trimLeftUnicode, [(4, none)], false⟩
def b_strings_trimRightUnicode_0 : IR := .seq (.seq (.rg [⟨some 7, none, .mov (.t 0)⟩,
 ⟨some 8, none, .slen (.t 7)⟩,
 ⟨some 9, none, .bin .gtr (.t 8) (.c (.int .i64 0))⟩] (some [0, 1, 9]))
 (.cond (.t 9) (.skip) (.ext 0)))
 (.blk 1 (.seq (.rg [⟨some 10, none, .mov (.t 0)⟩,
 ⟨some 11, none, .mov (.t 0)⟩,
 ⟨some 12, none, .slen (.t 11)⟩,
 ⟨some 13, none, .bin .sub (.t 12) (.c (.int .i64 1))⟩,
 ⟨some 14, none, .ixs (.t 10) (.t 13)⟩,
 ⟨some 15, none, .conv .i32 (.t 14)⟩,
 ⟨some 5, none, .mov (.t 15)⟩,
 ⟨some 6, none, .mov (.c (.int .i64 1))⟩] (some [0, 1, 5, 6]))
 (.seq (.seq (.rg [⟨some 16, none, .mov (.t 5)⟩,
 ⟨some 17, none, .bin .geq (.t 16) (.c (.int .i32 128))⟩] (some [0, 1, 5, 6, 17]))
 (.cond (.t 17) (.rg [⟨some 19, none, .mov (.t 0)⟩,
 ⟨some 20, none, .call n_unicode_utf8_DecodeLastRuneInString [(.t 19)]⟩,
 ⟨some 18, none, .mov (.t 20)⟩,
 ⟨some 21, none, .ext (.t 18) 0⟩,
 ⟨some 22, none, .ext (.t 18) 1⟩,
 ⟨some 5, none, .mov (.t 21)⟩,
 ⟨some 6, none, .mov (.t 22)⟩] (some [0, 1, 5, 6])) (.skip)))
 (.seq (.seq (.rg [⟨some 23, none, .mov (.t 1)⟩,
 ⟨some 24, none, .mov (.t 5)⟩,
 ⟨some 25, none, .call n_strings_ContainsRune [(.t 23), (.t 24)]⟩,
 ⟨some 26, none, .un .not (.t 25)⟩] (some [0, 1, 6, 26]))
 (.cond (.t 26) (.ext 0) (.skip)))
 (.rg [⟨some 27, none, .mov (.t 0)⟩,
 ⟨some 28, none, .mov (.t 0)⟩,
 ⟨some 29, none, .slen (.t 28)⟩,
 ⟨some 30, none, .mov (.t 6)⟩,
 ⟨some 31, none, .bin .sub (.t 29) (.t 30)⟩,
 ⟨some 32, none, .sls (.t 27) none (some (.t 31))⟩,
 ⟨some 0, none, .mov (.t 32)⟩] (some [0, 1]))))))
def i_strings_trimRightUnicode_l0 : IR := .loop b_strings_trimRightUnicode_0
def i_strings_trimRightUnicode : IR := .seq (.rg [⟨some 4, none, .mov (.c (.str []))⟩] (some [0, 1]))
 (.seq (.blk 0 (i_strings_trimRightUnicode_l0))
 (.seq (.rg [⟨some 33, none, .mov (.t 0)⟩,
 ⟨some 4, none, .mov (.t 33)⟩] (some [4]))
 (.ret)))
def F_strings_trimRightUnicode : F := ⟨i_strings_trimRightUnicode, [(4, none)], false⟩
def b_slices_IndexFunc_sapi_Con_api_Con_0 : IR := .seq (.rg [⟨some 9, none, .bin .lss (.t 8) (.t 7)⟩] (some [0, 1, 7, 8, 9]))
 (.seq (.cond (.t 9) (.skip) (.ext 0))
 (.seq (.blk 1 (.seq (.rg [⟨some 10, none, .mov (.t 8)⟩,
 ⟨some 5, none, .mov (.t 10)⟩] (some [0, 1, 5, 7, 8]))
 (.seq (.rg [⟨some 11, none, .mov (.t 1)⟩,
 ⟨some 12, none, .mov (.t 0)⟩,
 ⟨some 13, none, .mov (.t 5)⟩,
 ⟨some 14, none, .iad 6 (.t 12) (.t 13)⟩,
 ⟨some 15, none, .ld true 6 (.t 14)⟩,
 ⟨some 16, none, .callv (.t 11) [(.t 15)]⟩] (some [0, 1, 5, 7, 8, 16]))
 (.cond (.t 16) (.seq (.rg [⟨some 17, none, .mov (.t 5)⟩,
 ⟨some 4, none, .mov (.t 17)⟩] (some [4]))
 (.ret)) (.skip)))))
 (.rg [⟨some 18, none, .bin .add (.t 8) (.c (.int .i64 1))⟩,
 ⟨some 8, none, .mov (.t 18)⟩] (some [0, 1, 7, 8]))))
def i_slices_IndexFunc_sapi_Con_api_Con_l0 : IR := .loop b_slices_IndexFunc_sapi_Con_api_Con_0
def i_slices_IndexFunc_sapi_Con_api_Con : IR := .seq (.rg [⟨some 4, none, .mov (.c (.int .i64 0))⟩] (some [0, 1]))
 (.seq (.seq (.rg [⟨some 6, none, .mov (.t 0)⟩,
 ⟨some 7, none, .len (.t 6)⟩,
 ⟨some 8, none, .mov (.c (.int .i64 0))⟩] (some [0, 1, 7, 8]))
 (.blk 0 (i_slices_IndexFunc_sapi_Con_api_Con_l0)))
 (.seq (.rg [⟨some 4, none, .mov (.c (.int .i64 (-1)))⟩] (some [4]))
 (.ret)))
def F_slices_IndexFunc_sapi_Con_api_Con : F := ⟨i_slices_IndexFunc_sapi_Con_api_Con, [(4, none)], false⟩
def i_model_looker_linear : IR := .seq (.rg [⟨some 1, none, .box (.t 0)⟩,
 ⟨some 2, none, .mov (.c (.bool false))⟩] (some [1]))
 (.seq (.rg [⟨some 3, none, .ld true 7 (.t 1)⟩,
 ⟨some 4, none, .call n_model_looker_variables [(.t 3), (.c (.int .i64 1)), (.c (.int .i64 8))]⟩,
 ⟨some 5, none, .mov (.t 4)⟩,
 ⟨some 6, (some (5, true)), .ld true 7 (.t 1)⟩,
 ⟨some 7, (some (5, true)), .call n_model_looker_sum [(.t 6), (.c (.int .i64 0))]⟩,
 ⟨some 8, none, .pick (.t 5) (.t 7) (.c (.bool false))⟩,
 ⟨some 2, none, .mov (.t 8)⟩] (some [2]))
 (.ret))
def F_model_looker_linear : F := ⟨i_model_looker_linear, [(2, none)], false⟩
def i_model_looker_product : IR := .seq (.rg [⟨some 1, none, .box (.t 0)⟩,
 ⟨some 2, none, .mov (.c (.bool false))⟩] (some [1]))
 (.seq (.rg [⟨some 3, none, .ld true 7 (.t 1)⟩,
 ⟨some 4, none, .call n_model_looker_variables [(.t 3), (.c (.int .i64 3)), (.c (.int .i64 3))]⟩,
 ⟨some 5, none, .mov (.t 4)⟩,
 ⟨some 6, (some (5, true)), .ld true 7 (.t 1)⟩,
 ⟨some 7, (some (5, true)), .call n_model_looker_bare [(.t 6), (.c (.int .i64 0)), (.c (.int .i64 0))]⟩,
 ⟨some 8, none, .pick (.t 5) (.t 7) (.c (.bool false))⟩,
 ⟨some 2, none, .mov (.t 8)⟩] (some [2]))
 (.ret))
def F_model_looker_product : F := ⟨i_model_looker_product, [(2, none)], false⟩
def i_model_looker_iff : IR := .seq (.rg [⟨some 1, none, .box (.t 0)⟩,
 ⟨some 2, none, .mov (.c (.bool false))⟩] (some [1]))
 (.seq (.rg [⟨some 3, none, .ld true 7 (.t 1)⟩,
 ⟨some 4, none, .call n_model_looker_variables [(.t 3), (.c (.int .i64 2)), (.c (.int .i64 9))]⟩,
 ⟨some 5, none, .mov (.t 4)⟩,
 ⟨some 6, (some (5, true)), .ld true 7 (.t 1)⟩,
 ⟨some 7, (some (5, true)), .call n_model_looker_sum [(.t 6), (.c (.int .i64 1))]⟩,
 ⟨some 8, none, .pick (.t 5) (.t 7) (.c (.bool false))⟩,
 ⟨some 2, none, .mov (.t 8)⟩] (some [2]))
 (.ret))
def F_model_looker_iff : F := ⟨i_model_looker_iff, [(2, none)], false⟩
def i_model_looker_element : IR := .seq (.rg [⟨some 1, none, .box (.t 0)⟩,
 ⟨some 2, none, .mov (.c (.bool false))⟩] (some [1]))
 (.seq (.rg [⟨some 3, none, .ld true 7 (.t 1)⟩,
 ⟨some 4, none, .call n_model_looker_variables [(.t 3), (.c (.int .i64 2)), (.c (.int .i64 2))]⟩,
 ⟨some 5, none, .mov (.t 4)⟩,
 ⟨some 6, (some (5, true)), .ld true 7 (.t 1)⟩,
 ⟨some 7, (some (5, true)), .call n_model_looker_bare [(.t 6), (.c (.int .i64 1)), (.c (.int .i64 96))]⟩,
 ⟨some 8, none, .pick (.t 5) (.t 7) (.c (.bool false))⟩,
 ⟨some 2, none, .mov (.t 8)⟩] (some [2]))
 (.ret))
def F_model_looker_element : F := ⟨i_model_looker_element, [(2, none)], false⟩
def i_model_looker_differ : IR := .seq (.rg [⟨some 1, none, .box (.t 0)⟩,
 ⟨some 2, none, .mov (.c (.bool false))⟩] (some [1]))
 (.seq (.rg [⟨some 3, none, .ld true 7 (.t 1)⟩,
 ⟨some 4, none, .call n_model_looker_variables [(.t 3), (.c (.int .i64 2)), (.c (.int .i64 8))]⟩,
 ⟨some 5, none, .mov (.t 4)⟩,
 ⟨some 6, (some (5, true)), .ld true 7 (.t 1)⟩,
 ⟨some 7, (some (5, true)), .call n_model_looker_bare [(.t 6), (.c (.int .i64 0)), (.c (.int .i64 0))]⟩,
 ⟨some 8, none, .pick (.t 5) (.t 7) (.c (.bool false))⟩,
 ⟨some 2, none, .mov (.t 8)⟩] (some [2]))
 (.ret))
def F_model_looker_differ : F := ⟨i_model_looker_differ, [(2, none)], false⟩
def i_model_looker_table : IR := .seq (.rg [⟨some 1, none, .box (.t 0)⟩,
 ⟨some 2, none, .mov (.c (.bool false))⟩] (some [1]))
 (.seq (.rg [⟨some 3, none, .ld true 7 (.t 1)⟩,
 ⟨some 4, none, .call n_model_looker_variables [(.t 3), (.c (.int .i64 1)), (.c (.int .i64 8))]⟩,
 ⟨some 5, none, .mov (.t 4)⟩,
 ⟨some 6, (some (5, true)), .ld true 7 (.t 1)⟩,
 ⟨some 7, (some (5, true)), .call n_model_looker_bare [(.t 6), (.c (.int .i64 0)), (.c (.int .i64 96))]⟩,
 ⟨some 8, none, .pick (.t 5) (.t 7) (.c (.bool false))⟩,
 ⟨some 9, none, .mov (.t 8)⟩,
 ⟨some 10, (some (9, true)), .fad 0 (.t 1)⟩,
 ⟨some 11, (some (9, true)), .fad 5 (.t 10)⟩,
 ⟨some 12, (some (9, true)), .ld false 1 (.t 11)⟩,
 ⟨some 13, (some (9, true)), .len (.t 12)⟩,
 ⟨some 14, (some (9, true)), .fad 0 (.t 1)⟩,
 ⟨some 15, (some (9, true)), .fad 1 (.t 14)⟩,
 ⟨some 16, (some (9, true)), .ld false 1 (.t 15)⟩,
 ⟨some 17, (some (9, true)), .len (.t 16)⟩,
 ⟨some 18, (some (9, true)), .bin .rem (.t 13) (.t 17)⟩,
 ⟨some 19, (some (9, true)), .bin .eql (.t 18) (.c (.int .i64 0))⟩,
 ⟨some 20, none, .pick (.t 9) (.t 19) (.c (.bool false))⟩,
 ⟨some 2, none, .mov (.t 20)⟩] (some [2]))
 (.ret))
def F_model_looker_table : F := ⟨i_model_looker_table, [(2, none)], false⟩
def i_ground_Right_1 : IR := .seq (.rg [⟨some 2, none, .box (.t 0)⟩,
 ⟨some 3, none, .mov (.c (.bool false))⟩] (some [1, 2]))
 (.seq (.rg [⟨some 4, none, .ld true 6 (.t 2)⟩,
 ⟨some 5, none, .ld false 1 (.t 1)⟩,
 ⟨some 6, none, .len (.t 5)⟩,
 ⟨some 7, none, .call n_model_Right [(.t 4), (.t 6)]⟩,
 ⟨some 8, none, .un .not (.t 7)⟩,
 ⟨some 3, none, .mov (.t 8)⟩] (some [3]))
 (.ret))
def F_ground_Right_1 : F := ⟨i_ground_Right_1, [(3, none)], false⟩
def i_ground_holds_1 : IR := .seq (.rg [⟨some 4, none, .mov (.c (.int .i64 0))⟩] (some [0, 1, 2]))
 (.seq (.dq [(⟨some 5, none, .ld false 1 (.t 1)⟩, []),
 (⟨some 6, none, .fad 1 (.t 2)⟩, []),
 (⟨some 7, none, .ld false 1 (.t 6)⟩, [1]),
 (⟨some 8, none, .mov (.t 0)⟩, []),
 (⟨some 9, none, .iad 1 (.t 7) (.t 8)⟩, [1, 2, 3]),
 (⟨some 10, none, .ld false 1 (.t 9)⟩, [1, 2, 3, 4]),
 (⟨some 11, none, .iad 1 (.t 5) (.t 10)⟩, [0, 1, 2, 3, 4, 5]),
 (⟨some 12, none, .ld false 1 (.t 11)⟩, [0, 1, 2, 3, 4, 5, 6]),
 (⟨some 4, none, .mov (.t 12)⟩, [0, 1, 2, 3, 4, 5, 6, 7])] (some [4]))
 (.ret))
def F_ground_holds_1 : F := ⟨i_ground_holds_1, [(4, none)], false⟩
def b_ground_compared_0 : IR := .seq (.rg [⟨some 15, none, .bin .lss (.t 14) (.t 13)⟩] (some [1, 2, 5, 6, 12, 13, 14, 15]))
 (.seq (.cond (.t 15) (.skip) (.ext 0))
 (.seq (.blk 1 (.seq (.rg [⟨some 16, none, .mov (.t 14)⟩,
 ⟨some 17, none, .iad 1 (.t 12) (.t 14)⟩,
 ⟨some 18, none, .ld false 1 (.t 17)⟩,
 ⟨some 7, none, .mov (.t 16)⟩,
 ⟨some 8, none, .mov (.t 18)⟩] (some [1, 2, 5, 6, 7, 8, 12, 13, 14]))
 (.dc [(⟨some 19, none, .mov (.t 5)⟩, [], false),
 (⟨some 20, none, .mov (.t 8)⟩, [], false),
 (⟨some 21, none, .bsf (.int .i64 0) 1 [(0, (.t 20))]⟩, [1], false),
 (⟨some 22, none, .app 1 8 (.t 19) (.t 21)⟩, [0, 1, 2], true),
 (⟨some 23, none, .mov (.t 6)⟩, [], false),
 (⟨some 24, none, .mov (.t 1)⟩, [], false),
 (⟨some 25, none, .mov (.t 7)⟩, [], false),
 (⟨some 26, none, .iad 1 (.t 24) (.t 25)⟩, [5, 6], false),
 (⟨some 27, none, .ld false 1 (.t 26)⟩, [5, 6, 7], false),
 (⟨some 28, none, .bsf (.int .i64 0) 1 [(0, (.t 27))]⟩, [5, 6, 7, 8], false),
 (⟨some 29, none, .app 1 8 (.t 23) (.t 28)⟩, [0, 1, 2, 3, 4, 5, 6, 7, 8, 9], true),
 (⟨some 5, none, .mov (.t 22)⟩, [0, 1, 2, 3, 4, 5, 6, 7, 8, 9, 10], false),
 (⟨some 6, none, .mov (.t 29)⟩, [0, 1, 2, 3, 4, 5, 6, 7, 8, 9, 10, 11], false)] (some [1, 2, 5, 6, 12, 13, 14]))))
 (.rg [⟨some 30, none, .bin .add (.t 14) (.c (.int .i64 1))⟩,
 ⟨some 14, none, .mov (.t 30)⟩] (some [1, 2, 5, 6, 12, 13, 14]))))
def i_ground_compared_l0 : IR := .loop b_ground_compared_0
theorem r_ground_compared_0 {C : Cx} {Y : Yl} {fr : Fr} {h : List Ob} : evw C Y i_ground_compared_l0 fr h = nxt (evw C Y b_ground_compared_0 fr h) fun fr h => evw C Y i_ground_compared_l0 fr h := w_loop
def i_ground_compared : IR := .seq (.rg [⟨some 2, none, .box (.t 0)⟩,
 ⟨some 4, none, .mov (.c (.bool false))⟩] (some [1, 2]))
 (.seq (.rg [⟨some 5, none, .mov (.c (.nsl 1))⟩,
 ⟨some 6, none, .mov (.c (.nsl 1))⟩] (some [1, 2, 5, 6]))
 (.seq (.seq (.rg [⟨some 11, none, .fad 2 (.t 2)⟩,
 ⟨some 12, none, .ld false 1 (.t 11)⟩,
 ⟨some 13, none, .len (.t 12)⟩,
 ⟨some 14, none, .mov (.c (.int .i64 0))⟩] (some [1, 2, 5, 6, 12, 13, 14]))
 (.blk 0 (i_ground_compared_l0)))
 (.seq (.rg [⟨some 32, none, .mov (.t 5)⟩,
 ⟨some 33, none, .mov (.t 6)⟩,
 ⟨some 34, none, .call n_sums_Dot [(.t 32), (.t 33)]⟩,
 ⟨some 31, none, .mov (.t 34)⟩,
 ⟨some 35, none, .ext (.t 31) 0⟩,
 ⟨some 36, none, .ext (.t 31) 1⟩,
 ⟨some 9, none, .mov (.t 35)⟩,
 ⟨some 10, none, .mov (.t 36)⟩] (some [2, 9, 10]))
 (.seq (.rg [⟨some 37, none, .mov (.t 10)⟩,
 ⟨some 38, none, .bin .eql (.t 37) (.c (.int .i64 0))⟩,
 ⟨some 39, none, .mov (.t 38)⟩,
 ⟨some 40, (some (39, true)), .mov (.t 9)⟩,
 ⟨some 41, (some (39, true)), .fad 3 (.t 2)⟩,
 ⟨some 42, (some (39, true)), .ld false 1 (.t 41)⟩,
 ⟨some 43, (some (39, true)), .fad 4 (.t 2)⟩,
 ⟨some 44, (some (39, true)), .ld false 1 (.t 43)⟩,
 ⟨some 45, (some (39, true)), .call n_sums_Holds [(.t 40), (.t 42), (.t 44)]⟩,
 ⟨some 46, none, .pick (.t 39) (.t 45) (.c (.bool false))⟩,
 ⟨some 4, none, .mov (.t 46)⟩] (some [4]))
 (.ret)))))
def F_ground_compared : F := ⟨i_ground_compared, [(4, none)], false⟩
def b_slices_Equal_sint_int_0 : IR := .seq (.rg [⟨some 14, none, .bin .lss (.t 13) (.t 12)⟩] (some [0, 1, 12, 13, 14]))
 (.seq (.cond (.t 14) (.skip) (.ext 0))
 (.seq (.blk 1 (.seq (.rg [⟨some 15, none, .mov (.t 13)⟩,
 ⟨some 5, none, .mov (.t 15)⟩] (some [0, 1, 5, 12, 13]))
 (.seq (.dq [(⟨some 16, none, .mov (.t 0)⟩, []),
 (⟨some 17, none, .mov (.t 5)⟩, []),
 (⟨some 18, none, .iad 1 (.t 16) (.t 17)⟩, [0, 1]),
 (⟨some 19, none, .ld false 1 (.t 18)⟩, [0, 1, 2]),
 (⟨some 20, none, .mov (.t 1)⟩, []),
 (⟨some 21, none, .mov (.t 5)⟩, []),
 (⟨some 22, none, .iad 1 (.t 20) (.t 21)⟩, [4, 5]),
 (⟨some 23, none, .ld false 1 (.t 22)⟩, [4, 5, 6]),
 (⟨some 24, none, .bin .neq (.t 19) (.t 23)⟩, [0, 1, 2, 3, 4, 5, 6, 7])] (some [0, 1, 12, 13, 24]))
 (.cond (.t 24) (.seq (.rg [⟨some 4, none, .mov (.c (.bool false))⟩] (some [4]))
 (.ret)) (.skip)))))
 (.rg [⟨some 25, none, .bin .add (.t 13) (.c (.int .i64 1))⟩,
 ⟨some 13, none, .mov (.t 25)⟩] (some [0, 1, 12, 13]))))
def i_slices_Equal_sint_int_l0 : IR := .loop b_slices_Equal_sint_int_0
def i_slices_Equal_sint_int : IR := .seq (.rg [⟨some 4, none, .mov (.c (.bool false))⟩] (some [0, 1]))
 (.seq (.seq (.rg [⟨some 6, none, .mov (.t 0)⟩,
 ⟨some 7, none, .len (.t 6)⟩,
 ⟨some 8, none, .mov (.t 1)⟩,
 ⟨some 9, none, .len (.t 8)⟩,
 ⟨some 10, none, .bin .neq (.t 7) (.t 9)⟩] (some [0, 1, 10]))
 (.cond (.t 10) (.seq (.rg [⟨some 4, none, .mov (.c (.bool false))⟩] (some [4]))
 (.ret)) (.skip)))
 (.seq (.seq (.rg [⟨some 11, none, .mov (.t 0)⟩,
 ⟨some 12, none, .len (.t 11)⟩,
 ⟨some 13, none, .mov (.c (.int .i64 0))⟩] (some [0, 1, 12, 13]))
 (.blk 0 (i_slices_Equal_sint_int_l0)))
 (.seq (.rg [⟨some 4, none, .mov (.c (.bool true))⟩] (some [4]))
 (.ret))))
def F_slices_Equal_sint_int : F := ⟨i_slices_Equal_sint_int, [(4, none)], false⟩
def i_strings_asciiSet_contains : IR := .seq (.rg [⟨some 4, none, .mov (.c (.bool false))⟩] (some [0, 1]))
 (.seq (.rg [⟨some 5, none, .mov (.t 0)⟩,
 ⟨some 6, none, .mov (.t 1)⟩,
 ⟨some 7, none, .nck (.t 5)⟩,
 ⟨some 8, none, .op (.iaa 256 1) [(.t 7), (.t 6)]⟩,
 ⟨some 9, none, .ld false 1 (.t 8)⟩,
 ⟨some 4, none, .mov (.t 9)⟩] (some [4]))
 (.ret))
def F_strings_asciiSet_contains : F := ⟨i_strings_asciiSet_contains, [(4, none)], false⟩
def i_unicode_utf8_DecodeRuneInString : IR := .seq (.rg [⟨some 2, none, .mov (.c (.int .i32 0))⟩,
 ⟨some 3, none, .mov (.c (.int .i64 0))⟩] (some [0]))
 (.seq (.seq (.rg [⟨some 4, none, .mov (.t 0)⟩,
 ⟨some 5, none, .bin .neq (.t 4) (.c (.str []))⟩,
 ⟨some 6, none, .mov (.t 5)⟩,
 ⟨some 7, (some (6, true)), .mov (.t 0)⟩,
 ⟨some 8, (some (6, true)), .ixs (.t 7) (.c (.int .i64 0))⟩,
 ⟨some 9, (some (6, true)), .bin .lss (.t 8) (.c (.int .u8 128))⟩,
 ⟨some 10, none, .pick (.t 6) (.t 9) (.c (.bool false))⟩] (some [0, 10]))
 (.cond (.t 10) (.seq (.rg [⟨some 11, none, .mov (.t 0)⟩,
 ⟨some 12, none, .ixs (.t 11) (.c (.int .i64 0))⟩,
 ⟨some 13, none, .conv .i32 (.t 12)⟩,
 ⟨some 2, none, .mov (.t 13)⟩,
 ⟨some 3, none, .mov (.c (.int .i64 1))⟩] (some [2, 3]))
 (.ret)) (.rg [⟨some 15, none, .mov (.t 0)⟩,
 ⟨some 16, none, .call n_unicode_utf8_decodeRuneInStringSlow [(.t 15)]⟩,
 ⟨some 14, none, .mov (.t 16)⟩,
 ⟨some 17, none, .ext (.t 14) 0⟩,
 ⟨some 18, none, .ext (.t 14) 1⟩,
 ⟨some 2, none, .mov (.t 17)⟩,
 ⟨some 3, none, .mov (.t 18)⟩] (some [2, 3]))))
 (.ret))
def F_unicode_utf8_DecodeRuneInString : F := ⟨i_unicode_utf8_DecodeRuneInString, [(2, none), (3, none)], false⟩
def i_strings_ContainsRune : IR := .seq (.rg [⟨some 4, none, .mov (.c (.bool false))⟩] (some [0, 1]))
 (.seq (.rg [⟨some 5, none, .mov (.t 0)⟩,
 ⟨some 6, none, .mov (.t 1)⟩,
 ⟨some 7, none, .call n_strings_IndexRune [(.t 5), (.t 6)]⟩,
 ⟨some 8, none, .bin .geq (.t 7) (.c (.int .i64 0))⟩,
 ⟨some 4, none, .mov (.t 8)⟩] (some [4]))
 (.ret))
def F_strings_ContainsRune : F := ⟨i_strings_ContainsRune, [(4, none)], false⟩
def b_unicode_utf8_DecodeLastRuneInString_0 : IR := .seq (.seq (.rg [⟨some 25, none, .mov (.t 5)⟩,
 ⟨some 26, none, .mov (.t 6)⟩,
 ⟨some 27, none, .bin .geq (.t 25) (.t 26)⟩] (some [0, 4, 5, 6, 27]))
 (.cond (.t 27) (.skip) (.ext 0)))
 (.seq (.blk 1 (.seq (.rg [⟨some 30, none, .mov (.t 0)⟩,
 ⟨some 31, none, .mov (.t 5)⟩,
 ⟨some 32, none, .ixs (.t 30) (.t 31)⟩,
 ⟨some 33, none, .call n_unicode_utf8_RuneStart [(.t 32)]⟩] (some [0, 4, 5, 6, 33]))
 (.cond (.t 33) (.ext 0) (.skip))))
 (.rg [⟨some 28, none, .mov (.t 5)⟩,
 ⟨some 29, none, .bin .sub (.t 28) (.c (.int .i64 1))⟩,
 ⟨some 5, none, .mov (.t 29)⟩] (some [0, 4, 5, 6])))
def i_unicode_utf8_DecodeLastRuneInString_l0 : IR := .loop b_unicode_utf8_DecodeLastRuneInString_0
def i_unicode_utf8_DecodeLastRuneInString : IR := .seq (.rg [⟨some 2, none, .mov (.c (.int .i32 0))⟩,
 ⟨some 3, none, .mov (.c (.int .i64 0))⟩] (some [0]))
 (.seq (.rg [⟨some 7, none, .mov (.t 0)⟩,
 ⟨some 8, none, .slen (.t 7)⟩,
 ⟨some 4, none, .mov (.t 8)⟩] (some [0, 4]))
 (.seq (.seq (.rg [⟨some 9, none, .mov (.t 4)⟩,
 ⟨some 10, none, .bin .eql (.t 9) (.c (.int .i64 0))⟩] (some [0, 4, 10]))
 (.cond (.t 10) (.seq (.rg [⟨some 2, none, .mov (.c (.int .i32 65533))⟩,
 ⟨some 3, none, .mov (.c (.int .i64 0))⟩] (some [2, 3]))
 (.ret)) (.skip)))
 (.seq (.rg [⟨some 11, none, .mov (.t 4)⟩,
 ⟨some 12, none, .bin .sub (.t 11) (.c (.int .i64 1))⟩,
 ⟨some 5, none, .mov (.t 12)⟩] (some [0, 4, 5]))
 (.seq (.rg [⟨some 13, none, .mov (.t 0)⟩,
 ⟨some 14, none, .mov (.t 5)⟩,
 ⟨some 15, none, .ixs (.t 13) (.t 14)⟩,
 ⟨some 16, none, .conv .i32 (.t 15)⟩,
 ⟨some 2, none, .mov (.t 16)⟩] (some [0, 2, 4, 5]))
 (.seq (.seq (.rg [⟨some 17, none, .mov (.t 2)⟩,
 ⟨some 18, none, .bin .lss (.t 17) (.c (.int .i32 128))⟩] (some [0, 2, 4, 5, 18]))
 (.cond (.t 18) (.seq (.rg [⟨some 19, none, .mov (.t 2)⟩,
 ⟨some 2, none, .mov (.t 19)⟩,
 ⟨some 3, none, .mov (.c (.int .i64 1))⟩] (some [2, 3]))
 (.ret)) (.skip)))
 (.seq (.rg [⟨some 20, none, .mov (.t 4)⟩,
 ⟨some 21, none, .bin .sub (.t 20) (.c (.int .i64 4))⟩,
 ⟨some 22, none, .mxn true [(.t 21), (.c (.int .i64 0))]⟩,
 ⟨some 6, none, .mov (.t 22)⟩] (some [0, 4, 5, 6]))
 (.seq (.seq (.rg [⟨some 23, none, .mov (.t 5)⟩,
 ⟨some 24, none, .bin .sub (.t 23) (.c (.int .i64 1))⟩,
 ⟨some 5, none, .mov (.t 24)⟩] (some [0, 4, 5, 6]))
 (.blk 0 (i_unicode_utf8_DecodeLastRuneInString_l0)))
 (.seq (.seq (.rg [⟨some 34, none, .mov (.t 5)⟩,
 ⟨some 35, none, .bin .lss (.t 34) (.c (.int .i64 0))⟩] (some [0, 4, 5, 35]))
 (.cond (.t 35) (.rg [⟨some 5, none, .mov (.c (.int .i64 0))⟩] (some [0, 4, 5])) (.skip)))
 (.seq (.rg [⟨some 37, none, .mov (.t 0)⟩,
 ⟨some 38, none, .mov (.t 5)⟩,
 ⟨some 39, none, .mov (.t 4)⟩,
 ⟨some 40, none, .sls (.t 37) (some (.t 38)) (some (.t 39))⟩,
 ⟨some 41, none, .call n_unicode_utf8_DecodeRuneInString [(.t 40)]⟩,
 ⟨some 36, none, .mov (.t 41)⟩,
 ⟨some 42, none, .ext (.t 36) 0⟩,
 ⟨some 43, none, .ext (.t 36) 1⟩,
 ⟨some 2, none, .mov (.t 42)⟩,
 ⟨some 3, none, .mov (.t 43)⟩] (some [2, 3, 4, 5]))
 (.seq (.seq (.rg [⟨some 44, none, .mov (.t 5)⟩,
 ⟨some 45, none, .mov (.t 3)⟩,
 ⟨some 46, none, .bin .add (.t 44) (.t 45)⟩,
 ⟨some 47, none, .mov (.t 4)⟩,
 ⟨some 48, none, .bin .neq (.t 46) (.t 47)⟩] (some [2, 3, 48]))
 (.cond (.t 48) (.seq (.rg [⟨some 2, none, .mov (.c (.int .i32 65533))⟩,
 ⟨some 3, none, .mov (.c (.int .i64 1))⟩] (some [2, 3]))
 (.ret)) (.skip)))
 (.seq (.rg [⟨some 49, none, .mov (.t 2)⟩,
 ⟨some 50, none, .mov (.t 3)⟩,
 ⟨some 2, none, .mov (.t 49)⟩,
 ⟨some 3, none, .mov (.t 50)⟩] (some [2, 3]))
 (.ret))))))))))))
def F_unicode_utf8_DecodeLastRuneInString : F := ⟨i_unicode_utf8_DecodeLastRuneInString, [(2, none), (3, none)], false⟩
def b_model_looker_variables_0 : IR := .seq (.rg [⟨some 27, none, .bin .lss (.t 26) (.t 25)⟩] (some [3, 24, 25, 26, 27]))
 (.seq (.cond (.t 27) (.skip) (.ext 0))
 (.seq (.blk 1 (.seq (.rg [⟨some 28, none, .mov (.t 26)⟩,
 ⟨some 29, none, .iad 1 (.t 24) (.t 26)⟩,
 ⟨some 30, none, .ld false 1 (.t 29)⟩,
 ⟨some 8, none, .mov (.t 28)⟩,
 ⟨some 9, none, .mov (.t 30)⟩] (some [3, 8, 9, 24, 25, 26]))
 (.seq (.rg [⟨some 31, none, .mov (.t 9)⟩,
 ⟨some 32, none, .bin .lss (.t 31) (.c (.int .i64 0))⟩,
 ⟨some 33, none, .mov (.t 32)⟩,
 ⟨some 34, (some (33, false)), .mov (.t 9)⟩,
 ⟨some 35, (some (33, false)), .fad 6 (.t 3)⟩,
 ⟨some 36, (some (33, false)), .ld false 1 (.t 35)⟩,
 ⟨some 37, (some (33, false)), .bin .geq (.t 34) (.t 36)⟩,
 ⟨some 38, none, .pick (.t 33) (.c (.bool true)) (.t 37)⟩,
 ⟨some 39, none, .mov (.t 38)⟩,
 ⟨some 40, (some (39, false)), .fad 0 (.t 3)⟩,
 ⟨some 41, (some (39, false)), .fad 1 (.t 40)⟩,
 ⟨some 42, (some (39, false)), .ld false 1 (.t 41)⟩,
 ⟨some 43, (some (39, false)), .mov (.t 8)⟩,
 ⟨some 44, (some (39, false)), .sll 1 (.t 42) none (some (.t 43)) none⟩,
 ⟨some 45, (some (39, false)), .mov (.t 9)⟩,
 ⟨some 46, (some (39, false)), .call n_slices_Contains_sint_int [(.t 44), (.t 45)]⟩,
 ⟨some 47, none, .pick (.t 39) (.c (.bool true)) (.t 46)⟩] (some [3, 24, 25, 26, 47]))
 (.cond (.t 47) (.seq (.rg [⟨some 6, none, .mov (.c (.bool false))⟩] (some [6]))
 (.ret)) (.skip)))))
 (.rg [⟨some 48, none, .bin .add (.t 26) (.c (.int .i64 1))⟩,
 ⟨some 26, none, .mov (.t 48)⟩] (some [3, 24, 25, 26]))))
def i_model_looker_variables_l0 : IR := .loop b_model_looker_variables_0
theorem r_model_looker_variables_0 {C : Cx} {Y : Yl} {fr : Fr} {h : List Ob} : evw C Y i_model_looker_variables_l0 fr h = nxt (evw C Y b_model_looker_variables_0 fr h) fun fr h => evw C Y i_model_looker_variables_l0 fr h := w_loop
def i_model_looker_variables : IR := .seq (.rg [⟨some 3, none, .box (.t 0)⟩,
 ⟨some 6, none, .mov (.c (.bool false))⟩] (some [1, 2, 3]))
 (.seq (.rg [⟨some 10, none, .fad 0 (.t 3)⟩,
 ⟨some 11, none, .fad 1 (.t 10)⟩,
 ⟨some 12, none, .ld false 1 (.t 11)⟩,
 ⟨some 13, none, .len (.t 12)⟩,
 ⟨some 7, none, .mov (.t 13)⟩] (some [1, 2, 3, 7]))
 (.seq (.seq (.rg [⟨some 14, none, .mov (.t 7)⟩,
 ⟨some 15, none, .mov (.t 1)⟩,
 ⟨some 16, none, .bin .lss (.t 14) (.t 15)⟩,
 ⟨some 17, none, .mov (.t 16)⟩,
 ⟨some 18, (some (17, false)), .mov (.t 7)⟩,
 ⟨some 19, (some (17, false)), .mov (.t 2)⟩,
 ⟨some 20, (some (17, false)), .bin .gtr (.t 18) (.t 19)⟩,
 ⟨some 21, none, .pick (.t 17) (.c (.bool true)) (.t 20)⟩] (some [3, 21]))
 (.cond (.t 21) (.seq (.rg [⟨some 6, none, .mov (.c (.bool false))⟩] (some [6]))
 (.ret)) (.skip)))
 (.seq (.seq (.rg [⟨some 22, none, .fad 0 (.t 3)⟩,
 ⟨some 23, none, .fad 1 (.t 22)⟩,
 ⟨some 24, none, .ld false 1 (.t 23)⟩,
 ⟨some 25, none, .len (.t 24)⟩,
 ⟨some 26, none, .mov (.c (.int .i64 0))⟩] (some [3, 24, 25, 26]))
 (.blk 0 (i_model_looker_variables_l0)))
 (.seq (.rg [⟨some 6, none, .mov (.c (.bool true))⟩] (some [6]))
 (.ret)))))
def F_model_looker_variables : F := ⟨i_model_looker_variables, [(6, none)], false⟩
def i_model_looker_sum : IR := .seq (.rg [⟨some 2, none, .box (.t 0)⟩,
 ⟨some 4, none, .mov (.c (.bool false))⟩] (some [1, 2]))
 (.seq (.rg [⟨some 6, none, .fad 0 (.t 2)⟩,
 ⟨some 7, none, .ld true 6 (.t 6)⟩,
 ⟨some 5, none, .new (.agg [.int .i64 0, .nsl 1, .nsl 1, .int .i64 0, .int .i64 0, .nsl 1])⟩,
 ⟨none, none, .st 6 (.t 5) (.t 7)⟩] (some [1, 5]))
 (.seq (.rg [⟨some 8, none, .fad 2 (.t 5)⟩,
 ⟨some 9, none, .ld false 1 (.t 8)⟩,
 ⟨some 10, none, .len (.t 9)⟩,
 ⟨some 11, none, .fad 1 (.t 5)⟩,
 ⟨some 12, none, .ld false 1 (.t 11)⟩,
 ⟨some 13, none, .len (.t 12)⟩,
 ⟨some 14, none, .mov (.t 1)⟩,
 ⟨some 15, none, .bin .sub (.t 13) (.t 14)⟩,
 ⟨some 16, none, .bin .eql (.t 10) (.t 15)⟩,
 ⟨some 17, none, .mov (.t 16)⟩,
 ⟨some 18, (some (17, true)), .fad 2 (.t 5)⟩,
 ⟨some 19, (some (17, true)), .ld false 1 (.t 18)⟩,
 ⟨some 20, (some (17, true)), .call n_model_within [(.t 19), (.c (.int .i64 1048576))]⟩,
 ⟨some 21, none, .pick (.t 17) (.t 20) (.c (.bool false))⟩,
 ⟨some 22, none, .mov (.t 21)⟩,
 ⟨some 23, (some (22, true)), .fad 2 (.t 5)⟩,
 ⟨some 24, (some (22, true)), .ld false 1 (.t 23)⟩,
 ⟨some 25, (some (22, true)), .call n_slices_Contains_sint_int [(.t 24), (.c (.int .i64 0))]⟩,
 ⟨some 26, (some (22, true)), .un .not (.t 25)⟩,
 ⟨some 27, none, .pick (.t 22) (.t 26) (.c (.bool false))⟩,
 ⟨some 28, none, .mov (.t 27)⟩,
 ⟨some 29, (some (28, true)), .fad 3 (.t 5)⟩,
 ⟨some 30, (some (28, true)), .ld false 1 (.t 29)⟩,
 ⟨some 31, (some (28, true)), .bin .geq (.t 30) (.c (.int .i64 0))⟩,
 ⟨some 32, none, .pick (.t 28) (.t 31) (.c (.bool false))⟩,
 ⟨some 33, none, .mov (.t 32)⟩,
 ⟨some 34, (some (33, true)), .fad 3 (.t 5)⟩,
 ⟨some 35, (some (33, true)), .ld false 1 (.t 34)⟩,
 ⟨some 36, (some (33, true)), .bin .leq (.t 35) (.c (.int .i64 5))⟩,
 ⟨some 37, none, .pick (.t 33) (.t 36) (.c (.bool false))⟩,
 ⟨some 38, none, .mov (.t 37)⟩,
 ⟨some 39, (some (38, true)), .fad 4 (.t 5)⟩,
 ⟨some 40, (some (38, true)), .ld false 1 (.t 39)⟩,
 ⟨some 41, (some (38, true)), .bsf (.int .i64 0) 1 [(0, (.t 40))]⟩,
 ⟨some 42, (some (38, true)), .call n_model_within [(.t 41), (.c (.int .i64 1099511627776))]⟩,
 ⟨some 43, none, .pick (.t 38) (.t 42) (.c (.bool false))⟩,
 ⟨some 44, none, .mov (.t 43)⟩,
 ⟨some 45, (some (44, true)), .fad 5 (.t 5)⟩,
 ⟨some 46, (some (44, true)), .ld false 1 (.t 45)⟩,
 ⟨some 47, (some (44, true)), .len (.t 46)⟩,
 ⟨some 48, (some (44, true)), .bin .eql (.t 47) (.c (.int .i64 0))⟩,
 ⟨some 49, none, .pick (.t 44) (.t 48) (.c (.bool false))⟩,
 ⟨some 4, none, .mov (.t 49)⟩] (some [4]))
 (.ret)))
def F_model_looker_sum : F := ⟨i_model_looker_sum, [(4, none)], false⟩
def i_model_looker_bare : IR := .seq (.rg [⟨some 3, none, .box (.t 0)⟩,
 ⟨some 6, none, .mov (.c (.bool false))⟩] (some [1, 2, 3]))
 (.seq (.rg [⟨some 8, none, .fad 0 (.t 3)⟩,
 ⟨some 9, none, .ld true 6 (.t 8)⟩,
 ⟨some 7, none, .new (.agg [.int .i64 0, .nsl 1, .nsl 1, .int .i64 0, .int .i64 0, .nsl 1])⟩,
 ⟨none, none, .st 6 (.t 7) (.t 9)⟩] (some [1, 2, 7]))
 (.seq (.rg [⟨some 10, none, .fad 2 (.t 7)⟩,
 ⟨some 11, none, .ld false 1 (.t 10)⟩,
 ⟨some 12, none, .len (.t 11)⟩,
 ⟨some 13, none, .bin .eql (.t 12) (.c (.int .i64 0))⟩,
 ⟨some 14, none, .mov (.t 13)⟩,
 ⟨some 15, (some (14, true)), .fad 3 (.t 7)⟩,
 ⟨some 16, (some (14, true)), .ld false 1 (.t 15)⟩,
 ⟨some 17, (some (14, true)), .bin .eql (.t 16) (.c (.int .i64 0))⟩,
 ⟨some 18, none, .pick (.t 14) (.t 17) (.c (.bool false))⟩,
 ⟨some 19, none, .mov (.t 18)⟩,
 ⟨some 20, (some (19, true)), .fad 4 (.t 7)⟩,
 ⟨some 21, (some (19, true)), .ld false 1 (.t 20)⟩,
 ⟨some 22, (some (19, true)), .bin .eql (.t 21) (.c (.int .i64 0))⟩,
 ⟨some 23, none, .pick (.t 19) (.t 22) (.c (.bool false))⟩,
 ⟨some 24, none, .mov (.t 23)⟩,
 ⟨some 25, (some (24, true)), .fad 5 (.t 7)⟩,
 ⟨some 26, (some (24, true)), .ld false 1 (.t 25)⟩,
 ⟨some 27, (some (24, true)), .len (.t 26)⟩,
 ⟨some 28, (some (24, true)), .mov (.t 1)⟩,
 ⟨some 29, (some (24, true)), .bin .geq (.t 27) (.t 28)⟩,
 ⟨some 30, none, .pick (.t 24) (.t 29) (.c (.bool false))⟩,
 ⟨some 31, none, .mov (.t 30)⟩,
 ⟨some 32, (some (31, true)), .fad 5 (.t 7)⟩,
 ⟨some 33, (some (31, true)), .ld false 1 (.t 32)⟩,
 ⟨some 34, (some (31, true)), .len (.t 33)⟩,
 ⟨some 35, (some (31, true)), .mov (.t 2)⟩,
 ⟨some 36, (some (31, true)), .bin .leq (.t 34) (.t 35)⟩,
 ⟨some 37, none, .pick (.t 31) (.t 36) (.c (.bool false))⟩,
 ⟨some 38, none, .mov (.t 37)⟩,
 ⟨some 39, (some (38, true)), .fad 5 (.t 7)⟩,
 ⟨some 40, (some (38, true)), .ld false 1 (.t 39)⟩,
 ⟨some 41, (some (38, true)), .call n_model_within [(.t 40), (.c (.int .i64 1048576))]⟩,
 ⟨some 42, none, .pick (.t 38) (.t 41) (.c (.bool false))⟩,
 ⟨some 6, none, .mov (.t 42)⟩] (some [6]))
 (.ret)))
def F_model_looker_bare : F := ⟨i_model_looker_bare, [(6, none)], false⟩
def b_sums_Dot_0 : IR := .seq (.rg [⟨some 18, none, .bin .lss (.t 17) (.t 16)⟩] (some [0, 1, 6, 16, 17, 18]))
 (.seq (.cond (.t 18) (.skip) (.ext 0))
 (.seq (.blk 1 (.seq (.rg [⟨some 19, none, .mov (.t 17)⟩,
 ⟨some 7, none, .mov (.t 19)⟩] (some [0, 1, 6, 7, 16, 17]))
 (.seq (.dq [(⟨some 21, none, .mov (.t 0)⟩, []),
 (⟨some 22, none, .mov (.t 7)⟩, []),
 (⟨some 23, none, .iad 1 (.t 21) (.t 22)⟩, [0, 1]),
 (⟨some 24, none, .ld false 1 (.t 23)⟩, [0, 1, 2]),
 (⟨some 25, none, .mov (.t 1)⟩, []),
 (⟨some 26, none, .mov (.t 7)⟩, []),
 (⟨some 27, none, .iad 1 (.t 25) (.t 26)⟩, [4, 5]),
 (⟨some 28, none, .ld false 1 (.t 27)⟩, [4, 5, 6]),
 (⟨some 29, none, .call n_sums_Mul [(.t 24), (.t 28)]⟩, [0, 1, 2, 3, 4, 5, 6, 7]),
 (⟨some 20, none, .mov (.t 29)⟩, [0, 1, 2, 3, 4, 5, 6, 7, 8]),
 (⟨some 30, none, .ext (.t 20) 0⟩, [0, 1, 2, 3, 4, 5, 6, 7, 8, 9]),
 (⟨some 31, none, .ext (.t 20) 1⟩, [0, 1, 2, 3, 4, 5, 6, 7, 8, 9]),
 (⟨some 8, none, .mov (.t 30)⟩, [0, 1, 2, 3, 4, 5, 6, 7, 8, 9, 10]),
 (⟨some 9, none, .mov (.t 31)⟩, [0, 1, 2, 3, 4, 5, 6, 7, 8, 9, 10, 11, 12])] (some [0, 1, 6, 8, 9, 16, 17]))
 (.seq (.seq (.rg [⟨some 32, none, .mov (.t 9)⟩,
 ⟨some 33, none, .bin .neq (.t 32) (.c (.int .i64 0))⟩] (some [0, 1, 6, 8, 9, 16, 17, 33]))
 (.cond (.t 33) (.seq (.rg [⟨some 34, none, .mov (.t 9)⟩,
 ⟨some 4, none, .mov (.c (.int .i64 0))⟩,
 ⟨some 5, none, .mov (.t 34)⟩] (some [4, 5]))
 (.ret)) (.skip)))
 (.seq (.rg [⟨some 36, none, .mov (.t 6)⟩,
 ⟨some 37, none, .mov (.t 8)⟩,
 ⟨some 38, none, .call n_sums_Add [(.t 36), (.t 37)]⟩,
 ⟨some 35, none, .mov (.t 38)⟩,
 ⟨some 39, none, .ext (.t 35) 0⟩,
 ⟨some 40, none, .ext (.t 35) 1⟩,
 ⟨some 6, none, .mov (.t 39)⟩,
 ⟨some 9, none, .mov (.t 40)⟩] (some [0, 1, 6, 9, 16, 17]))
 (.seq (.rg [⟨some 41, none, .mov (.t 9)⟩,
 ⟨some 42, none, .bin .neq (.t 41) (.c (.int .i64 0))⟩] (some [0, 1, 6, 9, 16, 17, 42]))
 (.cond (.t 42) (.seq (.rg [⟨some 43, none, .mov (.t 9)⟩,
 ⟨some 4, none, .mov (.c (.int .i64 0))⟩,
 ⟨some 5, none, .mov (.t 43)⟩] (some [4, 5]))
 (.ret)) (.skip))))))))
 (.rg [⟨some 44, none, .bin .add (.t 17) (.c (.int .i64 1))⟩,
 ⟨some 17, none, .mov (.t 44)⟩] (some [0, 1, 6, 16, 17]))))
def i_sums_Dot_l0 : IR := .loop b_sums_Dot_0
theorem r_sums_Dot_0 {C : Cx} {Y : Yl} {fr : Fr} {h : List Ob} : evw C Y i_sums_Dot_l0 fr h = nxt (evw C Y b_sums_Dot_0 fr h) fun fr h => evw C Y i_sums_Dot_l0 fr h := w_loop
def i_sums_Dot : IR := .seq (.rg [⟨some 4, none, .mov (.c (.int .i64 0))⟩,
 ⟨some 5, none, .mov (.c (.int .i64 0))⟩] (some [0, 1]))
 (.seq (.seq (.rg [⟨some 10, none, .mov (.t 0)⟩,
 ⟨some 11, none, .len (.t 10)⟩,
 ⟨some 12, none, .mov (.t 1)⟩,
 ⟨some 13, none, .len (.t 12)⟩,
 ⟨some 14, none, .bin .neq (.t 11) (.t 13)⟩] (some [0, 1, 14]))
 (.cond (.t 14) (.seq (.rg [⟨some 4, none, .mov (.c (.int .i64 0))⟩,
 ⟨some 5, none, .mov (.c (.int .i64 1))⟩] (some [4, 5]))
 (.ret)) (.skip)))
 (.seq (.rg [⟨some 6, none, .mov (.c (.int .i64 0))⟩] (some [0, 1, 6]))
 (.seq (.seq (.rg [⟨some 15, none, .mov (.t 0)⟩,
 ⟨some 16, none, .len (.t 15)⟩,
 ⟨some 17, none, .mov (.c (.int .i64 0))⟩] (some [0, 1, 6, 16, 17]))
 (.blk 0 (i_sums_Dot_l0)))
 (.seq (.rg [⟨some 45, none, .mov (.t 6)⟩,
 ⟨some 4, none, .mov (.t 45)⟩,
 ⟨some 5, none, .mov (.c (.int .i64 0))⟩] (some [4, 5]))
 (.ret)))))
def F_sums_Dot : F := ⟨i_sums_Dot, [(4, none), (5, none)], false⟩
def i_sums_Holds : IR := .seq (.rg [⟨some 6, none, .mov (.c (.bool false))⟩] (some [0, 1, 2]))
 (.seq (.seq (.rg [⟨some 7, none, .mov (.t 1)⟩] (some [0, 2, 7]))
 (.blk 0 (.seq (.rg [⟨some 9, none, .bin .eql (.t 7) (.c (.int .i64 0))⟩,
 ⟨some 8, none, .mov (.t 9)⟩] (some [0, 2, 7, 8]))
 (.cond (.t 8) (.seq (.rg [⟨some 10, none, .mov (.t 0)⟩,
 ⟨some 11, none, .mov (.t 2)⟩,
 ⟨some 12, none, .bin .eql (.t 10) (.t 11)⟩,
 ⟨some 6, none, .mov (.t 12)⟩] (some [6]))
 (.ret)) (.seq (.rg [⟨some 14, none, .bin .eql (.t 7) (.c (.int .i64 1))⟩,
 ⟨some 13, none, .mov (.t 14)⟩] (some [0, 2, 7, 13]))
 (.cond (.t 13) (.seq (.rg [⟨some 15, none, .mov (.t 0)⟩,
 ⟨some 16, none, .mov (.t 2)⟩,
 ⟨some 17, none, .bin .neq (.t 15) (.t 16)⟩,
 ⟨some 6, none, .mov (.t 17)⟩] (some [6]))
 (.ret)) (.seq (.rg [⟨some 19, none, .bin .eql (.t 7) (.c (.int .i64 2))⟩,
 ⟨some 18, none, .mov (.t 19)⟩] (some [0, 2, 7, 18]))
 (.cond (.t 18) (.seq (.rg [⟨some 20, none, .mov (.t 0)⟩,
 ⟨some 21, none, .mov (.t 2)⟩,
 ⟨some 22, none, .bin .lss (.t 20) (.t 21)⟩,
 ⟨some 6, none, .mov (.t 22)⟩] (some [6]))
 (.ret)) (.seq (.rg [⟨some 24, none, .bin .eql (.t 7) (.c (.int .i64 3))⟩,
 ⟨some 23, none, .mov (.t 24)⟩] (some [0, 2, 7, 23]))
 (.cond (.t 23) (.seq (.rg [⟨some 25, none, .mov (.t 0)⟩,
 ⟨some 26, none, .mov (.t 2)⟩,
 ⟨some 27, none, .bin .leq (.t 25) (.t 26)⟩,
 ⟨some 6, none, .mov (.t 27)⟩] (some [6]))
 (.ret)) (.seq (.rg [⟨some 29, none, .bin .eql (.t 7) (.c (.int .i64 4))⟩,
 ⟨some 28, none, .mov (.t 29)⟩] (some [0, 2, 7, 28]))
 (.cond (.t 28) (.seq (.rg [⟨some 30, none, .mov (.t 0)⟩,
 ⟨some 31, none, .mov (.t 2)⟩,
 ⟨some 32, none, .bin .gtr (.t 30) (.t 31)⟩,
 ⟨some 6, none, .mov (.t 32)⟩] (some [6]))
 (.ret)) (.seq (.rg [⟨some 34, none, .bin .eql (.t 7) (.c (.int .i64 5))⟩,
 ⟨some 33, none, .mov (.t 34)⟩] (some [0, 2, 33]))
 (.cond (.t 33) (.seq (.rg [⟨some 35, none, .mov (.t 0)⟩,
 ⟨some 36, none, .mov (.t 2)⟩,
 ⟨some 37, none, .bin .geq (.t 35) (.t 36)⟩,
 ⟨some 6, none, .mov (.t 37)⟩] (some [6]))
 (.ret)) (.skip)))))))))))))))
 (.seq (.rg [⟨some 6, none, .mov (.c (.bool false))⟩] (some [6]))
 (.ret)))
def F_sums_Holds : F := ⟨i_sums_Holds, [(6, none)], false⟩
def i_unicode_utf8_RuneStart : IR := .seq (.rg [⟨some 2, none, .mov (.c (.bool false))⟩] (some [0]))
 (.seq (.rg [⟨some 3, none, .mov (.t 0)⟩,
 ⟨some 4, none, .bin .and (.t 3) (.c (.int .u8 192))⟩,
 ⟨some 5, none, .bin .neq (.t 4) (.c (.int .u8 128))⟩,
 ⟨some 2, none, .mov (.t 5)⟩] (some [2]))
 (.ret))
def F_unicode_utf8_RuneStart : F := ⟨i_unicode_utf8_RuneStart, [(2, none)], false⟩
def i_slices_Contains_sint_int : IR := .seq (.rg [⟨some 4, none, .mov (.c (.bool false))⟩] (some [0, 1]))
 (.seq (.rg [⟨some 5, none, .mov (.t 0)⟩,
 ⟨some 6, none, .mov (.t 1)⟩,
 ⟨some 7, none, .call n_slices_Index_sint_int [(.t 5), (.t 6)]⟩,
 ⟨some 8, none, .bin .geq (.t 7) (.c (.int .i64 0))⟩,
 ⟨some 4, none, .mov (.t 8)⟩] (some [4]))
 (.ret))
def F_slices_Contains_sint_int : F := ⟨i_slices_Contains_sint_int, [(4, none)], false⟩
def i_model_within : IR := .seq (.rg [⟨some 3, none, .box (.t 1)⟩,
 ⟨some 4, none, .mov (.c (.bool false))⟩] (some [0, 3]))
 (.seq (.rg [⟨some 5, none, .mov (.t 0)⟩,
 ⟨some 6, none, .mkf (.func n_model_within_1) [] [(.t 3)]⟩,
 ⟨some 7, none, .call n_slices_ContainsFunc_sint_int [(.t 5), (.t 6)]⟩,
 ⟨some 8, none, .un .not (.t 7)⟩,
 ⟨some 4, none, .mov (.t 8)⟩] (some [4]))
 (.ret))
def F_model_within : F := ⟨i_model_within, [(4, none)], false⟩
def i_sums_Mul : IR := .seq (.rg [⟨some 4, none, .mov (.c (.int .i64 0))⟩,
 ⟨some 5, none, .mov (.c (.int .i64 0))⟩] none)
 (.scg (.seq (.rg [⟨some 9, none, .mov (.t 0)⟩,
 ⟨some 10, none, .bin .lss (.t 9) (.c (.int .i64 0))⟩,
 ⟨some 11, none, .mov (.t 1)⟩,
 ⟨some 12, none, .bin .lss (.t 11) (.c (.int .i64 0))⟩,
 ⟨some 13, none, .eq true .bool (.t 10) (.t 12)⟩,
 ⟨some 6, none, .mov (.t 13)⟩] none)
 (.seq (.rg [⟨some 15, none, .mov (.t 0)⟩,
 ⟨some 16, none, .call n_sums_size [(.t 15)]⟩,
 ⟨some 17, none, .mov (.t 1)⟩,
 ⟨some 18, none, .call n_sums_size [(.t 17)]⟩,
 ⟨some 19, none, .call n_math_bits_Mul64 [(.t 16), (.t 18)]⟩,
 ⟨some 14, none, .mov (.t 19)⟩,
 ⟨some 20, none, .ext (.t 14) 0⟩,
 ⟨some 21, none, .ext (.t 14) 1⟩,
 ⟨some 7, none, .mov (.t 20)⟩,
 ⟨some 8, none, .mov (.t 21)⟩] none)
 (.seq (.seq (.rg [⟨some 22, none, .mov (.t 7)⟩,
 ⟨some 23, none, .bin .neq (.t 22) (.c (.int .u64 0))⟩] none)
 (.cond (.t 23) (.gto 0) (.skip)))
 (.seq (.blk 0 (.seq (.rg [⟨some 25, none, .mov (.t 8)⟩,
 ⟨some 26, none, .bin .lss (.t 25) (.c (.int .u64 9223372036854775808))⟩,
 ⟨some 27, none, .mov (.t 26)⟩,
 ⟨some 28, (some (27, true)), .mov (.t 6)⟩,
 ⟨some 29, none, .pick (.t 27) (.t 28) (.c (.bool false))⟩,
 ⟨some 24, none, .mov (.t 29)⟩] none)
 (.cond (.t 24) (.seq (.rg [⟨some 30, none, .mov (.t 8)⟩,
 ⟨some 31, none, .conv .i64 (.t 30)⟩,
 ⟨some 32, none, .un .neg (.t 31)⟩,
 ⟨some 4, none, .mov (.t 32)⟩,
 ⟨some 5, none, .mov (.c (.int .i64 0))⟩] none)
 (.ret)) (.seq (.rg [⟨some 34, none, .mov (.t 8)⟩,
 ⟨some 35, none, .bin .lss (.t 34) (.c (.int .u64 9223372036854775808))⟩,
 ⟨some 33, none, .mov (.t 35)⟩] none)
 (.cond (.t 33) (.seq (.rg [⟨some 36, none, .mov (.t 8)⟩,
 ⟨some 37, none, .conv .i64 (.t 36)⟩,
 ⟨some 4, none, .mov (.t 37)⟩,
 ⟨some 5, none, .mov (.c (.int .i64 0))⟩] none)
 (.ret)) (.seq (.rg [⟨some 39, none, .mov (.t 8)⟩,
 ⟨some 40, none, .bin .eql (.t 39) (.c (.int .u64 9223372036854775808))⟩,
 ⟨some 41, none, .mov (.t 40)⟩,
 ⟨some 42, (some (41, true)), .mov (.t 6)⟩,
 ⟨some 43, none, .pick (.t 41) (.t 42) (.c (.bool false))⟩,
 ⟨some 38, none, .mov (.t 43)⟩] none)
 (.cond (.t 38) (.seq (.rg [⟨some 4, none, .mov (.c (.int .i64 (-9223372036854775808)))⟩,
 ⟨some 5, none, .mov (.c (.int .i64 0))⟩] none)
 (.ret)) (.skip))))))))
 (.seq (.lab 0)
 (.seq (.rg [⟨some 4, none, .mov (.c (.int .i64 0))⟩,
 ⟨some 5, none, .mov (.c (.int .i64 6))⟩] none)
 (.ret))))))))
def F_sums_Mul : F := ⟨i_sums_Mul, [(4, none), (5, none)], false⟩
def i_sums_Add : IR := .seq (.rg [⟨some 4, none, .mov (.c (.int .i64 0))⟩,
 ⟨some 5, none, .mov (.c (.int .i64 0))⟩] (some [0, 1]))
 (.seq (.rg [⟨some 7, none, .mov (.t 0)⟩,
 ⟨some 8, none, .mov (.t 1)⟩,
 ⟨some 9, none, .bin .add (.t 7) (.t 8)⟩,
 ⟨some 6, none, .mov (.t 9)⟩] (some [0, 1, 6]))
 (.seq (.seq (.rg [⟨some 10, none, .mov (.t 0)⟩,
 ⟨some 11, none, .bin .lss (.t 10) (.c (.int .i64 0))⟩,
 ⟨some 12, none, .mov (.t 1)⟩,
 ⟨some 13, none, .bin .lss (.t 12) (.c (.int .i64 0))⟩,
 ⟨some 14, none, .eq false .bool (.t 11) (.t 13)⟩,
 ⟨some 15, none, .mov (.t 14)⟩,
 ⟨some 16, (some (15, true)), .mov (.t 6)⟩,
 ⟨some 17, (some (15, true)), .bin .lss (.t 16) (.c (.int .i64 0))⟩,
 ⟨some 18, (some (15, true)), .mov (.t 0)⟩,
 ⟨some 19, (some (15, true)), .bin .lss (.t 18) (.c (.int .i64 0))⟩,
 ⟨some 20, (some (15, true)), .eq true .bool (.t 17) (.t 19)⟩,
 ⟨some 21, none, .pick (.t 15) (.t 20) (.c (.bool false))⟩] (some [6, 21]))
 (.cond (.t 21) (.seq (.rg [⟨some 4, none, .mov (.c (.int .i64 0))⟩,
 ⟨some 5, none, .mov (.c (.int .i64 6))⟩] (some [4, 5]))
 (.ret)) (.skip)))
 (.seq (.rg [⟨some 22, none, .mov (.t 6)⟩,
 ⟨some 4, none, .mov (.t 22)⟩,
 ⟨some 5, none, .mov (.c (.int .i64 0))⟩] (some [4, 5]))
 (.ret))))
def F_sums_Add : F := ⟨i_sums_Add, [(4, none), (5, none)], false⟩
def i_model_within_1 : IR := .seq (.rg [⟨some 3, none, .mov (.c (.bool false))⟩] (some [0, 1]))
 (.seq (.rg [⟨some 4, none, .mov (.t 0)⟩,
 ⟨some 5, none, .ld false 1 (.t 1)⟩,
 ⟨some 6, none, .un .neg (.t 5)⟩,
 ⟨some 7, none, .bin .lss (.t 4) (.t 6)⟩,
 ⟨some 8, none, .mov (.t 7)⟩,
 ⟨some 9, (some (8, false)), .mov (.t 0)⟩,
 ⟨some 10, (some (8, false)), .ld false 1 (.t 1)⟩,
 ⟨some 11, (some (8, false)), .bin .gtr (.t 9) (.t 10)⟩,
 ⟨some 12, none, .pick (.t 8) (.c (.bool true)) (.t 11)⟩,
 ⟨some 3, none, .mov (.t 12)⟩] (some [3]))
 (.ret))
def F_model_within_1 : F := ⟨i_model_within_1, [(3, none)], false⟩
def i_sums_size : IR := .seq (.rg [⟨some 2, none, .mov (.c (.int .u64 0))⟩] (some [0]))
 (.seq (.seq (.rg [⟨some 3, none, .mov (.t 0)⟩,
 ⟨some 4, none, .bin .lss (.t 3) (.c (.int .i64 0))⟩] (some [0, 4]))
 (.cond (.t 4) (.seq (.rg [⟨some 5, none, .mov (.t 0)⟩,
 ⟨some 6, none, .conv .u64 (.t 5)⟩,
 ⟨some 7, none, .un .neg (.t 6)⟩,
 ⟨some 2, none, .mov (.t 7)⟩] (some [2]))
 (.ret)) (.skip)))
 (.seq (.rg [⟨some 8, none, .mov (.t 0)⟩,
 ⟨some 9, none, .conv .u64 (.t 8)⟩,
 ⟨some 2, none, .mov (.t 9)⟩] (some [2]))
 (.ret)))
def F_sums_size : F := ⟨i_sums_size, [(2, none)], false⟩
theorem ok_law20_PlayTells : mF Go.Proofs.Tryz.prog n_law20_PlayTells F_law20_PlayTells = true := by kernel_rfl
theorem ok_law20_PlayShows : mF Go.Proofs.Tryz.prog n_law20_PlayShows F_law20_PlayShows = true := by kernel_rfl
theorem ok_law20_PlayTurned : mF Go.Proofs.Tryz.prog n_law20_PlayTurned F_law20_PlayTurned = true := by kernel_rfl
theorem ok_law20_PlaySame : mF Go.Proofs.Tryz.prog n_law20_PlaySame F_law20_PlaySame = true := by kernel_rfl
theorem ok_law20_awake : mF Go.Proofs.Tryz.prog n_law20_awake F_law20_awake = true := by kernel_rfl
theorem ok_law20_Large : mF Go.Proofs.Tryz.prog n_law20_Large F_law20_Large = true := by kernel_rfl
theorem ok_play_Over : mF Go.Proofs.Tryz.prog n_play_Over F_play_Over = true := by kernel_rfl
theorem ok_ref20_Row : mF Go.Proofs.Tryz.prog n_ref20_Row F_ref20_Row = true := by kernel_rfl
theorem ok_ref20_Over : mF Go.Proofs.Tryz.prog n_ref20_Over F_ref20_Over = true := by kernel_rfl
theorem ok_play_Wins : mF Go.Proofs.Tryz.prog n_play_Wins F_play_Wins = true := by kernel_rfl
theorem ok_ref20_Wins : mF Go.Proofs.Tryz.prog n_ref20_Wins F_ref20_Wins = true := by kernel_rfl
theorem ok_law19_Own : mF Go.Proofs.Tryz.prog n_law19_Own F_law19_Own = true := by kernel_rfl
theorem ok_play_Value : mF Go.Proofs.Tryz.prog n_play_Value F_play_Value = true := by kernel_rfl
theorem ok_ref20_Value : mF Go.Proofs.Tryz.prog n_ref20_Value F_ref20_Value = true := by kernel_rfl
theorem ok_ref08_Check : mF Go.Proofs.Tryz.prog n_ref08_Check F_ref08_Check = true := by kernel_rfl
theorem ok_tree_Share : mF Go.Proofs.Tryz.prog n_tree_Share F_tree_Share = true := by kernel_rfl
theorem ok_law20_two : mF Go.Proofs.Tryz.prog n_law20_two F_law20_two = true := by kernel_rfl
theorem ok_law08_Large : mF Go.Proofs.Tryz.prog n_law08_Large F_law08_Large = true := by kernel_rfl
theorem ok_ref20_Plays : mF Go.Proofs.Tryz.prog n_ref20_Plays F_ref20_Plays = true := by kernel_rfl
theorem ok_model_Check : mF Go.Proofs.Tryz.prog n_model_Check F_model_Check = true := by kernel_rfl
theorem ok_play_lay : mF Go.Proofs.Tryz.prog n_play_lay F_play_lay = true := by kernel_rfl
theorem ok_spans_Has : mF Go.Proofs.Tryz.prog n_spans_Has F_spans_Has = true := by kernel_rfl
theorem ok_play_table_over : mF Go.Proofs.Tryz.prog n_play_table_over F_play_table_over = true := by kernel_rfl
theorem ok_ref08_Vars : mF Go.Proofs.Tryz.prog n_ref08_Vars F_ref08_Vars = true := by kernel_rfl
theorem ok_ref03_In : mF Go.Proofs.Tryz.prog n_ref03_In F_ref03_In = true := by kernel_rfl
theorem ok_ref08_Ends : mF Go.Proofs.Tryz.prog n_ref08_Ends F_ref08_Ends = true := by kernel_rfl
theorem ok_ref11_All : mF Go.Proofs.Tryz.prog n_ref11_All F_ref11_All = true := by kernel_rfl
theorem ok_tree_May : mF Go.Proofs.Tryz.prog n_tree_May F_tree_May = true := by kernel_rfl
theorem ok_play_table_wins : mF Go.Proofs.Tryz.prog n_play_table_wins F_play_table_wins = true := by kernel_rfl
theorem ok_ref19_May : mF Go.Proofs.Tryz.prog n_ref19_May F_ref19_May = true := by kernel_rfl
theorem ok_ref20_wins : mF Go.Proofs.Tryz.prog n_ref20_wins F_ref20_wins = true := by kernel_rfl
theorem ok_play_table_value : mF Go.Proofs.Tryz.prog n_play_table_value F_play_table_value = true := by kernel_rfl
theorem ok_ref20_value : mF Go.Proofs.Tryz.prog n_ref20_value F_ref20_value = true := by kernel_rfl
theorem ok_ref08_Right : mF Go.Proofs.Tryz.prog n_ref08_Right F_ref08_Right = true := by kernel_rfl
theorem ok_ref08_Name : mF Go.Proofs.Tryz.prog n_ref08_Name F_ref08_Name = true := by kernel_rfl
theorem ok_ref03_Size : mF Go.Proofs.Tryz.prog n_ref03_Size F_ref03_Size = true := by kernel_rfl
theorem ok_tree_sharer_walk : mF Go.Proofs.Tryz.prog n_tree_sharer_walk F_tree_sharer_walk = true := by kernel_rfl
theorem ok_law08_cons : mF Go.Proofs.Tryz.prog n_law08_cons F_law08_cons = true := by kernel_rfl
theorem ok_model_big : mF Go.Proofs.Tryz.prog n_model_big F_model_big = true := by kernel_rfl
theorem ok_slices_ContainsFunc_sapi_Block_api_Block : mF Go.Proofs.Tryz.prog n_slices_ContainsFunc_sapi_Block_api_Block F_slices_ContainsFunc_sapi_Block_api_Block = true := by kernel_rfl
theorem ok_model_Check_1 : mF Go.Proofs.Tryz.prog n_model_Check_1 F_model_Check_1 = true := by kernel_rfl
theorem ok_model_Vars : mF Go.Proofs.Tryz.prog n_model_Vars F_model_Vars = true := by kernel_rfl
theorem ok_slices_ContainsFunc_sapi_Decl_api_Decl : mF Go.Proofs.Tryz.prog n_slices_ContainsFunc_sapi_Decl_api_Decl F_slices_ContainsFunc_sapi_Decl_api_Decl = true := by kernel_rfl
theorem ok_model_Check_2 : mF Go.Proofs.Tryz.prog n_model_Check_2 F_model_Check_2 = true := by kernel_rfl
theorem ok_model_Name : mF Go.Proofs.Tryz.prog n_model_Name F_model_Name = true := by kernel_rfl
theorem ok_model_Check_3 : mF Go.Proofs.Tryz.prog n_model_Check_3 F_model_Check_3 = true := by kernel_rfl
theorem ok_model_Check_4 : mF Go.Proofs.Tryz.prog n_model_Check_4 F_model_Check_4 = true := by kernel_rfl
theorem ok_spans_Size : mF Go.Proofs.Tryz.prog n_spans_Size F_spans_Size = true := by kernel_rfl
theorem ok_model_wrong : mF Go.Proofs.Tryz.prog n_model_wrong F_model_wrong = true := by kernel_rfl
theorem ok_model_Ends : mF Go.Proofs.Tryz.prog n_model_Ends F_model_Ends = true := by kernel_rfl
theorem ok_spans_Place : mF Go.Proofs.Tryz.prog n_spans_Place F_spans_Place = true := by kernel_rfl
theorem ok_slices_Index_sint_int : mF Go.Proofs.Tryz.prog n_slices_Index_sint_int F_slices_Index_sint_int = true := by kernel_rfl
theorem ok_ground_All : mF Go.Proofs.Tryz.prog n_ground_All F_ground_All = true := by kernel_rfl
theorem ok_ref11_Right : mF Go.Proofs.Tryz.prog n_ref11_Right F_ref11_Right = true := by kernel_rfl
theorem ok_ref11_Holds : mF Go.Proofs.Tryz.prog n_ref11_Holds F_ref11_Holds = true := by kernel_rfl
theorem ok_tree_fits : mF Go.Proofs.Tryz.prog n_tree_fits F_tree_fits = true := by kernel_rfl
theorem ok_slices_ContainsFunc_sint_int : mF Go.Proofs.Tryz.prog n_slices_ContainsFunc_sint_int F_slices_ContainsFunc_sint_int = true := by kernel_rfl
theorem ok_tree_May_1 : mF Go.Proofs.Tryz.prog n_tree_May_1 F_tree_May_1 = true := by kernel_rfl
theorem ok_play_table_yes : mF Go.Proofs.Tryz.prog n_play_table_yes F_play_table_yes = true := by kernel_rfl
theorem ok_play_table_next : mF Go.Proofs.Tryz.prog n_play_table_next F_play_table_next = true := by kernel_rfl
theorem ok_ref19_Fits : mF Go.Proofs.Tryz.prog n_ref19_Fits F_ref19_Fits = true := by kernel_rfl
theorem ok_ref20_Nums : mF Go.Proofs.Tryz.prog n_ref20_Nums F_ref20_Nums = true := by kernel_rfl
theorem ok_ref20_Yes : mF Go.Proofs.Tryz.prog n_ref20_Yes F_ref20_Yes = true := by kernel_rfl
theorem ok_ref20_with : mF Go.Proofs.Tryz.prog n_ref20_with F_ref20_with = true := by kernel_rfl
theorem ok_ref08_all : mF Go.Proofs.Tryz.prog n_ref08_all F_ref08_all = true := by kernel_rfl
theorem ok_ref03_Right : mF Go.Proofs.Tryz.prog n_ref03_Right F_ref03_Right = true := by kernel_rfl
theorem ok_tree_sharer_put : mF Go.Proofs.Tryz.prog n_tree_sharer_put F_tree_sharer_put = true := by kernel_rfl
theorem ok_model_big_1 : mF Go.Proofs.Tryz.prog n_model_big_1 F_model_big_1 = true := by kernel_rfl
theorem ok_slices_IndexFunc_sapi_Block_api_Block : mF Go.Proofs.Tryz.prog n_slices_IndexFunc_sapi_Block_api_Block F_slices_IndexFunc_sapi_Block_api_Block = true := by kernel_rfl
theorem ok_slices_IndexFunc_sapi_Decl_api_Decl : mF Go.Proofs.Tryz.prog n_slices_IndexFunc_sapi_Decl_api_Decl F_slices_IndexFunc_sapi_Decl_api_Decl = true := by kernel_rfl
theorem ok_strings_Contains : mF Go.Proofs.Tryz.prog n_strings_Contains F_strings_Contains = true := by kernel_rfl
theorem ok_strings_Trim : mF Go.Proofs.Tryz.prog n_strings_Trim F_strings_Trim = true := by kernel_rfl
theorem ok_spans_Right : mF Go.Proofs.Tryz.prog n_spans_Right F_spans_Right = true := by kernel_rfl
theorem ok_slices_ContainsFunc_sapi_Con_api_Con : mF Go.Proofs.Tryz.prog n_slices_ContainsFunc_sapi_Con_api_Con F_slices_ContainsFunc_sapi_Con_api_Con = true := by kernel_rfl
theorem ok_model_wrong_1 : mF Go.Proofs.Tryz.prog n_model_wrong_1 F_model_wrong_1 = true := by kernel_rfl
theorem ok_model_Right : mF Go.Proofs.Tryz.prog n_model_Right F_model_Right = true := by kernel_rfl
theorem ok_model_wrong_2 : mF Go.Proofs.Tryz.prog n_model_wrong_2 F_model_wrong_2 = true := by kernel_rfl
theorem ok_ground_Right : mF Go.Proofs.Tryz.prog n_ground_Right F_ground_Right = true := by kernel_rfl
theorem ok_ground_All_1 : mF Go.Proofs.Tryz.prog n_ground_All_1 F_ground_All_1 = true := by kernel_rfl
theorem ok_ground_holds : mF Go.Proofs.Tryz.prog n_ground_holds F_ground_holds = true := by kernel_rfl
theorem ok_ref11_sum : mF Go.Proofs.Tryz.prog n_ref11_sum F_ref11_sum = true := by kernel_rfl
theorem ok_slices_IndexFunc_sint_int : mF Go.Proofs.Tryz.prog n_slices_IndexFunc_sint_int F_slices_IndexFunc_sint_int = true := by kernel_rfl
theorem ok_play_table_yes_1 : mF Go.Proofs.Tryz.prog n_play_table_yes_1 F_play_table_yes_1 = true := by kernel_rfl
theorem ok_play_table_next_1 : mF Go.Proofs.Tryz.prog n_play_table_next_1 F_play_table_next_1 = true := by kernel_rfl
theorem ok_spans_At : mF Go.Proofs.Tryz.prog n_spans_At F_spans_At = true := by kernel_rfl
theorem ok_ref03_Values : mF Go.Proofs.Tryz.prog n_ref03_Values F_ref03_Values = true := by kernel_rfl
theorem ok_strings_Index : mF Go.Proofs.Tryz.prog n_strings_Index F_strings_Index = true := by kernel_rfl
theorem ok_strings_trimLeftByte : mF Go.Proofs.Tryz.prog n_strings_trimLeftByte F_strings_trimLeftByte = true := by kernel_rfl
theorem ok_strings_trimRightByte : mF Go.Proofs.Tryz.prog n_strings_trimRightByte F_strings_trimRightByte = true := by kernel_rfl
theorem ok_strings_makeASCIISet : mF Go.Proofs.Tryz.prog n_strings_makeASCIISet F_strings_makeASCIISet = true := by kernel_rfl
theorem ok_strings_trimLeftASCII : mF Go.Proofs.Tryz.prog n_strings_trimLeftASCII F_strings_trimLeftASCII = true := by kernel_rfl
theorem ok_strings_trimRightASCII : mF Go.Proofs.Tryz.prog n_strings_trimRightASCII F_strings_trimRightASCII = true := by kernel_rfl
theorem ok_strings_trimLeftUnicode : mF Go.Proofs.Tryz.prog n_strings_trimLeftUnicode F_strings_trimLeftUnicode = true := by kernel_rfl
theorem ok_strings_trimRightUnicode : mF Go.Proofs.Tryz.prog n_strings_trimRightUnicode F_strings_trimRightUnicode = true := by kernel_rfl
theorem ok_slices_IndexFunc_sapi_Con_api_Con : mF Go.Proofs.Tryz.prog n_slices_IndexFunc_sapi_Con_api_Con F_slices_IndexFunc_sapi_Con_api_Con = true := by kernel_rfl
theorem ok_model_looker_linear : mF Go.Proofs.Tryz.prog n_model_looker_linear F_model_looker_linear = true := by kernel_rfl
theorem ok_model_looker_product : mF Go.Proofs.Tryz.prog n_model_looker_product F_model_looker_product = true := by kernel_rfl
theorem ok_model_looker_iff : mF Go.Proofs.Tryz.prog n_model_looker_iff F_model_looker_iff = true := by kernel_rfl
theorem ok_model_looker_element : mF Go.Proofs.Tryz.prog n_model_looker_element F_model_looker_element = true := by kernel_rfl
theorem ok_model_looker_differ : mF Go.Proofs.Tryz.prog n_model_looker_differ F_model_looker_differ = true := by kernel_rfl
theorem ok_model_looker_table : mF Go.Proofs.Tryz.prog n_model_looker_table F_model_looker_table = true := by kernel_rfl
theorem ok_ground_Right_1 : mF Go.Proofs.Tryz.prog n_ground_Right_1 F_ground_Right_1 = true := by kernel_rfl
theorem ok_ground_holds_1 : mF Go.Proofs.Tryz.prog n_ground_holds_1 F_ground_holds_1 = true := by kernel_rfl
theorem ok_ground_compared : mF Go.Proofs.Tryz.prog n_ground_compared F_ground_compared = true := by kernel_rfl
theorem ok_slices_Equal_sint_int : mF Go.Proofs.Tryz.prog n_slices_Equal_sint_int F_slices_Equal_sint_int = true := by kernel_rfl
theorem ok_strings_asciiSet_contains : mF Go.Proofs.Tryz.prog n_strings_asciiSet_contains F_strings_asciiSet_contains = true := by kernel_rfl
theorem ok_unicode_utf8_DecodeRuneInString : mF Go.Proofs.Tryz.prog n_unicode_utf8_DecodeRuneInString F_unicode_utf8_DecodeRuneInString = true := by kernel_rfl
theorem ok_strings_ContainsRune : mF Go.Proofs.Tryz.prog n_strings_ContainsRune F_strings_ContainsRune = true := by kernel_rfl
theorem ok_unicode_utf8_DecodeLastRuneInString : mF Go.Proofs.Tryz.prog n_unicode_utf8_DecodeLastRuneInString F_unicode_utf8_DecodeLastRuneInString = true := by kernel_rfl
theorem ok_model_looker_variables : mF Go.Proofs.Tryz.prog n_model_looker_variables F_model_looker_variables = true := by kernel_rfl
theorem ok_model_looker_sum : mF Go.Proofs.Tryz.prog n_model_looker_sum F_model_looker_sum = true := by kernel_rfl
theorem ok_model_looker_bare : mF Go.Proofs.Tryz.prog n_model_looker_bare F_model_looker_bare = true := by kernel_rfl
theorem ok_sums_Dot : mF Go.Proofs.Tryz.prog n_sums_Dot F_sums_Dot = true := by kernel_rfl
theorem ok_sums_Holds : mF Go.Proofs.Tryz.prog n_sums_Holds F_sums_Holds = true := by kernel_rfl
theorem ok_unicode_utf8_RuneStart : mF Go.Proofs.Tryz.prog n_unicode_utf8_RuneStart F_unicode_utf8_RuneStart = true := by kernel_rfl
theorem ok_slices_Contains_sint_int : mF Go.Proofs.Tryz.prog n_slices_Contains_sint_int F_slices_Contains_sint_int = true := by kernel_rfl
theorem ok_model_within : mF Go.Proofs.Tryz.prog n_model_within F_model_within = true := by kernel_rfl
theorem ok_sums_Mul : mF Go.Proofs.Tryz.prog n_sums_Mul F_sums_Mul = true := by kernel_rfl
theorem ok_sums_Add : mF Go.Proofs.Tryz.prog n_sums_Add F_sums_Add = true := by kernel_rfl
theorem ok_model_within_1 : mF Go.Proofs.Tryz.prog n_model_within_1 F_model_within_1 = true := by kernel_rfl
theorem ok_sums_size : mF Go.Proofs.Tryz.prog n_sums_size F_sums_size = true := by kernel_rfl
def tbl : List (Nat × F) := [(n_law20_PlayTells, F_law20_PlayTells), (n_law20_PlayShows, F_law20_PlayShows), (n_law20_PlayTurned, F_law20_PlayTurned), (n_law20_PlaySame, F_law20_PlaySame), (n_law20_awake, F_law20_awake), (n_law20_Large, F_law20_Large), (n_play_Over, F_play_Over), (n_ref20_Row, F_ref20_Row), (n_ref20_Over, F_ref20_Over), (n_play_Wins, F_play_Wins), (n_ref20_Wins, F_ref20_Wins), (n_law19_Own, F_law19_Own), (n_play_Value, F_play_Value), (n_ref20_Value, F_ref20_Value), (n_ref08_Check, F_ref08_Check), (n_tree_Share, F_tree_Share), (n_law20_two, F_law20_two), (n_law08_Large, F_law08_Large), (n_ref20_Plays, F_ref20_Plays), (n_model_Check, F_model_Check), (n_play_lay, F_play_lay), (n_spans_Has, F_spans_Has), (n_play_table_over, F_play_table_over), (n_ref08_Vars, F_ref08_Vars), (n_ref03_In, F_ref03_In), (n_ref08_Ends, F_ref08_Ends), (n_ref11_All, F_ref11_All), (n_tree_May, F_tree_May), (n_play_table_wins, F_play_table_wins), (n_ref19_May, F_ref19_May), (n_ref20_wins, F_ref20_wins), (n_play_table_value, F_play_table_value), (n_ref20_value, F_ref20_value), (n_ref08_Right, F_ref08_Right), (n_ref08_Name, F_ref08_Name), (n_ref03_Size, F_ref03_Size), (n_tree_sharer_walk, F_tree_sharer_walk), (n_law08_cons, F_law08_cons), (n_model_big, F_model_big), (n_slices_ContainsFunc_sapi_Block_api_Block, F_slices_ContainsFunc_sapi_Block_api_Block), (n_model_Check_1, F_model_Check_1), (n_model_Vars, F_model_Vars), (n_slices_ContainsFunc_sapi_Decl_api_Decl, F_slices_ContainsFunc_sapi_Decl_api_Decl), (n_model_Check_2, F_model_Check_2), (n_model_Name, F_model_Name), (n_model_Check_3, F_model_Check_3), (n_model_Check_4, F_model_Check_4), (n_spans_Size, F_spans_Size), (n_model_wrong, F_model_wrong), (n_model_Ends, F_model_Ends), (n_spans_Place, F_spans_Place), (n_slices_Index_sint_int, F_slices_Index_sint_int), (n_ground_All, F_ground_All), (n_ref11_Right, F_ref11_Right), (n_ref11_Holds, F_ref11_Holds), (n_tree_fits, F_tree_fits), (n_slices_ContainsFunc_sint_int, F_slices_ContainsFunc_sint_int), (n_tree_May_1, F_tree_May_1), (n_play_table_yes, F_play_table_yes), (n_play_table_next, F_play_table_next), (n_ref19_Fits, F_ref19_Fits), (n_ref20_Nums, F_ref20_Nums), (n_ref20_Yes, F_ref20_Yes), (n_ref20_with, F_ref20_with), (n_ref08_all, F_ref08_all), (n_ref03_Right, F_ref03_Right), (n_tree_sharer_put, F_tree_sharer_put), (n_model_big_1, F_model_big_1), (n_slices_IndexFunc_sapi_Block_api_Block, F_slices_IndexFunc_sapi_Block_api_Block), (n_slices_IndexFunc_sapi_Decl_api_Decl, F_slices_IndexFunc_sapi_Decl_api_Decl), (n_strings_Contains, F_strings_Contains), (n_strings_Trim, F_strings_Trim), (n_spans_Right, F_spans_Right), (n_slices_ContainsFunc_sapi_Con_api_Con, F_slices_ContainsFunc_sapi_Con_api_Con), (n_model_wrong_1, F_model_wrong_1), (n_model_Right, F_model_Right), (n_model_wrong_2, F_model_wrong_2), (n_ground_Right, F_ground_Right), (n_ground_All_1, F_ground_All_1), (n_ground_holds, F_ground_holds), (n_ref11_sum, F_ref11_sum), (n_slices_IndexFunc_sint_int, F_slices_IndexFunc_sint_int), (n_play_table_yes_1, F_play_table_yes_1), (n_play_table_next_1, F_play_table_next_1), (n_spans_At, F_spans_At), (n_ref03_Values, F_ref03_Values), (n_strings_Index, F_strings_Index), (n_strings_trimLeftByte, F_strings_trimLeftByte), (n_strings_trimRightByte, F_strings_trimRightByte), (n_strings_makeASCIISet, F_strings_makeASCIISet), (n_strings_trimLeftASCII, F_strings_trimLeftASCII), (n_strings_trimRightASCII, F_strings_trimRightASCII), (n_strings_trimLeftUnicode, F_strings_trimLeftUnicode), (n_strings_trimRightUnicode, F_strings_trimRightUnicode), (n_slices_IndexFunc_sapi_Con_api_Con, F_slices_IndexFunc_sapi_Con_api_Con), (n_model_looker_linear, F_model_looker_linear), (n_model_looker_product, F_model_looker_product), (n_model_looker_iff, F_model_looker_iff), (n_model_looker_element, F_model_looker_element), (n_model_looker_differ, F_model_looker_differ), (n_model_looker_table, F_model_looker_table), (n_ground_Right_1, F_ground_Right_1), (n_ground_holds_1, F_ground_holds_1), (n_ground_compared, F_ground_compared), (n_slices_Equal_sint_int, F_slices_Equal_sint_int), (n_strings_asciiSet_contains, F_strings_asciiSet_contains), (n_unicode_utf8_DecodeRuneInString, F_unicode_utf8_DecodeRuneInString), (n_strings_ContainsRune, F_strings_ContainsRune), (n_unicode_utf8_DecodeLastRuneInString, F_unicode_utf8_DecodeLastRuneInString), (n_model_looker_variables, F_model_looker_variables), (n_model_looker_sum, F_model_looker_sum), (n_model_looker_bare, F_model_looker_bare), (n_sums_Dot, F_sums_Dot), (n_sums_Holds, F_sums_Holds), (n_unicode_utf8_RuneStart, F_unicode_utf8_RuneStart), (n_slices_Contains_sint_int, F_slices_Contains_sint_int), (n_model_within, F_model_within), (n_sums_Mul, F_sums_Mul), (n_sums_Add, F_sums_Add), (n_model_within_1, F_model_within_1), (n_sums_size, F_sums_size)]
def T (n : Nat) : Option F := (tbl.find? fun p => p.1 == n).map (·.2)
theorem T_law20_PlaySame : T n_law20_PlaySame = some F_law20_PlaySame := rfl
theorem T_law20_Large : T n_law20_Large = some F_law20_Large := rfl
theorem T_play_Wins : T n_play_Wins = some F_play_Wins := rfl
theorem T_play_Value : T n_play_Value = some F_play_Value := rfl
theorem T_ref08_Check : T n_ref08_Check = some F_ref08_Check := rfl
theorem T_tree_Share : T n_tree_Share = some F_tree_Share := rfl
theorem T_law08_Large : T n_law08_Large = some F_law08_Large := rfl
theorem T_ref20_Plays : T n_ref20_Plays = some F_ref20_Plays := rfl
theorem T_model_Check : T n_model_Check = some F_model_Check := rfl
theorem T_play_lay : T n_play_lay = some F_play_lay := rfl
theorem T_play_table_over : T n_play_table_over = some F_play_table_over := rfl
theorem T_ref08_Vars : T n_ref08_Vars = some F_ref08_Vars := rfl
theorem T_ref08_Ends : T n_ref08_Ends = some F_ref08_Ends := rfl
theorem T_tree_May : T n_tree_May = some F_tree_May := rfl
theorem T_play_table_wins : T n_play_table_wins = some F_play_table_wins := rfl
theorem T_play_table_value : T n_play_table_value = some F_play_table_value := rfl
theorem T_ref08_Right : T n_ref08_Right = some F_ref08_Right := rfl
theorem T_ref08_Name : T n_ref08_Name = some F_ref08_Name := rfl
theorem T_ref03_Size : T n_ref03_Size = some F_ref03_Size := rfl
theorem T_tree_sharer_walk : T n_tree_sharer_walk = some F_tree_sharer_walk := rfl
theorem T_law08_cons : T n_law08_cons = some F_law08_cons := rfl
theorem T_model_big : T n_model_big = some F_model_big := rfl
theorem T_slices_ContainsFunc_sapi_Block_api_Block : T n_slices_ContainsFunc_sapi_Block_api_Block = some F_slices_ContainsFunc_sapi_Block_api_Block := rfl
theorem T_model_Check_1 : T n_model_Check_1 = some F_model_Check_1 := rfl
theorem T_model_Vars : T n_model_Vars = some F_model_Vars := rfl
theorem T_slices_ContainsFunc_sapi_Decl_api_Decl : T n_slices_ContainsFunc_sapi_Decl_api_Decl = some F_slices_ContainsFunc_sapi_Decl_api_Decl := rfl
theorem T_model_Check_2 : T n_model_Check_2 = some F_model_Check_2 := rfl
theorem T_model_Name : T n_model_Name = some F_model_Name := rfl
theorem T_model_Check_3 : T n_model_Check_3 = some F_model_Check_3 := rfl
theorem T_model_Check_4 : T n_model_Check_4 = some F_model_Check_4 := rfl
theorem T_spans_Size : T n_spans_Size = some F_spans_Size := rfl
theorem T_model_wrong : T n_model_wrong = some F_model_wrong := rfl
theorem T_model_Ends : T n_model_Ends = some F_model_Ends := rfl
theorem T_slices_Index_sint_int : T n_slices_Index_sint_int = some F_slices_Index_sint_int := rfl
theorem T_ground_All : T n_ground_All = some F_ground_All := rfl
theorem T_tree_fits : T n_tree_fits = some F_tree_fits := rfl
theorem T_slices_ContainsFunc_sint_int : T n_slices_ContainsFunc_sint_int = some F_slices_ContainsFunc_sint_int := rfl
theorem T_tree_May_1 : T n_tree_May_1 = some F_tree_May_1 := rfl
theorem T_play_table_yes : T n_play_table_yes = some F_play_table_yes := rfl
theorem T_play_table_next : T n_play_table_next = some F_play_table_next := rfl
theorem T_ref08_all : T n_ref08_all = some F_ref08_all := rfl
theorem T_ref03_Right : T n_ref03_Right = some F_ref03_Right := rfl
theorem T_tree_sharer_put : T n_tree_sharer_put = some F_tree_sharer_put := rfl
theorem T_model_big_1 : T n_model_big_1 = some F_model_big_1 := rfl
theorem T_slices_IndexFunc_sapi_Block_api_Block : T n_slices_IndexFunc_sapi_Block_api_Block = some F_slices_IndexFunc_sapi_Block_api_Block := rfl
theorem T_slices_IndexFunc_sapi_Decl_api_Decl : T n_slices_IndexFunc_sapi_Decl_api_Decl = some F_slices_IndexFunc_sapi_Decl_api_Decl := rfl
theorem T_strings_Contains : T n_strings_Contains = some F_strings_Contains := rfl
theorem T_strings_Trim : T n_strings_Trim = some F_strings_Trim := rfl
theorem T_spans_Right : T n_spans_Right = some F_spans_Right := rfl
theorem T_slices_ContainsFunc_sapi_Con_api_Con : T n_slices_ContainsFunc_sapi_Con_api_Con = some F_slices_ContainsFunc_sapi_Con_api_Con := rfl
theorem T_model_wrong_1 : T n_model_wrong_1 = some F_model_wrong_1 := rfl
theorem T_model_Right : T n_model_Right = some F_model_Right := rfl
theorem T_model_wrong_2 : T n_model_wrong_2 = some F_model_wrong_2 := rfl
theorem T_ground_Right : T n_ground_Right = some F_ground_Right := rfl
theorem T_ground_All_1 : T n_ground_All_1 = some F_ground_All_1 := rfl
theorem T_ground_holds : T n_ground_holds = some F_ground_holds := rfl
theorem T_slices_IndexFunc_sint_int : T n_slices_IndexFunc_sint_int = some F_slices_IndexFunc_sint_int := rfl
theorem T_play_table_yes_1 : T n_play_table_yes_1 = some F_play_table_yes_1 := rfl
theorem T_play_table_next_1 : T n_play_table_next_1 = some F_play_table_next_1 := rfl
theorem T_spans_At : T n_spans_At = some F_spans_At := rfl
theorem T_strings_Index : T n_strings_Index = some F_strings_Index := rfl
theorem T_strings_trimLeftASCII : T n_strings_trimLeftASCII = some F_strings_trimLeftASCII := rfl
theorem T_strings_trimRightASCII : T n_strings_trimRightASCII = some F_strings_trimRightASCII := rfl
theorem T_slices_IndexFunc_sapi_Con_api_Con : T n_slices_IndexFunc_sapi_Con_api_Con = some F_slices_IndexFunc_sapi_Con_api_Con := rfl
theorem T_model_looker_linear : T n_model_looker_linear = some F_model_looker_linear := rfl
theorem T_model_looker_product : T n_model_looker_product = some F_model_looker_product := rfl
theorem T_model_looker_iff : T n_model_looker_iff = some F_model_looker_iff := rfl
theorem T_model_looker_element : T n_model_looker_element = some F_model_looker_element := rfl
theorem T_model_looker_differ : T n_model_looker_differ = some F_model_looker_differ := rfl
theorem T_model_looker_table : T n_model_looker_table = some F_model_looker_table := rfl
theorem T_ground_Right_1 : T n_ground_Right_1 = some F_ground_Right_1 := rfl
theorem T_ground_holds_1 : T n_ground_holds_1 = some F_ground_holds_1 := rfl
theorem T_ground_compared : T n_ground_compared = some F_ground_compared := rfl
theorem T_slices_Equal_sint_int : T n_slices_Equal_sint_int = some F_slices_Equal_sint_int := rfl
theorem T_strings_asciiSet_contains : T n_strings_asciiSet_contains = some F_strings_asciiSet_contains := rfl
theorem T_model_looker_variables : T n_model_looker_variables = some F_model_looker_variables := rfl
theorem T_model_looker_sum : T n_model_looker_sum = some F_model_looker_sum := rfl
theorem T_model_looker_bare : T n_model_looker_bare = some F_model_looker_bare := rfl
theorem T_sums_Dot : T n_sums_Dot = some F_sums_Dot := rfl
theorem T_sums_Holds : T n_sums_Holds = some F_sums_Holds := rfl
theorem T_slices_Contains_sint_int : T n_slices_Contains_sint_int = some F_slices_Contains_sint_int := rfl
theorem T_model_within : T n_model_within = some F_model_within := rfl
theorem T_sums_Mul : T n_sums_Mul = some F_sums_Mul := rfl
theorem T_sums_Add : T n_sums_Add = some F_sums_Add := rfl
theorem T_model_within_1 : T n_model_within_1 = some F_model_within_1 := rfl
theorem T_sums_size : T n_sums_size = some F_sums_size := rfl
theorem T_ok : ∀ f F, T f = some F → mF Go.Proofs.Tryz.prog f F = true := by
 intro f F h
 unfold T at h
 obtain ⟨p, hp, rfl⟩ := Option.map_eq_some_iff.1 h
 have h1 := List.mem_of_find?_eq_some hp
 have h2 : p.1 = f := by simpa using List.find?_some hp
 subst h2
 clear h hp
 simp only [tbl, List.mem_cons, List.not_mem_nil, or_false] at h1
 rcases h1 with rfl | rfl | rfl | rfl | rfl | rfl | rfl | rfl | rfl | rfl | rfl | rfl | rfl | rfl | rfl | rfl | rfl | rfl | rfl | rfl | rfl | rfl | rfl | rfl | rfl | rfl | rfl | rfl | rfl | rfl | rfl | rfl | rfl | rfl | rfl | rfl | rfl | rfl | rfl | rfl | rfl | rfl | rfl | rfl | rfl | rfl | rfl | rfl | rfl | rfl | rfl | rfl | rfl | rfl | rfl | rfl | rfl | rfl | rfl | rfl | rfl | rfl | rfl | rfl | rfl | rfl | rfl | rfl | rfl | rfl | rfl | rfl | rfl | rfl | rfl | rfl | rfl | rfl | rfl | rfl | rfl | rfl | rfl | rfl | rfl | rfl | rfl | rfl | rfl | rfl | rfl | rfl | rfl | rfl | rfl | rfl | rfl | rfl | rfl | rfl | rfl | rfl | rfl | rfl | rfl | rfl | rfl | rfl | rfl | rfl | rfl | rfl | rfl | rfl | rfl | rfl | rfl | rfl | rfl | rfl | rfl
 ·exact ok_law20_PlayTells
 ·exact ok_law20_PlayShows
 ·exact ok_law20_PlayTurned
 ·exact ok_law20_PlaySame
 ·exact ok_law20_awake
 ·exact ok_law20_Large
 ·exact ok_play_Over
 ·exact ok_ref20_Row
 ·exact ok_ref20_Over
 ·exact ok_play_Wins
 ·exact ok_ref20_Wins
 ·exact ok_law19_Own
 ·exact ok_play_Value
 ·exact ok_ref20_Value
 ·exact ok_ref08_Check
 ·exact ok_tree_Share
 ·exact ok_law20_two
 ·exact ok_law08_Large
 ·exact ok_ref20_Plays
 ·exact ok_model_Check
 ·exact ok_play_lay
 ·exact ok_spans_Has
 ·exact ok_play_table_over
 ·exact ok_ref08_Vars
 ·exact ok_ref03_In
 ·exact ok_ref08_Ends
 ·exact ok_ref11_All
 ·exact ok_tree_May
 ·exact ok_play_table_wins
 ·exact ok_ref19_May
 ·exact ok_ref20_wins
 ·exact ok_play_table_value
 ·exact ok_ref20_value
 ·exact ok_ref08_Right
 ·exact ok_ref08_Name
 ·exact ok_ref03_Size
 ·exact ok_tree_sharer_walk
 ·exact ok_law08_cons
 ·exact ok_model_big
 ·exact ok_slices_ContainsFunc_sapi_Block_api_Block
 ·exact ok_model_Check_1
 ·exact ok_model_Vars
 ·exact ok_slices_ContainsFunc_sapi_Decl_api_Decl
 ·exact ok_model_Check_2
 ·exact ok_model_Name
 ·exact ok_model_Check_3
 ·exact ok_model_Check_4
 ·exact ok_spans_Size
 ·exact ok_model_wrong
 ·exact ok_model_Ends
 ·exact ok_spans_Place
 ·exact ok_slices_Index_sint_int
 ·exact ok_ground_All
 ·exact ok_ref11_Right
 ·exact ok_ref11_Holds
 ·exact ok_tree_fits
 ·exact ok_slices_ContainsFunc_sint_int
 ·exact ok_tree_May_1
 ·exact ok_play_table_yes
 ·exact ok_play_table_next
 ·exact ok_ref19_Fits
 ·exact ok_ref20_Nums
 ·exact ok_ref20_Yes
 ·exact ok_ref20_with
 ·exact ok_ref08_all
 ·exact ok_ref03_Right
 ·exact ok_tree_sharer_put
 ·exact ok_model_big_1
 ·exact ok_slices_IndexFunc_sapi_Block_api_Block
 ·exact ok_slices_IndexFunc_sapi_Decl_api_Decl
 ·exact ok_strings_Contains
 ·exact ok_strings_Trim
 ·exact ok_spans_Right
 ·exact ok_slices_ContainsFunc_sapi_Con_api_Con
 ·exact ok_model_wrong_1
 ·exact ok_model_Right
 ·exact ok_model_wrong_2
 ·exact ok_ground_Right
 ·exact ok_ground_All_1
 ·exact ok_ground_holds
 ·exact ok_ref11_sum
 ·exact ok_slices_IndexFunc_sint_int
 ·exact ok_play_table_yes_1
 ·exact ok_play_table_next_1
 ·exact ok_spans_At
 ·exact ok_ref03_Values
 ·exact ok_strings_Index
 ·exact ok_strings_trimLeftByte
 ·exact ok_strings_trimRightByte
 ·exact ok_strings_makeASCIISet
 ·exact ok_strings_trimLeftASCII
 ·exact ok_strings_trimRightASCII
 ·exact ok_strings_trimLeftUnicode
 ·exact ok_strings_trimRightUnicode
 ·exact ok_slices_IndexFunc_sapi_Con_api_Con
 ·exact ok_model_looker_linear
 ·exact ok_model_looker_product
 ·exact ok_model_looker_iff
 ·exact ok_model_looker_element
 ·exact ok_model_looker_differ
 ·exact ok_model_looker_table
 ·exact ok_ground_Right_1
 ·exact ok_ground_holds_1
 ·exact ok_ground_compared
 ·exact ok_slices_Equal_sint_int
 ·exact ok_strings_asciiSet_contains
 ·exact ok_unicode_utf8_DecodeRuneInString
 ·exact ok_strings_ContainsRune
 ·exact ok_unicode_utf8_DecodeLastRuneInString
 ·exact ok_model_looker_variables
 ·exact ok_model_looker_sum
 ·exact ok_model_looker_bare
 ·exact ok_sums_Dot
 ·exact ok_sums_Holds
 ·exact ok_unicode_utf8_RuneStart
 ·exact ok_slices_Contains_sint_int
 ·exact ok_model_within
 ·exact ok_sums_Mul
 ·exact ok_sums_Add
 ·exact ok_model_within_1
 ·exact ok_sums_size
end Go.RR.M
