/- The code of the functions, by name, for the second reading; that it is theirs. -/
import Derived.Test.YtlligemlmccfnaaGreatDoorProg
import Derived.KernelRfl
import Derived.Test.YtlligemlmccfnaaGreatDoorR4
import Derived.Test.YtlligemlmccfnaaGreatDoorRN
set_option linter.unusedSimpArgs false
set_option linter.unusedVariables false
set_option maxRecDepth 100000
namespace Go.RR.M
open Go Go.RR
abbrev zm (a b:Nat):In:=⟨some a,none,.mov (.t b)⟩
abbrev zn (a:Nat) (i:I):In:=⟨some a,none,i⟩
abbrev zg (a b:Nat) (i:I):In:=⟨some a,some (b,true),i⟩
abbrev zf (a b:Nat) (i:I):In:=⟨some a,some (b,false),i⟩
abbrev zM (a b c:Nat):In:=⟨some a,some (b,true),.mov (.t c)⟩
abbrev zF (a b c:Nat):In:=⟨some a,some (b,false),.mov (.t c)⟩
abbrev zi (n:Int):O:=.c (.int .i64 n)
abbrev zb (b:Bool):O:=.c (.bool b)
abbrev zr (l:List In) (k:List Nat):IR:=.rg l (some k)
abbrev zp (a c x:Nat):In:=⟨some a,none,.pick (.t c) (.t x) (.c (.bool false))⟩
abbrev zq (a c x:Nat):In:=⟨some a,none,.pick (.t c) (.c (.bool true)) (.t x)⟩
abbrev zl (a n b:Nat):In:=⟨some a,none,.ld false n (.t b)⟩
abbrev zL (a n b:Nat):In:=⟨some a,none,.ld true n (.t b)⟩
def n_law17_FixSound:Nat:=4
def n_law17_awake:Nat:=5
def n_law17_Large:Nat:=6
def n_fix_Run:Nat:=7
def n_fix_Order:Nat:=8
def n_fix_Step:Nat:=13
def n_dom_Size:Nat:=14
def n_law12_Fewer:Nat:=15
def n_law12_Within:Nat:=16
def n_law12_Left:Nat:=17
def n_ref11_All:Nat:=18
def n_law17_awake_1:Nat:=19
def n_fix_Wiped:Nat:=20
def n_law11_Large:Nat:=21
def n_law12_Large:Nat:=22
def n_fix_right:Nat:=23
def n_fix_queue_int_push:Nat:=24
def n_fix_copied:Nat:=25
def n_fix_lives:Nat:=26
def n_fix_queue_int_pop:Nat:=27
def n_trail_Trail_uint64_Save:Nat:=28
def n_trail_Trail_uint64_Set:Nat:=29
def n_trail_Trail_uint64_Changed:Nat:=30
def n_slices_Contains_sint_int:Nat:=31
def n_slices_EqualFunc_sdom_Dom_sdom_Dom_dom_Dom_dom_Dom:Nat:=32
def n_dom_Same:Nat:=33
def n_ref04_May:Nat:=34
def n_ref08_Right:Nat:=35
def n_ref04_Same:Nat:=36
def n_linear_Step:Nat:=38
def n_product_Step:Nat:=39
def n_element_Step:Nat:=40
def n_differ_Step:Nat:=41
def n_table_Step:Nat:=42
def n_dom_asked_int:Nat:=43
def n_dom_Size_1:Nat:=44
def n_bits_Count:Nat:=45
def n_ref04_List:Nat:=46
def n_ref11_Right:Nat:=47
def n_ref11_Holds:Nat:=48
def n_slices_ContainsFunc_sdom_Dom_dom_Dom:Nat:=49
def n_fix_Wiped_1:Nat:=50
def n_slices_ContainsFunc_sapi_Con_api_Con:Nat:=51
def n_fix_right_1:Nat:=52
def n_model_Right:Nat:=53
def n_fix_right_2:Nat:=54
def n_dom_May:Nat:=55
def n_slices_Clone_sint_int:Nat:=56
def n_trail_New_uint64:Nat:=57
def n_trail_Trail_uint64_Marks:Nat:=58
def n_trail_Trail_uint64_there:Nat:=59
def n_trail_Trail_uint64_last:Nat:=60
def n_trail_Trail_uint64_put:Nat:=61
def n_slices_Sort_sint_int:Nat:=62
def n_slices_Index_sint_int:Nat:=63
def n_slices_Equal_sint_int:Nat:=64
def n_ref08_all:Nat:=65
def n_ref02_Same:Nat:=66
def n_linear_Step_1:Nat:=72
def n_slices_ContainsFunc_sint_int:Nat:=73
def n_linear_Step_2:Nat:=74
def n_linear_none:Nat:=75
def n_linear_sum:Nat:=76
def n_linear_iff:Nat:=77
def n_product_Step_1:Nat:=78
def n_product_try:Nat:=79
def n_dom_List:Nat:=80
def n_dom_Less:Nat:=81
def n_element_Step_1:Nat:=82
def n_element_kept:Nat:=83
def n_element_Step_2:Nat:=84
def n_dom_Has:Nat:=85
def n_element_Step_3:Nat:=86
def n_differ_Step_1:Nat:=87
def n_differ_few:Nat:=88
def n_differ_kept:Nat:=89
def n_differ_Step_2:Nat:=90
def n_differ_Step_2_1:Nat:=91
def n_dom_Single:Nat:=92
def n_table_Step_1:Nat:=93
def n_table_alive:Nat:=94
def n_slices_ContainsFunc_ssint_sint:Nat:=95
def n_table_Step_2:Nat:=96
def n_math_bits_OnesCount64:Nat:=97
def n_ref11_sum:Nat:=98
def n_slices_IndexFunc_sdom_Dom_dom_Dom:Nat:=99
def n_slices_IndexFunc_sapi_Con_api_Con:Nat:=100
def n_model_looker_linear:Nat:=101
def n_model_looker_product:Nat:=102
def n_model_looker_iff:Nat:=103
def n_model_looker_element:Nat:=104
def n_model_looker_differ:Nat:=105
def n_model_looker_table:Nat:=106
def n_bits_First:Nat:=107
def n_slices_IndexFunc_sint_int:Nat:=125
def n_linear_kept:Nat:=126
def n_linear_none_1:Nat:=127
def n_linear_total:Nat:=128
def n_linear_ends_plus:Nat:=129
def n_linear_sum_1:Nat:=130
def n_linear_ends_may:Nat:=131
def n_linear_Contrary:Nat:=132
def n_linear_iff_1:Nat:=133
def n_slices_BinarySearch_sint_int:Nat:=134
def n_dom_asked_sint:Nat:=135
def n_dom_List_1:Nat:=136
def n_bits_List:Nat:=137
def n_dom_kept:Nat:=138
def n_dom_Less_1:Nat:=139
def n_dom_Least:Nat:=140
def n_slices_IndexFunc_ssint_sint:Nat:=141
def n_model_looker_variables:Nat:=142
def n_model_looker_sum:Nat:=143
def n_model_looker_bare:Nat:=144
def n_cmp_Less_int:Nat:=151
def n_math_bits_Len64:Nat:=155
def n_dom_Greatest:Nat:=157
def n_linear_ends_may_1:Nat:=158
def n_sums_Holds:Nat:=159
def n_slices_isNaN_int:Nat:=160
def n_bits_all:Nat:=161
def n_dom_asked_dom_Dom:Nat:=162
def n_dom_kept_1:Nat:=163
def n_bits_Of:Nat:=164
def n_dom_at:Nat:=165
def n_bits_Least:Nat:=166
def n_model_within:Nat:=167
def n_cmp_isNaN_int:Nat:=173
def n_bits_Greatest:Nat:=175
def n_bits_all_1:Nat:=176
def n_math_bits_TrailingZeros64:Nat:=177
def n_model_within_1:Nat:=178
def n_math_bits_LeadingZeros64:Nat:=180
def b_law17_FixSound_0:IR:=.seq (zr [zn 42 (.bin .lss (.t 41) (.t 40))] [0,1,2,3,9,10,12,39,40,41,42])
 (.seq (.cond (.t 42) (.skip) (.ext 0))
 (.seq (.blk 1 (.seq (zr [zn 43 (.iad 2 (.t 39) (.t 41)),
 zL 44 2 43,
 zn 14 (.new (.agg [.nsl 1,.int .u64 0])),
 ⟨none,none,.st 2 (.t 14) (.t 44)⟩] [0,1,2,3,9,10,12,14,39,40,41])
 (zr [zm 45 12,
 zL 46 2 14,
 zn 47 (.call n_dom_Size [(.t 46)]),
 zn 48 (.bin .add (.t 45) (.t 47)),
 zm 12 48] [0,1,2,3,9,10,12,39,40,41])))
 (zr [zn 49 (.bin .add (.t 41) (zi 1)),
 zm 41 49] [0,1,2,3,9,10,12,39,40,41])))
def i_law17_FixSound_l0:IR:=.loop b_law17_FixSound_0
theorem r_law17_FixSound_0 {C:Cx} {Y:Yl} {fr:Fr} {h:List Ob}:evw C Y i_law17_FixSound_l0 fr h=nxt (evw C Y b_law17_FixSound_0 fr h) fun fr h=>evw C Y i_law17_FixSound_l0 fr h:=w_loop
def i_law17_FixSound:IR:=.seq (zr [zn 8 (.mov (zb false))] [0,1,2,3])
 (.seq (.seq (zr [zn 18 (.call n_law17_awake []),
 zn 19 (.un .not (.t 18))] [0,1,2,3,19])
 (.cond (.t 19) (.seq (zr [zn 8 (.mov (zb false))] [8])
 (.ret)) (.skip)))
 (.seq (.seq (zr [zm 20 0,
 zm 21 1,
 zn 22 (.call n_law17_Large [(.t 20),(.t 21)])] [0,1,2,3,22])
 (.cond (.t 22) (.seq (zr [zn 8 (.mov (zb true))] [8])
 (.ret)) (.skip)))
 (.seq (zr [zm 24 0,
 zm 25 1,
 zn 26 (.call n_fix_Run [(.t 24),(.t 25)]),
 zm 23 26,
 zn 27 (.ext (.t 23) 0),
 zn 28 (.ext (.t 23) 1),
 zn 29 (.ext (.t 23) 2),
 zm 9 27,
 zm 10 28,
 zm 11 29] [0,1,2,3,9,10,11])
 (.seq (.seq (zr [zm 30 11,
 zn 31 (.bin .neq (.t 30) (zi 0))] [0,1,2,3,9,10,31])
 (.cond (.t 31) (.seq (zr [zm 32 9,
 zn 33 (.len (.t 32)),
 zn 34 (.bin .eql (.t 33) (zi 0)),
 zm 35 34,
 zM 36 35 10,
 zg 37 35 (.bin .eql (.t 36) (zi 0)),
 zp 38 35 37,
 zm 8 38] [8])
 (.ret)) (.skip)))
 (.seq (zr [zn 12 (.mov (zi 0))] [0,1,2,3,9,10,12])
 (.seq (.seq (zr [zm 39 1,
 zn 40 (.len (.t 39)),
 zn 41 (.mov (zi 0))] [0,1,2,3,9,10,12,39,40,41])
 (.blk 0 (i_law17_FixSound_l0)))
 (.seq (zr [zm 51 0,
 zm 52 1,
 zm 53 3,
 zn 54 (.call n_law12_Fewer [(.t 52),(.t 53)]),
 zn 55 (.call n_fix_Run [(.t 51),(.t 54)]),
 zm 50 55,
 zn 56 (.ext (.t 50) 0),
 zn 57 (.ext (.t 50) 1),
 zn 58 (.ext (.t 50) 2),
 zm 15 56,
 zm 16 57,
 zm 17 58] [0,1,2,9,10,12,15,17])
 (.seq (.seq (zr [zm 59 10,
 zm 60 0,
 zn 61 (.len (.t 60)),
 zm 62 12,
 zn 63 (.bin .add (.t 62) (zi 1)),
 zn 64 (.bin .mul (.t 61) (.t 63)),
 zn 65 (.bin .gtr (.t 59) (.t 64)),
 zm 66 65,
 zF 67 66 10,
 zF 68 66 0,
 zf 69 66 (.len (.t 68)),
 zf 70 66 (.bin .lss (.t 67) (.t 69)),
 zq 71 66 70,
 zm 72 71,
 zF 73 72 9,
 zF 74 72 1,
 zf 75 72 (.call n_law12_Within [(.t 73),(.t 74)]),
 zf 76 72 (.un .not (.t 75)),
 zq 77 72 76,
 zm 78 77,
 zF 79 78 17,
 zf 80 78 (.bin .neq (.t 79) (zi 0)),
 zq 81 78 80,
 zm 82 81,
 zF 83 82 15,
 zF 84 82 9,
 zf 85 82 (.call n_law12_Within [(.t 83),(.t 84)]),
 zf 86 82 (.un .not (.t 85)),
 zq 87 82 86] [0,1,2,9,87])
 (.cond (.t 87) (.seq (zr [zn 8 (.mov (zb false))] [8])
 (.ret)) (.skip)))
 (.seq (zr [zm 88 2,
 zm 89 1,
 zn 90 (.call n_law12_Left [(.t 88),(.t 89)]),
 zn 91 (.un .not (.t 90)),
 zm 92 91,
 zF 93 92 0,
 zF 94 92 2,
 zf 95 92 (.call n_ref11_All [(.t 93),(.t 94)]),
 zf 96 92 (.un .not (.t 95)),
 zq 97 92 96,
 zm 98 97,
 zF 99 98 2,
 zF 100 98 9,
 zf 101 98 (.call n_law12_Left [(.t 99),(.t 100)]),
 zq 102 98 101,
 zm 8 102] [8])
 (.ret))))))))))
def F_law17_FixSound:F:=⟨i_law17_FixSound,[(8,none)],false⟩
def i_law17_awake:IR:=.seq (zr [zn 0 (.mov (zb false))] [])
 (.seq (zr [zn 13 (.bsf (.int .i64 0) 3 [(0,(zi 1)),(1,(zi 2)),(2,(zi 3))]),
 zn 14 (.bld [.nsl 1,.int .u64 0] [(0,1,(.t 13)),(1,1,(.c (.int .u64 7)))]),
 zn 1 (.new (.agg [.nsl 1,.int .u64 0])),
 ⟨none,none,.st 2 (.t 1) (.t 14)⟩] [1])
 (.seq (zr [zn 2 (.mov (.c (.fn (.func n_law17_awake_1) [] [])))] [1,2])
 (.seq (.dq [(zm 16 2,[]),
 (zn 17 (.callv (.t 16) [(zi 0),(zi 1)]),[0]),
 (zm 18 2,[]),
 (zn 19 (.callv (.t 18) [(zi 1),(zi 2)]),[0,1,2]),
 (zn 20 (.bsf (.agg [.int .i64 0,.nsl 1,.nsl 1,.int .i64 0,.int .i64 0,.nsl 1]) 2 [(0,(.t 17)),(1,(.t 19))]),[0,1,2,3]),
 (zL 21 2 1,[]),
 (zL 22 2 1,[]),
 (zL 23 2 1,[]),
 (zn 24 (.bsf (.agg [.nsl 1,.int .u64 0]) 3 [(0,(.t 21)),(1,(.t 22)),(2,(.t 23))]),[5,6,7]),
 (zn 25 (.call n_fix_Run [(.t 20),(.t 24)]),[0,1,2,3,4,5,6,7,8]),
 (zm 15 25,[0,1,2,3,4,5,6,7,8,9]),
 (zn 26 (.ext (.t 15) 0),[0,1,2,3,4,5,6,7,8,9,10]),
 (zn 27 (.ext (.t 15) 1),[0,1,2,3,4,5,6,7,8,9,10]),
 (zn 28 (.ext (.t 15) 2),[0,1,2,3,4,5,6,7,8,9,10]),
 (zm 3 26,[0,1,2,3,4,5,6,7,8,9,10,11]),
 (zm 4 27,[0,1,2,3,4,5,6,7,8,9,10,11,12,14]),
 (zm 5 28,[0,1,2,3,4,5,6,7,8,9,10,11,12,13,14,15])] (some [1,2,3,4,5]))
 (.seq (.dq [(zm 30 2,[]),
 (zn 31 (.callv (.t 30) [(zi 0),(zi 1)]),[0]),
 (zm 32 2,[]),
 (zn 33 (.callv (.t 32) [(zi 1),(zi 0)]),[0,1,2]),
 (zn 34 (.bsf (.agg [.int .i64 0,.nsl 1,.nsl 1,.int .i64 0,.int .i64 0,.nsl 1]) 2 [(0,(.t 31)),(1,(.t 33))]),[0,1,2,3]),
 (zL 35 2 1,[]),
 (zL 36 2 1,[]),
 (zn 37 (.bsf (.agg [.nsl 1,.int .u64 0]) 2 [(0,(.t 35)),(1,(.t 36))]),[5,6]),
 (zn 38 (.bsf (.int .i64 0) 2 [(0,(zi 1)),(1,(zi (-1)))]),[]),
 (zn 39 (.call n_fix_Order [(.t 34),(.t 37),(.t 38)]),[0,1,2,3,4,5,6,7,8]),
 (zm 29 39,[0,1,2,3,4,5,6,7,8,9]),
 (zn 40 (.ext (.t 29) 0),[0,1,2,3,4,5,6,7,8,9,10]),
 (zn 41 (.ext (.t 29) 1),[0,1,2,3,4,5,6,7,8,9,10]),
 (zm 6 40,[0,1,2,3,4,5,6,7,8,9,10,11]),
 (zm 7 41,[0,1,2,3,4,5,6,7,8,9,10,11,12,13])] (some [3,4,5,6,7]))
 (.seq (zr [zn 43 (.bld [.int .i64 0,.nsl 1,.nsl 1,.int .i64 0,.int .i64 0,.nsl 1] []),
 zn 44 (.call n_fix_Step [(.t 43),(.c (.nsl 2))]),
 zm 42 44,
 zn 45 (.ext (.t 42) 0),
 zn 46 (.ext (.t 42) 1),
 zm 8 45,
 zm 9 46] [3,4,5,6,7,9])
 (.seq (zr [zn 48 (.bld [.int .i64 0,.nsl 1,.nsl 1,.int .i64 0,.int .i64 0,.nsl 1] []),
 zn 49 (.bsf (.agg [.int .i64 0,.nsl 1,.nsl 1,.int .i64 0,.int .i64 0,.nsl 1]) 1 [(0,(.t 48))]),
 zn 50 (.call n_fix_Run [(.t 49),(.c (.nsl 2))]),
 zm 47 50,
 zn 51 (.ext (.t 47) 0),
 zn 52 (.ext (.t 47) 1),
 zn 53 (.ext (.t 47) 2),
 zm 10 51,
 zm 11 52,
 zm 12 53] [3,4,5,6,7,9,12])
 (.seq (zr [zm 54 5,
 zn 55 (.bin .eql (.t 54) (zi 0)),
 zm 56 55,
 zM 57 56 4,
 zg 58 56 (.bin .gtr (.t 57) (zi 2)),
 zp 59 56 58,
 zm 60 59,
 zM 61 60 3,
 zg 62 60 (.len (.t 61)),
 zg 63 60 (.bin .eql (.t 62) (zi 3)),
 zp 64 60 63,
 zm 65 64,
 zM 66 65 3,
 zg 67 65 (.iad 2 (.t 66) (zi 0)),
 zg 68 65 (.fad 1 (.t 67)),
 zg 69 65 (.ld false 1 (.t 68)),
 zg 70 65 (.bin .eql (.t 69) (.c (.int .u64 1))),
 zp 71 65 70,
 zm 72 71,
 zM 73 72 3,
 zg 74 72 (.iad 2 (.t 73) (zi 1)),
 zg 75 72 (.fad 1 (.t 74)),
 zg 76 72 (.ld false 1 (.t 75)),
 zg 77 72 (.bin .eql (.t 76) (.c (.int .u64 2))),
 zp 78 72 77,
 zm 79 78,
 zM 80 79 3,
 zg 81 79 (.iad 2 (.t 80) (zi 2)),
 zg 82 79 (.fad 1 (.t 81)),
 zg 83 79 (.ld false 1 (.t 82)),
 zg 84 79 (.bin .eql (.t 83) (.c (.int .u64 4))),
 zp 85 79 84,
 zm 86 85,
 zM 87 86 7,
 zg 88 86 (.bin .eql (.t 87) (zi 0)),
 zp 89 86 88,
 zm 90 89,
 zM 91 90 6,
 zg 92 90 (.call n_fix_Wiped [(.t 91)]),
 zp 93 90 92,
 zm 94 93,
 zM 95 94 3,
 zg 96 94 (.call n_fix_Wiped [(.t 95)]),
 zg 97 94 (.un .not (.t 96)),
 zp 98 94 97,
 zm 99 98,
 zM 100 99 9,
 zg 101 99 (.bin .eql (.t 100) (zi 1)),
 zp 102 99 101,
 zm 103 102,
 zM 104 103 12,
 zg 105 103 (.bin .eql (.t 104) (zi 1)),
 zp 106 103 105,
 zm 0 106] [0])
 (.ret))))))))
def F_law17_awake:F:=⟨i_law17_awake,[(0,none)],false⟩
def i_law17_Large:IR:=.seq (zr [zn 4 (.mov (zb false))] [0,1])
 (.seq (.seq (zr [zm 5 0,
 zn 6 (.call n_law11_Large [(.t 5),(.c (.nsl 1))]),
 zm 7 6,
 zF 8 7 0,
 zf 9 7 (.len (.t 8)),
 zf 10 7 (.bin .gtr (.t 9) (zi 20)),
 zq 11 7 10] [1,11])
 (.cond (.t 11) (.seq (zr [zn 4 (.mov (zb true))] [4])
 (.ret)) (.skip)))
 (.seq (zr [zn 12 (.bld [.int .i64 0,.nsl 1,.nsl 1,.int .i64 0,.int .i64 0,.nsl 1] []),
 zm 13 1,
 zn 14 (.call n_law12_Large [(.t 12),(.t 13)]),
 zm 4 14] [4])
 (.ret)))
def F_law17_Large:F:=⟨i_law17_Large,[(4,none)],false⟩
def b_fix_Run_0:IR:=.seq (zr [zn 30 (.bin .lss (.t 29) (.t 28))] [0,1,7,28,29,30])
 (.seq (.cond (.t 30) (.skip) (.ext 0))
 (.seq (.blk 1 (.seq (zr [zm 31 29,
 zm 8 31] [0,1,7,8,28,29])
 (zr [zm 32 7,
 zm 33 8,
 zn 34 (.call n_fix_queue_int_push [(.t 32),(.t 33)])] [0,1,7,28,29])))
 (zr [zn 35 (.bin .add (.t 29) (zi 1)),
 zm 29 35] [0,1,7,28,29])))
def i_fix_Run_l0:IR:=.loop b_fix_Run_0
theorem r_fix_Run_0 {C:Cx} {Y:Yl} {fr:Fr} {h:List Ob}:evw C Y i_fix_Run_l0 fr h=nxt (evw C Y b_fix_Run_0 fr h) fun fr h=>evw C Y i_fix_Run_l0 fr h:=w_loop
def b_fix_Run_1:IR:=.seq (zr [zn 67 (.bin .lss (.t 66) (.t 65))] [0,7,9,10,11,64,65,66,67])
 (.seq (.cond (.t 67) (.skip) (.ext 4))
 (.seq (.blk 5 (.seq (zr [zm 68 66,
 zn 69 (.iad 2 (.t 64) (.t 66)),
 zL 70 2 69,
 zn 15 (.new (.agg [.nsl 1,.int .u64 0])),
 zm 14 68,
 ⟨none,none,.st 2 (.t 15) (.t 70)⟩] [0,7,9,10,11,14,15,64,65,66])
 (zr [zm 71 10,
 zm 72 14,
 zn 73 (.fad 1 (.t 15)),
 zl 74 1 73,
 zn 75 (.call n_trail_Trail_uint64_Set [(.t 71),(.t 72),(.t 74)])] [0,7,9,10,11,64,65,66])))
 (zr [zn 76 (.bin .add (.t 66) (zi 1)),
 zm 66 76] [0,7,9,10,11,64,65,66])))
def i_fix_Run_l1:IR:=.loop b_fix_Run_1
theorem r_fix_Run_1 {C:Cx} {Y:Yl} {fr:Fr} {h:List Ob}:evw C Y i_fix_Run_l1 fr h=nxt (evw C Y b_fix_Run_1 fr h) fun fr h=>evw C Y i_fix_Run_l1 fr h:=w_loop
def b_fix_Run_2:IR:=.seq (zr [zn 87 (.bin .lss (.t 86) (.t 85))] [0,7,9,10,11,17,78,79,80,84,85,86,87])
 (.seq (.cond (.t 87) (.skip) (.ext 8))
 (.seq (.blk 9 (.seq (zr [zm 88 86,
 zn 89 (.iad 6 (.t 84) (.t 86)),
 zL 90 6 89,
 zn 19 (.new (.agg [.int .i64 0,.nsl 1,.nsl 1,.int .i64 0,.int .i64 0,.nsl 1])),
 zm 18 88,
 ⟨none,none,.st 6 (.t 19) (.t 90)⟩] [0,7,9,10,11,17,18,19,78,79,80,84,85,86])
 (.seq (zr [zn 91 (.fad 1 (.t 19)),
 zl 92 1 91,
 zm 93 17,
 zn 94 (.call n_slices_Contains_sint_int [(.t 92),(.t 93)])] [0,7,9,10,11,17,18,78,79,80,84,85,86,94])
 (.cond (.t 94) (zr [zm 95 7,
 zm 96 18,
 zn 97 (.call n_fix_queue_int_push [(.t 95),(.t 96)])] [0,7,9,10,11,17,78,79,80,84,85,86]) (.skip)))))
 (zr [zn 98 (.bin .add (.t 86) (zi 1)),
 zm 86 98] [0,7,9,10,11,17,78,79,80,84,85,86])))
def i_fix_Run_l2:IR:=.loop b_fix_Run_2
theorem r_fix_Run_2 {C:Cx} {Y:Yl} {fr:Fr} {h:List Ob}:evw C Y i_fix_Run_l2 fr h=nxt (evw C Y b_fix_Run_2 fr h) fun fr h=>evw C Y i_fix_Run_l2 fr h:=w_loop
def b_fix_Run_3:IR:=.seq (zr [zn 81 (.bin .lss (.t 80) (.t 79))] [0,7,9,10,11,78,79,80,81])
 (.seq (.cond (.t 81) (.skip) (.ext 6))
 (.seq (.blk 7 (.seq (zr [zn 82 (.iad 1 (.t 78) (.t 80)),
 zl 83 1 82,
 zm 17 83] [0,7,9,10,11,17,78,79,80])
 (.seq (zr [zm 84 0,
 zn 85 (.len (.t 84)),
 zn 86 (.mov (zi 0))] [0,7,9,10,11,17,78,79,80,84,85,86])
 (.blk 8 (i_fix_Run_l2)))))
 (zr [zn 99 (.bin .add (.t 80) (zi 1)),
 zm 80 99] [0,7,9,10,11,78,79,80])))
def i_fix_Run_l3:IR:=.loop b_fix_Run_3
theorem r_fix_Run_3 {C:Cx} {Y:Yl} {fr:Fr} {h:List Ob}:evw C Y i_fix_Run_l3 fr h=nxt (evw C Y b_fix_Run_3 fr h) fun fr h=>evw C Y i_fix_Run_l3 fr h:=w_loop
def b_fix_Run_4:IR:=.seq (.seq (zr [zm 45 13] [0,7,9,10,11,12,45])
 (.cond (.t 45) (.skip) (.ext 2)))
 (.seq (.blk 3 (.seq (zr [zm 52 0,
 zm 53 12,
 zn 54 (.iad 6 (.t 52) (.t 53)),
 zL 55 6 54,
 zm 56 9,
 zn 57 (.call n_fix_Step [(.t 55),(.t 56)]),
 zm 51 57,
 zn 58 (.ext (.t 51) 0),
 zn 59 (.ext (.t 51) 1),
 zm 9 58] [0,7,9,10,11])
 (.seq (zr [zm 60 11,
 zn 61 (.bin .add (.t 60) (zi 1)),
 zm 11 61] [0,7,9,10,11])
 (.seq (zr [zm 62 10,
 zn 63 (.call n_trail_Trail_uint64_Save [(.t 62)])] [0,7,9,10,11])
 (.seq (.seq (zr [zm 64 9,
 zn 65 (.len (.t 64)),
 zn 66 (.mov (zi 0))] [0,7,9,10,11,64,65,66])
 (.blk 4 (i_fix_Run_l1)))
 (.seq (zr [zm 77 10,
 zn 78 (.call n_trail_Trail_uint64_Changed [(.t 77)]),
 zn 79 (.len (.t 78)),
 zn 80 (.mov (zi 0))] [0,7,9,10,11,78,79,80])
 (.blk 6 (i_fix_Run_l3))))))))
 (zr [zm 47 7,
 zn 48 (.call n_fix_queue_int_pop [(.t 47)]),
 zm 46 48,
 zn 49 (.ext (.t 46) 0),
 zn 50 (.ext (.t 46) 1),
 zm 12 49,
 zm 13 50] [0,7,9,10,11,12,13]))
def i_fix_Run_l4:IR:=.loop b_fix_Run_4
theorem r_fix_Run_4 {C:Cx} {Y:Yl} {fr:Fr} {h:List Ob}:evw C Y i_fix_Run_l4 fr h=nxt (evw C Y b_fix_Run_4 fr h) fun fr h=>evw C Y i_fix_Run_l4 fr h:=w_loop
def i_fix_Run:IR:=.seq (zr [zn 4 (.mov (.c (.nsl 2))),
 zn 5 (.mov (zi 0)),
 zn 6 (.mov (zi 0))] [0,1])
 (.seq (.seq (zr [zm 20 0,
 zm 21 1,
 zn 22 (.call n_fix_right [(.t 20),(.t 21)]),
 zn 23 (.un .not (.t 22))] [0,1,23])
 (.cond (.t 23) (.seq (zr [zn 4 (.mov (.c (.nsl 2))),
 zn 5 (.mov (zi 0)),
 zn 6 (.mov (zi 1))] [4,5,6])
 (.ret)) (.skip)))
 (.seq (zr [zn 24 (.op .mkm []),
 zn 25 (.bld [.nsl 1,.nmp] [(1,1,(.t 24))]),
 zn 26 (.box (.t 25)),
 zm 7 26] [0,1,7])
 (.seq (.seq (zr [zm 27 0,
 zn 28 (.len (.t 27)),
 zn 29 (.mov (zi 0))] [0,1,7,28,29])
 (.blk 0 (i_fix_Run_l0)))
 (.seq (zr [zm 36 1,
 zn 37 (.call n_fix_copied [(.t 36)]),
 zm 9 37] [0,7,9])
 (.seq (zr [zm 38 9,
 zn 39 (.call n_fix_lives [(.t 38)]),
 zm 10 39] [0,7,9,10])
 (.seq (zr [zn 11 (.mov (zi 0))] [0,7,9,10,11])
 (.seq (.seq (zr [zm 41 7,
 zn 42 (.call n_fix_queue_int_pop [(.t 41)]),
 zm 40 42,
 zn 43 (.ext (.t 40) 0),
 zn 44 (.ext (.t 40) 1),
 zm 12 43,
 zm 13 44] [0,7,9,10,11,12,13])
 (.blk 2 (i_fix_Run_l4)))
 (.seq (zr [zm 100 9,
 zm 101 11,
 zm 4 100,
 zm 5 101,
 zn 6 (.mov (zi 0))] [4,5,6])
 (.ret)))))))))
def F_fix_Run:F:=⟨i_fix_Run,[(4,none),(5,none),(6,none)],false⟩
def b_fix_Order_0:IR:=.seq (zr [zn 27 (.bin .lss (.t 26) (.t 25))] [0,2,8,9,24,25,26,27])
 (.seq (.cond (.t 27) (.skip) (.ext 2))
 (.seq (.blk 3 (.seq (zr [zn 28 (.iad 1 (.t 24) (.t 26)),
 zl 29 1 28,
 zm 11 29] [0,2,8,9,11,24,25,26])
 (.seq (zr [zm 31 0,
 zm 32 11,
 zm 33 0,
 zn 34 (.len (.t 33)),
 zn 35 (.bin .rem (.t 32) (.t 34)),
 zm 36 0,
 zn 37 (.len (.t 36)),
 zn 38 (.bin .add (.t 35) (.t 37)),
 zm 39 0,
 zn 40 (.len (.t 39)),
 zn 41 (.bin .rem (.t 38) (.t 40)),
 zn 42 (.iad 6 (.t 31) (.t 41)),
 zL 43 6 42,
 zm 44 8,
 zn 45 (.call n_fix_Step [(.t 43),(.t 44)]),
 zm 30 45,
 zn 46 (.ext (.t 30) 0),
 zn 47 (.ext (.t 30) 1),
 zm 12 46,
 zm 13 47] [0,2,8,9,12,24,25,26])
 (.seq (zr [zm 48 9,
 zm 49 48,
 zF 50 49 12,
 zF 51 49 8,
 zf 52 49 (.call n_slices_EqualFunc_sdom_Dom_sdom_Dom_dom_Dom_dom_Dom [(.t 50),(.t 51),(.c (.fn (.func n_dom_Same) [] []))]),
 zf 53 49 (.un .not (.t 52)),
 zq 54 49 53,
 zm 9 54] [0,2,9,12,24,25,26])
 (zr [zm 55 12,
 zm 8 55] [0,2,8,9,24,25,26])))))
 (zr [zn 56 (.bin .add (.t 26) (zi 1)),
 zm 26 56] [0,2,8,9,24,25,26])))
def i_fix_Order_l0:IR:=.loop b_fix_Order_0
theorem r_fix_Order_0 {C:Cx} {Y:Yl} {fr:Fr} {h:List Ob}:evw C Y i_fix_Order_l0 fr h=nxt (evw C Y b_fix_Order_0 fr h) fun fr h=>evw C Y i_fix_Order_l0 fr h:=w_loop
def b_fix_Order_1:IR:=.seq (.seq (zr [zm 23 9] [0,2,8,23])
 (.cond (.t 23) (.skip) (.ext 0)))
 (.blk 1 (.seq (zr [zn 9 (.mov (zb false))] [0,2,8,9])
 (.seq (zr [zm 24 2,
 zn 25 (.len (.t 24)),
 zn 26 (.mov (zi 0))] [0,2,8,9,24,25,26])
 (.blk 2 (i_fix_Order_l0)))))
def i_fix_Order_l1:IR:=.loop b_fix_Order_1
theorem r_fix_Order_1 {C:Cx} {Y:Yl} {fr:Fr} {h:List Ob}:evw C Y i_fix_Order_l1 fr h=nxt (evw C Y b_fix_Order_1 fr h) fun fr h=>evw C Y i_fix_Order_l1 fr h:=w_loop
def i_fix_Order:IR:=.seq (zr [zn 6 (.mov (.c (.nsl 2))),
 zn 7 (.mov (zi 0))] [0,1,2])
 (.seq (.seq (zr [zm 14 0,
 zm 15 1,
 zn 16 (.call n_fix_right [(.t 14),(.t 15)]),
 zn 17 (.un .not (.t 16))] [0,1,2,17])
 (.cond (.t 17) (.seq (zr [zn 6 (.mov (.c (.nsl 2))),
 zn 7 (.mov (zi 1))] [6,7])
 (.ret)) (.skip)))
 (.seq (zr [zm 18 1,
 zn 19 (.call n_fix_copied [(.t 18)]),
 zm 8 19] [0,2,8])
 (.seq (.seq (zr [zm 20 0,
 zn 21 (.len (.t 20)),
 zn 22 (.bin .gtr (.t 21) (zi 0)),
 zm 9 22] [0,2,8,9])
 (.blk 0 (i_fix_Order_l1)))
 (.seq (zr [zm 58 0,
 zm 59 8,
 zn 60 (.call n_fix_Run [(.t 58),(.t 59)]),
 zm 57 60,
 zn 61 (.ext (.t 57) 0),
 zn 62 (.ext (.t 57) 1),
 zn 63 (.ext (.t 57) 2),
 zm 8 61] [8])
 (.seq (zr [zm 64 8,
 zm 6 64,
 zn 7 (.mov (zi 0))] [6,7])
 (.ret))))))
def F_fix_Order:F:=⟨i_fix_Order,[(6,none),(7,none)],false⟩
def i_fix_Step:IR:=.seq (zr [zn 2 (.box (.t 0)),
 zn 4 (.mov (.c (.nsl 2))),
 zn 5 (.mov (zi 0))] [1,2])
 (.seq (.seq (zr [zn 6 (.fad 0 (.t 2)),
 zl 7 1 6] [1,2,7])
 (.blk 0 (.seq (.seq (zr [zn 9 (.bin .eql (.t 7) (zi 1)),
 zm 8 9] [1,2,7,8])
 (.cond (.t 8) (.skip) (zr [zn 10 (.bin .eql (.t 7) (zi 3)),
 zm 8 10] [1,2,7,8])))
 (.cond (.t 8) (.seq (zr [zL 11 6 2,
 zm 12 1,
 zn 13 (.call n_linear_Step [(.t 11),(.t 12)]),
 zn 14 (.ext (.t 13) 0),
 zn 15 (.ext (.t 13) 1),
 zm 4 14,
 zm 5 15] [4,5])
 (.ret)) (.seq (zr [zn 17 (.bin .eql (.t 7) (zi 2)),
 zm 16 17] [1,2,7,16])
 (.cond (.t 16) (.seq (zr [zL 18 6 2,
 zm 19 1,
 zn 20 (.call n_product_Step [(.t 18),(.t 19)]),
 zn 21 (.ext (.t 20) 0),
 zn 22 (.ext (.t 20) 1),
 zm 4 21,
 zm 5 22] [4,5])
 (.ret)) (.seq (zr [zn 24 (.bin .eql (.t 7) (zi 4)),
 zm 23 24] [1,2,7,23])
 (.cond (.t 23) (.seq (zr [zL 25 6 2,
 zm 26 1,
 zn 27 (.call n_element_Step [(.t 25),(.t 26)]),
 zn 28 (.ext (.t 27) 0),
 zn 29 (.ext (.t 27) 1),
 zm 4 28,
 zm 5 29] [4,5])
 (.ret)) (.seq (zr [zn 31 (.bin .eql (.t 7) (zi 5)),
 zm 30 31] [1,2,7,30])
 (.cond (.t 30) (.seq (zr [zL 32 6 2,
 zm 33 1,
 zn 34 (.call n_differ_Step [(.t 32),(.t 33)]),
 zn 35 (.ext (.t 34) 0),
 zn 36 (.ext (.t 34) 1),
 zm 4 35,
 zm 5 36] [4,5])
 (.ret)) (.seq (zr [zn 38 (.bin .eql (.t 7) (zi 6)),
 zm 37 38] [1,2,37])
 (.cond (.t 37) (.seq (zr [zL 39 6 2,
 zm 40 1,
 zn 41 (.call n_table_Step [(.t 39),(.t 40)]),
 zn 42 (.ext (.t 41) 0),
 zn 43 (.ext (.t 41) 1),
 zm 4 42,
 zm 5 43] [4,5])
 (.ret)) (.skip)))))))))))))
 (.seq (zr [zn 4 (.mov (.c (.nsl 2))),
 zn 5 (.mov (zi 1))] [4,5])
 (.ret)))
def F_fix_Step:F:=⟨i_fix_Step,[(4,none),(5,none)],false⟩
def i_dom_Size:IR:=.seq (zr [zn 1 (.box (.t 0)),
 zn 2 (.mov (zi 0))] [1])
 (.seq (zr [zL 3 2 1,
 zn 4 (.call n_dom_asked_int [(.t 3),(.c (.fn (.func n_dom_Size_1) [] []))]),
 zm 2 4] [2])
 (.ret))
def F_dom_Size:F:=⟨i_dom_Size,[(2,none)],false⟩
def b_law12_Fewer_0:IR:=.seq (zr [zn 13 (.bin .lss (.t 12) (.t 11))] [1,5,11,12,13])
 (.seq (.cond (.t 13) (.skip) (.ext 0))
 (.seq (.blk 1 (.seq (zr [zm 14 12,
 zm 6 14] [1,5,6,11,12])
 (.seq (zr [zm 15 6,
 zm 16 1,
 zn 17 (.len (.t 16)),
 zn 18 (.bin .lss (.t 15) (.t 17))] [1,5,6,11,12,18])
 (.cond (.t 18) (.dq [(zm 19 5,[]),
 (zm 20 6,[]),
 (zn 21 (.iad 2 (.t 19) (.t 20)),[0,1]),
 (zn 22 (.fad 1 (.t 21)),[0,1,2]),
 (zl 23 1 22,[0,1,2,3]),
 (zm 24 1,[]),
 (zm 25 6,[]),
 (zn 26 (.iad 1 (.t 24) (.t 25)),[5,6]),
 (zl 27 1 26,[5,6,7]),
 (zn 28 (.bin .and (.t 23) (.t 27)),[0,1,2,3,4,5,6,7,8]),
 (zn 29 (.iad 2 (.t 19) (.t 20)),[0,1,2,3,4,5,6,7,8,9]),
 (zn 30 (.fad 1 (.t 29)),[0,1,2,3,4,5,6,7,8,9,10]),
 (⟨none,none,.st 1 (.t 30) (.t 28)⟩,[0,1,2,3,4,5,6,7,8,9,10,11])] (some [1,5,11,12])) (.skip)))))
 (zr [zn 31 (.bin .add (.t 12) (zi 1)),
 zm 12 31] [1,5,11,12])))
def i_law12_Fewer_l0:IR:=.loop b_law12_Fewer_0
theorem r_law12_Fewer_0 {C:Cx} {Y:Yl} {fr:Fr} {h:List Ob}:evw C Y i_law12_Fewer_l0 fr h=nxt (evw C Y b_law12_Fewer_0 fr h) fun fr h=>evw C Y i_law12_Fewer_l0 fr h:=w_loop
def i_law12_Fewer:IR:=.seq (zr [zn 4 (.mov (.c (.nsl 2)))] [0,1])
 (.seq (zr [zn 7 (.bsl (.agg [.nsl 1,.int .u64 0]) 0 []),
 zm 8 0,
 zn 9 (.app 2 32 (.t 7) (.t 8)),
 zm 5 9] [1,5])
 (.seq (.seq (zr [zm 10 5,
 zn 11 (.len (.t 10)),
 zn 12 (.mov (zi 0))] [1,5,11,12])
 (.blk 0 (i_law12_Fewer_l0)))
 (.seq (zr [zm 32 5,
 zm 4 32] [4])
 (.ret))))
def F_law12_Fewer:F:=⟨i_law12_Fewer,[(4,none)],false⟩
def b_law12_Within_0:IR:=.seq (zr [zn 16 (.bin .lss (.t 15) (.t 14))] [0,1,14,15,16])
 (.seq (.cond (.t 16) (.skip) (.ext 0))
 (.seq (.blk 1 (.seq (zr [zm 17 15,
 zm 5 17] [0,1,5,14,15])
 (.seq (.dr [(zm 18 0,[]),
 (zm 19 5,[]),
 (zn 20 (.iad 2 (.t 18) (.t 19)),[0,1]),
 (zL 21 2 20,[0,1,2]),
 (zm 22 1,[]),
 (zm 23 5,[]),
 (zn 24 (.iad 2 (.t 22) (.t 23)),[4,5]),
 (zL 25 2 24,[4,5,6]),
 (zn 6 (.new (.agg [.nsl 1,.int .u64 0])),[]),
 (zn 7 (.new (.agg [.nsl 1,.int .u64 0])),[]),
 (⟨none,none,.st 2 (.t 6) (.t 21)⟩,[0,1,2,3,8,9]),
 (⟨none,none,.st 2 (.t 7) (.t 25)⟩,[0,1,2,3,4,5,6,7,8,9,10])] (some [0,1,5,6,7,14,15]))
 (.seq (zr [zn 26 (.fad 1 (.t 6)),
 ⟨none,none,.st 1 (.t 26) (.c (.int .u64 0))⟩,
 zn 27 (.fad 1 (.t 7)),
 ⟨none,none,.st 1 (.t 27) (.c (.int .u64 0))⟩] [0,1,5,6,7,14,15])
 (.seq (.dq [(zL 28 2 6,[]),
 (zL 29 2 7,[]),
 (zn 30 (.call n_ref04_Same [(.t 28),(.t 29)]),[0,1]),
 (zn 31 (.un .not (.t 30)),[0,1,2]),
 (zm 32 31,[0,1,2,3]),
 (zF 33 32 0,[0,1,2,3,4]),
 (zF 34 32 5,[0,1,2,3,4]),
 (zf 35 32 (.iad 2 (.t 33) (.t 34)),[0,1,2,3,4,5,6]),
 (zf 36 32 (.fad 1 (.t 35)),[0,1,2,3,4,5,6,7]),
 (zf 37 32 (.ld false 1 (.t 36)),[0,1,2,3,4,5,6,7,8]),
 (zF 38 32 1,[0,1,2,3,4]),
 (zF 39 32 5,[0,1,2,3,4]),
 (zf 40 32 (.iad 2 (.t 38) (.t 39)),[0,1,2,3,4,10,11]),
 (zf 41 32 (.fad 1 (.t 40)),[0,1,2,3,4,10,11,12]),
 (zf 42 32 (.ld false 1 (.t 41)),[0,1,2,3,4,10,11,12,13]),
 (zf 43 32 (.bin .andNot (.t 37) (.t 42)),[0,1,2,3,4,5,6,7,8,9,10,11,12,13,14]),
 (zf 44 32 (.bin .neq (.t 43) (.c (.int .u64 0))),[0,1,2,3,4,5,6,7,8,9,10,11,12,13,14,15]),
 (zq 45 32 44,[0,1,2,3,4,5,6,7,8,9,10,11,12,13,14,15,16])] (some [0,1,14,15,45]))
 (.cond (.t 45) (.seq (zr [zn 4 (.mov (zb false))] [4])
 (.ret)) (.skip)))))))
 (zr [zn 46 (.bin .add (.t 15) (zi 1)),
 zm 15 46] [0,1,14,15])))
def i_law12_Within_l0:IR:=.loop b_law12_Within_0
theorem r_law12_Within_0 {C:Cx} {Y:Yl} {fr:Fr} {h:List Ob}:evw C Y i_law12_Within_l0 fr h=nxt (evw C Y b_law12_Within_0 fr h) fun fr h=>evw C Y i_law12_Within_l0 fr h:=w_loop
def i_law12_Within:IR:=.seq (zr [zn 4 (.mov (zb false))] [0,1])
 (.seq (.seq (zr [zm 8 0,
 zn 9 (.len (.t 8)),
 zm 10 1,
 zn 11 (.len (.t 10)),
 zn 12 (.bin .neq (.t 9) (.t 11))] [0,1,12])
 (.cond (.t 12) (.seq (zr [zn 4 (.mov (zb false))] [4])
 (.ret)) (.skip)))
 (.seq (.seq (zr [zm 13 0,
 zn 14 (.len (.t 13)),
 zn 15 (.mov (zi 0))] [0,1,14,15])
 (.blk 0 (i_law12_Within_l0)))
 (.seq (zr [zn 4 (.mov (zb true))] [4])
 (.ret))))
def F_law12_Within:F:=⟨i_law12_Within,[(4,none)],false⟩
def b_law12_Left_0:IR:=.seq (zr [zn 26 (.bin .lss (.t 25) (.t 24))] [0,5,7,15,16,17,23,24,25,26])
 (.seq (.cond (.t 26) (.skip) (.ext 2))
 (.seq (.blk 3 (.seq (zr [zn 27 (.iad 1 (.t 23) (.t 25)),
 zl 28 1 27,
 zm 9 28] [0,5,7,9,15,16,17,23,24,25])
 (zr [zm 29 7,
 zm 30 29,
 zF 31 30 9,
 zF 32 30 0,
 zF 33 30 5,
 zf 34 30 (.iad 1 (.t 32) (.t 33)),
 zf 35 30 (.ld false 1 (.t 34)),
 zf 36 30 (.bin .eql (.t 31) (.t 35)),
 zq 37 30 36,
 zm 7 37] [0,5,7,15,16,17,23,24,25])))
 (zr [zn 38 (.bin .add (.t 25) (zi 1)),
 zm 25 38] [0,5,7,15,16,17,23,24,25])))
def i_law12_Left_l0:IR:=.loop b_law12_Left_0
theorem r_law12_Left_0 {C:Cx} {Y:Yl} {fr:Fr} {h:List Ob}:evw C Y i_law12_Left_l0 fr h=nxt (evw C Y b_law12_Left_0 fr h) fun fr h=>evw C Y i_law12_Left_l0 fr h:=w_loop
def b_law12_Left_1:IR:=.seq (zr [zn 18 (.bin .lss (.t 17) (.t 16))] [0,15,16,17,18])
 (.seq (.cond (.t 18) (.skip) (.ext 0))
 (.seq (.blk 1 (.seq (zr [zm 19 17,
 zn 20 (.iad 2 (.t 15) (.t 17)),
 zL 21 2 20,
 zn 6 (.new (.agg [.nsl 1,.int .u64 0])),
 zm 5 19,
 ⟨none,none,.st 2 (.t 6) (.t 21)⟩] [0,5,6,15,16,17])
 (.seq (zr [zn 7 (.mov (zb false))] [0,5,6,7,15,16,17])
 (.seq (.seq (zr [zL 22 2 6,
 zn 23 (.call n_ref04_List [(.t 22)]),
 zn 24 (.len (.t 23)),
 zn 25 (.mov (zi 0))] [0,5,7,15,16,17,23,24,25])
 (.blk 2 (i_law12_Left_l0)))
 (.seq (zr [zm 39 7,
 zn 40 (.un .not (.t 39))] [0,15,16,17,40])
 (.cond (.t 40) (.seq (zr [zn 4 (.mov (zb false))] [4])
 (.ret)) (.skip)))))))
 (zr [zn 41 (.bin .add (.t 17) (zi 1)),
 zm 17 41] [0,15,16,17])))
def i_law12_Left_l1:IR:=.loop b_law12_Left_1
theorem r_law12_Left_1 {C:Cx} {Y:Yl} {fr:Fr} {h:List Ob}:evw C Y i_law12_Left_l1 fr h=nxt (evw C Y b_law12_Left_1 fr h) fun fr h=>evw C Y i_law12_Left_l1 fr h:=w_loop
def i_law12_Left:IR:=.seq (zr [zn 4 (.mov (zb false))] [0,1])
 (.seq (.seq (zr [zm 10 0,
 zn 11 (.len (.t 10)),
 zm 12 1,
 zn 13 (.len (.t 12)),
 zn 14 (.bin .neq (.t 11) (.t 13))] [0,1,14])
 (.cond (.t 14) (.seq (zr [zn 4 (.mov (zb false))] [4])
 (.ret)) (.skip)))
 (.seq (.seq (zr [zm 15 1,
 zn 16 (.len (.t 15)),
 zn 17 (.mov (zi 0))] [0,15,16,17])
 (.blk 0 (i_law12_Left_l1)))
 (.seq (zr [zn 4 (.mov (zb true))] [4])
 (.ret))))
def F_law12_Left:F:=⟨i_law12_Left,[(4,none)],false⟩
def b_ref11_All_0:IR:=.seq (.seq (zr [zm 10 5,
 zm 11 0,
 zn 12 (.len (.t 11)),
 zn 13 (.bin .lss (.t 10) (.t 12))] [0,1,5,13])
 (.cond (.t 13) (.skip) (.ext 0)))
 (.seq (.blk 1 (.seq (zr [zm 16 0,
 zm 17 5,
 zn 18 (.iad 6 (.t 16) (.t 17)),
 zL 19 6 18,
 zm 20 1,
 zn 21 (.call n_ref11_Holds [(.t 19),(.t 20)]),
 zn 22 (.un .not (.t 21))] [0,1,5,22])
 (.cond (.t 22) (.seq (zr [zn 4 (.mov (zb false))] [4])
 (.ret)) (.skip))))
 (zr [zm 14 5,
 zn 15 (.bin .add (.t 14) (zi 1)),
 zm 5 15] [0,1,5]))
def i_ref11_All_l0:IR:=.loop b_ref11_All_0
theorem r_ref11_All_0 {C:Cx} {Y:Yl} {fr:Fr} {h:List Ob}:evw C Y i_ref11_All_l0 fr h=nxt (evw C Y b_ref11_All_0 fr h) fun fr h=>evw C Y i_ref11_All_l0 fr h:=w_loop
def i_ref11_All:IR:=.seq (zr [zn 4 (.mov (zb false))] [0,1])
 (.seq (.seq (zr [zm 6 0,
 zm 7 1,
 zn 8 (.call n_ref11_Right [(.t 6),(.t 7)]),
 zn 9 (.un .not (.t 8))] [0,1,9])
 (.cond (.t 9) (.seq (zr [zn 4 (.mov (zb false))] [4])
 (.ret)) (.skip)))
 (.seq (.seq (zr [zn 5 (.mov (zi 0))] [0,1,5])
 (.blk 0 (i_ref11_All_l0)))
 (.seq (zr [zn 4 (.mov (zb true))] [4])
 (.ret))))
def F_ref11_All:F:=⟨i_ref11_All,[(4,none)],false⟩
def i_law17_awake_1:IR:=.seq (zr [zn 4 (.new (.agg [.int .i64 0,.nsl 1,.nsl 1,.int .i64 0,.int .i64 0,.nsl 1]))] [0,1,4])
 (.seq (zr [zm 5 0,
 zm 6 1,
 zn 7 (.bsl (.int .i64 0) 2 [(0,(.t 5)),(1,(.t 6))]),
 zn 8 (.bsl (.int .i64 0) 2 [(0,(zi 1)),(1,(zi (-1)))]),
 zn 9 (.bld [.int .i64 0,.nsl 1,.nsl 1,.int .i64 0,.int .i64 0,.nsl 1] [(0,1,(zi 1)),(1,1,(.t 7)),(2,1,(.t 8)),(3,1,(zi 2))]),
 ⟨none,none,.st 6 (.t 4) (.t 9)⟩] [4])
 (.ret))
def F_law17_awake_1:F:=⟨i_law17_awake_1,[(4,some (true,6))],false⟩
def i_fix_Wiped:IR:=.seq (zr [zn 2 (.mov (zb false))] [0])
 (.seq (zr [zm 3 0,
 zn 4 (.call n_slices_ContainsFunc_sdom_Dom_dom_Dom [(.t 3),(.c (.fn (.func n_fix_Wiped_1) [] []))]),
 zm 2 4] [2])
 (.ret))
def F_fix_Wiped:F:=⟨i_fix_Wiped,[(2,none)],false⟩
def b_law11_Large_0:IR:=.seq (zr [zn 18 (.bin .lss (.t 17) (.t 16))] [15,16,17,18])
 (.seq (.cond (.t 18) (.skip) (.ext 0))
 (.seq (.blk 1 (.seq (zr [zn 19 (.iad 6 (.t 15) (.t 17)),
 zL 20 6 19,
 zn 6 (.new (.agg [.int .i64 0,.nsl 1,.nsl 1,.int .i64 0,.int .i64 0,.nsl 1])),
 ⟨none,none,.st 6 (.t 6) (.t 20)⟩] [6,15,16,17])
 (.seq (zr [zn 21 (.fad 1 (.t 6)),
 zl 22 1 21,
 zn 23 (.len (.t 22)),
 zn 24 (.bin .gtr (.t 23) (zi 150)),
 zm 25 24,
 zf 26 25 (.fad 2 (.t 6)),
 zf 27 25 (.ld false 1 (.t 26)),
 zf 28 25 (.len (.t 27)),
 zf 29 25 (.bin .gtr (.t 28) (zi 150)),
 zq 30 25 29,
 zm 31 30,
 zf 32 31 (.fad 5 (.t 6)),
 zf 33 31 (.ld false 1 (.t 32)),
 zf 34 31 (.len (.t 33)),
 zf 35 31 (.bin .gtr (.t 34) (zi 150)),
 zq 36 31 35] [15,16,17,36])
 (.cond (.t 36) (.seq (zr [zn 4 (.mov (zb true))] [4])
 (.ret)) (.skip)))))
 (zr [zn 37 (.bin .add (.t 17) (zi 1)),
 zm 17 37] [15,16,17])))
def i_law11_Large_l0:IR:=.loop b_law11_Large_0
theorem r_law11_Large_0 {C:Cx} {Y:Yl} {fr:Fr} {h:List Ob}:evw C Y i_law11_Large_l0 fr h=nxt (evw C Y b_law11_Large_0 fr h) fun fr h=>evw C Y i_law11_Large_l0 fr h:=w_loop
def i_law11_Large:IR:=.seq (zr [zn 4 (.mov (zb false))] [0,1])
 (.seq (.seq (zr [zm 7 0,
 zn 8 (.len (.t 7)),
 zn 9 (.bin .gtr (.t 8) (zi 40)),
 zm 10 9,
 zF 11 10 1,
 zf 12 10 (.len (.t 11)),
 zf 13 10 (.bin .gtr (.t 12) (zi 40)),
 zq 14 10 13] [0,14])
 (.cond (.t 14) (.seq (zr [zn 4 (.mov (zb true))] [4])
 (.ret)) (.skip)))
 (.seq (.seq (zr [zm 15 0,
 zn 16 (.len (.t 15)),
 zn 17 (.mov (zi 0))] [15,16,17])
 (.blk 0 (i_law11_Large_l0)))
 (.seq (zr [zn 4 (.mov (zb false))] [4])
 (.ret))))
def F_law11_Large:F:=⟨i_law11_Large,[(4,none)],false⟩
def b_law12_Large_0:IR:=.seq (zr [zn 31 (.bin .lss (.t 30) (.t 29))] [28,29,30,31])
 (.seq (.cond (.t 31) (.skip) (.ext 0))
 (.seq (.blk 1 (.seq (zr [zn 32 (.iad 2 (.t 28) (.t 30)),
 zL 33 2 32,
 zn 6 (.new (.agg [.nsl 1,.int .u64 0])),
 ⟨none,none,.st 2 (.t 6) (.t 33)⟩] [6,28,29,30])
 (.seq (zr [zn 34 (.fad 0 (.t 6)),
 zl 35 1 34,
 zn 36 (.len (.t 35)),
 zn 37 (.bin .gtr (.t 36) (zi 150))] [28,29,30,37])
 (.cond (.t 37) (.seq (zr [zn 4 (.mov (zb true))] [4])
 (.ret)) (.skip)))))
 (zr [zn 38 (.bin .add (.t 30) (zi 1)),
 zm 30 38] [28,29,30])))
def i_law12_Large_l0:IR:=.loop b_law12_Large_0
theorem r_law12_Large_0 {C:Cx} {Y:Yl} {fr:Fr} {h:List Ob}:evw C Y i_law12_Large_l0 fr h=nxt (evw C Y b_law12_Large_0 fr h) fun fr h=>evw C Y i_law12_Large_l0 fr h:=w_loop
def i_law12_Large:IR:=.seq (zr [zn 2 (.box (.t 0)),
 zn 4 (.mov (zb false))] [1,2])
 (.seq (.seq (zr [zm 7 1,
 zn 8 (.len (.t 7)),
 zn 9 (.bin .gtr (.t 8) (zi 20)),
 zm 10 9,
 zf 11 10 (.fad 1 (.t 2)),
 zf 12 10 (.ld false 1 (.t 11)),
 zf 13 10 (.len (.t 12)),
 zf 14 10 (.bin .gtr (.t 13) (zi 150)),
 zq 15 10 14,
 zm 16 15,
 zf 17 16 (.fad 2 (.t 2)),
 zf 18 16 (.ld false 1 (.t 17)),
 zf 19 16 (.len (.t 18)),
 zf 20 16 (.bin .gtr (.t 19) (zi 150)),
 zq 21 16 20,
 zm 22 21,
 zf 23 22 (.fad 5 (.t 2)),
 zf 24 22 (.ld false 1 (.t 23)),
 zf 25 22 (.len (.t 24)),
 zf 26 22 (.bin .gtr (.t 25) (zi 150)),
 zq 27 22 26] [1,27])
 (.cond (.t 27) (.seq (zr [zn 4 (.mov (zb true))] [4])
 (.ret)) (.skip)))
 (.seq (.seq (zr [zm 28 1,
 zn 29 (.len (.t 28)),
 zn 30 (.mov (zi 0))] [28,29,30])
 (.blk 0 (i_law12_Large_l0)))
 (.seq (zr [zn 4 (.mov (zb false))] [4])
 (.ret))))
def F_law12_Large:F:=⟨i_law12_Large,[(4,none)],false⟩
def i_fix_right:IR:=.seq (zr [zn 3 (.box (.t 1)),
 zn 4 (.mov (zb false))] [0,3])
 (.seq (zr [zl 5 1 3,
 zn 6 (.len (.t 5)),
 zn 7 (.bin .leq (.t 6) (zi 16)),
 zm 8 7,
 zM 9 8 0,
 zg 10 8 (.mkf (.func n_fix_right_1) [] [(.t 3)]),
 zg 11 8 (.call n_slices_ContainsFunc_sapi_Con_api_Con [(.t 9),(.t 10)]),
 zg 12 8 (.un .not (.t 11)),
 zp 13 8 12,
 zm 14 13,
 zg 15 14 (.ld false 1 (.t 3)),
 zg 16 14 (.call n_slices_ContainsFunc_sdom_Dom_dom_Dom [(.t 15),(.c (.fn (.func n_fix_right_2) [] []))]),
 zg 17 14 (.un .not (.t 16)),
 zp 18 14 17,
 zm 4 18] [4])
 (.ret))
def F_fix_right:F:=⟨i_fix_right,[(4,none)],false⟩
def i_fix_queue_int_push:IR:=.seq (zr [zm 4 0,
 zn 5 (.nck (.t 4)),
 zn 6 (.fad 1 (.t 5)),
 zl 7 1 6,
 zm 8 1,
 zn 9 (.op (.lku (some .i64) (.int .i64 0) false) [(.t 7),(.t 8)]),
 zn 10 (.bin .eql (.t 9) (zi 0))] [0,1,10])
 (.cond (.t 10) (.seq (zr [zm 11 0,
 zm 12 0,
 zn 13 (.nck (.t 12)),
 zn 14 (.fad 0 (.t 13)),
 zl 15 1 14,
 zm 16 1,
 zn 17 (.bsf (.int .i64 0) 1 [(0,(.t 16))]),
 zn 18 (.app 1 8 (.t 15) (.t 17)),
 zn 19 (.nck (.t 11)),
 zn 20 (.fad 0 (.t 19)),
 ⟨none,none,.st 1 (.t 20) (.t 18)⟩] [0,1])
 (zr [zm 21 0,
 zn 22 (.nck (.t 21)),
 zn 23 (.fad 1 (.t 22)),
 zl 24 1 23,
 zm 25 1,
 ⟨none,none,.op (.mpu (some .i64)) [(.t 24),(.t 25),(zi 1)]⟩] [])) (.skip))
def F_fix_queue_int_push:F:=⟨i_fix_queue_int_push,[],true⟩
def b_fix_copied_0:IR:=.seq (zr [zn 9 (.bin .lss (.t 8) (.t 7))] [3,6,7,8,9])
 (.seq (.cond (.t 9) (.skip) (.ext 0))
 (.seq (.blk 1 (.seq (zr [zn 10 (.iad 2 (.t 6) (.t 8)),
 zL 11 2 10,
 zn 5 (.new (.agg [.nsl 1,.int .u64 0])),
 ⟨none,none,.st 2 (.t 5) (.t 11)⟩] [3,5,6,7,8])
 (.dq [(zm 12 3,[]),
 (zn 13 (.fad 0 (.t 5)),[]),
 (zl 14 1 13,[1]),
 (zn 15 (.call n_slices_Clone_sint_int [(.t 14)]),[1,2]),
 (zn 16 (.fad 1 (.t 5)),[]),
 (zl 17 1 16,[4]),
 (zn 18 (.bld [.nsl 1,.int .u64 0] [(0,1,(.t 15)),(1,1,(.t 17))]),[1,2,3,4,5]),
 (zn 19 (.bsf (.agg [.nsl 1,.int .u64 0]) 1 [(0,(.t 18))]),[1,2,3,4,5,6]),
 (zn 20 (.app 2 32 (.t 12) (.t 19)),[0,1,2,3,4,5,6,7]),
 (zm 3 20,[0,1,2,3,4,5,6,7,8])] (some [3,6,7,8]))))
 (zr [zn 21 (.bin .add (.t 8) (zi 1)),
 zm 8 21] [3,6,7,8])))
def i_fix_copied_l0:IR:=.loop b_fix_copied_0
theorem r_fix_copied_0 {C:Cx} {Y:Yl} {fr:Fr} {h:List Ob}:evw C Y i_fix_copied_l0 fr h=nxt (evw C Y b_fix_copied_0 fr h) fun fr h=>evw C Y i_fix_copied_l0 fr h:=w_loop
def i_fix_copied:IR:=.seq (zr [zn 2 (.mov (.c (.nsl 2)))] [0])
 (.seq (zr [zn 3 (.mov (.c (.nsl 2)))] [0,3])
 (.seq (.seq (zr [zm 6 0,
 zn 7 (.len (.t 6)),
 zn 8 (.mov (zi 0))] [3,6,7,8])
 (.blk 0 (i_fix_copied_l0)))
 (.seq (zr [zm 22 3,
 zm 2 22] [2])
 (.ret))))
def F_fix_copied:F:=⟨i_fix_copied,[(2,none)],false⟩
def b_fix_lives_0:IR:=.seq (zr [zn 16 (.bin .lss (.t 15) (.t 14))] [3,13,14,15,16])
 (.seq (.cond (.t 16) (.skip) (.ext 0))
 (.seq (.blk 1 (.seq (zr [zm 17 15,
 zn 18 (.iad 2 (.t 13) (.t 15)),
 zL 19 2 18,
 zn 6 (.new (.agg [.nsl 1,.int .u64 0])),
 zm 5 17,
 ⟨none,none,.st 2 (.t 6) (.t 19)⟩] [3,5,6,13,14,15])
 (zr [zm 20 3,
 zm 21 5,
 zn 22 (.fad 1 (.t 6)),
 zl 23 1 22,
 zn 24 (.call n_trail_Trail_uint64_Set [(.t 20),(.t 21),(.t 23)])] [3,13,14,15])))
 (zr [zn 25 (.bin .add (.t 15) (zi 1)),
 zm 15 25] [3,13,14,15])))
def i_fix_lives_l0:IR:=.loop b_fix_lives_0
theorem r_fix_lives_0 {C:Cx} {Y:Yl} {fr:Fr} {h:List Ob}:evw C Y i_fix_lives_l0 fr h=nxt (evw C Y b_fix_lives_0 fr h) fun fr h=>evw C Y i_fix_lives_l0 fr h:=w_loop
def i_fix_lives:IR:=.seq (zr [zn 2 (.mov (.c (.nilp)))] [0])
 (.seq (zr [zm 8 0,
 zn 9 (.len (.t 8)),
 zn 10 (.call n_trail_New_uint64 [(.t 9)]),
 zm 7 10,
 zn 11 (.ext (.t 7) 0),
 zn 12 (.ext (.t 7) 1),
 zm 3 11,
 zm 4 12] [0,3])
 (.seq (.seq (zr [zm 13 0,
 zn 14 (.len (.t 13)),
 zn 15 (.mov (zi 0))] [3,13,14,15])
 (.blk 0 (i_fix_lives_l0)))
 (.seq (zr [zm 26 3,
 zm 2 26] [2])
 (.ret))))
def F_fix_lives:F:=⟨i_fix_lives,[(2,none)],true⟩
def i_fix_queue_int_pop:IR:=.seq (zr [zn 2 (.mov (zi 0)),
 zn 3 (.mov (zb false))] [0])
 (.seq (zr [zn 4 (.mov (zi 0))] [0,4])
 (.seq (.seq (zr [zm 5 0,
 zn 6 (.nck (.t 5)),
 zn 7 (.fad 0 (.t 6)),
 zl 8 1 7,
 zn 9 (.len (.t 8)),
 zn 10 (.bin .eql (.t 9) (zi 0))] [0,4,10])
 (.cond (.t 10) (.seq (zr [zm 11 4,
 zm 2 11,
 zn 3 (.mov (zb false))] [2,3])
 (.ret)) (.skip)))
 (.seq (zr [zm 12 0,
 zn 13 (.nck (.t 12)),
 zn 14 (.fad 0 (.t 13)),
 zl 15 1 14,
 zn 16 (.iad 1 (.t 15) (zi 0)),
 zl 17 1 16,
 zm 4 17] [0,4])
 (.seq (zr [zm 18 0,
 zm 19 0,
 zn 20 (.nck (.t 19)),
 zn 21 (.fad 0 (.t 20)),
 zl 22 1 21,
 zn 23 (.sll 1 (.t 22) (some (zi 1)) none none),
 zn 24 (.nck (.t 18)),
 zn 25 (.fad 0 (.t 24)),
 ⟨none,none,.st 1 (.t 25) (.t 23)⟩] [0,4])
 (.seq (zr [zm 26 0,
 zn 27 (.nck (.t 26)),
 zn 28 (.fad 1 (.t 27)),
 zl 29 1 28,
 zm 30 4,
 ⟨none,none,.op (.mdl (some .i64)) [(.t 29),(.t 30)]⟩] [4])
 (.seq (zr [zm 31 4,
 zm 2 31,
 zn 3 (.mov (zb true))] [2,3])
 (.ret)))))))
def F_fix_queue_int_pop:F:=⟨i_fix_queue_int_pop,[(2,none),(3,none)],true⟩
def i_trail_Trail_uint64_Save:IR:=.seq (zr [zn 2 (.mov (zi 0))] [0])
 (.seq (zr [zm 3 0,
 zm 4 0,
 zn 5 (.nck (.t 4)),
 zn 6 (.fad 2 (.t 5)),
 zl 7 1 6,
 zn 8 (.op .mkm []),
 zn 9 (.bsl (.nmp) 1 [(0,(.t 8))]),
 zn 10 (.app 1 8 (.t 7) (.t 9)),
 zn 11 (.nck (.t 3)),
 zn 12 (.fad 2 (.t 11)),
 ⟨none,none,.st 1 (.t 12) (.t 10)⟩] [0])
 (.seq (zr [zm 13 0,
 zn 14 (.call n_trail_Trail_uint64_Marks [(.t 13)]),
 zm 2 14] [2])
 (.ret)))
def F_trail_Trail_uint64_Save:F:=⟨i_trail_Trail_uint64_Save,[(2,none)],true⟩
def i_trail_Trail_uint64_Set:IR:=.seq (zr [zn 6 (.mov (zi 0))] [0,1,2])
 (.seq (.seq (zr [zm 10 0,
 zm 11 1,
 zn 12 (.call n_trail_Trail_uint64_there [(.t 10),(.t 11)]),
 zn 13 (.un .not (.t 12))] [0,1,2,13])
 (.cond (.t 13) (.seq (zr [zn 6 (.mov (zi 1))] [6])
 (.ret)) (.skip)))
 (.seq (zr [zm 14 0,
 zn 15 (.call n_trail_Trail_uint64_last [(.t 14)]),
 zm 7 15] [0,1,2,7])
 (.seq (.seq (zr [zm 17 7,
 zm 18 1,
 zn 19 (.op (.lku (some .i64) (.int .u64 0) true) [(.t 17),(.t 18)]),
 zm 16 19,
 zn 20 (.ext (.t 16) 0),
 zn 21 (.ext (.t 16) 1),
 zm 8 20,
 zm 9 21] [0,1,2,7,9])
 (.seq (zr [zm 22 9,
 zn 23 (.un .not (.t 22))] [0,1,2,7,23])
 (.cond (.t 23) (zr [zm 24 7,
 zm 25 1,
 zm 26 0,
 zn 27 (.nck (.t 26)),
 zn 28 (.fad 0 (.t 27)),
 zl 29 1 28,
 zm 30 1,
 zn 31 (.iad 1 (.t 29) (.t 30)),
 zl 32 1 31,
 ⟨none,none,.op (.mpu (some .i64)) [(.t 24),(.t 25),(.t 32)]⟩] [0,1,2]) (.skip))))
 (.seq (zr [zm 33 0,
 zm 34 1,
 zm 35 2,
 zn 36 (.call n_trail_Trail_uint64_put [(.t 33),(.t 34),(.t 35)])] [])
 (.seq (zr [zn 6 (.mov (zi 0))] [6])
 (.ret))))))
def F_trail_Trail_uint64_Set:F:=⟨i_trail_Trail_uint64_Set,[(6,none)],true⟩
def x_trail_Trail_uint64_Changed_0:IR:=.seq (zr [zm 14 0,
 zn 15 (.nck (.t 14)),
 zn 16 (.fad 0 (.t 15)),
 zl 17 1 16,
 zm 18 4,
 zn 19 (.iad 1 (.t 17) (.t 18)),
 zl 20 1 19,
 zm 21 5,
 zn 22 (.bin .neq (.t 20) (.t 21))] [0,3,4,8,22])
 (.cond (.t 22) (zr [zm 23 3,
 zm 24 4,
 zn 25 (.bsf (.int .i64 0) 1 [(0,(.t 24))]),
 zn 26 (.app 1 8 (.t 23) (.t 25)),
 zm 3 26] [0,3,8]) (.skip))
def X_trail_Trail_uint64_Changed_0:Rm:={ pre:=[zm 6 0,zn 7 (.call n_trail_Trail_uint64_last [(.t 6)])],m:=(.t 7),it:=8,kA:=some [0,3,8],b0:=0,nx:=9,bl:=[zn 10 (.ext (.t 9) 0)],kB:=some [0,3,8,10],ok:=(.t 10),b1:=1,en:=11,dl:=[zn 12 (.ext (.t 11) 0),zn 13 (.ext (.t 11) 1),zm 4 12,zm 5 13],kD:=some [0,3,4,5,8],body:=x_trail_Trail_uint64_Changed_0 }
def q_trail_Trail_uint64_Changed:RN:=.seq (.det (zr [zn 2 (.mov (.c (.nsl 1)))] [0]))
 (.seq (.det (zr [zn 3 (.mov (.c (.nsl 1)))] [0,3]))
 (.seq (.rm X_trail_Trail_uint64_Changed_0)
 (.det (.seq (zr [zm 27 3,
 zn 28 (.call n_slices_Sort_sint_int [(.t 27)])] [3])
 (.seq (zr [zm 29 3,
 zm 2 29] [2])
 (.ret))))))
def F_trail_Trail_uint64_Changed:FN:=⟨q_trail_Trail_uint64_Changed,[(2,none)]⟩
def i_slices_Contains_sint_int:IR:=.seq (zr [zn 4 (.mov (zb false))] [0,1])
 (.seq (zr [zm 5 0,
 zm 6 1,
 zn 7 (.call n_slices_Index_sint_int [(.t 5),(.t 6)]),
 zn 8 (.bin .geq (.t 7) (zi 0)),
 zm 4 8] [4])
 (.ret))
def F_slices_Contains_sint_int:F:=⟨i_slices_Contains_sint_int,[(4,none)],false⟩
def b_slices_EqualFunc_sdom_Dom_sdom_Dom_dom_Dom_dom_Dom_0:IR:=.seq (zr [zn 18 (.bin .lss (.t 17) (.t 16))] [1,2,15,16,17,18])
 (.seq (.cond (.t 18) (.skip) (.ext 0))
 (.seq (.blk 1 (.seq (zr [zm 19 17,
 zn 20 (.iad 2 (.t 15) (.t 17)),
 zL 21 2 20,
 zn 8 (.new (.agg [.nsl 1,.int .u64 0])),
 zm 7 19,
 ⟨none,none,.st 2 (.t 8) (.t 21)⟩] [1,2,7,8,15,16,17])
 (.seq (zr [zm 22 1,
 zm 23 7,
 zn 24 (.iad 2 (.t 22) (.t 23)),
 zL 25 2 24,
 zn 9 (.new (.agg [.nsl 1,.int .u64 0])),
 ⟨none,none,.st 2 (.t 9) (.t 25)⟩] [1,2,8,9,15,16,17])
 (.seq (zr [zm 26 2,
 zL 27 2 8,
 zL 28 2 9,
 zn 29 (.callv (.t 26) [(.t 27),(.t 28)]),
 zn 30 (.un .not (.t 29))] [1,2,15,16,17,30])
 (.cond (.t 30) (.seq (zr [zn 6 (.mov (zb false))] [6])
 (.ret)) (.skip))))))
 (zr [zn 31 (.bin .add (.t 17) (zi 1)),
 zm 17 31] [1,2,15,16,17])))
def i_slices_EqualFunc_sdom_Dom_sdom_Dom_dom_Dom_dom_Dom_l0:IR:=.loop b_slices_EqualFunc_sdom_Dom_sdom_Dom_dom_Dom_dom_Dom_0
def i_slices_EqualFunc_sdom_Dom_sdom_Dom_dom_Dom_dom_Dom:IR:=.seq (zr [zn 6 (.mov (zb false))] [0,1,2])
 (.seq (.seq (zr [zm 10 0,
 zn 11 (.len (.t 10)),
 zm 12 1,
 zn 13 (.len (.t 12)),
 zn 14 (.bin .neq (.t 11) (.t 13))] [0,1,2,14])
 (.cond (.t 14) (.seq (zr [zn 6 (.mov (zb false))] [6])
 (.ret)) (.skip)))
 (.seq (.seq (zr [zm 15 0,
 zn 16 (.len (.t 15)),
 zn 17 (.mov (zi 0))] [1,2,15,16,17])
 (.blk 0 (i_slices_EqualFunc_sdom_Dom_sdom_Dom_dom_Dom_dom_Dom_l0)))
 (.seq (zr [zn 6 (.mov (zb true))] [6])
 (.ret))))
def F_slices_EqualFunc_sdom_Dom_sdom_Dom_dom_Dom_dom_Dom:F:=⟨i_slices_EqualFunc_sdom_Dom_sdom_Dom_dom_Dom_dom_Dom,[(6,none)],false⟩
def i_dom_Same:IR:=.seq (zr [zn 2 (.box (.t 0)),
 zn 3 (.box (.t 1)),
 zn 4 (.mov (zb false))] [2,3])
 (.seq (zr [zn 5 (.fad 1 (.t 2)),
 zl 6 1 5,
 zn 7 (.fad 1 (.t 3)),
 zl 8 1 7,
 zn 9 (.bin .eql (.t 6) (.t 8)),
 zm 10 9,
 zg 11 10 (.fad 0 (.t 2)),
 zg 12 10 (.ld false 1 (.t 11)),
 zg 13 10 (.fad 0 (.t 3)),
 zg 14 10 (.ld false 1 (.t 13)),
 zg 15 10 (.call n_slices_Equal_sint_int [(.t 12),(.t 14)]),
 zp 16 10 15,
 zm 4 16] [4])
 (.ret))
def F_dom_Same:F:=⟨i_dom_Same,[(4,none)],false⟩
def b_ref04_May_0:IR:=.seq (.seq (zr [zm 10 3,
 zn 11 (.fad 0 (.t 1)),
 zl 12 1 11,
 zn 13 (.len (.t 12)),
 zn 14 (.bin .lss (.t 10) (.t 13))] [1,3,14])
 (.cond (.t 14) (.skip) (.ext 0)))
 (.seq (.blk 1 (.seq (.dq [(zn 17 (.fad 0 (.t 1)),[]),
 (zl 18 1 17,[0]),
 (zm 19 3,[]),
 (zn 20 (.iad 1 (.t 18) (.t 19)),[0,1,2]),
 (zl 21 1 20,[0,1,2,3]),
 (zn 22 (.bin .lss (.t 21) (zi (-1048576))),[0,1,2,3,4]),
 (zm 23 22,[0,1,2,3,4,5]),
 (zf 24 23 (.fad 0 (.t 1)),[0,1,2,3,4,5,6]),
 (zf 25 23 (.ld false 1 (.t 24)),[0,1,2,3,4,5,6,7]),
 (zF 26 23 3,[0,1,2,3,4,5,6]),
 (zf 27 23 (.iad 1 (.t 25) (.t 26)),[0,1,2,3,4,5,6,7,8,9]),
 (zf 28 23 (.ld false 1 (.t 27)),[0,1,2,3,4,5,6,7,8,9,10]),
 (zf 29 23 (.bin .gtr (.t 28) (zi 1048576)),[0,1,2,3,4,5,6,7,8,9,10,11]),
 (zq 30 23 29,[0,1,2,3,4,5,6,7,8,9,10,11,12]),
 (zm 31 30,[0,1,2,3,4,5,6,7,8,9,10,11,12,13]),
 (zF 32 31 3,[0,1,2,3,4,5,6,7,8,9,10,11,12,13,14]),
 (zf 33 31 (.bin .gtr (.t 32) (zi 0)),[0,1,2,3,4,5,6,7,8,9,10,11,12,13,14,15]),
 (zF 34 31 33,[0,1,2,3,4,5,6,7,8,9,10,11,12,13,14,15,16]),
 (zg 35 34 (.fad 0 (.t 1)),[0,1,2,3,4,5,6,7,8,9,10,11,12,13,14,15,16,17]),
 (zg 36 34 (.ld false 1 (.t 35)),[0,1,2,3,4,5,6,7,8,9,10,11,12,13,14,15,16,17,18]),
 (zM 37 34 3,[0,1,2,3,4,5,6,7,8,9,10,11,12,13,14,15,16,17]),
 (zg 38 34 (.bin .sub (.t 37) (zi 1)),[0,1,2,3,4,5,6,7,8,9,10,11,12,13,14,15,16,17,20]),
 (zg 39 34 (.iad 1 (.t 36) (.t 38)),[0,1,2,3,4,5,6,7,8,9,10,11,12,13,14,15,16,17,18,19,20,21]),
 (zg 40 34 (.ld false 1 (.t 39)),[0,1,2,3,4,5,6,7,8,9,10,11,12,13,14,15,16,17,18,19,20,21,22]),
 (zg 41 34 (.fad 0 (.t 1)),[0,1,2,3,4,5,6,7,8,9,10,11,12,13,14,15,16,17]),
 (zg 42 34 (.ld false 1 (.t 41)),[0,1,2,3,4,5,6,7,8,9,10,11,12,13,14,15,16,17,24]),
 (zM 43 34 3,[0,1,2,3,4,5,6,7,8,9,10,11,12,13,14,15,16,17]),
 (zg 44 34 (.iad 1 (.t 42) (.t 43)),[0,1,2,3,4,5,6,7,8,9,10,11,12,13,14,15,16,17,24,25,26]),
 (zg 45 34 (.ld false 1 (.t 44)),[0,1,2,3,4,5,6,7,8,9,10,11,12,13,14,15,16,17,24,25,26,27]),
 (zg 46 34 (.bin .geq (.t 40) (.t 45)),[0,1,2,3,4,5,6,7,8,9,10,11,12,13,14,15,16,17,18,19,20,21,22,23,24,25,26,27,28]),
 (zf 47 31 (.pick (.t 34) (.t 46) (zb false)),[0,1,2,3,4,5,6,7,8,9,10,11,12,13,14,15,16,17,18,19,20,21,22,23,24,25,26,27,28,29]),
 (zq 48 31 47,[0,1,2,3,4,5,6,7,8,9,10,11,12,13,14,15,16,17,18,19,20,21,22,23,24,25,26,27,28,29,30])] (some [1,3,48]))
 (.cond (.t 48) (.seq (zr [zn 2 (.mov (zb false))] [2])
 (.ret)) (.skip))))
 (zr [zm 15 3,
 zn 16 (.bin .add (.t 15) (zi 1)),
 zm 3 16] [1,3]))
def i_ref04_May_l0:IR:=.loop b_ref04_May_0
theorem r_ref04_May_0 {C:Cx} {Y:Yl} {fr:Fr} {h:List Ob}:evw C Y i_ref04_May_l0 fr h=nxt (evw C Y b_ref04_May_0 fr h) fun fr h=>evw C Y i_ref04_May_l0 fr h:=w_loop
def b_ref04_May_1:IR:=.seq (.seq (zr [zm 49 5,
 zn 50 (.fad 0 (.t 1)),
 zl 51 1 50,
 zn 52 (.len (.t 51)),
 zn 53 (.bin .lss (.t 49) (.t 52))] [1,4,5,53])
 (.cond (.t 53) (.skip) (.ext 2)))
 (.seq (.blk 3 (zr [zm 56 4,
 zn 57 (.bin .mul (.c (.int .u64 2)) (.t 56)),
 zm 4 57] [1,4,5]))
 (zr [zm 54 5,
 zn 55 (.bin .add (.t 54) (zi 1)),
 zm 5 55] [1,4,5]))
def i_ref04_May_l1:IR:=.loop b_ref04_May_1
theorem r_ref04_May_1 {C:Cx} {Y:Yl} {fr:Fr} {h:List Ob}:evw C Y i_ref04_May_l1 fr h=nxt (evw C Y b_ref04_May_1 fr h) fun fr h=>evw C Y i_ref04_May_l1 fr h:=w_loop
def i_ref04_May:IR:=.seq (zr [zn 1 (.box (.t 0)),
 zn 2 (.mov (zb false))] [1])
 (.seq (.seq (zr [zn 6 (.fad 0 (.t 1)),
 zl 7 1 6,
 zn 8 (.len (.t 7)),
 zn 9 (.bin .gtr (.t 8) (zi 64))] [1,9])
 (.cond (.t 9) (.seq (zr [zn 2 (.mov (zb false))] [2])
 (.ret)) (.skip)))
 (.seq (.seq (zr [zn 3 (.mov (zi 0))] [1,3])
 (.blk 0 (i_ref04_May_l0)))
 (.seq (zr [zn 4 (.mov (.c (.int .u64 1)))] [1,4])
 (.seq (.seq (zr [zn 5 (.mov (zi 0))] [1,4,5])
 (.blk 2 (i_ref04_May_l1)))
 (.seq (zr [zn 58 (.fad 0 (.t 1)),
 zl 59 1 58,
 zn 60 (.len (.t 59)),
 zn 61 (.bin .eql (.t 60) (zi 64)),
 zm 62 61,
 zf 63 62 (.fad 1 (.t 1)),
 zf 64 62 (.ld false 1 (.t 63)),
 zF 65 62 4,
 zf 66 62 (.bin .lss (.t 64) (.t 65)),
 zq 67 62 66,
 zm 2 67] [2])
 (.ret))))))
def F_ref04_May:F:=⟨i_ref04_May,[(2,none)],false⟩
def b_ref08_Right_0:IR:=.seq (.seq (zr [zm 33 7,
 zm 34 6,
 zn 35 (.bin .lss (.t 33) (.t 34))] [1,2,5,6,7,35])
 (.cond (.t 35) (.skip) (.ext 2)))
 (.seq (.blk 3 (.seq (.dq [(zn 38 (.fad 1 (.t 2)),[]),
 (zl 39 1 38,[0]),
 (zm 40 7,[]),
 (zn 41 (.iad 1 (.t 39) (.t 40)),[0,1,2]),
 (zl 42 1 41,[0,1,2,3]),
 (zn 43 (.fad 1 (.t 2)),[]),
 (zl 44 1 43,[5]),
 (zm 45 6,[]),
 (zn 46 (.iad 1 (.t 44) (.t 45)),[5,6,7]),
 (zl 47 1 46,[5,6,7,8]),
 (zn 48 (.bin .eql (.t 42) (.t 47)),[0,1,2,3,4,5,6,7,8,9])] (some [1,2,5,6,7,48]))
 (.cond (.t 48) (.seq (zr [zn 4 (.mov (zb false))] [4])
 (.ret)) (.skip))))
 (zr [zm 36 7,
 zn 37 (.bin .add (.t 36) (zi 1)),
 zm 7 37] [1,2,5,6,7]))
def i_ref08_Right_l0:IR:=.loop b_ref08_Right_0
def b_ref08_Right_1:IR:=.seq (.seq (zr [zm 13 6,
 zm 14 5,
 zn 15 (.bin .lss (.t 13) (.t 14))] [1,2,5,6,15])
 (.cond (.t 15) (.skip) (.ext 0)))
 (.seq (.blk 1 (.seq (.seq (zr [zn 18 (.fad 1 (.t 2)),
 zl 19 1 18,
 zm 20 6,
 zn 21 (.iad 1 (.t 19) (.t 20)),
 zl 22 1 21,
 zn 23 (.bin .lss (.t 22) (zi 0)),
 zm 24 23,
 zf 25 24 (.fad 1 (.t 2)),
 zf 26 24 (.ld false 1 (.t 25)),
 zF 27 24 6,
 zf 28 24 (.iad 1 (.t 26) (.t 27)),
 zf 29 24 (.ld false 1 (.t 28)),
 zF 30 24 1,
 zf 31 24 (.bin .geq (.t 29) (.t 30)),
 zq 32 24 31] [1,2,5,6,32])
 (.cond (.t 32) (.seq (zr [zn 4 (.mov (zb false))] [4])
 (.ret)) (.skip)))
 (.seq (zr [zn 7 (.mov (zi 0))] [1,2,5,6,7])
 (.blk 2 (i_ref08_Right_l0)))))
 (zr [zm 16 6,
 zn 17 (.bin .add (.t 16) (zi 1)),
 zm 6 17] [1,2,5,6]))
def i_ref08_Right_l1:IR:=.loop b_ref08_Right_1
theorem r_ref08_Right_1 {C:Cx} {Y:Yl} {fr:Fr} {h:List Ob}:evw C Y i_ref08_Right_l1 fr h=nxt (evw C Y b_ref08_Right_1 fr h) fun fr h=>evw C Y i_ref08_Right_l1 fr h:=w_loop
def b_ref08_Right_2:IR:=.seq (.seq (zr [zm 61 9,
 zn 62 (.fad 2 (.t 2)),
 zl 63 1 62,
 zn 64 (.len (.t 63)),
 zn 65 (.bin .lss (.t 61) (.t 64))] [2,5,8,9,65])
 (.cond (.t 65) (.skip) (.ext 4)))
 (.seq (.blk 5 (.seq (zr [zn 68 (.fad 2 (.t 2)),
 zl 69 1 68,
 zm 70 9,
 zn 71 (.iad 1 (.t 69) (.t 70)),
 zl 72 1 71,
 zn 73 (.bin .eql (.t 72) (zi 0))] [2,5,8,9,73])
 (.cond (.t 73) (.seq (zr [zn 4 (.mov (zb false))] [4])
 (.ret)) (.skip))))
 (zr [zm 66 9,
 zn 67 (.bin .add (.t 66) (zi 1)),
 zm 9 67] [2,5,8,9]))
def i_ref08_Right_l2:IR:=.loop b_ref08_Right_2
def i_ref08_Right:IR:=.seq (zr [zn 2 (.box (.t 0)),
 zn 4 (.mov (zb false))] [1,2])
 (.seq (zr [zn 10 (.fad 1 (.t 2)),
 zl 11 1 10,
 zn 12 (.len (.t 11)),
 zm 5 12] [1,2,5])
 (.seq (.seq (zr [zn 6 (.mov (zi 0))] [1,2,5,6])
 (.blk 0 (i_ref08_Right_l1)))
 (.seq (.seq (zr [zn 49 (.fad 0 (.t 2)),
 zl 50 1 49,
 zn 51 (.bin .eql (.t 50) (zi 1)),
 zm 52 51,
 zf 53 52 (.fad 0 (.t 2)),
 zf 54 52 (.ld false 1 (.t 53)),
 zf 55 52 (.bin .eql (.t 54) (zi 3)),
 zq 56 52 55] [2,5,56])
 (.cond (.t 56) (.seq (zr [zn 57 (.fad 0 (.t 2)),
 zl 58 1 57,
 zn 59 (.bin .sub (.t 58) (zi 1)),
 zn 60 (.bin .quo (.t 59) (zi 2)),
 zm 8 60] [2,5,8])
 (.seq (.seq (zr [zn 9 (.mov (zi 0))] [2,5,8,9])
 (.blk 4 (i_ref08_Right_l2)))
 (.seq (zr [zm 74 5,
 zm 75 8,
 zn 76 (.bin .sub (.t 74) (.t 75)),
 zn 77 (.bin .geq (.t 76) (zi 1)),
 zm 78 77,
 zM 79 78 5,
 zM 80 78 8,
 zg 81 78 (.bin .sub (.t 79) (.t 80)),
 zg 82 78 (.bin .leq (.t 81) (zi 8)),
 zp 83 78 82,
 zm 84 83,
 zg 85 84 (.fad 2 (.t 2)),
 zg 86 84 (.ld false 1 (.t 85)),
 zg 87 84 (.len (.t 86)),
 zM 88 84 5,
 zM 89 84 8,
 zg 90 84 (.bin .sub (.t 88) (.t 89)),
 zg 91 84 (.bin .eql (.t 87) (.t 90)),
 zp 92 84 91,
 zm 93 92,
 zg 94 93 (.fad 2 (.t 2)),
 zg 95 93 (.ld false 1 (.t 94)),
 zg 96 93 (.call n_ref08_all [(.t 95),(zi 1048576)]),
 zp 97 93 96,
 zm 98 97,
 zg 99 98 (.fad 3 (.t 2)),
 zg 100 98 (.ld false 1 (.t 99)),
 zg 101 98 (.bin .geq (.t 100) (zi 0)),
 zp 102 98 101,
 zm 103 102,
 zg 104 103 (.fad 3 (.t 2)),
 zg 105 103 (.ld false 1 (.t 104)),
 zg 106 103 (.bin .leq (.t 105) (zi 5)),
 zp 107 103 106,
 zm 108 107,
 zg 109 108 (.fad 4 (.t 2)),
 zg 110 108 (.ld false 1 (.t 109)),
 zg 111 108 (.bsf (.int .i64 0) 1 [(0,(.t 110))]),
 zg 112 108 (.call n_ref08_all [(.t 111),(zi 1099511627776)]),
 zp 113 108 112,
 zm 114 113,
 zg 115 114 (.fad 5 (.t 2)),
 zg 116 114 (.ld false 1 (.t 115)),
 zg 117 114 (.len (.t 116)),
 zg 118 114 (.bin .eql (.t 117) (zi 0)),
 zp 119 114 118,
 zm 4 119] [4])
 (.ret)))) (.skip)))
 (.seq (.seq (zr [zn 120 (.fad 2 (.t 2)),
 zl 121 1 120,
 zn 122 (.len (.t 121)),
 zn 123 (.bin .gtr (.t 122) (zi 0)),
 zm 124 123,
 zf 125 124 (.fad 3 (.t 2)),
 zf 126 124 (.ld false 1 (.t 125)),
 zf 127 124 (.bin .neq (.t 126) (zi 0)),
 zq 128 124 127,
 zm 129 128,
 zf 130 129 (.fad 4 (.t 2)),
 zf 131 129 (.ld false 1 (.t 130)),
 zf 132 129 (.bin .neq (.t 131) (zi 0)),
 zq 133 129 132,
 zm 134 133,
 zf 135 134 (.fad 5 (.t 2)),
 zf 136 134 (.ld false 1 (.t 135)),
 zf 137 134 (.call n_ref08_all [(.t 136),(zi 1048576)]),
 zf 138 134 (.un .not (.t 137)),
 zq 139 134 138,
 zm 140 139,
 zf 141 140 (.fad 5 (.t 2)),
 zf 142 140 (.ld false 1 (.t 141)),
 zf 143 140 (.len (.t 142)),
 zf 144 140 (.bin .gtr (.t 143) (zi 96)),
 zq 145 140 144] [2,5,145])
 (.cond (.t 145) (.seq (zr [zn 4 (.mov (zb false))] [4])
 (.ret)) (.skip)))
 (.seq (.seq (zr [zn 146 (.fad 0 (.t 2)),
 zl 147 1 146] [2,5,147])
 (.blk 6 (.seq (zr [zn 149 (.bin .eql (.t 147) (zi 2)),
 zm 148 149] [2,5,147,148])
 (.cond (.t 148) (.seq (zr [zm 150 5,
 zn 151 (.bin .eql (.t 150) (zi 3)),
 zm 152 151,
 zg 153 152 (.fad 5 (.t 2)),
 zg 154 152 (.ld false 1 (.t 153)),
 zg 155 152 (.len (.t 154)),
 zg 156 152 (.bin .eql (.t 155) (zi 0)),
 zp 157 152 156,
 zm 4 157] [4])
 (.ret)) (.seq (zr [zn 159 (.bin .eql (.t 147) (zi 4)),
 zm 158 159] [2,5,147,158])
 (.cond (.t 158) (.seq (zr [zm 160 5,
 zn 161 (.bin .eql (.t 160) (zi 2)),
 zm 162 161,
 zg 163 162 (.fad 5 (.t 2)),
 zg 164 162 (.ld false 1 (.t 163)),
 zg 165 162 (.len (.t 164)),
 zg 166 162 (.bin .geq (.t 165) (zi 1)),
 zp 167 162 166,
 zm 4 167] [4])
 (.ret)) (.seq (zr [zn 169 (.bin .eql (.t 147) (zi 5)),
 zm 168 169] [2,5,147,168])
 (.cond (.t 168) (.seq (zr [zm 170 5,
 zn 171 (.bin .geq (.t 170) (zi 2)),
 zm 172 171,
 zM 173 172 5,
 zg 174 172 (.bin .leq (.t 173) (zi 8)),
 zp 175 172 174,
 zm 176 175,
 zg 177 176 (.fad 5 (.t 2)),
 zg 178 176 (.ld false 1 (.t 177)),
 zg 179 176 (.len (.t 178)),
 zg 180 176 (.bin .eql (.t 179) (zi 0)),
 zp 181 176 180,
 zm 4 181] [4])
 (.ret)) (.seq (zr [zn 183 (.bin .eql (.t 147) (zi 6)),
 zm 182 183] [2,5,182])
 (.cond (.t 182) (.seq (zr [zm 184 5,
 zn 185 (.bin .geq (.t 184) (zi 1)),
 zm 186 185,
 zM 187 186 5,
 zg 188 186 (.bin .leq (.t 187) (zi 8)),
 zp 189 186 188,
 zm 190 189,
 zg 191 190 (.fad 5 (.t 2)),
 zg 192 190 (.ld false 1 (.t 191)),
 zg 193 190 (.len (.t 192)),
 zM 194 190 5,
 zg 195 190 (.bin .rem (.t 193) (.t 194)),
 zg 196 190 (.bin .eql (.t 195) (zi 0)),
 zp 197 190 196,
 zm 4 197] [4])
 (.ret)) (.skip)))))))))))
 (.seq (zr [zn 4 (.mov (zb false))] [4])
 (.ret)))))))
def F_ref08_Right:F:=⟨i_ref08_Right,[(4,none)],false⟩
def i_ref04_Same:IR:=.seq (zr [zn 2 (.box (.t 0)),
 zn 3 (.box (.t 1)),
 zn 4 (.mov (zb false))] [2,3])
 (.seq (zr [zn 5 (.fad 1 (.t 2)),
 zl 6 1 5,
 zn 7 (.fad 1 (.t 3)),
 zl 8 1 7,
 zn 9 (.bin .eql (.t 6) (.t 8)),
 zm 10 9,
 zg 11 10 (.fad 0 (.t 2)),
 zg 12 10 (.ld false 1 (.t 11)),
 zg 13 10 (.fad 0 (.t 3)),
 zg 14 10 (.ld false 1 (.t 13)),
 zg 15 10 (.call n_ref02_Same [(.t 12),(.t 14)]),
 zp 16 10 15,
 zm 4 16] [4])
 (.ret))
def F_ref04_Same:F:=⟨i_ref04_Same,[(4,none)],false⟩
def b_linear_Step_0:IR:=.seq (zr [zn 31 (.bin .lss (.t 30) (.t 29))] [2,3,6,28,29,30,31])
 (.seq (.cond (.t 31) (.skip) (.ext 0))
 (.seq (.blk 1 (.seq (zr [zn 32 (.iad 2 (.t 28) (.t 30)),
 zL 33 2 32,
 zn 8 (.new (.agg [.nsl 1,.int .u64 0])),
 ⟨none,none,.st 2 (.t 8) (.t 33)⟩] [2,3,6,8,28,29,30])
 (.dq [(zm 34 6,[]),
 (zn 35 (.fad 0 (.t 8)),[]),
 (zl 36 1 35,[1]),
 (zn 37 (.call n_slices_Clone_sint_int [(.t 36)]),[1,2]),
 (zn 38 (.fad 1 (.t 8)),[]),
 (zl 39 1 38,[4]),
 (zn 40 (.bld [.nsl 1,.int .u64 0] [(0,1,(.t 37)),(1,1,(.t 39))]),[1,2,3,4,5]),
 (zn 41 (.bsf (.agg [.nsl 1,.int .u64 0]) 1 [(0,(.t 40))]),[1,2,3,4,5,6]),
 (zn 42 (.app 2 32 (.t 34) (.t 41)),[0,1,2,3,4,5,6,7]),
 (zm 6 42,[0,1,2,3,4,5,6,7,8])] (some [2,3,6,28,29,30]))))
 (zr [zn 43 (.bin .add (.t 30) (zi 1)),
 zm 30 43] [2,3,6,28,29,30])))
def i_linear_Step_l0:IR:=.loop b_linear_Step_0
theorem r_linear_Step_0 {C:Cx} {Y:Yl} {fr:Fr} {h:List Ob}:evw C Y i_linear_Step_l0 fr h=nxt (evw C Y b_linear_Step_0 fr h) fun fr h=>evw C Y i_linear_Step_l0 fr h:=w_loop
def i_linear_Step:IR:=.seq (zr [zn 2 (.box (.t 0)),
 zn 3 (.box (.t 1)),
 zn 4 (.mov (.c (.nsl 2))),
 zn 5 (.mov (zi 0))] [2,3])
 (.seq (.seq (zr [zn 9 (.fad 0 (.t 2)),
 zl 10 1 9,
 zn 11 (.bin .neq (.t 10) (zi 1)),
 zm 12 11,
 zg 13 12 (.fad 0 (.t 2)),
 zg 14 12 (.ld false 1 (.t 13)),
 zg 15 12 (.bin .neq (.t 14) (zi 3)),
 zp 16 12 15,
 zm 17 16,
 zf 18 17 (.ld true 6 (.t 2)),
 zf 19 17 (.ld false 1 (.t 3)),
 zf 20 17 (.len (.t 19)),
 zf 21 17 (.call n_model_Right [(.t 18),(.t 20)]),
 zf 22 17 (.un .not (.t 21)),
 zq 23 17 22,
 zm 24 23,
 zf 25 24 (.ld false 1 (.t 3)),
 zf 26 24 (.call n_slices_ContainsFunc_sdom_Dom_dom_Dom [(.t 25),(.c (.fn (.func n_linear_Step_1) [] []))]),
 zq 27 24 26] [2,3,27])
 (.cond (.t 27) (.seq (zr [zn 4 (.mov (.c (.nsl 2))),
 zn 5 (.mov (zi 1))] [4,5])
 (.ret)) (.skip)))
 (.seq (zr [zn 6 (.mov (.c (.nsl 2)))] [2,3,6])
 (.seq (.seq (zr [zl 28 1 3,
 zn 29 (.len (.t 28)),
 zn 30 (.mov (zi 0))] [2,3,6,28,29,30])
 (.blk 0 (i_linear_Step_l0)))
 (.seq (.blk 2 (.seq (zr [zn 49 (.fad 1 (.t 2)),
 zl 50 1 49,
 zn 51 (.mkf (.func n_linear_Step_2) [] [(.t 3)]),
 zn 52 (.call n_slices_ContainsFunc_sint_int [(.t 50),(.t 51)]),
 zm 48 52] [2,3,6,48])
 (.cond (.t 48) (zr [zL 53 6 2,
 zm 54 6,
 zn 55 (.call n_linear_none [(.t 53),(.t 54)])] [6]) (.seq (zr [zn 57 (.fad 0 (.t 2)),
 zl 58 1 57,
 zn 59 (.bin .eql (.t 58) (zi 1)),
 zm 56 59] [2,3,6,56])
 (.cond (.t 56) (zr [zL 60 6 2,
 zn 61 (.fad 1 (.t 2)),
 zl 62 1 61,
 zn 63 (.fad 3 (.t 2)),
 zl 64 1 63,
 zl 65 1 3,
 zm 66 6,
 zn 67 (.call n_linear_sum [(.t 60),(.t 62),(.t 64),(.t 65),(.t 66)])] [6]) (zr [zL 44 6 2,
 zl 45 1 3,
 zm 46 6,
 zn 47 (.call n_linear_iff [(.t 44),(.t 45),(.t 46)])] [6]))))))
 (.seq (zr [zm 68 6,
 zm 4 68,
 zn 5 (.mov (zi 0))] [4,5])
 (.ret))))))
def F_linear_Step:F:=⟨i_linear_Step,[(4,none),(5,none)],false⟩
def b_product_Step_0:IR:=.seq (zr [zn 32 (.bin .lss (.t 31) (.t 30))] [1,2,6,29,30,31,32])
 (.seq (.cond (.t 32) (.skip) (.ext 0))
 (.seq (.blk 1 (.seq (zr [zn 33 (.iad 2 (.t 29) (.t 31)),
 zL 34 2 33,
 zn 8 (.new (.agg [.nsl 1,.int .u64 0])),
 ⟨none,none,.st 2 (.t 8) (.t 34)⟩] [1,2,6,8,29,30,31])
 (.dq [(zm 35 6,[]),
 (zn 36 (.fad 0 (.t 8)),[]),
 (zl 37 1 36,[1]),
 (zn 38 (.call n_slices_Clone_sint_int [(.t 37)]),[1,2]),
 (zn 39 (.fad 1 (.t 8)),[]),
 (zl 40 1 39,[4]),
 (zn 41 (.bld [.nsl 1,.int .u64 0] [(0,1,(.t 38)),(1,1,(.t 40))]),[1,2,3,4,5]),
 (zn 42 (.bsf (.agg [.nsl 1,.int .u64 0]) 1 [(0,(.t 41))]),[1,2,3,4,5,6]),
 (zn 43 (.app 2 32 (.t 35) (.t 42)),[0,1,2,3,4,5,6,7]),
 (zm 6 43,[0,1,2,3,4,5,6,7,8])] (some [1,2,6,29,30,31]))))
 (zr [zn 44 (.bin .add (.t 31) (zi 1)),
 zm 31 44] [1,2,6,29,30,31])))
def i_product_Step_l0:IR:=.loop b_product_Step_0
theorem r_product_Step_0 {C:Cx} {Y:Yl} {fr:Fr} {h:List Ob}:evw C Y i_product_Step_l0 fr h=nxt (evw C Y b_product_Step_0 fr h) fun fr h=>evw C Y i_product_Step_l0 fr h:=w_loop
def b_product_Step_1:IR:=.seq (zr [zn 83 (.bin .lss (.t 82) (.t 81))] [1,6,10,11,12,69,70,71,80,81,82,83])
 (.seq (.cond (.t 83) (.skip) (.ext 4))
 (.seq (.blk 5 (.seq (zr [zn 84 (.iad 1 (.t 80) (.t 82)),
 zl 85 1 84,
 zm 14 85] [1,6,10,11,12,14,69,70,71,80,81,82])
 (.seq (zr [zm 86 11,
 zn 87 (.op (.iaa 3 1) [(.t 10),(.t 86)]),
 zl 88 1 87,
 zm 89 14,
 zn 90 (.op (.lku (some .i64) (.int .i64 0) false) [(.t 88),(.t 89)]),
 zn 91 (.bin .eql (.t 90) (zi 0))] [1,6,10,11,12,14,69,70,71,80,81,82,91])
 (.cond (.t 91) (zr [zm 92 6,
 zm 93 12,
 zm 94 6,
 zm 95 12,
 zn 96 (.iad 2 (.t 94) (.t 95)),
 zL 97 2 96,
 zm 98 14,
 zn 99 (.call n_dom_Less [(.t 97),(.t 98)]),
 zn 100 (.iad 2 (.t 92) (.t 93)),
 ⟨none,none,.st 2 (.t 100) (.t 99)⟩] [1,6,10,11,12,69,70,71,80,81,82]) (.skip)))))
 (zr [zn 101 (.bin .add (.t 82) (zi 1)),
 zm 82 101] [1,6,10,11,12,69,70,71,80,81,82])))
def i_product_Step_l1:IR:=.loop b_product_Step_1
theorem r_product_Step_1 {C:Cx} {Y:Yl} {fr:Fr} {h:List Ob}:evw C Y i_product_Step_l1 fr h=nxt (evw C Y b_product_Step_1 fr h) fun fr h=>evw C Y i_product_Step_l1 fr h:=w_loop
def b_product_Step_2:IR:=.seq (zr [zn 72 (.bin .lss (.t 71) (.t 70))] [1,6,10,69,70,71,72])
 (.seq (.cond (.t 72) (.skip) (.ext 2))
 (.seq (.blk 3 (.seq (zr [zm 73 71,
 zn 74 (.iad 1 (.t 69) (.t 71)),
 zl 75 1 74,
 zm 11 73,
 zm 12 75] [1,6,10,11,12,69,70,71])
 (.seq (zr [zm 76 1,
 zm 77 12,
 zn 78 (.iad 2 (.t 76) (.t 77)),
 zL 79 2 78,
 zn 80 (.call n_dom_List [(.t 79)]),
 zn 81 (.len (.t 80)),
 zn 82 (.mov (zi 0))] [1,6,10,11,12,69,70,71,80,81,82])
 (.blk 4 (i_product_Step_l1)))))
 (zr [zn 102 (.bin .add (.t 71) (zi 1)),
 zm 71 102] [1,6,10,69,70,71])))
def i_product_Step_l2:IR:=.loop b_product_Step_2
theorem r_product_Step_2 {C:Cx} {Y:Yl} {fr:Fr} {h:List Ob}:evw C Y i_product_Step_l2 fr h=nxt (evw C Y b_product_Step_2 fr h) fun fr h=>evw C Y i_product_Step_l2 fr h:=w_loop
def i_product_Step:IR:=.seq (zr [zn 2 (.box (.t 0)),
 zn 4 (.mov (.c (.nsl 2))),
 zn 5 (.mov (zi 0))] [1,2])
 (.seq (.seq (zr [zn 15 (.fad 0 (.t 2)),
 zl 16 1 15,
 zn 17 (.bin .neq (.t 16) (zi 2)),
 zm 18 17,
 zf 19 18 (.ld true 6 (.t 2)),
 zF 20 18 1,
 zf 21 18 (.len (.t 20)),
 zf 22 18 (.call n_model_Right [(.t 19),(.t 21)]),
 zf 23 18 (.un .not (.t 22)),
 zq 24 18 23,
 zm 25 24,
 zF 26 25 1,
 zf 27 25 (.call n_slices_ContainsFunc_sdom_Dom_dom_Dom [(.t 26),(.c (.fn (.func n_product_Step_1) [] []))]),
 zq 28 25 27] [1,2,28])
 (.cond (.t 28) (.seq (zr [zn 4 (.mov (.c (.nsl 2))),
 zn 5 (.mov (zi 1))] [4,5])
 (.ret)) (.skip)))
 (.seq (zr [zn 6 (.mov (.c (.nsl 2)))] [1,2,6])
 (.seq (.seq (zr [zm 29 1,
 zn 30 (.len (.t 29)),
 zn 31 (.mov (zi 0))] [1,2,6,29,30,31])
 (.blk 0 (i_product_Step_l0)))
 (.seq (zr [zn 45 (.fad 1 (.t 2)),
 zl 46 1 45,
 zm 9 46] [1,6,9])
 (.seq (.df [(zm 47 1,[],false),
 (zm 48 9,[],false),
 (zn 49 (.iad 1 (.t 48) (zi 0)),[1],false),
 (zl 50 1 49,[1,2],false),
 (zn 51 (.iad 2 (.t 47) (.t 50)),[0,1,2,3],false),
 (zL 52 2 51,[0,1,2,3,4],false),
 (zn 53 (.call n_dom_List [(.t 52)]),[0,1,2,3,4,5],false),
 (zm 54 1,[],false),
 (zm 55 9,[],false),
 (zn 56 (.iad 1 (.t 55) (zi 1)),[8],false),
 (zl 57 1 56,[8,9],false),
 (zn 58 (.iad 2 (.t 54) (.t 57)),[7,8,9,10],false),
 (zL 59 2 58,[7,8,9,10,11],false),
 (zn 60 (.call n_dom_List [(.t 59)]),[0,1,2,3,4,5,6,7,8,9,10,11,12],false),
 (zm 61 1,[],false),
 (zm 62 9,[],false),
 (zn 63 (.iad 1 (.t 62) (zi 2)),[15],false),
 (zl 64 1 63,[15,16],false),
 (zn 65 (.iad 2 (.t 61) (.t 64)),[14,15,16,17],false),
 (zL 66 2 65,[14,15,16,17,18],false),
 (zn 67 (.call n_dom_List [(.t 66)]),[0,1,2,3,4,5,6,7,8,9,10,11,12,13,14,15,16,17,18,19],false),
 (zn 68 (.call n_product_try [(.t 53),(.t 60),(.t 67)]),[0,1,2,3,4,5,6,7,8,9,10,11,12,13,14,15,16,17,18,19,20],true)] 10 (.agg [.nmp,.nmp,.nmp]) 3 (.t 68) [0,1,2,3,4,5,6,7,8,9,10,11,12,13,14,15,16,17,18,19,20,21,22] (some [1,6,9,10]))
 (.seq (.seq (zr [zm 69 9,
 zn 70 (.len (.t 69)),
 zn 71 (.mov (zi 0))] [1,6,10,69,70,71])
 (.blk 2 (i_product_Step_l2)))
 (.seq (zr [zm 103 6,
 zm 4 103,
 zn 5 (.mov (zi 0))] [4,5])
 (.ret))))))))
def F_product_Step:F:=⟨i_product_Step,[(4,none),(5,none)],false⟩
def b_element_Step_0:IR:=.seq (zr [zn 29 (.bin .lss (.t 28) (.t 27))] [2,3,6,26,27,28,29])
 (.seq (.cond (.t 29) (.skip) (.ext 0))
 (.seq (.blk 1 (.seq (zr [zn 30 (.iad 2 (.t 26) (.t 28)),
 zL 31 2 30,
 zn 8 (.new (.agg [.nsl 1,.int .u64 0])),
 ⟨none,none,.st 2 (.t 8) (.t 31)⟩] [2,3,6,8,26,27,28])
 (.dq [(zm 32 6,[]),
 (zn 33 (.fad 0 (.t 8)),[]),
 (zl 34 1 33,[1]),
 (zn 35 (.call n_slices_Clone_sint_int [(.t 34)]),[1,2]),
 (zn 36 (.fad 1 (.t 8)),[]),
 (zl 37 1 36,[4]),
 (zn 38 (.bld [.nsl 1,.int .u64 0] [(0,1,(.t 35)),(1,1,(.t 37))]),[1,2,3,4,5]),
 (zn 39 (.bsf (.agg [.nsl 1,.int .u64 0]) 1 [(0,(.t 38))]),[1,2,3,4,5,6]),
 (zn 40 (.app 2 32 (.t 32) (.t 39)),[0,1,2,3,4,5,6,7]),
 (zm 6 40,[0,1,2,3,4,5,6,7,8])] (some [2,3,6,26,27,28]))))
 (zr [zn 41 (.bin .add (.t 28) (zi 1)),
 zm 28 41] [2,3,6,26,27,28])))
def i_element_Step_l0:IR:=.loop b_element_Step_0
theorem r_element_Step_0 {C:Cx} {Y:Yl} {fr:Fr} {h:List Ob}:evw C Y i_element_Step_l0 fr h=nxt (evw C Y b_element_Step_0 fr h) fun fr h=>evw C Y i_element_Step_l0 fr h:=w_loop
def i_element_Step:IR:=.seq (zr [zn 2 (.box (.t 0)),
 zn 3 (.box (.t 1)),
 zn 4 (.mov (.c (.nsl 2))),
 zn 5 (.mov (zi 0))] [2,3])
 (.seq (.seq (zr [zn 12 (.fad 0 (.t 2)),
 zl 13 1 12,
 zn 14 (.bin .neq (.t 13) (zi 4)),
 zm 15 14,
 zf 16 15 (.ld true 6 (.t 2)),
 zf 17 15 (.ld false 1 (.t 3)),
 zf 18 15 (.len (.t 17)),
 zf 19 15 (.call n_model_Right [(.t 16),(.t 18)]),
 zf 20 15 (.un .not (.t 19)),
 zq 21 15 20,
 zm 22 21,
 zf 23 22 (.ld false 1 (.t 3)),
 zf 24 22 (.call n_slices_ContainsFunc_sdom_Dom_dom_Dom [(.t 23),(.c (.fn (.func n_element_Step_1) [] []))]),
 zq 25 22 24] [2,3,25])
 (.cond (.t 25) (.seq (zr [zn 4 (.mov (.c (.nsl 2))),
 zn 5 (.mov (zi 1))] [4,5])
 (.ret)) (.skip)))
 (.seq (zr [zn 6 (.mov (.c (.nsl 2)))] [2,3,6])
 (.seq (.seq (zr [zl 26 1 3,
 zn 27 (.len (.t 26)),
 zn 28 (.mov (zi 0))] [2,3,6,26,27,28])
 (.blk 0 (i_element_Step_l0)))
 (.seq (.dc [(zn 42 (.fad 1 (.t 2)),[],false),
 (zl 43 1 42,[0],false),
 (zn 44 (.iad 1 (.t 43) (zi 0)),[0,1],false),
 (zl 45 1 44,[0,1,2],false),
 (zn 46 (.fad 1 (.t 2)),[],false),
 (zl 47 1 46,[4],false),
 (zn 48 (.iad 1 (.t 47) (zi 1)),[4,5],false),
 (zl 49 1 48,[4,5,6],false),
 (zn 10 (.new (.int .i64 0)),[],true),
 (zm 9 45,[0,1,2,3,8],false),
 (⟨none,none,.st 1 (.t 10) (.t 49)⟩,[0,1,2,3,4,5,6,7,8,9],true)] (some [2,3,6,9,10]))
 (.seq (zr [zn 50 (.op .mkm []),
 zn 11 (.new (.nmp)),
 ⟨none,none,.st 1 (.t 11) (.t 50)⟩] [2,3,6,9,10,11])
 (.seq (zr [zm 51 6,
 zm 52 9,
 zm 53 6,
 zm 54 9,
 zn 55 (.iad 2 (.t 53) (.t 54)),
 zL 56 2 55,
 zn 57 (.mkf (.func n_element_Step_2) [] [(.t 2),(.t 3),(.t 10),(.t 11)]),
 zn 58 (.call n_element_kept [(.t 56),(.t 57)]),
 zn 59 (.iad 2 (.t 51) (.t 52)),
 ⟨none,none,.st 2 (.t 59) (.t 58)⟩] [6,10,11])
 (.seq (.dc [(zm 60 6,[],false),
 (zl 61 1 10,[],false),
 (zm 62 6,[],false),
 (zl 63 1 10,[],false),
 (zn 64 (.iad 2 (.t 62) (.t 63)),[2,3],false),
 (zL 65 2 64,[2,3,4],false),
 (zn 66 (.mkf (.func n_element_Step_3) [] [(.t 11)]),[],false),
 (zn 67 (.call n_element_kept [(.t 65),(.t 66)]),[2,3,4,5,6],true),
 (zn 68 (.iad 2 (.t 60) (.t 61)),[0,1,2,3,4,5,6,7],false),
 (⟨none,none,.st 2 (.t 68) (.t 67)⟩,[0,1,2,3,4,5,6,7,8],true)] (some [6]))
 (.seq (zr [zm 69 6,
 zm 4 69,
 zn 5 (.mov (zi 0))] [4,5])
 (.ret)))))))))
def F_element_Step:F:=⟨i_element_Step,[(4,none),(5,none)],false⟩
def b_differ_Step_0:IR:=.seq (zr [zn 29 (.bin .lss (.t 28) (.t 27))] [2,3,6,26,27,28,29])
 (.seq (.cond (.t 29) (.skip) (.ext 0))
 (.seq (.blk 1 (.seq (zr [zn 30 (.iad 2 (.t 26) (.t 28)),
 zL 31 2 30,
 zn 8 (.new (.agg [.nsl 1,.int .u64 0])),
 ⟨none,none,.st 2 (.t 8) (.t 31)⟩] [2,3,6,8,26,27,28])
 (.dq [(zm 32 6,[]),
 (zn 33 (.fad 0 (.t 8)),[]),
 (zl 34 1 33,[1]),
 (zn 35 (.call n_slices_Clone_sint_int [(.t 34)]),[1,2]),
 (zn 36 (.fad 1 (.t 8)),[]),
 (zl 37 1 36,[4]),
 (zn 38 (.bld [.nsl 1,.int .u64 0] [(0,1,(.t 35)),(1,1,(.t 37))]),[1,2,3,4,5]),
 (zn 39 (.bsf (.agg [.nsl 1,.int .u64 0]) 1 [(0,(.t 38))]),[1,2,3,4,5,6]),
 (zn 40 (.app 2 32 (.t 32) (.t 39)),[0,1,2,3,4,5,6,7]),
 (zm 6 40,[0,1,2,3,4,5,6,7,8])] (some [2,3,6,26,27,28]))))
 (zr [zn 41 (.bin .add (.t 28) (zi 1)),
 zm 28 41] [2,3,6,26,27,28])))
def i_differ_Step_l0:IR:=.loop b_differ_Step_0
theorem r_differ_Step_0 {C:Cx} {Y:Yl} {fr:Fr} {h:List Ob}:evw C Y i_differ_Step_l0 fr h=nxt (evw C Y b_differ_Step_0 fr h) fun fr h=>evw C Y i_differ_Step_l0 fr h:=w_loop
def b_differ_Step_1:IR:=.seq (zr [zn 49 (.bin .lss (.t 48) (.t 47))] [2,3,6,9,46,47,48,49])
 (.seq (.cond (.t 49) (.skip) (.ext 2))
 (.seq (.blk 3 (.seq (zr [zn 50 (.iad 1 (.t 46) (.t 48)),
 zl 51 1 50,
 zn 11 (.new (.int .i64 0)),
 ⟨none,none,.st 1 (.t 11) (.t 51)⟩] [2,3,6,9,11,46,47,48])
 (.dc [(zm 52 6,[],false),
 (zl 53 1 11,[],false),
 (zm 54 6,[],false),
 (zl 55 1 11,[],false),
 (zn 56 (.iad 2 (.t 54) (.t 55)),[2,3],false),
 (zL 57 2 56,[2,3,4],false),
 (zn 58 (.mkf (.func n_differ_Step_2) [] [(.t 9),(.t 2),(.t 3),(.t 11)]),[],false),
 (zn 59 (.call n_differ_kept [(.t 57),(.t 58)]),[2,3,4,5,6],true),
 (zn 60 (.iad 2 (.t 52) (.t 53)),[0,1,2,3,4,5,6,7],false),
 (⟨none,none,.st 2 (.t 60) (.t 59)⟩,[0,1,2,3,4,5,6,7,8],true)] (some [2,3,6,9,46,47,48]))))
 (zr [zn 61 (.bin .add (.t 48) (zi 1)),
 zm 48 61] [2,3,6,9,46,47,48])))
def i_differ_Step_l1:IR:=.loop b_differ_Step_1
theorem r_differ_Step_1 {C:Cx} {Y:Yl} {fr:Fr} {h:List Ob}:evw C Y i_differ_Step_l1 fr h=nxt (evw C Y b_differ_Step_1 fr h) fun fr h=>evw C Y i_differ_Step_l1 fr h:=w_loop
def i_differ_Step:IR:=.seq (zr [zn 2 (.box (.t 0)),
 zn 3 (.box (.t 1)),
 zn 4 (.mov (.c (.nsl 2))),
 zn 5 (.mov (zi 0))] [2,3])
 (.seq (.seq (zr [zn 12 (.fad 0 (.t 2)),
 zl 13 1 12,
 zn 14 (.bin .neq (.t 13) (zi 5)),
 zm 15 14,
 zf 16 15 (.ld true 6 (.t 2)),
 zf 17 15 (.ld false 1 (.t 3)),
 zf 18 15 (.len (.t 17)),
 zf 19 15 (.call n_model_Right [(.t 16),(.t 18)]),
 zf 20 15 (.un .not (.t 19)),
 zq 21 15 20,
 zm 22 21,
 zf 23 22 (.ld false 1 (.t 3)),
 zf 24 22 (.call n_slices_ContainsFunc_sdom_Dom_dom_Dom [(.t 23),(.c (.fn (.func n_differ_Step_1) [] []))]),
 zq 25 22 24] [2,3,25])
 (.cond (.t 25) (.seq (zr [zn 4 (.mov (.c (.nsl 2))),
 zn 5 (.mov (zi 1))] [4,5])
 (.ret)) (.skip)))
 (.seq (zr [zn 6 (.mov (.c (.nsl 2)))] [2,3,6])
 (.seq (.seq (zr [zl 26 1 3,
 zn 27 (.len (.t 26)),
 zn 28 (.mov (zi 0))] [2,3,6,26,27,28])
 (.blk 0 (i_differ_Step_l0)))
 (.seq (zr [zL 42 6 2,
 zl 43 1 3,
 zn 44 (.call n_differ_few [(.t 42),(.t 43)]),
 zn 9 (.new (.bool false)),
 ⟨none,none,.st 1 (.t 9) (.t 44)⟩] [2,3,6,9])
 (.seq (.seq (zr [zn 45 (.fad 1 (.t 2)),
 zl 46 1 45,
 zn 47 (.len (.t 46)),
 zn 48 (.mov (zi 0))] [2,3,6,9,46,47,48])
 (.blk 2 (i_differ_Step_l1)))
 (.seq (zr [zm 62 6,
 zm 4 62,
 zn 5 (.mov (zi 0))] [4,5])
 (.ret)))))))
def F_differ_Step:F:=⟨i_differ_Step,[(4,none),(5,none)],false⟩
def b_table_Step_0:IR:=.seq (zr [zn 31 (.bin .lss (.t 30) (.t 29))] [1,2,6,28,29,30,31])
 (.seq (.cond (.t 31) (.skip) (.ext 0))
 (.seq (.blk 1 (.seq (zr [zn 32 (.iad 2 (.t 28) (.t 30)),
 zL 33 2 32,
 zn 8 (.new (.agg [.nsl 1,.int .u64 0])),
 ⟨none,none,.st 2 (.t 8) (.t 33)⟩] [1,2,6,8,28,29,30])
 (.dq [(zm 34 6,[]),
 (zn 35 (.fad 0 (.t 8)),[]),
 (zl 36 1 35,[1]),
 (zn 37 (.call n_slices_Clone_sint_int [(.t 36)]),[1,2]),
 (zn 38 (.fad 1 (.t 8)),[]),
 (zl 39 1 38,[4]),
 (zn 40 (.bld [.nsl 1,.int .u64 0] [(0,1,(.t 37)),(1,1,(.t 39))]),[1,2,3,4,5]),
 (zn 41 (.bsf (.agg [.nsl 1,.int .u64 0]) 1 [(0,(.t 40))]),[1,2,3,4,5,6]),
 (zn 42 (.app 2 32 (.t 34) (.t 41)),[0,1,2,3,4,5,6,7]),
 (zm 6 42,[0,1,2,3,4,5,6,7,8])] (some [1,2,6,28,29,30]))))
 (zr [zn 43 (.bin .add (.t 30) (zi 1)),
 zm 30 43] [1,2,6,28,29,30])))
def i_table_Step_l0:IR:=.loop b_table_Step_0
theorem r_table_Step_0 {C:Cx} {Y:Yl} {fr:Fr} {h:List Ob}:evw C Y i_table_Step_l0 fr h=nxt (evw C Y b_table_Step_0 fr h) fun fr h=>evw C Y i_table_Step_l0 fr h:=w_loop
def b_table_Step_1:IR:=.seq (zr [zn 62 (.bin .lss (.t 61) (.t 60))] [1,6,9,10,11,48,49,50,59,60,61,62])
 (.seq (.cond (.t 62) (.skip) (.ext 4))
 (.seq (.blk 5 (.seq (zr [zn 63 (.iad 1 (.t 59) (.t 61)),
 zl 64 1 63,
 zn 13 (.new (.int .i64 0)),
 ⟨none,none,.st 1 (.t 13) (.t 64)⟩] [1,6,9,10,11,13,48,49,50,59,60,61])
 (.seq (zr [zm 65 9,
 zn 66 (.mkf (.func n_table_Step_2) [] [(.t 10),(.t 13)]),
 zn 67 (.call n_slices_ContainsFunc_ssint_sint [(.t 65),(.t 66)]),
 zn 68 (.un .not (.t 67))] [1,6,9,10,11,13,48,49,50,59,60,61,68])
 (.cond (.t 68) (.dq [(zm 69 6,[]),
 (zm 70 11,[]),
 (zm 71 6,[]),
 (zm 72 11,[]),
 (zn 73 (.iad 2 (.t 71) (.t 72)),[2,3]),
 (zL 74 2 73,[2,3,4]),
 (zl 75 1 13,[]),
 (zn 76 (.call n_dom_Less [(.t 74),(.t 75)]),[2,3,4,5,6]),
 (zn 77 (.iad 2 (.t 69) (.t 70)),[0,1,2,3,4,5,6,7]),
 (⟨none,none,.st 2 (.t 77) (.t 76)⟩,[0,1,2,3,4,5,6,7,8])] (some [1,6,9,10,11,48,49,50,59,60,61])) (.skip)))))
 (zr [zn 78 (.bin .add (.t 61) (zi 1)),
 zm 61 78] [1,6,9,10,11,48,49,50,59,60,61])))
def i_table_Step_l1:IR:=.loop b_table_Step_1
theorem r_table_Step_1 {C:Cx} {Y:Yl} {fr:Fr} {h:List Ob}:evw C Y i_table_Step_l1 fr h=nxt (evw C Y b_table_Step_1 fr h) fun fr h=>evw C Y i_table_Step_l1 fr h:=w_loop
def b_table_Step_2:IR:=.seq (zr [zn 51 (.bin .lss (.t 50) (.t 49))] [1,6,9,48,49,50,51])
 (.seq (.cond (.t 51) (.skip) (.ext 2))
 (.seq (.blk 3 (.seq (zr [zm 52 50,
 zn 53 (.iad 1 (.t 48) (.t 50)),
 zl 54 1 53,
 zn 10 (.new (.int .i64 0)),
 ⟨none,none,.st 1 (.t 10) (.t 52)⟩,
 zm 11 54] [1,6,9,10,11,48,49,50])
 (.seq (zr [zm 55 1,
 zm 56 11,
 zn 57 (.iad 2 (.t 55) (.t 56)),
 zL 58 2 57,
 zn 59 (.call n_dom_List [(.t 58)]),
 zn 60 (.len (.t 59)),
 zn 61 (.mov (zi 0))] [1,6,9,10,11,48,49,50,59,60,61])
 (.blk 4 (i_table_Step_l1)))))
 (zr [zn 79 (.bin .add (.t 50) (zi 1)),
 zm 50 79] [1,6,9,48,49,50])))
def i_table_Step_l2:IR:=.loop b_table_Step_2
theorem r_table_Step_2 {C:Cx} {Y:Yl} {fr:Fr} {h:List Ob}:evw C Y i_table_Step_l2 fr h=nxt (evw C Y b_table_Step_2 fr h) fun fr h=>evw C Y i_table_Step_l2 fr h:=w_loop
def i_table_Step:IR:=.seq (zr [zn 2 (.box (.t 0)),
 zn 4 (.mov (.c (.nsl 2))),
 zn 5 (.mov (zi 0))] [1,2])
 (.seq (.seq (zr [zn 14 (.fad 0 (.t 2)),
 zl 15 1 14,
 zn 16 (.bin .neq (.t 15) (zi 6)),
 zm 17 16,
 zf 18 17 (.ld true 6 (.t 2)),
 zF 19 17 1,
 zf 20 17 (.len (.t 19)),
 zf 21 17 (.call n_model_Right [(.t 18),(.t 20)]),
 zf 22 17 (.un .not (.t 21)),
 zq 23 17 22,
 zm 24 23,
 zF 25 24 1,
 zf 26 24 (.call n_slices_ContainsFunc_sdom_Dom_dom_Dom [(.t 25),(.c (.fn (.func n_table_Step_1) [] []))]),
 zq 27 24 26] [1,2,27])
 (.cond (.t 27) (.seq (zr [zn 4 (.mov (.c (.nsl 2))),
 zn 5 (.mov (zi 1))] [4,5])
 (.ret)) (.skip)))
 (.seq (zr [zn 6 (.mov (.c (.nsl 2)))] [1,2,6])
 (.seq (.seq (zr [zm 28 1,
 zn 29 (.len (.t 28)),
 zn 30 (.mov (zi 0))] [1,2,6,28,29,30])
 (.blk 0 (i_table_Step_l0)))
 (.seq (zr [zL 44 6 2,
 zm 45 1,
 zn 46 (.call n_table_alive [(.t 44),(.t 45)]),
 zm 9 46] [1,2,6,9])
 (.seq (.seq (zr [zn 47 (.fad 1 (.t 2)),
 zl 48 1 47,
 zn 49 (.len (.t 48)),
 zn 50 (.mov (zi 0))] [1,6,9,48,49,50])
 (.blk 2 (i_table_Step_l2)))
 (.seq (zr [zm 80 6,
 zm 4 80,
 zn 5 (.mov (zi 0))] [4,5])
 (.ret)))))))
def F_table_Step:F:=⟨i_table_Step,[(4,none),(5,none)],false⟩
def i_dom_asked_int:IR:=.seq (zr [zn 2 (.box (.t 0)),
 zn 4 (.mov (zi 0))] [1,2])
 (.seq (zr [zn 5 (.mov (zi 0))] [1,2,5])
 (.seq (.seq (zr [zL 6 2 2,
 zn 7 (.call n_dom_May [(.t 6)]),
 zn 8 (.un .not (.t 7))] [1,2,5,8])
 (.cond (.t 8) (.seq (zr [zm 9 5,
 zm 4 9] [4])
 (.ret)) (.skip)))
 (.seq (zr [zm 10 1,
 zL 11 2 2,
 zn 12 (.callv (.t 10) [(.t 11)]),
 zm 4 12] [4])
 (.ret))))
def F_dom_asked_int:F:=⟨i_dom_asked_int,[(4,none)],false⟩
def i_dom_Size_1:IR:=.seq (zr [zn 1 (.box (.t 0)),
 zn 2 (.mov (zi 0))] [1])
 (.seq (zr [zn 3 (.fad 1 (.t 1)),
 zl 4 1 3,
 zn 5 (.call n_bits_Count [(.t 4)]),
 zm 2 5] [2])
 (.ret))
def F_dom_Size_1:F:=⟨i_dom_Size_1,[(2,none)],false⟩
def i_bits_Count:IR:=.seq (zr [zn 2 (.mov (zi 0))] [0])
 (.seq (zr [zm 3 0,
 zn 4 (.call n_math_bits_OnesCount64 [(.t 3)]),
 zm 2 4] [2])
 (.ret))
def F_bits_Count:F:=⟨i_bits_Count,[(2,none)],false⟩
def b_ref04_List_0:IR:=.seq (.seq (zr [zm 13 5,
 zn 14 (.fad 0 (.t 1)),
 zl 15 1 14,
 zn 16 (.len (.t 15)),
 zn 17 (.bin .lss (.t 13) (.t 16))] [1,3,4,5,17])
 (.cond (.t 17) (.skip) (.ext 0)))
 (.seq (.blk 1 (.seq (.seq (zr [zm 20 4,
 zn 21 (.bin .rem (.t 20) (.c (.int .u64 2))),
 zn 22 (.bin .eql (.t 21) (.c (.int .u64 1)))] [1,3,4,5,22])
 (.cond (.t 22) (zr [zm 23 3,
 zn 24 (.fad 0 (.t 1)),
 zl 25 1 24,
 zm 26 5,
 zn 27 (.iad 1 (.t 25) (.t 26)),
 zl 28 1 27,
 zn 29 (.bsf (.int .i64 0) 1 [(0,(.t 28))]),
 zn 30 (.app 1 8 (.t 23) (.t 29)),
 zm 3 30] [1,3,4,5]) (.skip)))
 (zr [zm 31 4,
 zn 32 (.bin .quo (.t 31) (.c (.int .u64 2))),
 zm 4 32] [1,3,4,5])))
 (zr [zm 18 5,
 zn 19 (.bin .add (.t 18) (zi 1)),
 zm 5 19] [1,3,4,5]))
def i_ref04_List_l0:IR:=.loop b_ref04_List_0
theorem r_ref04_List_0 {C:Cx} {Y:Yl} {fr:Fr} {h:List Ob}:evw C Y i_ref04_List_l0 fr h=nxt (evw C Y b_ref04_List_0 fr h) fun fr h=>evw C Y i_ref04_List_l0 fr h:=w_loop
def i_ref04_List:IR:=.seq (zr [zn 1 (.box (.t 0)),
 zn 2 (.mov (.c (.nsl 1)))] [1])
 (.seq (zr [zn 6 (.bsl (.int .i64 0) 0 []),
 zm 3 6] [1,3])
 (.seq (.seq (zr [zL 7 2 1,
 zn 8 (.call n_ref04_May [(.t 7)]),
 zn 9 (.un .not (.t 8))] [1,3,9])
 (.cond (.t 9) (.seq (zr [zm 10 3,
 zm 2 10] [2])
 (.ret)) (.skip)))
 (.seq (zr [zn 11 (.fad 1 (.t 1)),
 zl 12 1 11,
 zm 4 12] [1,3,4])
 (.seq (.seq (zr [zn 5 (.mov (zi 0))] [1,3,4,5])
 (.blk 0 (i_ref04_List_l0)))
 (.seq (zr [zm 33 3,
 zm 2 33] [2])
 (.ret))))))
def F_ref04_List:F:=⟨i_ref04_List,[(2,none)],false⟩
def b_ref11_Right_0:IR:=.seq (.seq (zr [zm 7 5,
 zm 8 1,
 zn 9 (.len (.t 8)),
 zn 10 (.bin .lss (.t 7) (.t 9))] [0,1,5,10])
 (.cond (.t 10) (.skip) (.ext 0)))
 (.seq (.blk 1 (.seq (zr [zm 13 1,
 zm 14 5,
 zn 15 (.iad 1 (.t 13) (.t 14)),
 zl 16 1 15,
 zn 17 (.bin .lss (.t 16) (zi (-1048576))),
 zm 18 17,
 zF 19 18 1,
 zF 20 18 5,
 zf 21 18 (.iad 1 (.t 19) (.t 20)),
 zf 22 18 (.ld false 1 (.t 21)),
 zf 23 18 (.bin .gtr (.t 22) (zi 1048576)),
 zq 24 18 23] [0,1,5,24])
 (.cond (.t 24) (.seq (zr [zn 4 (.mov (zb false))] [4])
 (.ret)) (.skip))))
 (zr [zm 11 5,
 zn 12 (.bin .add (.t 11) (zi 1)),
 zm 5 12] [0,1,5]))
def i_ref11_Right_l0:IR:=.loop b_ref11_Right_0
theorem r_ref11_Right_0 {C:Cx} {Y:Yl} {fr:Fr} {h:List Ob}:evw C Y i_ref11_Right_l0 fr h=nxt (evw C Y b_ref11_Right_0 fr h) fun fr h=>evw C Y i_ref11_Right_l0 fr h:=w_loop
def b_ref11_Right_1:IR:=.seq (.seq (zr [zm 25 6,
 zm 26 0,
 zn 27 (.len (.t 26)),
 zn 28 (.bin .lss (.t 25) (.t 27))] [0,1,6,28])
 (.cond (.t 28) (.skip) (.ext 2)))
 (.seq (.blk 3 (.seq (zr [zm 31 0,
 zm 32 6,
 zn 33 (.iad 6 (.t 31) (.t 32)),
 zL 34 6 33,
 zm 35 1,
 zn 36 (.len (.t 35)),
 zn 37 (.call n_ref08_Right [(.t 34),(.t 36)]),
 zn 38 (.un .not (.t 37))] [0,1,6,38])
 (.cond (.t 38) (.seq (zr [zn 4 (.mov (zb false))] [4])
 (.ret)) (.skip))))
 (zr [zm 29 6,
 zn 30 (.bin .add (.t 29) (zi 1)),
 zm 6 30] [0,1,6]))
def i_ref11_Right_l1:IR:=.loop b_ref11_Right_1
theorem r_ref11_Right_1 {C:Cx} {Y:Yl} {fr:Fr} {h:List Ob}:evw C Y i_ref11_Right_l1 fr h=nxt (evw C Y b_ref11_Right_1 fr h) fun fr h=>evw C Y i_ref11_Right_l1 fr h:=w_loop
def i_ref11_Right:IR:=.seq (zr [zn 4 (.mov (zb false))] [0,1])
 (.seq (.seq (zr [zn 5 (.mov (zi 0))] [0,1,5])
 (.blk 0 (i_ref11_Right_l0)))
 (.seq (.seq (zr [zn 6 (.mov (zi 0))] [0,1,6])
 (.blk 2 (i_ref11_Right_l1)))
 (.seq (zr [zn 4 (.mov (zb true))] [4])
 (.ret))))
def F_ref11_Right:F:=⟨i_ref11_Right,[(4,none)],false⟩
def b_ref11_Holds_0:IR:=.seq (.seq (zr [zm 14 6,
 zn 15 (.fad 1 (.t 2)),
 zl 16 1 15,
 zn 17 (.len (.t 16)),
 zn 18 (.bin .lss (.t 14) (.t 17))] [1,2,5,6,18])
 (.cond (.t 18) (.skip) (.ext 0)))
 (.seq (.blk 1 (zr [zm 21 5,
 zm 22 1,
 zn 23 (.fad 1 (.t 2)),
 zl 24 1 23,
 zm 25 6,
 zn 26 (.iad 1 (.t 24) (.t 25)),
 zl 27 1 26,
 zn 28 (.iad 1 (.t 22) (.t 27)),
 zl 29 1 28,
 zn 30 (.bsf (.int .i64 0) 1 [(0,(.t 29))]),
 zn 31 (.app 1 8 (.t 21) (.t 30)),
 zm 5 31] [1,2,5,6]))
 (zr [zm 19 6,
 zn 20 (.bin .add (.t 19) (zi 1)),
 zm 6 20] [1,2,5,6]))
def i_ref11_Holds_l0:IR:=.loop b_ref11_Holds_0
theorem r_ref11_Holds_0 {C:Cx} {Y:Yl} {fr:Fr} {h:List Ob}:evw C Y i_ref11_Holds_l0 fr h=nxt (evw C Y b_ref11_Holds_0 fr h) fun fr h=>evw C Y i_ref11_Holds_l0 fr h:=w_loop
def b_ref11_Holds_1:IR:=.seq (.seq (zr [zm 79 7,
 zn 80 (.fad 5 (.t 2)),
 zl 81 1 80,
 zn 82 (.len (.t 81)),
 zn 83 (.bin .lss (.t 79) (.t 82))] [2,5,7,83])
 (.cond (.t 83) (.skip) (.ext 3)))
 (.seq (.blk 4 (.seq (zr [zm 86 5,
 zn 87 (.iad 1 (.t 86) (zi 0)),
 zl 88 1 87,
 zm 89 7,
 zn 90 (.bin .eql (.t 88) (.t 89))] [2,5,7,90])
 (.cond (.t 90) (.seq (.dq [(zn 91 (.fad 5 (.t 2)),[]),
 (zl 92 1 91,[0]),
 (zm 93 7,[]),
 (zn 94 (.iad 1 (.t 92) (.t 93)),[0,1,2]),
 (zl 95 1 94,[0,1,2,3]),
 (zm 96 5,[]),
 (zn 97 (.iad 1 (.t 96) (zi 1)),[5]),
 (zl 98 1 97,[5,6]),
 (zn 99 (.bin .eql (.t 95) (.t 98)),[0,1,2,3,4,5,6,7]),
 (zm 4 99,[0,1,2,3,4,5,6,7,8])] (some [4]))
 (.ret)) (.skip))))
 (zr [zm 84 7,
 zn 85 (.bin .add (.t 84) (zi 1)),
 zm 7 85] [2,5,7]))
def i_ref11_Holds_l1:IR:=.loop b_ref11_Holds_1
theorem r_ref11_Holds_1 {C:Cx} {Y:Yl} {fr:Fr} {h:List Ob}:evw C Y i_ref11_Holds_l1 fr h=nxt (evw C Y b_ref11_Holds_1 fr h) fun fr h=>evw C Y i_ref11_Holds_l1 fr h:=w_loop
def b_ref11_Holds_2:IR:=.seq (.seq (zr [zm 108 9,
 zm 109 8,
 zn 110 (.bin .lss (.t 108) (.t 109))] [5,8,9,110])
 (.cond (.t 110) (.skip) (.ext 7)))
 (.seq (.blk 8 (.seq (.dq [(zm 113 5,[]),
 (zm 114 8,[]),
 (zn 115 (.iad 1 (.t 113) (.t 114)),[0,1]),
 (zl 116 1 115,[0,1,2]),
 (zm 117 5,[]),
 (zm 118 9,[]),
 (zn 119 (.iad 1 (.t 117) (.t 118)),[4,5]),
 (zl 120 1 119,[4,5,6]),
 (zn 121 (.bin .eql (.t 116) (.t 120)),[0,1,2,3,4,5,6,7])] (some [5,8,9,121]))
 (.cond (.t 121) (.seq (zr [zn 4 (.mov (zb false))] [4])
 (.ret)) (.skip))))
 (zr [zm 111 9,
 zn 112 (.bin .add (.t 111) (zi 1)),
 zm 9 112] [5,8,9]))
def i_ref11_Holds_l2:IR:=.loop b_ref11_Holds_2
theorem r_ref11_Holds_2 {C:Cx} {Y:Yl} {fr:Fr} {h:List Ob}:evw C Y i_ref11_Holds_l2 fr h=nxt (evw C Y b_ref11_Holds_2 fr h) fun fr h=>evw C Y i_ref11_Holds_l2 fr h:=w_loop
def b_ref11_Holds_3:IR:=.seq (.seq (zr [zm 102 8,
 zm 103 5,
 zn 104 (.len (.t 103)),
 zn 105 (.bin .lss (.t 102) (.t 104))] [5,8,105])
 (.cond (.t 105) (.skip) (.ext 5)))
 (.seq (.blk 6 (.seq (zr [zn 9 (.mov (zi 0))] [5,8,9])
 (.blk 7 (i_ref11_Holds_l2))))
 (zr [zm 106 8,
 zn 107 (.bin .add (.t 106) (zi 1)),
 zm 8 107] [5,8]))
def i_ref11_Holds_l3:IR:=.loop b_ref11_Holds_3
theorem r_ref11_Holds_3 {C:Cx} {Y:Yl} {fr:Fr} {h:List Ob}:evw C Y i_ref11_Holds_l3 fr h=nxt (evw C Y b_ref11_Holds_3 fr h) fun fr h=>evw C Y i_ref11_Holds_l3 fr h:=w_loop
def b_ref11_Holds_4:IR:=.seq (.seq (zr [zm 131 12,
 zm 132 5,
 zn 133 (.len (.t 132)),
 zn 134 (.bin .lss (.t 131) (.t 133))] [2,5,10,11,12,134])
 (.cond (.t 134) (.skip) (.ext 11)))
 (.seq (.blk 12 (.dq [(zm 137 11,[]),
 (zm 138 137,[0]),
 (zg 139 138 (.fad 5 (.t 2)),[0,1]),
 (zg 140 138 (.ld false 1 (.t 139)),[0,1,2]),
 (zM 141 138 10,[0,1]),
 (zM 142 138 12,[0,1]),
 (zg 143 138 (.bin .add (.t 141) (.t 142)),[0,1,4,5]),
 (zg 144 138 (.iad 1 (.t 140) (.t 143)),[0,1,2,3,4,5,6]),
 (zg 145 138 (.ld false 1 (.t 144)),[0,1,2,3,4,5,6,7]),
 (zM 146 138 5,[0,1]),
 (zM 147 138 12,[0,1]),
 (zg 148 138 (.iad 1 (.t 146) (.t 147)),[0,1,9,10]),
 (zg 149 138 (.ld false 1 (.t 148)),[0,1,9,10,11]),
 (zg 150 138 (.bin .eql (.t 145) (.t 149)),[0,1,2,3,4,5,6,7,8,9,10,11,12]),
 (zp 151 138 150,[0,1,2,3,4,5,6,7,8,9,10,11,12,13]),
 (zm 11 151,[0,1,2,3,4,5,6,7,8,9,10,11,12,13,14])] (some [2,5,10,11,12])))
 (zr [zm 135 12,
 zn 136 (.bin .add (.t 135) (zi 1)),
 zm 12 136] [2,5,10,11,12]))
def i_ref11_Holds_l4:IR:=.loop b_ref11_Holds_4
theorem r_ref11_Holds_4 {C:Cx} {Y:Yl} {fr:Fr} {h:List Ob}:evw C Y i_ref11_Holds_l4 fr h=nxt (evw C Y b_ref11_Holds_4 fr h) fun fr h=>evw C Y i_ref11_Holds_l4 fr h:=w_loop
def b_ref11_Holds_5:IR:=.seq (.seq (zr [zm 122 10,
 zn 123 (.fad 5 (.t 2)),
 zl 124 1 123,
 zn 125 (.len (.t 124)),
 zn 126 (.bin .lss (.t 122) (.t 125))] [2,5,10,126])
 (.cond (.t 126) (.skip) (.ext 9)))
 (.seq (.blk 10 (.seq (zr [zn 11 (.mov (zb true))] [2,5,10,11])
 (.seq (.seq (zr [zn 12 (.mov (zi 0))] [2,5,10,11,12])
 (.blk 11 (i_ref11_Holds_l4)))
 (.seq (zr [zm 152 11] [2,5,10,152])
 (.cond (.t 152) (.seq (zr [zn 4 (.mov (zb true))] [4])
 (.ret)) (.skip))))))
 (zr [zm 127 10,
 zm 128 5,
 zn 129 (.len (.t 128)),
 zn 130 (.bin .add (.t 127) (.t 129)),
 zm 10 130] [2,5,10]))
def i_ref11_Holds_l5:IR:=.loop b_ref11_Holds_5
theorem r_ref11_Holds_5 {C:Cx} {Y:Yl} {fr:Fr} {h:List Ob}:evw C Y i_ref11_Holds_l5 fr h=nxt (evw C Y b_ref11_Holds_5 fr h) fun fr h=>evw C Y i_ref11_Holds_l5 fr h:=w_loop
def i_ref11_Holds:IR:=.seq (zr [zn 2 (.box (.t 0)),
 zn 4 (.mov (zb false))] [1,2])
 (.seq (zr [zn 13 (.bsl (.int .i64 0) 0 []),
 zm 5 13] [1,2,5])
 (.seq (.seq (zr [zn 6 (.mov (zi 0))] [1,2,5,6])
 (.blk 0 (i_ref11_Holds_l0)))
 (.seq (.seq (zr [zn 32 (.fad 0 (.t 2)),
 zl 33 1 32] [1,2,5,33])
 (.blk 2 (.seq (zr [zn 35 (.bin .eql (.t 33) (zi 1)),
 zm 34 35] [1,2,5,33,34])
 (.cond (.t 34) (.seq (zr [zL 36 6 2,
 zn 37 (.fad 1 (.t 2)),
 zl 38 1 37,
 zm 39 1,
 zn 40 (.call n_ref11_sum [(.t 36),(.t 38),(.t 39)]),
 zm 4 40] [4])
 (.ret)) (.seq (zr [zn 42 (.bin .eql (.t 33) (zi 2)),
 zm 41 42] [1,2,5,33,41])
 (.cond (.t 41) (.seq (.dq [(zm 43 5,[]),
 (zn 44 (.iad 1 (.t 43) (zi 0)),[0]),
 (zl 45 1 44,[0,1]),
 (zm 46 5,[]),
 (zn 47 (.iad 1 (.t 46) (zi 1)),[3]),
 (zl 48 1 47,[3,4]),
 (zn 49 (.bin .mul (.t 45) (.t 48)),[0,1,2,3,4,5]),
 (zm 50 5,[]),
 (zn 51 (.iad 1 (.t 50) (zi 2)),[7]),
 (zl 52 1 51,[7,8]),
 (zn 53 (.bin .eql (.t 49) (.t 52)),[0,1,2,3,4,5,6,7,8,9]),
 (zm 4 53,[0,1,2,3,4,5,6,7,8,9,10])] (some [4]))
 (.ret)) (.seq (zr [zn 55 (.bin .eql (.t 33) (zi 3)),
 zm 54 55] [1,2,5,33,54])
 (.cond (.t 54) (.seq (.seq (zr [zm 56 5,
 zn 57 (.iad 1 (.t 56) (zi 0)),
 zl 58 1 57,
 zn 59 (.bin .neq (.t 58) (zi 0)),
 zm 60 59,
 zM 61 60 5,
 zg 62 60 (.iad 1 (.t 61) (zi 0)),
 zg 63 60 (.ld false 1 (.t 62)),
 zg 64 60 (.bin .neq (.t 63) (zi 1)),
 zp 65 60 64] [1,2,5,65])
 (.cond (.t 65) (.seq (zr [zn 4 (.mov (zb false))] [4])
 (.ret)) (.skip)))
 (.seq (.dq [(zL 66 6 2,[]),
 (zn 67 (.fad 1 (.t 2)),[]),
 (zl 68 1 67,[1]),
 (zn 69 (.sll 1 (.t 68) (some (zi 1)) none none),[1,2]),
 (zm 70 1,[]),
 (zn 71 (.call n_ref11_sum [(.t 66),(.t 69),(.t 70)]),[0,1,2,3,4]),
 (zm 72 5,[]),
 (zn 73 (.iad 1 (.t 72) (zi 0)),[6]),
 (zl 74 1 73,[6,7]),
 (zn 75 (.bin .eql (.t 74) (zi 1)),[6,7,8]),
 (zn 76 (.eq false .bool (.t 71) (.t 75)),[0,1,2,3,4,5,6,7,8,9]),
 (zm 4 76,[0,1,2,3,4,5,6,7,8,9,10])] (some [4]))
 (.ret))) (.seq (zr [zn 78 (.bin .eql (.t 33) (zi 4)),
 zm 77 78] [2,5,33,77])
 (.cond (.t 77) (.seq (.seq (zr [zn 7 (.mov (zi 0))] [2,5,7])
 (.blk 3 (i_ref11_Holds_l1)))
 (.seq (zr [zn 4 (.mov (zb false))] [4])
 (.ret))) (.seq (zr [zn 101 (.bin .eql (.t 33) (zi 5)),
 zm 100 101] [2,5,100])
 (.cond (.t 100) (.seq (.seq (zr [zn 8 (.mov (zi 0))] [5,8])
 (.blk 5 (i_ref11_Holds_l3)))
 (.seq (zr [zn 4 (.mov (zb true))] [4])
 (.ret))) (.skip)))))))))))))
 (.seq (.seq (zr [zn 10 (.mov (zi 0))] [2,5,10])
 (.blk 9 (i_ref11_Holds_l5)))
 (.seq (zr [zn 4 (.mov (zb false))] [4])
 (.ret))))))
def F_ref11_Holds:F:=⟨i_ref11_Holds,[(4,none)],false⟩
def i_slices_ContainsFunc_sdom_Dom_dom_Dom:IR:=.seq (zr [zn 4 (.mov (zb false))] [0,1])
 (.seq (zr [zm 5 0,
 zm 6 1,
 zn 7 (.call n_slices_IndexFunc_sdom_Dom_dom_Dom [(.t 5),(.t 6)]),
 zn 8 (.bin .geq (.t 7) (zi 0)),
 zm 4 8] [4])
 (.ret))
def F_slices_ContainsFunc_sdom_Dom_dom_Dom:F:=⟨i_slices_ContainsFunc_sdom_Dom_dom_Dom,[(4,none)],false⟩
def i_fix_Wiped_1:IR:=.seq (zr [zn 1 (.box (.t 0)),
 zn 2 (.mov (zb false))] [1])
 (.seq (zr [zL 3 2 1,
 zn 4 (.call n_dom_Size [(.t 3)]),
 zn 5 (.bin .eql (.t 4) (zi 0)),
 zm 2 5] [2])
 (.ret))
def F_fix_Wiped_1:F:=⟨i_fix_Wiped_1,[(2,none)],false⟩
def i_slices_ContainsFunc_sapi_Con_api_Con:IR:=.seq (zr [zn 4 (.mov (zb false))] [0,1])
 (.seq (zr [zm 5 0,
 zm 6 1,
 zn 7 (.call n_slices_IndexFunc_sapi_Con_api_Con [(.t 5),(.t 6)]),
 zn 8 (.bin .geq (.t 7) (zi 0)),
 zm 4 8] [4])
 (.ret))
def F_slices_ContainsFunc_sapi_Con_api_Con:F:=⟨i_slices_ContainsFunc_sapi_Con_api_Con,[(4,none)],false⟩
def i_fix_right_1:IR:=.seq (zr [zn 2 (.box (.t 0)),
 zn 3 (.mov (zb false))] [1,2])
 (.seq (zr [zL 4 6 2,
 zl 5 1 1,
 zn 6 (.len (.t 5)),
 zn 7 (.call n_model_Right [(.t 4),(.t 6)]),
 zn 8 (.un .not (.t 7)),
 zm 3 8] [3])
 (.ret))
def F_fix_right_1:F:=⟨i_fix_right_1,[(3,none)],false⟩
def i_model_Right:IR:=.seq (zr [zn 2 (.box (.t 0)),
 zn 4 (.mov (zb false))] [1,2])
 (.seq (zr [zn 6 (.bsl (.nilf) 6 [(0,(.c (.fn (.func n_model_looker_linear) [] []))),(1,(.c (.fn (.func n_model_looker_product) [] []))),(2,(.c (.fn (.func n_model_looker_iff) [] []))),(3,(.c (.fn (.func n_model_looker_element) [] []))),(4,(.c (.fn (.func n_model_looker_differ) [] []))),(5,(.c (.fn (.func n_model_looker_table) [] [])))]),
 zm 5 6] [1,2,5])
 (.seq (.dq [(zn 7 (.fad 0 (.t 2)),[]),
 (zl 8 1 7,[0]),
 (zn 9 (.bin .geq (.t 8) (zi 1)),[0,1]),
 (zm 10 9,[0,1,2]),
 (zg 11 10 (.fad 0 (.t 2)),[0,1,2,3]),
 (zg 12 10 (.ld false 1 (.t 11)),[0,1,2,3,4]),
 (zM 13 10 5,[0,1,2,3]),
 (zg 14 10 (.len (.t 13)),[0,1,2,3,6]),
 (zg 15 10 (.bin .leq (.t 12) (.t 14)),[0,1,2,3,4,5,6,7]),
 (zp 16 10 15,[0,1,2,3,4,5,6,7,8]),
 (zm 17 16,[0,1,2,3,4,5,6,7,8,9]),
 (zM 18 17 5,[0,1,2,3,4,5,6,7,8,9,10]),
 (zg 19 17 (.fad 0 (.t 2)),[0,1,2,3,4,5,6,7,8,9,10]),
 (zg 20 17 (.ld false 1 (.t 19)),[0,1,2,3,4,5,6,7,8,9,10,12]),
 (zg 21 17 (.bin .sub (.t 20) (zi 1)),[0,1,2,3,4,5,6,7,8,9,10,12,13]),
 (zg 22 17 (.iad 1 (.t 18) (.t 21)),[0,1,2,3,4,5,6,7,8,9,10,11,12,13,14]),
 (zg 23 17 (.ld false 1 (.t 22)),[0,1,2,3,4,5,6,7,8,9,10,11,12,13,14,15]),
 (zg 24 17 (.ld true 6 (.t 2)),[0,1,2,3,4,5,6,7,8,9,10]),
 (zM 25 17 1,[0,1,2,3,4,5,6,7,8,9,10]),
 (zg 26 17 (.bld [.int .i64 0,.nsl 1,.nsl 1,.int .i64 0,.int .i64 0,.nsl 1,.int .i64 0] [(0,6,(.t 24)),(6,1,(.t 25))]),[0,1,2,3,4,5,6,7,8,9,10,17,18]),
 (zg 27 17 (.callv (.t 23) [(.t 26)]),[0,1,2,3,4,5,6,7,8,9,10,11,12,13,14,15,16,17,18,19]),
 (zp 28 17 27,[0,1,2,3,4,5,6,7,8,9,10,11,12,13,14,15,16,17,18,19,20]),
 (zm 4 28,[0,1,2,3,4,5,6,7,8,9,10,11,12,13,14,15,16,17,18,19,20,21])] (some [4]))
 (.ret)))
def F_model_Right:F:=⟨i_model_Right,[(4,none)],false⟩
def i_fix_right_2:IR:=.seq (zr [zn 1 (.box (.t 0)),
 zn 2 (.mov (zb false))] [1])
 (.seq (zr [zL 3 2 1,
 zn 4 (.call n_dom_May [(.t 3)]),
 zn 5 (.un .not (.t 4)),
 zm 2 5] [2])
 (.ret))
def F_fix_right_2:F:=⟨i_fix_right_2,[(2,none)],false⟩
def b_dom_May_0:IR:=.seq (zr [zn 23 (.bin .lss (.t 22) (.t 21))] [1,20,21,22,23])
 (.seq (.cond (.t 23) (.skip) (.ext 0))
 (.seq (.blk 1 (.seq (zr [zm 24 22,
 zn 25 (.iad 1 (.t 20) (.t 22)),
 zl 26 1 25,
 zm 4 24,
 zm 5 26] [1,4,5,20,21,22])
 (.seq (zr [zm 27 5,
 zn 28 (.bin .lss (.t 27) (zi (-1048576))),
 zm 29 28,
 zF 30 29 5,
 zf 31 29 (.bin .gtr (.t 30) (zi 1048576)),
 zq 32 29 31,
 zm 33 32,
 zF 34 33 4,
 zf 35 33 (.bin .gtr (.t 34) (zi 0)),
 zF 36 33 35,
 zM 37 36 5,
 zg 38 36 (.fad 0 (.t 1)),
 zg 39 36 (.ld false 1 (.t 38)),
 zM 40 36 4,
 zg 41 36 (.bin .sub (.t 40) (zi 1)),
 zg 42 36 (.iad 1 (.t 39) (.t 41)),
 zg 43 36 (.ld false 1 (.t 42)),
 zg 44 36 (.bin .leq (.t 37) (.t 43)),
 zf 45 33 (.pick (.t 36) (.t 44) (zb false)),
 zq 46 33 45] [1,20,21,22,46])
 (.cond (.t 46) (.seq (zr [zn 2 (.mov (zb false))] [2])
 (.ret)) (.skip)))))
 (zr [zn 47 (.bin .add (.t 22) (zi 1)),
 zm 22 47] [1,20,21,22])))
def i_dom_May_l0:IR:=.loop b_dom_May_0
theorem r_dom_May_0 {C:Cx} {Y:Yl} {fr:Fr} {h:List Ob}:evw C Y i_dom_May_l0 fr h=nxt (evw C Y b_dom_May_0 fr h) fun fr h=>evw C Y i_dom_May_l0 fr h:=w_loop
def i_dom_May:IR:=.seq (zr [zn 1 (.box (.t 0)),
 zn 2 (.mov (zb false))] [1])
 (.seq (zr [zn 6 (.fad 0 (.t 1)),
 zl 7 1 6,
 zn 8 (.len (.t 7)),
 zm 3 8] [1,3])
 (.seq (.seq (.dq [(zm 9 3,[]),
 (zn 10 (.bin .gtr (.t 9) (zi 64)),[0]),
 (zm 11 10,[0,1]),
 (zf 12 11 (.fad 1 (.t 1)),[0,1,2]),
 (zf 13 11 (.ld false 1 (.t 12)),[0,1,2,3]),
 (zF 14 11 3,[0,1,2]),
 (zf 15 11 (.call n_bits_First [(.t 14)]),[0,1,2,5]),
 (zf 16 11 (.bin .andNot (.t 13) (.t 15)),[0,1,2,3,4,5,6]),
 (zf 17 11 (.bin .neq (.t 16) (.c (.int .u64 0))),[0,1,2,3,4,5,6,7]),
 (zq 18 11 17,[0,1,2,3,4,5,6,7,8])] (some [1,18]))
 (.cond (.t 18) (.seq (zr [zn 2 (.mov (zb false))] [2])
 (.ret)) (.skip)))
 (.seq (.seq (zr [zn 19 (.fad 0 (.t 1)),
 zl 20 1 19,
 zn 21 (.len (.t 20)),
 zn 22 (.mov (zi 0))] [1,20,21,22])
 (.blk 0 (i_dom_May_l0)))
 (.seq (zr [zn 2 (.mov (zb true))] [2])
 (.ret)))))
def F_dom_May:F:=⟨i_dom_May,[(2,none)],false⟩
def i_trail_New_uint64:IR:=.seq (zr [zn 2 (.mov (.c (.nilp))),
 zn 3 (.mov (zi 0))] [0])
 (.seq (.seq (zr [zm 4 0,
 zn 5 (.bin .lss (.t 4) (zi 0)),
 zm 6 5,
 zF 7 6 0,
 zf 8 6 (.bin .gtr (.t 7) (zi 1000)),
 zq 9 6 8] [0,9])
 (.cond (.t 9) (.seq (zr [zn 2 (.mov (.c (.nilp))),
 zn 3 (.mov (zi 1))] [2,3])
 (.ret)) (.skip)))
 (.seq (.dr [(zm 10 0,[]),
 (zn 11 (.mks 8 (.int .u64 0) (.t 10) (.t 10)),[0]),
 (zm 12 0,[]),
 (zn 13 (.mks 8 (.int .i64 0) (.t 12) (.t 12)),[2]),
 (zn 14 (.op .mkm []),[]),
 (zn 15 (.bsl (.nmp) 1 [(0,(.t 14))]),[4]),
 (zn 16 (.bld [.nsl 1,.nsl 1,.nsl 1] [(0,1,(.t 11)),(1,1,(.t 13)),(2,1,(.t 15))]),[0,1,2,3,4,5]),
 (zn 17 (.box (.t 16)),[0,1,2,3,4,5,6]),
 (zm 2 17,[0,1,2,3,4,5,6,7]),
 (zn 3 (.mov (zi 0)),[0,1,2,3,4,5,6,7,8])] (some [2,3]))
 (.ret)))
def F_trail_New_uint64:F:=⟨i_trail_New_uint64,[(2,none),(3,none)],true⟩
def i_trail_Trail_uint64_Marks:IR:=.seq (zr [zn 2 (.mov (zi 0))] [0])
 (.seq (zr [zm 3 0,
 zn 4 (.nck (.t 3)),
 zn 5 (.fad 2 (.t 4)),
 zl 6 1 5,
 zn 7 (.len (.t 6)),
 zn 8 (.bin .sub (.t 7) (zi 1)),
 zm 2 8] [2])
 (.ret))
def F_trail_Trail_uint64_Marks:F:=⟨i_trail_Trail_uint64_Marks,[(2,none)],true⟩
def i_trail_Trail_uint64_there:IR:=.seq (zr [zn 4 (.mov (zb false))] [0,1])
 (.seq (zr [zm 5 1,
 zn 6 (.bin .geq (.t 5) (zi 0)),
 zm 7 6,
 zM 8 7 1,
 zM 9 7 0,
 zg 10 7 (.nck (.t 9)),
 zg 11 7 (.fad 0 (.t 10)),
 zg 12 7 (.ld false 1 (.t 11)),
 zg 13 7 (.len (.t 12)),
 zg 14 7 (.bin .lss (.t 8) (.t 13)),
 zp 15 7 14,
 zm 4 15] [4])
 (.ret))
def F_trail_Trail_uint64_there:F:=⟨i_trail_Trail_uint64_there,[(4,none)],true⟩
def i_trail_Trail_uint64_last:IR:=.seq (zr [zn 2 (.mov (.c (.nmp)))] [0])
 (.seq (.dq [(zm 3 0,[]),
 (zn 4 (.nck (.t 3)),[0]),
 (zn 5 (.fad 2 (.t 4)),[0,1]),
 (zl 6 1 5,[0,1,2]),
 (zm 7 0,[]),
 (zn 8 (.nck (.t 7)),[4]),
 (zn 9 (.fad 2 (.t 8)),[4,5]),
 (zl 10 1 9,[4,5,6]),
 (zn 11 (.len (.t 10)),[4,5,6,7]),
 (zn 12 (.bin .sub (.t 11) (zi 1)),[4,5,6,7,8]),
 (zn 13 (.iad 1 (.t 6) (.t 12)),[0,1,2,3,4,5,6,7,8,9]),
 (zl 14 1 13,[0,1,2,3,4,5,6,7,8,9,10]),
 (zm 2 14,[0,1,2,3,4,5,6,7,8,9,10,11])] (some [2]))
 (.ret))
def F_trail_Trail_uint64_last:F:=⟨i_trail_Trail_uint64_last,[(2,none)],true⟩
def i_trail_Trail_uint64_put:IR:=.seq (zr [zm 6 0,
 zn 7 (.nck (.t 6)),
 zn 8 (.fad 0 (.t 7)),
 zl 9 1 8,
 zm 10 1,
 zn 11 (.iad 1 (.t 9) (.t 10)),
 zl 12 1 11,
 zm 13 2,
 zn 14 (.bin .neq (.t 12) (.t 13))] [0,1,2,14])
 (.cond (.t 14) (.seq (zr [zm 15 0,
 zn 16 (.nck (.t 15)),
 zn 17 (.fad 0 (.t 16)),
 zl 18 1 17,
 zm 19 1,
 zm 20 2,
 zn 21 (.iad 1 (.t 18) (.t 19)),
 ⟨none,none,.st 1 (.t 21) (.t 20)⟩] [0,1])
 (zr [zm 22 0,
 zn 23 (.nck (.t 22)),
 zn 24 (.fad 1 (.t 23)),
 zl 25 1 24,
 zm 26 1,
 zn 27 (.iad 1 (.t 25) (.t 26)),
 zl 28 1 27,
 zn 29 (.bin .add (.t 28) (zi 1)),
 zn 30 (.iad 1 (.t 25) (.t 26)),
 ⟨none,none,.st 1 (.t 30) (.t 29)⟩] [])) (.skip))
def F_trail_Trail_uint64_put:F:=⟨i_trail_Trail_uint64_put,[],true⟩
def b_slices_Index_sint_int_0:IR:=.seq (zr [zn 9 (.bin .lss (.t 8) (.t 7))] [0,1,7,8,9])
 (.seq (.cond (.t 9) (.skip) (.ext 0))
 (.seq (.blk 1 (.seq (zr [zm 10 8,
 zm 5 10] [0,1,5,7,8])
 (.seq (zr [zm 11 1,
 zm 12 0,
 zm 13 5,
 zn 14 (.iad 1 (.t 12) (.t 13)),
 zl 15 1 14,
 zn 16 (.bin .eql (.t 11) (.t 15))] [0,1,5,7,8,16])
 (.cond (.t 16) (.seq (zr [zm 17 5,
 zm 4 17] [4])
 (.ret)) (.skip)))))
 (zr [zn 18 (.bin .add (.t 8) (zi 1)),
 zm 8 18] [0,1,7,8])))
def i_slices_Index_sint_int_l0:IR:=.loop b_slices_Index_sint_int_0
def i_slices_Index_sint_int:IR:=.seq (zr [zn 4 (.mov (zi 0))] [0,1])
 (.seq (.seq (zr [zm 6 0,
 zn 7 (.len (.t 6)),
 zn 8 (.mov (zi 0))] [0,1,7,8])
 (.blk 0 (i_slices_Index_sint_int_l0)))
 (.seq (zr [zn 4 (.mov (zi (-1)))] [4])
 (.ret)))
def F_slices_Index_sint_int:F:=⟨i_slices_Index_sint_int,[(4,none)],false⟩
def b_slices_Equal_sint_int_0:IR:=.seq (zr [zn 14 (.bin .lss (.t 13) (.t 12))] [0,1,12,13,14])
 (.seq (.cond (.t 14) (.skip) (.ext 0))
 (.seq (.blk 1 (.seq (zr [zm 15 13,
 zm 5 15] [0,1,5,12,13])
 (.seq (.dq [(zm 16 0,[]),
 (zm 17 5,[]),
 (zn 18 (.iad 1 (.t 16) (.t 17)),[0,1]),
 (zl 19 1 18,[0,1,2]),
 (zm 20 1,[]),
 (zm 21 5,[]),
 (zn 22 (.iad 1 (.t 20) (.t 21)),[4,5]),
 (zl 23 1 22,[4,5,6]),
 (zn 24 (.bin .neq (.t 19) (.t 23)),[0,1,2,3,4,5,6,7])] (some [0,1,12,13,24]))
 (.cond (.t 24) (.seq (zr [zn 4 (.mov (zb false))] [4])
 (.ret)) (.skip)))))
 (zr [zn 25 (.bin .add (.t 13) (zi 1)),
 zm 13 25] [0,1,12,13])))
def i_slices_Equal_sint_int_l0:IR:=.loop b_slices_Equal_sint_int_0
def i_slices_Equal_sint_int:IR:=.seq (zr [zn 4 (.mov (zb false))] [0,1])
 (.seq (.seq (zr [zm 6 0,
 zn 7 (.len (.t 6)),
 zm 8 1,
 zn 9 (.len (.t 8)),
 zn 10 (.bin .neq (.t 7) (.t 9))] [0,1,10])
 (.cond (.t 10) (.seq (zr [zn 4 (.mov (zb false))] [4])
 (.ret)) (.skip)))
 (.seq (.seq (zr [zm 11 0,
 zn 12 (.len (.t 11)),
 zn 13 (.mov (zi 0))] [0,1,12,13])
 (.blk 0 (i_slices_Equal_sint_int_l0)))
 (.seq (zr [zn 4 (.mov (zb true))] [4])
 (.ret))))
def F_slices_Equal_sint_int:F:=⟨i_slices_Equal_sint_int,[(4,none)],false⟩
def b_ref08_all_0:IR:=.seq (.seq (zr [zm 6 5,
 zm 7 0,
 zn 8 (.len (.t 7)),
 zn 9 (.bin .lss (.t 6) (.t 8))] [0,1,5,9])
 (.cond (.t 9) (.skip) (.ext 0)))
 (.seq (.blk 1 (.seq (zr [zm 12 0,
 zm 13 5,
 zn 14 (.iad 1 (.t 12) (.t 13)),
 zl 15 1 14,
 zm 16 1,
 zn 17 (.un .neg (.t 16)),
 zn 18 (.bin .lss (.t 15) (.t 17)),
 zm 19 18,
 zF 20 19 0,
 zF 21 19 5,
 zf 22 19 (.iad 1 (.t 20) (.t 21)),
 zf 23 19 (.ld false 1 (.t 22)),
 zF 24 19 1,
 zf 25 19 (.bin .gtr (.t 23) (.t 24)),
 zq 26 19 25] [0,1,5,26])
 (.cond (.t 26) (.seq (zr [zn 4 (.mov (zb false))] [4])
 (.ret)) (.skip))))
 (zr [zm 10 5,
 zn 11 (.bin .add (.t 10) (zi 1)),
 zm 5 11] [0,1,5]))
def i_ref08_all_l0:IR:=.loop b_ref08_all_0
def i_ref08_all:IR:=.seq (zr [zn 4 (.mov (zb false))] [0,1])
 (.seq (.seq (zr [zn 5 (.mov (zi 0))] [0,1,5])
 (.blk 0 (i_ref08_all_l0)))
 (.seq (zr [zn 4 (.mov (zb true))] [4])
 (.ret)))
def F_ref08_all:F:=⟨i_ref08_all,[(4,none)],false⟩
def b_ref02_Same_0:IR:=.seq (.seq (zr [zm 11 5,
 zm 12 0,
 zn 13 (.len (.t 12)),
 zn 14 (.bin .lss (.t 11) (.t 13))] [0,1,5,14])
 (.cond (.t 14) (.skip) (.ext 0)))
 (.seq (.blk 1 (.seq (.dq [(zm 17 0,[]),
 (zm 18 5,[]),
 (zn 19 (.iad 1 (.t 17) (.t 18)),[0,1]),
 (zl 20 1 19,[0,1,2]),
 (zm 21 1,[]),
 (zm 22 5,[]),
 (zn 23 (.iad 1 (.t 21) (.t 22)),[4,5]),
 (zl 24 1 23,[4,5,6]),
 (zn 25 (.bin .neq (.t 20) (.t 24)),[0,1,2,3,4,5,6,7])] (some [0,1,5,25]))
 (.cond (.t 25) (.seq (zr [zn 4 (.mov (zb false))] [4])
 (.ret)) (.skip))))
 (zr [zm 15 5,
 zn 16 (.bin .add (.t 15) (zi 1)),
 zm 5 16] [0,1,5]))
def i_ref02_Same_l0:IR:=.loop b_ref02_Same_0
def i_ref02_Same:IR:=.seq (zr [zn 4 (.mov (zb false))] [0,1])
 (.seq (.seq (zr [zm 6 0,
 zn 7 (.len (.t 6)),
 zm 8 1,
 zn 9 (.len (.t 8)),
 zn 10 (.bin .neq (.t 7) (.t 9))] [0,1,10])
 (.cond (.t 10) (.seq (zr [zn 4 (.mov (zb false))] [4])
 (.ret)) (.skip)))
 (.seq (.seq (zr [zn 5 (.mov (zi 0))] [0,1,5])
 (.blk 0 (i_ref02_Same_l0)))
 (.seq (zr [zn 4 (.mov (zb true))] [4])
 (.ret))))
def F_ref02_Same:F:=⟨i_ref02_Same,[(4,none)],false⟩
def i_linear_Step_1:IR:=.seq (zr [zn 1 (.box (.t 0)),
 zn 2 (.mov (zb false))] [1])
 (.seq (zr [zL 3 2 1,
 zn 4 (.call n_dom_May [(.t 3)]),
 zn 5 (.un .not (.t 4)),
 zm 2 5] [2])
 (.ret))
def F_linear_Step_1:F:=⟨i_linear_Step_1,[(2,none)],false⟩
def i_slices_ContainsFunc_sint_int:IR:=.seq (zr [zn 4 (.mov (zb false))] [0,1])
 (.seq (zr [zm 5 0,
 zm 6 1,
 zn 7 (.call n_slices_IndexFunc_sint_int [(.t 5),(.t 6)]),
 zn 8 (.bin .geq (.t 7) (zi 0)),
 zm 4 8] [4])
 (.ret))
def F_slices_ContainsFunc_sint_int:F:=⟨i_slices_ContainsFunc_sint_int,[(4,none)],false⟩
def i_linear_Step_2:IR:=.seq (zr [zn 3 (.mov (zb false))] [0,1])
 (.seq (zr [zl 4 1 1,
 zm 5 0,
 zn 6 (.iad 2 (.t 4) (.t 5)),
 zL 7 2 6,
 zn 8 (.call n_dom_Size [(.t 7)]),
 zn 9 (.bin .eql (.t 8) (zi 0)),
 zm 3 9] [3])
 (.ret))
def F_linear_Step_2:F:=⟨i_linear_Step_2,[(3,none)],false⟩
def b_linear_none_0:IR:=.seq (zr [zn 10 (.bin .lss (.t 9) (.t 8))] [1,7,8,9,10])
 (.seq (.cond (.t 10) (.skip) (.ext 0))
 (.seq (.blk 1 (.seq (zr [zn 11 (.iad 1 (.t 7) (.t 9)),
 zl 12 1 11,
 zm 5 12] [1,5,7,8,9])
 (zr [zm 13 1,
 zm 14 5,
 zm 15 1,
 zm 16 5,
 zn 17 (.iad 2 (.t 15) (.t 16)),
 zL 18 2 17,
 zn 19 (.call n_linear_kept [(.t 18),(.c (.fn (.func n_linear_none_1) [] []))]),
 zn 20 (.iad 2 (.t 13) (.t 14)),
 ⟨none,none,.st 2 (.t 20) (.t 19)⟩] [1,7,8,9])))
 (zr [zn 21 (.bin .add (.t 9) (zi 1)),
 zm 9 21] [1,7,8,9])))
def i_linear_none_l0:IR:=.loop b_linear_none_0
theorem r_linear_none_0 {C:Cx} {Y:Yl} {fr:Fr} {h:List Ob}:evw C Y i_linear_none_l0 fr h=nxt (evw C Y b_linear_none_0 fr h) fun fr h=>evw C Y i_linear_none_l0 fr h:=w_loop
def i_linear_none:IR:=.seq (zr [zn 2 (.box (.t 0))] [1,2])
 (.seq (zr [zn 6 (.fad 1 (.t 2)),
 zl 7 1 6,
 zn 8 (.len (.t 7)),
 zn 9 (.mov (zi 0))] [1,7,8,9])
 (.blk 0 (i_linear_none_l0)))
def F_linear_none:F:=⟨i_linear_none,[],true⟩
def b_linear_sum_0:IR:=.seq (zr [zn 21 (.bin .lss (.t 20) (.t 19))] [3,4,5,7,10,18,19,20,21])
 (.seq (.cond (.t 21) (.skip) (.ext 0))
 (.seq (.blk 1 (.seq (zr [zm 22 20,
 zn 23 (.iad 1 (.t 18) (.t 20)),
 zl 24 1 23,
 zn 11 (.new (.int .i64 0)),
 ⟨none,none,.st 1 (.t 11) (.t 22)⟩,
 zm 12 24] [3,4,5,7,10,11,12,18,19,20])
 (.seq (.dc [(zL 25 2 10,[],false),
 (zn 26 (.fad 2 (.t 5)),[],false),
 (zl 27 1 26,[1],false),
 (zl 28 1 11,[],false),
 (zn 29 (.iad 1 (.t 27) (.t 28)),[1,2,3],false),
 (zl 30 1 29,[1,2,3,4],false),
 (zm 31 3,[],false),
 (zm 32 12,[],false),
 (zn 33 (.iad 2 (.t 31) (.t 32)),[6,7],false),
 (zL 34 2 33,[6,7,8],false),
 (zn 35 (.call n_linear_ends_plus [(.t 25),(.t 30),(.t 34),(zi (-1))]),[0,1,2,3,4,5,6,7,8,9],false),
 (zn 13 (.new (.agg [.int .i64 0,.int .i64 0])),[],true),
 (⟨none,none,.st 2 (.t 13) (.t 35)⟩,[0,1,2,3,4,5,6,7,8,9,10,11],true)] (some [3,4,5,7,10,11,12,13,18,19,20]))
 (zr [zm 36 4,
 zm 37 12,
 zm 38 3,
 zm 39 12,
 zn 40 (.iad 2 (.t 38) (.t 39)),
 zL 41 2 40,
 zn 42 (.mkf (.func n_linear_sum_1) [] [(.t 5),(.t 11),(.t 13),(.t 7)]),
 zn 43 (.call n_linear_kept [(.t 41),(.t 42)]),
 zn 44 (.iad 2 (.t 36) (.t 37)),
 ⟨none,none,.st 2 (.t 44) (.t 43)⟩] [3,4,5,7,10,18,19,20]))))
 (zr [zn 45 (.bin .add (.t 20) (zi 1)),
 zm 20 45] [3,4,5,7,10,18,19,20])))
def i_linear_sum_l0:IR:=.loop b_linear_sum_0
theorem r_linear_sum_0 {C:Cx} {Y:Yl} {fr:Fr} {h:List Ob}:evw C Y i_linear_sum_l0 fr h=nxt (evw C Y b_linear_sum_0 fr h) fun fr h=>evw C Y i_linear_sum_l0 fr h:=w_loop
def i_linear_sum:IR:=.seq (zr [zn 5 (.box (.t 0)),
 zn 7 (.box (.t 2))] [1,3,4,5,7])
 (.seq (zr [zL 14 6 5,
 zm 15 1,
 zm 16 3,
 zn 17 (.call n_linear_total [(.t 14),(.t 15),(.t 16)]),
 zn 10 (.new (.agg [.int .i64 0,.int .i64 0])),
 ⟨none,none,.st 2 (.t 10) (.t 17)⟩] [1,3,4,5,7,10])
 (.seq (zr [zm 18 1,
 zn 19 (.len (.t 18)),
 zn 20 (.mov (zi 0))] [3,4,5,7,10,18,19,20])
 (.blk 0 (i_linear_sum_l0))))
def F_linear_sum:F:=⟨i_linear_sum,[],true⟩
def i_linear_iff:IR:=.seq (zr [zn 3 (.box (.t 0))] [1,2,3])
 (.seq (.dq [(zn 11 (.fad 1 (.t 3)),[]),
 (zl 12 1 11,[0]),
 (zn 13 (.iad 1 (.t 12) (zi 0)),[0,1]),
 (zl 14 1 13,[0,1,2]),
 (zn 15 (.fad 1 (.t 3)),[]),
 (zl 16 1 15,[4]),
 (zn 17 (.sll 1 (.t 16) (some (zi 1)) none none),[4,5]),
 (zm 6 14,[0,1,2,3]),
 (zm 7 17,[0,1,2,3,4,5,6,7])] (some [1,2,3,6,7]))
 (.seq (.dq [(zm 18 1,[]),
 (zm 19 6,[]),
 (zn 20 (.iad 2 (.t 18) (.t 19)),[0,1]),
 (zL 21 2 20,[0,1,2]),
 (zn 22 (.call n_dom_Has [(.t 21),(zi 1)]),[0,1,2,3]),
 (zm 23 1,[]),
 (zm 24 6,[]),
 (zn 25 (.iad 2 (.t 23) (.t 24)),[5,6]),
 (zL 26 2 25,[5,6,7]),
 (zn 27 (.call n_dom_Has [(.t 26),(zi 0)]),[0,1,2,3,4,5,6,7,8]),
 (zm 8 22,[0,1,2,3,4,5,6,7,8,9]),
 (zm 9 27,[0,1,2,3,4,5,6,7,8,9,10])] (some [1,2,3,6,7,8,9]))
 (.seq (.blk 0 (.seq (zr [zm 29 8,
 zn 30 (.un .not (.t 29)),
 zm 31 30,
 zM 32 31 9,
 zg 33 31 (.un .not (.t 32)),
 zp 34 31 33,
 zm 28 34] [1,2,3,6,7,8,9,28])
 (.cond (.t 28) (.seq (zr [zL 35 6 3,
 zm 36 2,
 zn 37 (.call n_linear_none [(.t 35),(.t 36)])] [])
 (.ret)) (.seq (zr [zm 39 8,
 zm 40 39,
 zM 41 40 9,
 zg 42 40 (.un .not (.t 41)),
 zp 43 40 42,
 zm 38 43] [1,2,3,6,7,8,9,38])
 (.cond (.t 38) (zr [zL 44 6 3,
 zm 45 7,
 zn 46 (.fad 3 (.t 3)),
 zl 47 1 46,
 zm 48 1,
 zm 49 2,
 zn 50 (.call n_linear_sum [(.t 44),(.t 45),(.t 47),(.t 48),(.t 49)])] [1,2,3,6,7]) (.seq (zr [zm 52 9,
 zm 53 52,
 zM 54 53 8,
 zg 55 53 (.un .not (.t 54)),
 zp 56 53 55,
 zm 51 56] [1,2,3,6,7,51])
 (.cond (.t 51) (.dc [(zL 57 6 3,[],false),
 (zm 58 7,[],false),
 (zn 59 (.fad 3 (.t 3)),[],false),
 (zl 60 1 59,[2],false),
 (zn 61 (.call n_linear_Contrary [(.t 60)]),[2,3],false),
 (zm 62 1,[],false),
 (zm 63 2,[],false),
 (zn 64 (.call n_linear_sum [(.t 57),(.t 58),(.t 61),(.t 62),(.t 63)]),[0,1,2,3,4,5,6],true)] (some [1,2,3,6,7])) (.skip))))))))
 (.seq (zr [zL 65 6 3,
 zm 66 7,
 zm 67 1,
 zn 68 (.call n_linear_total [(.t 65),(.t 66),(.t 67)]),
 zn 10 (.new (.agg [.int .i64 0,.int .i64 0])),
 ⟨none,none,.st 2 (.t 10) (.t 68)⟩] [1,2,3,6,10])
 (zr [zm 69 2,
 zm 70 6,
 zm 71 1,
 zm 72 6,
 zn 73 (.iad 2 (.t 71) (.t 72)),
 zL 74 2 73,
 zn 75 (.mkf (.func n_linear_iff_1) [] [(.t 10),(.t 3)]),
 zn 76 (.call n_linear_kept [(.t 74),(.t 75)]),
 zn 77 (.iad 2 (.t 69) (.t 70)),
 ⟨none,none,.st 2 (.t 77) (.t 76)⟩] [])))))
def F_linear_iff:F:=⟨i_linear_iff,[],true⟩
def i_product_Step_1:IR:=.seq (zr [zn 1 (.box (.t 0)),
 zn 2 (.mov (zb false))] [1])
 (.seq (zr [zL 3 2 1,
 zn 4 (.call n_dom_May [(.t 3)]),
 zn 5 (.un .not (.t 4)),
 zm 2 5] [2])
 (.ret))
def F_product_Step_1:F:=⟨i_product_Step_1,[(2,none)],false⟩
def b_product_try_0:IR:=.seq (zr [zn 27 (.bin .lss (.t 26) (.t 25))] [1,2,6,7,9,18,19,20,24,25,26,27])
 (.seq (.cond (.t 27) (.skip) (.ext 2))
 (.seq (.blk 3 (.seq (zr [zn 28 (.iad 1 (.t 24) (.t 26)),
 zl 29 1 28,
 zm 11 29] [1,2,6,7,9,11,18,19,20,24,25,26])
 (.seq (.seq (zr [zm 31 2,
 zm 32 9,
 zm 33 11,
 zn 34 (.bin .mul (.t 32) (.t 33)),
 zn 35 (.call n_slices_BinarySearch_sint_int [(.t 31),(.t 34)]),
 zm 30 35,
 zn 36 (.ext (.t 30) 0),
 zn 37 (.ext (.t 30) 1),
 zm 12 36,
 zm 13 37] [1,2,6,7,9,11,13,18,19,20,24,25,26])
 (.seq (zr [zm 38 13,
 zn 39 (.un .not (.t 38))] [1,2,6,7,9,11,18,19,20,24,25,26,39])
 (.cond (.t 39) (.ext 3) (.skip))))
 (.dc [(zn 40 (.op (.iaa 3 1) [(.t 7),(zi 0)]),[],false),
 (zl 41 1 40,[0],false),
 (zm 42 9,[],false),
 (zn 43 (.op (.iaa 3 1) [(.t 7),(zi 1)]),[],false),
 (zl 44 1 43,[3],false),
 (zm 45 11,[],false),
 (zn 46 (.op (.iaa 3 1) [(.t 7),(zi 2)]),[],false),
 (zl 47 1 46,[6],false),
 (zm 48 9,[],false),
 (zm 49 11,[],false),
 (zn 50 (.bin .mul (.t 48) (.t 49)),[8,9],false),
 (⟨none,none,.op (.mpu (some .i64)) [(.t 41),(.t 42),(zi 1)]⟩,[0,1,2],true),
 (⟨none,none,.op (.mpu (some .i64)) [(.t 44),(.t 45),(zi 1)]⟩,[0,1,2,3,4,5,11],true),
 (⟨none,none,.op (.mpu (some .i64)) [(.t 47),(.t 50),(zi 1)]⟩,[0,1,2,3,4,5,6,7,8,9,10,11,12],true)] (some [1,2,6,7,9,18,19,20,24,25,26])))))
 (zr [zn 51 (.bin .add (.t 26) (zi 1)),
 zm 26 51] [1,2,6,7,9,18,19,20,24,25,26])))
def i_product_try_l0:IR:=.loop b_product_try_0
theorem r_product_try_0 {C:Cx} {Y:Yl} {fr:Fr} {h:List Ob}:evw C Y i_product_try_l0 fr h=nxt (evw C Y b_product_try_0 fr h) fun fr h=>evw C Y i_product_try_l0 fr h:=w_loop
def b_product_try_1:IR:=.seq (zr [zn 21 (.bin .lss (.t 20) (.t 19))] [1,2,6,7,18,19,20,21])
 (.seq (.cond (.t 21) (.skip) (.ext 0))
 (.seq (.blk 1 (.seq (zr [zn 22 (.iad 1 (.t 18) (.t 20)),
 zl 23 1 22,
 zm 9 23] [1,2,6,7,9,18,19,20])
 (.scg (.seq (.lab 0)
 (.seq (zr [zm 24 1,
 zn 25 (.len (.t 24)),
 zn 26 (.mov (zi 0))] [1,2,6,7,9,18,19,20,24,25,26])
 (.blk 2 (i_product_try_l0)))))))
 (zr [zn 52 (.bin .add (.t 20) (zi 1)),
 zm 20 52] [1,2,6,7,18,19,20])))
def i_product_try_l1:IR:=.loop b_product_try_1
theorem r_product_try_1 {C:Cx} {Y:Yl} {fr:Fr} {h:List Ob}:evw C Y i_product_try_l1 fr h=nxt (evw C Y b_product_try_1 fr h) fun fr h=>evw C Y i_product_try_l1 fr h:=w_loop
def i_product_try:IR:=.seq (zr [zn 6 (.new (.agg [.nmp,.nmp,.nmp]))] [0,1,2,6])
 (.seq (zr [zn 14 (.op .mkm []),
 zn 15 (.op .mkm []),
 zn 16 (.op .mkm []),
 zn 17 (.bld [.nmp,.nmp,.nmp] [(0,1,(.t 14)),(1,1,(.t 15)),(2,1,(.t 16))]),
 zn 7 (.new (.agg [.nmp,.nmp,.nmp])),
 ⟨none,none,.st 3 (.t 7) (.t 17)⟩] [0,1,2,6,7])
 (.seq (.seq (zr [zm 18 0,
 zn 19 (.len (.t 18)),
 zn 20 (.mov (zi 0))] [1,2,6,7,18,19,20])
 (.blk 0 (i_product_try_l1)))
 (.seq (zr [zL 53 3 7,
 ⟨none,none,.st 3 (.t 6) (.t 53)⟩] [6])
 (.ret))))
def F_product_try:F:=⟨i_product_try,[(6,some (true,3))],true⟩
def i_dom_List:IR:=.seq (zr [zn 1 (.box (.t 0)),
 zn 2 (.mov (.c (.nsl 1)))] [1])
 (.seq (zr [zL 3 2 1,
 zn 4 (.call n_dom_asked_sint [(.t 3),(.c (.fn (.func n_dom_List_1) [] []))]),
 zm 2 4] [2])
 (.ret))
def F_dom_List:F:=⟨i_dom_List,[(2,none)],false⟩
def i_dom_Less:IR:=.seq (zr [zn 2 (.box (.t 0)),
 zn 3 (.box (.t 1)),
 zn 4 (.new (.agg [.nsl 1,.int .u64 0]))] [2,3,4])
 (.seq (zr [zL 5 2 2,
 zn 6 (.mkf (.func n_dom_Less_1) [] [(.t 3)]),
 zn 7 (.call n_dom_kept [(.t 5),(.t 6)]),
 ⟨none,none,.st 2 (.t 4) (.t 7)⟩] [4])
 (.ret))
def F_dom_Less:F:=⟨i_dom_Less,[(4,some (true,2))],false⟩
def i_element_Step_1:IR:=.seq (zr [zn 1 (.box (.t 0)),
 zn 2 (.mov (zb false))] [1])
 (.seq (zr [zL 3 2 1,
 zn 4 (.call n_dom_May [(.t 3)]),
 zn 5 (.un .not (.t 4)),
 zm 2 5] [2])
 (.ret))
def F_element_Step_1:F:=⟨i_element_Step_1,[(2,none)],false⟩
def b_element_kept_0:IR:=.seq (zr [zn 11 (.bin .lss (.t 10) (.t 9))] [1,2,4,8,9,10,11])
 (.seq (.cond (.t 11) (.skip) (.ext 0))
 (.seq (.blk 1 (.seq (zr [zn 12 (.iad 1 (.t 8) (.t 10)),
 zl 13 1 12,
 zm 6 13] [1,2,4,6,8,9,10])
 (.seq (zr [zm 14 1,
 zm 15 6,
 zn 16 (.callv (.t 14) [(.t 15)]),
 zn 17 (.un .not (.t 16))] [1,2,4,6,8,9,10,17])
 (.cond (.t 17) (zr [zL 18 2 2,
 zm 19 6,
 zn 20 (.call n_dom_Less [(.t 18),(.t 19)]),
 ⟨none,none,.st 2 (.t 2) (.t 20)⟩] [1,2,4,8,9,10]) (.skip)))))
 (zr [zn 21 (.bin .add (.t 10) (zi 1)),
 zm 10 21] [1,2,4,8,9,10])))
def i_element_kept_l0:IR:=.loop b_element_kept_0
theorem r_element_kept_0 {C:Cx} {Y:Yl} {fr:Fr} {h:List Ob}:evw C Y i_element_kept_l0 fr h=nxt (evw C Y b_element_kept_0 fr h) fun fr h=>evw C Y i_element_kept_l0 fr h:=w_loop
def i_element_kept:IR:=.seq (zr [zn 2 (.box (.t 0)),
 zn 4 (.new (.agg [.nsl 1,.int .u64 0]))] [1,2,4])
 (.seq (.seq (zr [zL 7 2 2,
 zn 8 (.call n_dom_List [(.t 7)]),
 zn 9 (.len (.t 8)),
 zn 10 (.mov (zi 0))] [1,2,4,8,9,10])
 (.blk 0 (i_element_kept_l0)))
 (.seq (zr [zL 22 2 2,
 ⟨none,none,.st 2 (.t 4) (.t 22)⟩] [4])
 (.ret)))
def F_element_kept:F:=⟨i_element_kept,[(4,some (true,2))],true⟩
def i_element_Step_2:IR:=.seq (zr [zn 6 (.mov (zb false))] [0,1,2,3,4])
 (.seq (.dq [(zm 8 0,[]),
 (zn 9 (.bin .geq (.t 8) (zi 0)),[0]),
 (zm 10 9,[0,1]),
 (zM 11 10 0,[0,1,2]),
 (zg 12 10 (.fad 5 (.t 1)),[0,1,2]),
 (zg 13 10 (.ld false 1 (.t 12)),[0,1,2,4]),
 (zg 14 10 (.len (.t 13)),[0,1,2,4,5]),
 (zg 15 10 (.bin .lss (.t 11) (.t 14)),[0,1,2,3,4,5,6]),
 (zp 16 10 15,[0,1,2,3,4,5,6,7]),
 (zm 17 16,[0,1,2,3,4,5,6,7,8]),
 (zg 18 17 (.ld false 1 (.t 2)),[0,1,2,3,4,5,6,7,8,9]),
 (zg 19 17 (.ld false 1 (.t 3)),[0,1,2,3,4,5,6,7,8,9]),
 (zg 20 17 (.iad 2 (.t 18) (.t 19)),[0,1,2,3,4,5,6,7,8,9,10,11]),
 (zg 21 17 (.ld true 2 (.t 20)),[0,1,2,3,4,5,6,7,8,9,10,11,12]),
 (zg 22 17 (.fad 5 (.t 1)),[0,1,2,3,4,5,6,7,8,9]),
 (zg 23 17 (.ld false 1 (.t 22)),[0,1,2,3,4,5,6,7,8,9,14]),
 (zM 24 17 0,[0,1,2,3,4,5,6,7,8,9]),
 (zg 25 17 (.iad 1 (.t 23) (.t 24)),[0,1,2,3,4,5,6,7,8,9,14,15,16]),
 (zg 26 17 (.ld false 1 (.t 25)),[0,1,2,3,4,5,6,7,8,9,14,15,16,17]),
 (zg 27 17 (.call n_dom_Has [(.t 21),(.t 26)]),[0,1,2,3,4,5,6,7,8,9,10,11,12,13,14,15,16,17,18]),
 (zp 28 17 27,[0,1,2,3,4,5,6,7,8,9,10,11,12,13,14,15,16,17,18,19]),
 (zm 7 28,[0,1,2,3,4,5,6,7,8,9,10,11,12,13,14,15,16,17,18,19,20])] (some [0,1,4,7]))
 (.seq (.seq (zr [zm 29 7] [0,1,4,7,29])
 (.cond (.t 29) (.dq [(zl 30 1 4,[]),
 (zn 31 (.fad 5 (.t 1)),[]),
 (zl 32 1 31,[1]),
 (zm 33 0,[]),
 (zn 34 (.iad 1 (.t 32) (.t 33)),[1,2,3]),
 (zl 35 1 34,[1,2,3,4]),
 (zn 36 (.op (.lku (some .i64) (.int .i64 0) false) [(.t 30),(.t 35)]),[0,1,2,3,4,5]),
 (zn 37 (.bin .add (.t 36) (zi 1)),[0,1,2,3,4,5,6]),
 (⟨none,none,.op (.mpu (some .i64)) [(.t 30),(.t 35),(.t 37)]⟩,[0,1,2,3,4,5,6,7])] (some [7])) (.skip)))
 (.seq (zr [zm 38 7,
 zm 6 38] [6])
 (.ret))))
def F_element_Step_2:F:=⟨i_element_Step_2,[(6,none)],true⟩
def i_dom_Has:IR:=.seq (zr [zn 2 (.box (.t 0)),
 zn 4 (.mov (zb false))] [1,2])
 (.seq (zr [zL 5 2 2,
 zn 6 (.call n_dom_List [(.t 5)]),
 zm 7 1,
 zn 8 (.call n_slices_Contains_sint_int [(.t 6),(.t 7)]),
 zm 4 8] [4])
 (.ret))
def F_dom_Has:F:=⟨i_dom_Has,[(4,none)],false⟩
def i_element_Step_3:IR:=.seq (zr [zn 3 (.mov (zb false))] [0,1])
 (.seq (zr [zl 4 1 1,
 zm 5 0,
 zn 6 (.op (.lku (some .i64) (.int .i64 0) false) [(.t 4),(.t 5)]),
 zn 7 (.bin .gtr (.t 6) (zi 0)),
 zm 3 7] [3])
 (.ret))
def F_element_Step_3:F:=⟨i_element_Step_3,[(3,none)],true⟩
def i_differ_Step_1:IR:=.seq (zr [zn 1 (.box (.t 0)),
 zn 2 (.mov (zb false))] [1])
 (.seq (zr [zL 3 2 1,
 zn 4 (.call n_dom_May [(.t 3)]),
 zn 5 (.un .not (.t 4)),
 zm 2 5] [2])
 (.ret))
def F_differ_Step_1:F:=⟨i_differ_Step_1,[(2,none)],false⟩
def b_differ_few_0:IR:=.seq (zr [zn 31 (.bin .lss (.t 30) (.t 29))] [1,2,5,12,13,14,28,29,30,31])
 (.seq (.cond (.t 31) (.skip) (.ext 2))
 (.seq (.blk 3 (.seq (zr [zn 32 (.iad 1 (.t 28) (.t 30)),
 zl 33 1 32,
 zm 9 33] [1,2,5,9,12,13,14,28,29,30])
 (zr [zm 34 5,
 zm 35 9,
 zn 36 (.op (.lku (some .i64) (.int .i64 0) false) [(.t 34),(.t 35)]),
 zn 37 (.bin .add (.t 36) (zi 1)),
 ⟨none,none,.op (.mpu (some .i64)) [(.t 34),(.t 35),(.t 37)]⟩] [1,2,5,12,13,14,28,29,30])))
 (zr [zn 38 (.bin .add (.t 30) (zi 1)),
 zm 30 38] [1,2,5,12,13,14,28,29,30])))
def i_differ_few_l0:IR:=.loop b_differ_few_0
theorem r_differ_few_0 {C:Cx} {Y:Yl} {fr:Fr} {h:List Ob}:evw C Y i_differ_few_l0 fr h=nxt (evw C Y b_differ_few_0 fr h) fun fr h=>evw C Y i_differ_few_l0 fr h:=w_loop
def b_differ_few_1:IR:=.seq (zr [zn 15 (.bin .lss (.t 14) (.t 13))] [1,2,5,12,13,14,15])
 (.seq (.cond (.t 15) (.skip) (.ext 0))
 (.seq (.blk 1 (.seq (zr [zn 16 (.iad 1 (.t 12) (.t 14)),
 zl 17 1 16,
 zm 7 17] [1,2,5,7,12,13,14])
 (.seq (.seq (zr [zm 18 1,
 zm 19 7,
 zn 20 (.iad 2 (.t 18) (.t 19)),
 zL 21 2 20,
 zn 22 (.call n_dom_Size [(.t 21)]),
 zn 23 (.bin .eql (.t 22) (zi 0))] [1,2,5,7,12,13,14,23])
 (.cond (.t 23) (.seq (zr [zn 4 (.mov (zb true))] [4])
 (.ret)) (.skip)))
 (.seq (zr [zm 24 1,
 zm 25 7,
 zn 26 (.iad 2 (.t 24) (.t 25)),
 zL 27 2 26,
 zn 28 (.call n_dom_List [(.t 27)]),
 zn 29 (.len (.t 28)),
 zn 30 (.mov (zi 0))] [1,2,5,12,13,14,28,29,30])
 (.blk 2 (i_differ_few_l0))))))
 (zr [zn 39 (.bin .add (.t 14) (zi 1)),
 zm 14 39] [1,2,5,12,13,14])))
def i_differ_few_l1:IR:=.loop b_differ_few_1
theorem r_differ_few_1 {C:Cx} {Y:Yl} {fr:Fr} {h:List Ob}:evw C Y i_differ_few_l1 fr h=nxt (evw C Y b_differ_few_1 fr h) fun fr h=>evw C Y i_differ_few_l1 fr h:=w_loop
def i_differ_few:IR:=.seq (zr [zn 2 (.box (.t 0)),
 zn 4 (.mov (zb false))] [1,2])
 (.seq (zr [zn 10 (.op .mkm []),
 zm 5 10] [1,2,5])
 (.seq (.seq (zr [zn 11 (.fad 1 (.t 2)),
 zl 12 1 11,
 zn 13 (.len (.t 12)),
 zn 14 (.mov (zi 0))] [1,2,5,12,13,14])
 (.blk 0 (i_differ_few_l1)))
 (.seq (zr [zm 40 5,
 zn 41 (.op .mln [(.t 40)]),
 zn 42 (.fad 1 (.t 2)),
 zl 43 1 42,
 zn 44 (.len (.t 43)),
 zn 45 (.bin .lss (.t 41) (.t 44)),
 zm 4 45] [4])
 (.ret))))
def F_differ_few:F:=⟨i_differ_few,[(4,none)],false⟩
def b_differ_kept_0:IR:=.seq (zr [zn 11 (.bin .lss (.t 10) (.t 9))] [1,2,4,8,9,10,11])
 (.seq (.cond (.t 11) (.skip) (.ext 0))
 (.seq (.blk 1 (.seq (zr [zn 12 (.iad 1 (.t 8) (.t 10)),
 zl 13 1 12,
 zm 6 13] [1,2,4,6,8,9,10])
 (.seq (zr [zm 14 1,
 zm 15 6,
 zn 16 (.callv (.t 14) [(.t 15)]),
 zn 17 (.un .not (.t 16))] [1,2,4,6,8,9,10,17])
 (.cond (.t 17) (zr [zL 18 2 2,
 zm 19 6,
 zn 20 (.call n_dom_Less [(.t 18),(.t 19)]),
 ⟨none,none,.st 2 (.t 2) (.t 20)⟩] [1,2,4,8,9,10]) (.skip)))))
 (zr [zn 21 (.bin .add (.t 10) (zi 1)),
 zm 10 21] [1,2,4,8,9,10])))
def i_differ_kept_l0:IR:=.loop b_differ_kept_0
theorem r_differ_kept_0 {C:Cx} {Y:Yl} {fr:Fr} {h:List Ob}:evw C Y i_differ_kept_l0 fr h=nxt (evw C Y b_differ_kept_0 fr h) fun fr h=>evw C Y i_differ_kept_l0 fr h:=w_loop
def i_differ_kept:IR:=.seq (zr [zn 2 (.box (.t 0)),
 zn 4 (.new (.agg [.nsl 1,.int .u64 0]))] [1,2,4])
 (.seq (.seq (zr [zL 7 2 2,
 zn 8 (.call n_dom_List [(.t 7)]),
 zn 9 (.len (.t 8)),
 zn 10 (.mov (zi 0))] [1,2,4,8,9,10])
 (.blk 0 (i_differ_kept_l0)))
 (.seq (zr [zL 22 2 2,
 ⟨none,none,.st 2 (.t 4) (.t 22)⟩] [4])
 (.ret)))
def F_differ_kept:F:=⟨i_differ_kept,[(4,some (true,2))],true⟩
def i_differ_Step_2:IR:=.seq (zr [zn 5 (.box (.t 0)),
 zn 6 (.mov (zb false))] [1,2,3,4,5])
 (.seq (zr [zl 7 1 1,
 zn 8 (.un .not (.t 7)),
 zm 9 8,
 zg 10 9 (.fad 1 (.t 2)),
 zg 11 9 (.ld false 1 (.t 10)),
 zg 12 9 (.mkf (.func n_differ_Step_2_1) [] [(.t 3),(.t 4),(.t 5)]),
 zg 13 9 (.call n_slices_ContainsFunc_sint_int [(.t 11),(.t 12)]),
 zg 14 9 (.un .not (.t 13)),
 zp 15 9 14,
 zm 6 15] [6])
 (.ret))
def F_differ_Step_2:F:=⟨i_differ_Step_2,[(6,none)],false⟩
def i_differ_Step_2_1:IR:=.seq (zr [zn 5 (.mov (zb false))] [0,1,2,3])
 (.seq (zr [zl 9 1 1,
 zm 10 0,
 zn 11 (.iad 2 (.t 9) (.t 10)),
 zL 12 2 11,
 zn 13 (.call n_dom_Single [(.t 12)]),
 zm 8 13,
 zn 14 (.ext (.t 8) 0),
 zn 15 (.ext (.t 8) 1),
 zm 6 14,
 zm 7 15] [0,2,3,6,7])
 (.seq (zr [zm 16 0,
 zl 17 1 2,
 zn 18 (.bin .neq (.t 16) (.t 17)),
 zm 19 18,
 zM 20 19 7,
 zp 21 19 20,
 zm 22 21,
 zM 23 22 6,
 zg 24 22 (.ld false 1 (.t 3)),
 zg 25 22 (.bin .eql (.t 23) (.t 24)),
 zp 26 22 25,
 zm 5 26] [5])
 (.ret)))
def F_differ_Step_2_1:F:=⟨i_differ_Step_2_1,[(5,none)],false⟩
def i_dom_Single:IR:=.seq (zr [zn 1 (.box (.t 0)),
 zn 2 (.mov (zi 0)),
 zn 3 (.mov (zb false))] [1])
 (.seq (.seq (zr [zL 4 2 1,
 zn 5 (.call n_dom_Size [(.t 4)]),
 zn 6 (.bin .neq (.t 5) (zi 1))] [1,6])
 (.cond (.t 6) (.seq (zr [zn 2 (.mov (zi 0)),
 zn 3 (.mov (zb false))] [2,3])
 (.ret)) (.skip)))
 (.seq (zr [zL 7 2 1,
 zn 8 (.call n_dom_Least [(.t 7)]),
 zn 9 (.ext (.t 8) 0),
 zn 10 (.ext (.t 8) 1),
 zm 2 9,
 zm 3 10] [2,3])
 (.ret)))
def F_dom_Single:F:=⟨i_dom_Single,[(2,none),(3,none)],false⟩
def i_table_Step_1:IR:=.seq (zr [zn 1 (.box (.t 0)),
 zn 2 (.mov (zb false))] [1])
 (.seq (zr [zL 3 2 1,
 zn 4 (.call n_dom_May [(.t 3)]),
 zn 5 (.un .not (.t 4)),
 zm 2 5] [2])
 (.ret))
def F_table_Step_1:F:=⟨i_table_Step_1,[(2,none)],false⟩
def b_table_alive_0:IR:=.seq (zr [zn 31 (.bin .lss (.t 30) (.t 29))] [1,2,5,6,7,8,28,29,30,31])
 (.seq (.cond (.t 31) (.skip) (.ext 0))
 (.seq (.blk 1 (.seq (zr [zm 32 30,
 zn 33 (.iad 1 (.t 28) (.t 30)),
 zl 34 1 33,
 zm 9 32,
 zm 10 34] [1,2,5,6,7,8,9,10,28,29,30])
 (.seq (.dq [(zm 35 1,[]),
 (zm 36 10,[]),
 (zn 37 (.iad 2 (.t 35) (.t 36)),[0,1]),
 (zL 38 2 37,[0,1,2]),
 (zm 39 8,[]),
 (zm 40 9,[]),
 (zn 41 (.iad 1 (.t 39) (.t 40)),[4,5]),
 (zl 42 1 41,[4,5,6]),
 (zn 43 (.call n_dom_Has [(.t 38),(.t 42)]),[0,1,2,3,4,5,6,7]),
 (zn 44 (.un .not (.t 43)),[0,1,2,3,4,5,6,7,8])] (some [1,2,5,6,7,8,28,29,30,44]))
 (.cond (.t 44) (.gto 0) (.skip)))))
 (zr [zn 45 (.bin .add (.t 30) (zi 1)),
 zm 30 45] [1,2,5,6,7,8,28,29,30])))
def i_table_alive_l0:IR:=.loop b_table_alive_0
theorem r_table_alive_0 {C:Cx} {Y:Yl} {fr:Fr} {h:List Ob}:evw C Y i_table_alive_l0 fr h=nxt (evw C Y b_table_alive_0 fr h) fun fr h=>evw C Y i_table_alive_l0 fr h:=w_loop
def i_table_alive:IR:=.seq (zr [zn 2 (.box (.t 0)),
 zn 4 (.mov (.c (.nsl 1)))] [1,2])
 (.scg (.seq (zr [zn 5 (.mov (.c (.nsl 1)))] [1,2,5])
 (.seq (zr [zn 11 (.fad 1 (.t 2)),
 zl 12 1 11,
 zn 13 (.len (.t 12)),
 zm 6 13] [1,2,5,6])
 (.seq (zr [zn 14 (.fad 5 (.t 2)),
 zl 15 1 14,
 zm 7 15] [1,2,5,6,7])
 (.seq (.lab 0)
 (.seq (.seq (zr [zm 16 7,
 zn 17 (.len (.t 16)),
 zn 18 (.bin .eql (.t 17) (zi 0))] [1,2,5,6,7,18])
 (.cond (.t 18) (.seq (zr [zm 19 5,
 zm 4 19] [4])
 (.ret)) (.skip)))
 (.seq (zr [zm 20 7,
 zm 21 6,
 zm 22 6,
 zn 23 (.sll 1 (.t 20) none (some (.t 21)) (some (.t 22))),
 zm 8 23] [1,2,5,6,7,8])
 (.seq (zr [zm 24 7,
 zm 25 6,
 zn 26 (.sll 1 (.t 24) (some (.t 25)) none none),
 zm 7 26] [1,2,5,6,7,8])
 (.seq (.seq (zr [zn 27 (.fad 1 (.t 2)),
 zl 28 1 27,
 zn 29 (.len (.t 28)),
 zn 30 (.mov (zi 0))] [1,2,5,6,7,8,28,29,30])
 (.blk 0 (i_table_alive_l0)))
 (.seq (zr [zm 46 5,
 zm 47 8,
 zn 48 (.bsf (.nsl 1) 1 [(0,(.t 47))]),
 zn 49 (.app 1 24 (.t 46) (.t 48)),
 zm 5 49] [1,2,5,6,7])
 (.gto 0)))))))))))
def F_table_alive:F:=⟨i_table_alive,[(4,none)],false⟩
def i_slices_ContainsFunc_ssint_sint:IR:=.seq (zr [zn 4 (.mov (zb false))] [0,1])
 (.seq (zr [zm 5 0,
 zm 6 1,
 zn 7 (.call n_slices_IndexFunc_ssint_sint [(.t 5),(.t 6)]),
 zn 8 (.bin .geq (.t 7) (zi 0)),
 zm 4 8] [4])
 (.ret))
def F_slices_ContainsFunc_ssint_sint:F:=⟨i_slices_ContainsFunc_ssint_sint,[(4,none)],false⟩
def i_table_Step_2:IR:=.seq (zr [zn 4 (.mov (zb false))] [0,1,2])
 (.seq (.dq [(zm 5 0,[]),
 (zl 6 1 1,[]),
 (zn 7 (.iad 1 (.t 5) (.t 6)),[0,1]),
 (zl 8 1 7,[0,1,2]),
 (zl 9 1 2,[]),
 (zn 10 (.bin .eql (.t 8) (.t 9)),[0,1,2,3,4]),
 (zm 4 10,[0,1,2,3,4,5])] (some [4]))
 (.ret))
def F_table_Step_2:F:=⟨i_table_Step_2,[(4,none)],false⟩
def i_math_bits_OnesCount64:IR:=.seq (zr [zn 2 (.mov (zi 0))] [0])
 (.seq (zr [zm 3 0,
 zn 4 (.bin .shr (.t 3) (.c (.int .u64 1))),
 zn 5 (.bin .and (.t 4) (.c (.int .u64 6148914691236517205))),
 zm 6 0,
 zn 7 (.bin .and (.t 6) (.c (.int .u64 6148914691236517205))),
 zn 8 (.bin .add (.t 5) (.t 7)),
 zm 0 8] [0])
 (.seq (zr [zm 9 0,
 zn 10 (.bin .shr (.t 9) (.c (.int .u64 2))),
 zn 11 (.bin .and (.t 10) (.c (.int .u64 3689348814741910323))),
 zm 12 0,
 zn 13 (.bin .and (.t 12) (.c (.int .u64 3689348814741910323))),
 zn 14 (.bin .add (.t 11) (.t 13)),
 zm 0 14] [0])
 (.seq (zr [zm 15 0,
 zn 16 (.bin .shr (.t 15) (.c (.int .u64 4))),
 zm 17 0,
 zn 18 (.bin .add (.t 16) (.t 17)),
 zn 19 (.bin .and (.t 18) (.c (.int .u64 1085102592571150095))),
 zm 0 19] [0])
 (.seq (zr [zm 20 0,
 zm 21 0,
 zn 22 (.bin .shr (.t 21) (.c (.int .u64 8))),
 zn 23 (.bin .add (.t 20) (.t 22)),
 zm 0 23] [0])
 (.seq (zr [zm 24 0,
 zm 25 0,
 zn 26 (.bin .shr (.t 25) (.c (.int .u64 16))),
 zn 27 (.bin .add (.t 24) (.t 26)),
 zm 0 27] [0])
 (.seq (zr [zm 28 0,
 zm 29 0,
 zn 30 (.bin .shr (.t 29) (.c (.int .u64 32))),
 zn 31 (.bin .add (.t 28) (.t 30)),
 zm 0 31] [0])
 (.seq (zr [zm 32 0,
 zn 33 (.conv .i64 (.t 32)),
 zn 34 (.bin .and (.t 33) (zi 127)),
 zm 2 34] [2])
 (.ret))))))))
def F_math_bits_OnesCount64:F:=⟨i_math_bits_OnesCount64,[(2,none)],false⟩
def b_ref11_sum_0:IR:=.seq (.seq (zr [zm 11 8,
 zm 12 1,
 zn 13 (.len (.t 12)),
 zn 14 (.bin .lss (.t 11) (.t 13))] [1,2,3,7,8,14])
 (.cond (.t 14) (.skip) (.ext 0)))
 (.seq (.blk 1 (.dq [(zm 17 7,[]),
 (zn 18 (.fad 2 (.t 3)),[]),
 (zl 19 1 18,[1]),
 (zm 20 8,[]),
 (zn 21 (.iad 1 (.t 19) (.t 20)),[1,2,3]),
 (zl 22 1 21,[1,2,3,4]),
 (zm 23 2,[]),
 (zm 24 1,[]),
 (zm 25 8,[]),
 (zn 26 (.iad 1 (.t 24) (.t 25)),[7,8]),
 (zl 27 1 26,[7,8,9]),
 (zn 28 (.iad 1 (.t 23) (.t 27)),[6,7,8,9,10]),
 (zl 29 1 28,[6,7,8,9,10,11]),
 (zn 30 (.bin .mul (.t 22) (.t 29)),[1,2,3,4,5,6,7,8,9,10,11,12]),
 (zn 31 (.bin .add (.t 17) (.t 30)),[0,1,2,3,4,5,6,7,8,9,10,11,12,13]),
 (zm 7 31,[0,1,2,3,4,5,6,7,8,9,10,11,12,13,14])] (some [1,2,3,7,8])))
 (zr [zm 15 8,
 zn 16 (.bin .add (.t 15) (zi 1)),
 zm 8 16] [1,2,3,7,8]))
def i_ref11_sum_l0:IR:=.loop b_ref11_sum_0
theorem r_ref11_sum_0 {C:Cx} {Y:Yl} {fr:Fr} {h:List Ob}:evw C Y i_ref11_sum_l0 fr h=nxt (evw C Y b_ref11_sum_0 fr h) fun fr h=>evw C Y i_ref11_sum_l0 fr h:=w_loop
def i_ref11_sum:IR:=.seq (zr [zn 3 (.box (.t 0)),
 zn 6 (.mov (zb false))] [1,2,3])
 (.seq (zr [zn 7 (.mov (zi 0))] [1,2,3,7])
 (.seq (.seq (zr [zn 8 (.mov (zi 0))] [1,2,3,7,8])
 (.blk 0 (i_ref11_sum_l0)))
 (.seq (zr [zm 32 7,
 zn 33 (.fad 4 (.t 3)),
 zl 34 1 33,
 zn 35 (.bin .lss (.t 32) (.t 34)),
 zm 9 35] [3,7,9])
 (.seq (zr [zm 36 7,
 zn 37 (.fad 4 (.t 3)),
 zl 38 1 37,
 zn 39 (.bin .eql (.t 36) (.t 38)),
 zm 10 39] [3,9,10])
 (.seq (zr [zm 40 10,
 zm 41 10,
 zn 42 (.un .not (.t 41)),
 zm 43 9,
 zm 44 9,
 zm 45 44,
 zF 46 45 10,
 zq 47 45 46,
 zm 48 9,
 zn 49 (.un .not (.t 48)),
 zm 50 49,
 zM 51 50 10,
 zg 52 50 (.un .not (.t 51)),
 zp 53 50 52,
 zm 54 9,
 zn 55 (.un .not (.t 54)),
 zn 56 (.bsl (.bool false) 6 [(0,(.t 40)),(1,(.t 42)),(2,(.t 43)),(3,(.t 47)),(4,(.t 53)),(5,(.t 55))]),
 zn 57 (.fad 3 (.t 3)),
 zl 58 1 57,
 zn 59 (.iad 1 (.t 56) (.t 58)),
 zl 60 1 59,
 zm 6 60] [6])
 (.ret))))))
def F_ref11_sum:F:=⟨i_ref11_sum,[(6,none)],false⟩
def b_slices_IndexFunc_sdom_Dom_dom_Dom_0:IR:=.seq (zr [zn 9 (.bin .lss (.t 8) (.t 7))] [0,1,7,8,9])
 (.seq (.cond (.t 9) (.skip) (.ext 0))
 (.seq (.blk 1 (.seq (zr [zm 10 8,
 zm 5 10] [0,1,5,7,8])
 (.seq (zr [zm 11 1,
 zm 12 0,
 zm 13 5,
 zn 14 (.iad 2 (.t 12) (.t 13)),
 zL 15 2 14,
 zn 16 (.callv (.t 11) [(.t 15)])] [0,1,5,7,8,16])
 (.cond (.t 16) (.seq (zr [zm 17 5,
 zm 4 17] [4])
 (.ret)) (.skip)))))
 (zr [zn 18 (.bin .add (.t 8) (zi 1)),
 zm 8 18] [0,1,7,8])))
def i_slices_IndexFunc_sdom_Dom_dom_Dom_l0:IR:=.loop b_slices_IndexFunc_sdom_Dom_dom_Dom_0
def i_slices_IndexFunc_sdom_Dom_dom_Dom:IR:=.seq (zr [zn 4 (.mov (zi 0))] [0,1])
 (.seq (.seq (zr [zm 6 0,
 zn 7 (.len (.t 6)),
 zn 8 (.mov (zi 0))] [0,1,7,8])
 (.blk 0 (i_slices_IndexFunc_sdom_Dom_dom_Dom_l0)))
 (.seq (zr [zn 4 (.mov (zi (-1)))] [4])
 (.ret)))
def F_slices_IndexFunc_sdom_Dom_dom_Dom:F:=⟨i_slices_IndexFunc_sdom_Dom_dom_Dom,[(4,none)],false⟩
def b_slices_IndexFunc_sapi_Con_api_Con_0:IR:=.seq (zr [zn 9 (.bin .lss (.t 8) (.t 7))] [0,1,7,8,9])
 (.seq (.cond (.t 9) (.skip) (.ext 0))
 (.seq (.blk 1 (.seq (zr [zm 10 8,
 zm 5 10] [0,1,5,7,8])
 (.seq (zr [zm 11 1,
 zm 12 0,
 zm 13 5,
 zn 14 (.iad 6 (.t 12) (.t 13)),
 zL 15 6 14,
 zn 16 (.callv (.t 11) [(.t 15)])] [0,1,5,7,8,16])
 (.cond (.t 16) (.seq (zr [zm 17 5,
 zm 4 17] [4])
 (.ret)) (.skip)))))
 (zr [zn 18 (.bin .add (.t 8) (zi 1)),
 zm 8 18] [0,1,7,8])))
def i_slices_IndexFunc_sapi_Con_api_Con_l0:IR:=.loop b_slices_IndexFunc_sapi_Con_api_Con_0
def i_slices_IndexFunc_sapi_Con_api_Con:IR:=.seq (zr [zn 4 (.mov (zi 0))] [0,1])
 (.seq (.seq (zr [zm 6 0,
 zn 7 (.len (.t 6)),
 zn 8 (.mov (zi 0))] [0,1,7,8])
 (.blk 0 (i_slices_IndexFunc_sapi_Con_api_Con_l0)))
 (.seq (zr [zn 4 (.mov (zi (-1)))] [4])
 (.ret)))
def F_slices_IndexFunc_sapi_Con_api_Con:F:=⟨i_slices_IndexFunc_sapi_Con_api_Con,[(4,none)],false⟩
def i_model_looker_linear:IR:=.seq (zr [zn 1 (.box (.t 0)),
 zn 2 (.mov (zb false))] [1])
 (.seq (zr [zL 3 7 1,
 zn 4 (.call n_model_looker_variables [(.t 3),(zi 1),(zi 8)]),
 zm 5 4,
 zg 6 5 (.ld true 7 (.t 1)),
 zg 7 5 (.call n_model_looker_sum [(.t 6),(zi 0)]),
 zp 8 5 7,
 zm 2 8] [2])
 (.ret))
def F_model_looker_linear:F:=⟨i_model_looker_linear,[(2,none)],false⟩
def i_model_looker_product:IR:=.seq (zr [zn 1 (.box (.t 0)),
 zn 2 (.mov (zb false))] [1])
 (.seq (zr [zL 3 7 1,
 zn 4 (.call n_model_looker_variables [(.t 3),(zi 3),(zi 3)]),
 zm 5 4,
 zg 6 5 (.ld true 7 (.t 1)),
 zg 7 5 (.call n_model_looker_bare [(.t 6),(zi 0),(zi 0)]),
 zp 8 5 7,
 zm 2 8] [2])
 (.ret))
def F_model_looker_product:F:=⟨i_model_looker_product,[(2,none)],false⟩
def i_model_looker_iff:IR:=.seq (zr [zn 1 (.box (.t 0)),
 zn 2 (.mov (zb false))] [1])
 (.seq (zr [zL 3 7 1,
 zn 4 (.call n_model_looker_variables [(.t 3),(zi 2),(zi 9)]),
 zm 5 4,
 zg 6 5 (.ld true 7 (.t 1)),
 zg 7 5 (.call n_model_looker_sum [(.t 6),(zi 1)]),
 zp 8 5 7,
 zm 2 8] [2])
 (.ret))
def F_model_looker_iff:F:=⟨i_model_looker_iff,[(2,none)],false⟩
def i_model_looker_element:IR:=.seq (zr [zn 1 (.box (.t 0)),
 zn 2 (.mov (zb false))] [1])
 (.seq (zr [zL 3 7 1,
 zn 4 (.call n_model_looker_variables [(.t 3),(zi 2),(zi 2)]),
 zm 5 4,
 zg 6 5 (.ld true 7 (.t 1)),
 zg 7 5 (.call n_model_looker_bare [(.t 6),(zi 1),(zi 96)]),
 zp 8 5 7,
 zm 2 8] [2])
 (.ret))
def F_model_looker_element:F:=⟨i_model_looker_element,[(2,none)],false⟩
def i_model_looker_differ:IR:=.seq (zr [zn 1 (.box (.t 0)),
 zn 2 (.mov (zb false))] [1])
 (.seq (zr [zL 3 7 1,
 zn 4 (.call n_model_looker_variables [(.t 3),(zi 2),(zi 8)]),
 zm 5 4,
 zg 6 5 (.ld true 7 (.t 1)),
 zg 7 5 (.call n_model_looker_bare [(.t 6),(zi 0),(zi 0)]),
 zp 8 5 7,
 zm 2 8] [2])
 (.ret))
def F_model_looker_differ:F:=⟨i_model_looker_differ,[(2,none)],false⟩
def i_model_looker_table:IR:=.seq (zr [zn 1 (.box (.t 0)),
 zn 2 (.mov (zb false))] [1])
 (.seq (zr [zL 3 7 1,
 zn 4 (.call n_model_looker_variables [(.t 3),(zi 1),(zi 8)]),
 zm 5 4,
 zg 6 5 (.ld true 7 (.t 1)),
 zg 7 5 (.call n_model_looker_bare [(.t 6),(zi 0),(zi 96)]),
 zp 8 5 7,
 zm 9 8,
 zg 10 9 (.fad 0 (.t 1)),
 zg 11 9 (.fad 5 (.t 10)),
 zg 12 9 (.ld false 1 (.t 11)),
 zg 13 9 (.len (.t 12)),
 zg 14 9 (.fad 0 (.t 1)),
 zg 15 9 (.fad 1 (.t 14)),
 zg 16 9 (.ld false 1 (.t 15)),
 zg 17 9 (.len (.t 16)),
 zg 18 9 (.bin .rem (.t 13) (.t 17)),
 zg 19 9 (.bin .eql (.t 18) (zi 0)),
 zp 20 9 19,
 zm 2 20] [2])
 (.ret))
def F_model_looker_table:F:=⟨i_model_looker_table,[(2,none)],false⟩
def i_bits_First:IR:=.seq (zr [zn 2 (.mov (.c (.int .u64 0)))] [0])
 (.seq (.blk 0 (.seq (zr [zm 4 0,
 zn 5 (.bin .leq (.t 4) (zi 0)),
 zm 3 5] [0,3])
 (.cond (.t 3) (.seq (zr [zn 2 (.mov (.c (.int .u64 0)))] [2])
 (.ret)) (.seq (zr [zm 7 0,
 zn 8 (.bin .geq (.t 7) (zi 64)),
 zm 6 8] [0,6])
 (.cond (.t 6) (.seq (zr [zn 2 (.mov (.c (.int .u64 18446744073709551615)))] [2])
 (.ret)) (.skip))))))
 (.seq (zr [zm 9 0,
 zn 10 (.bin .shl (.c (.int .u64 1)) (.t 9)),
 zn 11 (.bin .sub (.t 10) (.c (.int .u64 1))),
 zm 2 11] [2])
 (.ret)))
def F_bits_First:F:=⟨i_bits_First,[(2,none)],false⟩
def b_slices_IndexFunc_sint_int_0:IR:=.seq (zr [zn 9 (.bin .lss (.t 8) (.t 7))] [0,1,7,8,9])
 (.seq (.cond (.t 9) (.skip) (.ext 0))
 (.seq (.blk 1 (.seq (zr [zm 10 8,
 zm 5 10] [0,1,5,7,8])
 (.seq (zr [zm 11 1,
 zm 12 0,
 zm 13 5,
 zn 14 (.iad 1 (.t 12) (.t 13)),
 zl 15 1 14,
 zn 16 (.callv (.t 11) [(.t 15)])] [0,1,5,7,8,16])
 (.cond (.t 16) (.seq (zr [zm 17 5,
 zm 4 17] [4])
 (.ret)) (.skip)))))
 (zr [zn 18 (.bin .add (.t 8) (zi 1)),
 zm 8 18] [0,1,7,8])))
def i_slices_IndexFunc_sint_int_l0:IR:=.loop b_slices_IndexFunc_sint_int_0
def i_slices_IndexFunc_sint_int:IR:=.seq (zr [zn 4 (.mov (zi 0))] [0,1])
 (.seq (.seq (zr [zm 6 0,
 zn 7 (.len (.t 6)),
 zn 8 (.mov (zi 0))] [0,1,7,8])
 (.blk 0 (i_slices_IndexFunc_sint_int_l0)))
 (.seq (zr [zn 4 (.mov (zi (-1)))] [4])
 (.ret)))
def F_slices_IndexFunc_sint_int:F:=⟨i_slices_IndexFunc_sint_int,[(4,none)],false⟩
def b_linear_kept_0:IR:=.seq (zr [zn 11 (.bin .lss (.t 10) (.t 9))] [1,2,4,8,9,10,11])
 (.seq (.cond (.t 11) (.skip) (.ext 0))
 (.seq (.blk 1 (.seq (zr [zn 12 (.iad 1 (.t 8) (.t 10)),
 zl 13 1 12,
 zm 6 13] [1,2,4,6,8,9,10])
 (.seq (zr [zm 14 1,
 zm 15 6,
 zn 16 (.callv (.t 14) [(.t 15)]),
 zn 17 (.un .not (.t 16))] [1,2,4,6,8,9,10,17])
 (.cond (.t 17) (zr [zL 18 2 2,
 zm 19 6,
 zn 20 (.call n_dom_Less [(.t 18),(.t 19)]),
 ⟨none,none,.st 2 (.t 2) (.t 20)⟩] [1,2,4,8,9,10]) (.skip)))))
 (zr [zn 21 (.bin .add (.t 10) (zi 1)),
 zm 10 21] [1,2,4,8,9,10])))
def i_linear_kept_l0:IR:=.loop b_linear_kept_0
theorem r_linear_kept_0 {C:Cx} {Y:Yl} {fr:Fr} {h:List Ob}:evw C Y i_linear_kept_l0 fr h=nxt (evw C Y b_linear_kept_0 fr h) fun fr h=>evw C Y i_linear_kept_l0 fr h:=w_loop
def i_linear_kept:IR:=.seq (zr [zn 2 (.box (.t 0)),
 zn 4 (.new (.agg [.nsl 1,.int .u64 0]))] [1,2,4])
 (.seq (.seq (zr [zL 7 2 2,
 zn 8 (.call n_dom_List [(.t 7)]),
 zn 9 (.len (.t 8)),
 zn 10 (.mov (zi 0))] [1,2,4,8,9,10])
 (.blk 0 (i_linear_kept_l0)))
 (.seq (zr [zL 22 2 2,
 ⟨none,none,.st 2 (.t 4) (.t 22)⟩] [4])
 (.ret)))
def F_linear_kept:F:=⟨i_linear_kept,[(4,some (true,2))],true⟩
def i_linear_none_1:IR:=.seq (zr [zn 2 (.mov (zb false))] [])
 (.seq (zr [zn 2 (.mov (zb false))] [2])
 (.ret))
def F_linear_none_1:F:=⟨i_linear_none_1,[(2,none)],false⟩
def b_linear_total_0:IR:=.seq (zr [zn 13 (.bin .lss (.t 12) (.t 11))] [2,3,6,7,10,11,12,13])
 (.seq (.cond (.t 13) (.skip) (.ext 0))
 (.seq (.blk 1 (.seq (zr [zm 14 12,
 zn 15 (.iad 1 (.t 10) (.t 12)),
 zl 16 1 15,
 zm 8 14,
 zm 9 16] [2,3,6,7,8,9,10,11,12])
 (.dq [(zL 17 2 7,[]),
 (zn 18 (.fad 2 (.t 3)),[]),
 (zl 19 1 18,[1]),
 (zm 20 8,[]),
 (zn 21 (.iad 1 (.t 19) (.t 20)),[1,2,3]),
 (zl 22 1 21,[1,2,3,4]),
 (zm 23 2,[]),
 (zm 24 9,[]),
 (zn 25 (.iad 2 (.t 23) (.t 24)),[6,7]),
 (zL 26 2 25,[6,7,8]),
 (zn 27 (.call n_linear_ends_plus [(.t 17),(.t 22),(.t 26),(zi 1)]),[0,1,2,3,4,5,6,7,8,9]),
 (⟨none,none,.st 2 (.t 7) (.t 27)⟩,[0,1,2,3,4,5,6,7,8,9,10])] (some [2,3,6,7,10,11,12]))))
 (zr [zn 28 (.bin .add (.t 12) (zi 1)),
 zm 12 28] [2,3,6,7,10,11,12])))
def i_linear_total_l0:IR:=.loop b_linear_total_0
theorem r_linear_total_0 {C:Cx} {Y:Yl} {fr:Fr} {h:List Ob}:evw C Y i_linear_total_l0 fr h=nxt (evw C Y b_linear_total_0 fr h) fun fr h=>evw C Y i_linear_total_l0 fr h:=w_loop
def i_linear_total:IR:=.seq (zr [zn 3 (.box (.t 0)),
 zn 6 (.new (.agg [.int .i64 0,.int .i64 0]))] [1,2,3,6])
 (.seq (zr [zn 7 (.new (.agg [.int .i64 0,.int .i64 0]))] [1,2,3,6,7])
 (.seq (.seq (zr [zm 10 1,
 zn 11 (.len (.t 10)),
 zn 12 (.mov (zi 0))] [2,3,6,7,10,11,12])
 (.blk 0 (i_linear_total_l0)))
 (.seq (zr [zL 29 2 7,
 ⟨none,none,.st 2 (.t 6) (.t 29)⟩] [6])
 (.ret))))
def F_linear_total:F:=⟨i_linear_total,[(6,some (true,2))],false⟩
def i_linear_ends_plus:IR:=.seq (zr [zn 4 (.box (.t 0)),
 zn 6 (.box (.t 2)),
 zn 8 (.new (.agg [.int .i64 0,.int .i64 0]))] [1,3,4,6,8])
 (.seq (zr [zL 16 2 6,
 zn 17 (.call n_dom_Least [(.t 16)]),
 zm 15 17,
 zn 18 (.ext (.t 15) 0),
 zn 19 (.ext (.t 15) 1),
 zm 9 18,
 zm 10 19] [1,3,4,6,8,9])
 (.seq (zr [zL 21 2 6,
 zn 22 (.call n_dom_Greatest [(.t 21)]),
 zm 20 22,
 zn 23 (.ext (.t 20) 0),
 zn 24 (.ext (.t 20) 1),
 zm 11 23,
 zm 12 24] [1,3,4,8,9,11])
 (.seq (zr [zm 25 1,
 zm 26 9,
 zn 27 (.bin .mul (.t 25) (.t 26)),
 zm 28 1,
 zm 29 11,
 zn 30 (.bin .mul (.t 28) (.t 29)),
 zm 13 27,
 zm 14 30] [3,4,8,13,14])
 (.seq (zr [zn 31 (.fad 0 (.t 4)),
 zl 32 1 31,
 zm 33 3,
 zm 34 13,
 zm 35 14,
 zn 36 (.mxn false [(.t 34),(.t 35)]),
 zn 37 (.bin .mul (.t 33) (.t 36)),
 zn 38 (.bin .add (.t 32) (.t 37)),
 zn 39 (.fad 1 (.t 4)),
 zl 40 1 39,
 zm 41 3,
 zm 42 13,
 zm 43 14,
 zn 44 (.mxn true [(.t 42),(.t 43)]),
 zn 45 (.bin .mul (.t 41) (.t 44)),
 zn 46 (.bin .add (.t 40) (.t 45)),
 zn 47 (.bld [.int .i64 0,.int .i64 0] [(0,1,(.t 38)),(1,1,(.t 46))]),
 ⟨none,none,.st 2 (.t 8) (.t 47)⟩] [8])
 (.ret)))))
def F_linear_ends_plus:F:=⟨i_linear_ends_plus,[(8,some (true,2))],false⟩
def i_linear_sum_1:IR:=.seq (zr [zn 6 (.mov (zb false))] [0,1,2,3,4])
 (.seq (zr [zn 8 (.fad 2 (.t 1)),
 zl 9 1 8,
 zl 10 1 2,
 zn 11 (.iad 1 (.t 9) (.t 10)),
 zl 12 1 11,
 zm 13 0,
 zn 14 (.bin .mul (.t 12) (.t 13)),
 zm 7 14] [1,3,4,7])
 (.seq (zr [zn 15 (.fad 0 (.t 3)),
 zl 16 1 15,
 zm 17 7,
 zn 18 (.bin .add (.t 16) (.t 17)),
 zn 19 (.fad 1 (.t 3)),
 zl 20 1 19,
 zm 21 7,
 zn 22 (.bin .add (.t 20) (.t 21)),
 zn 23 (.bld [.int .i64 0,.int .i64 0] [(0,1,(.t 18)),(1,1,(.t 22))]),
 zl 24 1 4,
 zn 25 (.fad 4 (.t 1)),
 zl 26 1 25,
 zn 27 (.call n_linear_ends_may [(.t 23),(.t 24),(.t 26)]),
 zm 6 27] [6])
 (.ret)))
def F_linear_sum_1:F:=⟨i_linear_sum_1,[(6,none)],false⟩
def i_linear_ends_may:IR:=.seq (zr [zn 3 (.box (.t 0)),
 zn 4 (.box (.t 1)),
 zn 5 (.box (.t 2)),
 zn 6 (.mov (zb false))] [3,4,5])
 (.seq (zr [zn 8 (.mkf (.func n_linear_ends_may_1) [] [(.t 4),(.t 5)]),
 zm 7 8] [3,4,5,7])
 (.seq (.seq (zr [zl 9 1 4] [3,5,7,9])
 (.blk 0 (.seq (zr [zn 11 (.bin .eql (.t 9) (zi 0)),
 zm 10 11] [3,5,7,9,10])
 (.cond (.t 10) (.seq (zr [zn 12 (.fad 0 (.t 3)),
 zl 13 1 12,
 zl 14 1 5,
 zn 15 (.bin .leq (.t 13) (.t 14)),
 zm 16 15,
 zg 17 16 (.ld false 1 (.t 5)),
 zg 18 16 (.fad 1 (.t 3)),
 zg 19 16 (.ld false 1 (.t 18)),
 zg 20 16 (.bin .leq (.t 17) (.t 19)),
 zp 21 16 20,
 zm 6 21] [6])
 (.ret)) (.seq (.seq (zr [zn 23 (.bin .eql (.t 9) (zi 4)),
 zm 22 23] [3,7,9,22])
 (.cond (.t 22) (.skip) (zr [zn 24 (.bin .eql (.t 9) (zi 5)),
 zm 22 24] [3,7,9,22])))
 (.cond (.t 22) (.seq (zr [zm 25 7,
 zn 26 (.fad 1 (.t 3)),
 zl 27 1 26,
 zn 28 (.callv (.t 25) [(.t 27)]),
 zm 6 28] [6])
 (.ret)) (.seq (zr [zn 30 (.bin .eql (.t 9) (zi 1)),
 zm 29 30] [3,7,29])
 (.cond (.t 29) (.seq (zr [zm 31 7,
 zn 32 (.fad 0 (.t 3)),
 zl 33 1 32,
 zn 34 (.callv (.t 31) [(.t 33)]),
 zm 35 34,
 zF 36 35 7,
 zf 37 35 (.fad 1 (.t 3)),
 zf 38 35 (.ld false 1 (.t 37)),
 zf 39 35 (.callv (.t 36) [(.t 38)]),
 zq 40 35 39,
 zm 6 40] [6])
 (.ret)) (.skip)))))))))
 (.seq (zr [zm 41 7,
 zn 42 (.fad 0 (.t 3)),
 zl 43 1 42,
 zn 44 (.callv (.t 41) [(.t 43)]),
 zm 6 44] [6])
 (.ret))))
def F_linear_ends_may:F:=⟨i_linear_ends_may,[(6,none)],false⟩
def i_linear_Contrary:IR:=.seq (zr [zn 2 (.mov (zi 0))] [0])
 (.seq (.seq (zr [zm 3 0] [0,3])
 (.blk 0 (.seq (zr [zn 5 (.bin .eql (.t 3) (zi 0)),
 zm 4 5] [0,3,4])
 (.cond (.t 4) (.seq (zr [zn 2 (.mov (zi 1))] [2])
 (.ret)) (.seq (zr [zn 7 (.bin .eql (.t 3) (zi 1)),
 zm 6 7] [0,3,6])
 (.cond (.t 6) (.seq (zr [zn 2 (.mov (zi 0))] [2])
 (.ret)) (.seq (zr [zn 9 (.bin .eql (.t 3) (zi 2)),
 zm 8 9] [0,3,8])
 (.cond (.t 8) (.seq (zr [zn 2 (.mov (zi 5))] [2])
 (.ret)) (.seq (zr [zn 11 (.bin .eql (.t 3) (zi 5)),
 zm 10 11] [0,3,10])
 (.cond (.t 10) (.seq (zr [zn 2 (.mov (zi 2))] [2])
 (.ret)) (.seq (zr [zn 13 (.bin .eql (.t 3) (zi 3)),
 zm 12 13] [0,3,12])
 (.cond (.t 12) (.seq (zr [zn 2 (.mov (zi 4))] [2])
 (.ret)) (.seq (zr [zn 15 (.bin .eql (.t 3) (zi 4)),
 zm 14 15] [0,14])
 (.cond (.t 14) (.seq (zr [zn 2 (.mov (zi 3))] [2])
 (.ret)) (.skip)))))))))))))))
 (.seq (zr [zm 16 0,
 zm 2 16] [2])
 (.ret)))
def F_linear_Contrary:F:=⟨i_linear_Contrary,[(2,none)],false⟩
def i_linear_iff_1:IR:=.seq (zr [zn 4 (.mov (zb false))] [0,1,2])
 (.seq (.dq [(zm 5 0,[]),
 (zn 6 (.bin .eql (.t 5) (zi 1)),[0]),
 (zm 7 6,[0,1]),
 (zg 8 7 (.ld true 2 (.t 1)),[0,1,2]),
 (zg 9 7 (.fad 3 (.t 2)),[0,1,2]),
 (zg 10 7 (.ld false 1 (.t 9)),[0,1,2,4]),
 (zg 11 7 (.fad 4 (.t 2)),[0,1,2]),
 (zg 12 7 (.ld false 1 (.t 11)),[0,1,2,6]),
 (zg 13 7 (.call n_linear_ends_may [(.t 8),(.t 10),(.t 12)]),[0,1,2,3,4,5,6,7]),
 (zp 14 7 13,[0,1,2,3,4,5,6,7,8]),
 (zm 15 14,[0,1,2,3,4,5,6,7,8,9]),
 (zF 16 15 0,[0,1,2,3,4,5,6,7,8,9,10]),
 (zf 17 15 (.bin .eql (.t 16) (zi 0)),[0,1,2,3,4,5,6,7,8,9,10,11]),
 (zF 18 15 17,[0,1,2,3,4,5,6,7,8,9,10,11,12]),
 (zg 19 18 (.ld true 2 (.t 1)),[0,1,2,3,4,5,6,7,8,9,10,11,12,13]),
 (zg 20 18 (.fad 3 (.t 2)),[0,1,2,3,4,5,6,7,8,9,10,11,12,13]),
 (zg 21 18 (.ld false 1 (.t 20)),[0,1,2,3,4,5,6,7,8,9,10,11,12,13,15]),
 (zg 22 18 (.call n_linear_Contrary [(.t 21)]),[0,1,2,3,4,5,6,7,8,9,10,11,12,13,15,16]),
 (zg 23 18 (.fad 4 (.t 2)),[0,1,2,3,4,5,6,7,8,9,10,11,12,13]),
 (zg 24 18 (.ld false 1 (.t 23)),[0,1,2,3,4,5,6,7,8,9,10,11,12,13,18]),
 (zg 25 18 (.call n_linear_ends_may [(.t 19),(.t 22),(.t 24)]),[0,1,2,3,4,5,6,7,8,9,10,11,12,13,14,15,16,17,18,19]),
 (zf 26 15 (.pick (.t 18) (.t 25) (zb false)),[0,1,2,3,4,5,6,7,8,9,10,11,12,13,14,15,16,17,18,19,20]),
 (zq 27 15 26,[0,1,2,3,4,5,6,7,8,9,10,11,12,13,14,15,16,17,18,19,20,21]),
 (zm 4 27,[0,1,2,3,4,5,6,7,8,9,10,11,12,13,14,15,16,17,18,19,20,21,22])] (some [4]))
 (.ret))
def F_linear_iff_1:F:=⟨i_linear_iff_1,[(4,none)],false⟩
def b_slices_BinarySearch_sint_int_0:IR:=.seq (.seq (zr [zm 13 7,
 zm 14 8,
 zn 15 (.bin .lss (.t 13) (.t 14))] [0,1,6,7,8,15])
 (.cond (.t 15) (.skip) (.ext 0)))
 (.blk 1 (.seq (zr [zm 16 7,
 zm 17 8,
 zn 18 (.bin .add (.t 16) (.t 17)),
 zn 19 (.conv .u64 (.t 18)),
 zn 20 (.bin .shr (.t 19) (.c (.int .u64 1))),
 zn 21 (.conv .i64 (.t 20)),
 zm 9 21] [0,1,6,7,8,9])
 (.seq (zr [zm 22 0,
 zm 23 9,
 zn 24 (.iad 1 (.t 22) (.t 23)),
 zl 25 1 24,
 zm 26 1,
 zn 27 (.call n_cmp_Less_int [(.t 25),(.t 26)])] [0,1,6,7,8,9,27])
 (.cond (.t 27) (zr [zm 28 9,
 zn 29 (.bin .add (.t 28) (zi 1)),
 zm 7 29] [0,1,6,7,8]) (zr [zm 30 9,
 zm 8 30] [0,1,6,7,8])))))
def i_slices_BinarySearch_sint_int_l0:IR:=.loop b_slices_BinarySearch_sint_int_0
theorem r_slices_BinarySearch_sint_int_0 {C:Cx} {Y:Yl} {fr:Fr} {h:List Ob}:evw C Y i_slices_BinarySearch_sint_int_l0 fr h=nxt (evw C Y b_slices_BinarySearch_sint_int_0 fr h) fun fr h=>evw C Y i_slices_BinarySearch_sint_int_l0 fr h:=w_loop
def i_slices_BinarySearch_sint_int:IR:=.seq (zr [zn 4 (.mov (zi 0)),
 zn 5 (.mov (zb false))] [0,1])
 (.seq (zr [zm 10 0,
 zn 11 (.len (.t 10)),
 zm 6 11] [0,1,6])
 (.seq (zr [zm 12 6,
 zn 7 (.mov (zi 0)),
 zm 8 12] [0,1,6,7,8])
 (.seq (.blk 0 (i_slices_BinarySearch_sint_int_l0))
 (.seq (zr [zm 31 7,
 zm 32 7,
 zm 33 6,
 zn 34 (.bin .lss (.t 32) (.t 33)),
 zm 35 34,
 zM 36 35 0,
 zM 37 35 7,
 zg 38 35 (.iad 1 (.t 36) (.t 37)),
 zg 39 35 (.ld false 1 (.t 38)),
 zM 40 35 1,
 zg 41 35 (.bin .eql (.t 39) (.t 40)),
 zM 42 35 41,
 zF 43 42 0,
 zF 44 42 7,
 zf 45 42 (.iad 1 (.t 43) (.t 44)),
 zf 46 42 (.ld false 1 (.t 45)),
 zf 47 42 (.call n_slices_isNaN_int [(.t 46)]),
 zF 48 42 47,
 zM 49 48 1,
 zg 50 48 (.call n_slices_isNaN_int [(.t 49)]),
 zf 51 42 (.pick (.t 48) (.t 50) (zb false)),
 zg 52 35 (.pick (.t 42) (zb true) (.t 51)),
 zp 53 35 52,
 zm 4 31,
 zm 5 53] [4,5])
 (.ret)))))
def F_slices_BinarySearch_sint_int:F:=⟨i_slices_BinarySearch_sint_int,[(4,none),(5,none)],false⟩
def i_dom_asked_sint:IR:=.seq (zr [zn 2 (.box (.t 0)),
 zn 4 (.mov (.c (.nsl 1)))] [1,2])
 (.seq (zr [zn 5 (.mov (.c (.nsl 1)))] [1,2,5])
 (.seq (.seq (zr [zL 6 2 2,
 zn 7 (.call n_dom_May [(.t 6)]),
 zn 8 (.un .not (.t 7))] [1,2,5,8])
 (.cond (.t 8) (.seq (zr [zm 9 5,
 zm 4 9] [4])
 (.ret)) (.skip)))
 (.seq (zr [zm 10 1,
 zL 11 2 2,
 zn 12 (.callv (.t 10) [(.t 11)]),
 zm 4 12] [4])
 (.ret))))
def F_dom_asked_sint:F:=⟨i_dom_asked_sint,[(4,none)],false⟩
def b_dom_List_1_0:IR:=.seq (zr [zn 11 (.bin .lss (.t 10) (.t 9))] [1,3,8,9,10,11])
 (.seq (.cond (.t 11) (.skip) (.ext 0))
 (.seq (.blk 1 (.seq (zr [zn 12 (.iad 1 (.t 8) (.t 10)),
 zl 13 1 12,
 zm 5 13] [1,3,5,8,9,10])
 (zr [zm 14 3,
 zn 15 (.fad 0 (.t 1)),
 zl 16 1 15,
 zm 17 5,
 zn 18 (.iad 1 (.t 16) (.t 17)),
 zl 19 1 18,
 zn 20 (.bsf (.int .i64 0) 1 [(0,(.t 19))]),
 zn 21 (.app 1 8 (.t 14) (.t 20)),
 zm 3 21] [1,3,8,9,10])))
 (zr [zn 22 (.bin .add (.t 10) (zi 1)),
 zm 10 22] [1,3,8,9,10])))
def i_dom_List_1_l0:IR:=.loop b_dom_List_1_0
theorem r_dom_List_1_0 {C:Cx} {Y:Yl} {fr:Fr} {h:List Ob}:evw C Y i_dom_List_1_l0 fr h=nxt (evw C Y b_dom_List_1_0 fr h) fun fr h=>evw C Y i_dom_List_1_l0 fr h:=w_loop
def i_dom_List_1:IR:=.seq (zr [zn 1 (.box (.t 0)),
 zn 2 (.mov (.c (.nsl 1)))] [1])
 (.seq (zr [zn 3 (.mov (.c (.nsl 1)))] [1,3])
 (.seq (.seq (zr [zn 6 (.fad 1 (.t 1)),
 zl 7 1 6,
 zn 8 (.call n_bits_List [(.t 7)]),
 zn 9 (.len (.t 8)),
 zn 10 (.mov (zi 0))] [1,3,8,9,10])
 (.blk 0 (i_dom_List_1_l0)))
 (.seq (zr [zm 23 3,
 zm 2 23] [2])
 (.ret))))
def F_dom_List_1:F:=⟨i_dom_List_1,[(2,none)],false⟩
def ra_bits_List_0:IR:=zr [zm 4 7] [3,4]
def rb_bits_List_0:IR:=.blk 1 (zr [zl 8 1 3,
 zm 9 4,
 zn 10 (.bsf (.int .i64 0) 1 [(0,(.t 9))]),
 zn 11 (.app 1 8 (.t 8) (.t 10)),
 ⟨none,none,.st 1 (.t 3) (.t 11)⟩] [])
def i_bits_List:IR:=.seq (zr [zn 2 (.mov (.c (.nsl 1)))] [0,2])
 (.seq (zr [zn 3 (.new (.nsl 1))] [0,2,3])
 (.seq (.seq (zr [zm 5 0,
 zn 6 (.call n_bits_all [(.t 5)])] [2,3,6])
 (.blk 0 (.rf (.t 6) [7] ra_bits_List_0 rb_bits_List_0)))
 (.seq (zr [zl 12 1 3,
 zm 2 12] [2])
 (.ret))))
def F_bits_List:F:=⟨i_bits_List,[(2,none)],false⟩
def i_dom_kept:IR:=.seq (zr [zn 2 (.box (.t 0)),
 zn 3 (.box (.t 1)),
 zn 4 (.new (.agg [.nsl 1,.int .u64 0]))] [2,3,4])
 (.seq (zr [zL 5 2 2,
 zn 6 (.mkf (.func n_dom_kept_1) [] [(.t 3)]),
 zn 7 (.call n_dom_asked_dom_Dom [(.t 5),(.t 6)]),
 ⟨none,none,.st 2 (.t 4) (.t 7)⟩] [4])
 (.ret))
def F_dom_kept:F:=⟨i_dom_kept,[(4,some (true,2))],true⟩
def i_dom_Less_1:IR:=.seq (zr [zn 3 (.mov (zb false))] [0,1])
 (.seq (zr [zm 4 0,
 zl 5 1 1,
 zn 6 (.bin .neq (.t 4) (.t 5)),
 zm 3 6] [3])
 (.ret))
def F_dom_Less_1:F:=⟨i_dom_Less_1,[(3,none)],false⟩
def i_dom_Least:IR:=.seq (zr [zn 1 (.box (.t 0)),
 zn 2 (.mov (zi 0)),
 zn 3 (.mov (zb false))] [1])
 (.seq (.seq (zr [zL 4 2 1,
 zn 5 (.call n_dom_May [(.t 4)]),
 zn 6 (.un .not (.t 5))] [1,6])
 (.cond (.t 6) (.seq (zr [zn 2 (.mov (zi 0)),
 zn 3 (.mov (zb false))] [2,3])
 (.ret)) (.skip)))
 (.seq (.dq [(zL 7 2 1,[]),
 (zn 8 (.fad 1 (.t 1)),[]),
 (zl 9 1 8,[1]),
 (zn 10 (.call n_bits_Least [(.t 9)]),[1,2]),
 (zn 11 (.call n_dom_at [(.t 7),(.t 10)]),[0,1,2,3]),
 (zn 12 (.ext (.t 11) 0),[0,1,2,3,4]),
 (zn 13 (.ext (.t 11) 1),[0,1,2,3,4]),
 (zm 2 12,[0,1,2,3,4,5,6]),
 (zm 3 13,[0,1,2,3,4,5,6,7])] (some [2,3]))
 (.ret)))
def F_dom_Least:F:=⟨i_dom_Least,[(2,none),(3,none)],false⟩
def b_slices_IndexFunc_ssint_sint_0:IR:=.seq (zr [zn 9 (.bin .lss (.t 8) (.t 7))] [0,1,7,8,9])
 (.seq (.cond (.t 9) (.skip) (.ext 0))
 (.seq (.blk 1 (.seq (zr [zm 10 8,
 zm 5 10] [0,1,5,7,8])
 (.seq (zr [zm 11 1,
 zm 12 0,
 zm 13 5,
 zn 14 (.iad 1 (.t 12) (.t 13)),
 zl 15 1 14,
 zn 16 (.callv (.t 11) [(.t 15)])] [0,1,5,7,8,16])
 (.cond (.t 16) (.seq (zr [zm 17 5,
 zm 4 17] [4])
 (.ret)) (.skip)))))
 (zr [zn 18 (.bin .add (.t 8) (zi 1)),
 zm 8 18] [0,1,7,8])))
def i_slices_IndexFunc_ssint_sint_l0:IR:=.loop b_slices_IndexFunc_ssint_sint_0
def i_slices_IndexFunc_ssint_sint:IR:=.seq (zr [zn 4 (.mov (zi 0))] [0,1])
 (.seq (.seq (zr [zm 6 0,
 zn 7 (.len (.t 6)),
 zn 8 (.mov (zi 0))] [0,1,7,8])
 (.blk 0 (i_slices_IndexFunc_ssint_sint_l0)))
 (.seq (zr [zn 4 (.mov (zi (-1)))] [4])
 (.ret)))
def F_slices_IndexFunc_ssint_sint:F:=⟨i_slices_IndexFunc_ssint_sint,[(4,none)],false⟩
def b_model_looker_variables_0:IR:=.seq (zr [zn 27 (.bin .lss (.t 26) (.t 25))] [3,24,25,26,27])
 (.seq (.cond (.t 27) (.skip) (.ext 0))
 (.seq (.blk 1 (.seq (zr [zm 28 26,
 zn 29 (.iad 1 (.t 24) (.t 26)),
 zl 30 1 29,
 zm 8 28,
 zm 9 30] [3,8,9,24,25,26])
 (.seq (zr [zm 31 9,
 zn 32 (.bin .lss (.t 31) (zi 0)),
 zm 33 32,
 zF 34 33 9,
 zf 35 33 (.fad 6 (.t 3)),
 zf 36 33 (.ld false 1 (.t 35)),
 zf 37 33 (.bin .geq (.t 34) (.t 36)),
 zq 38 33 37,
 zm 39 38,
 zf 40 39 (.fad 0 (.t 3)),
 zf 41 39 (.fad 1 (.t 40)),
 zf 42 39 (.ld false 1 (.t 41)),
 zF 43 39 8,
 zf 44 39 (.sll 1 (.t 42) none (some (.t 43)) none),
 zF 45 39 9,
 zf 46 39 (.call n_slices_Contains_sint_int [(.t 44),(.t 45)]),
 zq 47 39 46] [3,24,25,26,47])
 (.cond (.t 47) (.seq (zr [zn 6 (.mov (zb false))] [6])
 (.ret)) (.skip)))))
 (zr [zn 48 (.bin .add (.t 26) (zi 1)),
 zm 26 48] [3,24,25,26])))
def i_model_looker_variables_l0:IR:=.loop b_model_looker_variables_0
theorem r_model_looker_variables_0 {C:Cx} {Y:Yl} {fr:Fr} {h:List Ob}:evw C Y i_model_looker_variables_l0 fr h=nxt (evw C Y b_model_looker_variables_0 fr h) fun fr h=>evw C Y i_model_looker_variables_l0 fr h:=w_loop
def i_model_looker_variables:IR:=.seq (zr [zn 3 (.box (.t 0)),
 zn 6 (.mov (zb false))] [1,2,3])
 (.seq (zr [zn 10 (.fad 0 (.t 3)),
 zn 11 (.fad 1 (.t 10)),
 zl 12 1 11,
 zn 13 (.len (.t 12)),
 zm 7 13] [1,2,3,7])
 (.seq (.seq (zr [zm 14 7,
 zm 15 1,
 zn 16 (.bin .lss (.t 14) (.t 15)),
 zm 17 16,
 zF 18 17 7,
 zF 19 17 2,
 zf 20 17 (.bin .gtr (.t 18) (.t 19)),
 zq 21 17 20] [3,21])
 (.cond (.t 21) (.seq (zr [zn 6 (.mov (zb false))] [6])
 (.ret)) (.skip)))
 (.seq (.seq (zr [zn 22 (.fad 0 (.t 3)),
 zn 23 (.fad 1 (.t 22)),
 zl 24 1 23,
 zn 25 (.len (.t 24)),
 zn 26 (.mov (zi 0))] [3,24,25,26])
 (.blk 0 (i_model_looker_variables_l0)))
 (.seq (zr [zn 6 (.mov (zb true))] [6])
 (.ret)))))
def F_model_looker_variables:F:=⟨i_model_looker_variables,[(6,none)],false⟩
def i_model_looker_sum:IR:=.seq (zr [zn 2 (.box (.t 0)),
 zn 4 (.mov (zb false))] [1,2])
 (.seq (zr [zn 6 (.fad 0 (.t 2)),
 zL 7 6 6,
 zn 5 (.new (.agg [.int .i64 0,.nsl 1,.nsl 1,.int .i64 0,.int .i64 0,.nsl 1])),
 ⟨none,none,.st 6 (.t 5) (.t 7)⟩] [1,5])
 (.seq (zr [zn 8 (.fad 2 (.t 5)),
 zl 9 1 8,
 zn 10 (.len (.t 9)),
 zn 11 (.fad 1 (.t 5)),
 zl 12 1 11,
 zn 13 (.len (.t 12)),
 zm 14 1,
 zn 15 (.bin .sub (.t 13) (.t 14)),
 zn 16 (.bin .eql (.t 10) (.t 15)),
 zm 17 16,
 zg 18 17 (.fad 2 (.t 5)),
 zg 19 17 (.ld false 1 (.t 18)),
 zg 20 17 (.call n_model_within [(.t 19),(zi 1048576)]),
 zp 21 17 20,
 zm 22 21,
 zg 23 22 (.fad 2 (.t 5)),
 zg 24 22 (.ld false 1 (.t 23)),
 zg 25 22 (.call n_slices_Contains_sint_int [(.t 24),(zi 0)]),
 zg 26 22 (.un .not (.t 25)),
 zp 27 22 26,
 zm 28 27,
 zg 29 28 (.fad 3 (.t 5)),
 zg 30 28 (.ld false 1 (.t 29)),
 zg 31 28 (.bin .geq (.t 30) (zi 0)),
 zp 32 28 31,
 zm 33 32,
 zg 34 33 (.fad 3 (.t 5)),
 zg 35 33 (.ld false 1 (.t 34)),
 zg 36 33 (.bin .leq (.t 35) (zi 5)),
 zp 37 33 36,
 zm 38 37,
 zg 39 38 (.fad 4 (.t 5)),
 zg 40 38 (.ld false 1 (.t 39)),
 zg 41 38 (.bsf (.int .i64 0) 1 [(0,(.t 40))]),
 zg 42 38 (.call n_model_within [(.t 41),(zi 1099511627776)]),
 zp 43 38 42,
 zm 44 43,
 zg 45 44 (.fad 5 (.t 5)),
 zg 46 44 (.ld false 1 (.t 45)),
 zg 47 44 (.len (.t 46)),
 zg 48 44 (.bin .eql (.t 47) (zi 0)),
 zp 49 44 48,
 zm 4 49] [4])
 (.ret)))
def F_model_looker_sum:F:=⟨i_model_looker_sum,[(4,none)],false⟩
def i_model_looker_bare:IR:=.seq (zr [zn 3 (.box (.t 0)),
 zn 6 (.mov (zb false))] [1,2,3])
 (.seq (zr [zn 8 (.fad 0 (.t 3)),
 zL 9 6 8,
 zn 7 (.new (.agg [.int .i64 0,.nsl 1,.nsl 1,.int .i64 0,.int .i64 0,.nsl 1])),
 ⟨none,none,.st 6 (.t 7) (.t 9)⟩] [1,2,7])
 (.seq (zr [zn 10 (.fad 2 (.t 7)),
 zl 11 1 10,
 zn 12 (.len (.t 11)),
 zn 13 (.bin .eql (.t 12) (zi 0)),
 zm 14 13,
 zg 15 14 (.fad 3 (.t 7)),
 zg 16 14 (.ld false 1 (.t 15)),
 zg 17 14 (.bin .eql (.t 16) (zi 0)),
 zp 18 14 17,
 zm 19 18,
 zg 20 19 (.fad 4 (.t 7)),
 zg 21 19 (.ld false 1 (.t 20)),
 zg 22 19 (.bin .eql (.t 21) (zi 0)),
 zp 23 19 22,
 zm 24 23,
 zg 25 24 (.fad 5 (.t 7)),
 zg 26 24 (.ld false 1 (.t 25)),
 zg 27 24 (.len (.t 26)),
 zM 28 24 1,
 zg 29 24 (.bin .geq (.t 27) (.t 28)),
 zp 30 24 29,
 zm 31 30,
 zg 32 31 (.fad 5 (.t 7)),
 zg 33 31 (.ld false 1 (.t 32)),
 zg 34 31 (.len (.t 33)),
 zM 35 31 2,
 zg 36 31 (.bin .leq (.t 34) (.t 35)),
 zp 37 31 36,
 zm 38 37,
 zg 39 38 (.fad 5 (.t 7)),
 zg 40 38 (.ld false 1 (.t 39)),
 zg 41 38 (.call n_model_within [(.t 40),(zi 1048576)]),
 zp 42 38 41,
 zm 6 42] [6])
 (.ret)))
def F_model_looker_bare:F:=⟨i_model_looker_bare,[(6,none)],false⟩
def i_cmp_Less_int:IR:=.seq (zr [zn 4 (.mov (zb false))] [0,1])
 (.seq (zr [zm 5 0,
 zn 6 (.call n_cmp_isNaN_int [(.t 5)]),
 zm 7 6,
 zM 8 7 1,
 zg 9 7 (.call n_cmp_isNaN_int [(.t 8)]),
 zg 10 7 (.un .not (.t 9)),
 zp 11 7 10,
 zm 12 11,
 zF 13 12 0,
 zF 14 12 1,
 zf 15 12 (.bin .lss (.t 13) (.t 14)),
 zq 16 12 15,
 zm 4 16] [4])
 (.ret))
def F_cmp_Less_int:F:=⟨i_cmp_Less_int,[(4,none)],false⟩
def i_dom_Greatest:IR:=.seq (zr [zn 1 (.box (.t 0)),
 zn 2 (.mov (zi 0)),
 zn 3 (.mov (zb false))] [1])
 (.seq (.seq (zr [zL 4 2 1,
 zn 5 (.call n_dom_May [(.t 4)]),
 zn 6 (.un .not (.t 5))] [1,6])
 (.cond (.t 6) (.seq (zr [zn 2 (.mov (zi 0)),
 zn 3 (.mov (zb false))] [2,3])
 (.ret)) (.skip)))
 (.seq (.dq [(zL 7 2 1,[]),
 (zn 8 (.fad 1 (.t 1)),[]),
 (zl 9 1 8,[1]),
 (zn 10 (.call n_bits_Greatest [(.t 9)]),[1,2]),
 (zn 11 (.call n_dom_at [(.t 7),(.t 10)]),[0,1,2,3]),
 (zn 12 (.ext (.t 11) 0),[0,1,2,3,4]),
 (zn 13 (.ext (.t 11) 1),[0,1,2,3,4]),
 (zm 2 12,[0,1,2,3,4,5,6]),
 (zm 3 13,[0,1,2,3,4,5,6,7])] (some [2,3]))
 (.ret)))
def F_dom_Greatest:F:=⟨i_dom_Greatest,[(2,none),(3,none)],false⟩
def i_linear_ends_may_1:IR:=.seq (zr [zn 4 (.mov (zb false))] [0,1,2])
 (.seq (zr [zm 5 0,
 zl 6 1 1,
 zl 7 1 2,
 zn 8 (.call n_sums_Holds [(.t 5),(.t 6),(.t 7)]),
 zm 4 8] [4])
 (.ret))
def F_linear_ends_may_1:F:=⟨i_linear_ends_may_1,[(4,none)],false⟩
def i_sums_Holds:IR:=.seq (zr [zn 6 (.mov (zb false))] [0,1,2])
 (.seq (.seq (zr [zm 7 1] [0,2,7])
 (.blk 0 (.seq (zr [zn 9 (.bin .eql (.t 7) (zi 0)),
 zm 8 9] [0,2,7,8])
 (.cond (.t 8) (.seq (zr [zm 10 0,
 zm 11 2,
 zn 12 (.bin .eql (.t 10) (.t 11)),
 zm 6 12] [6])
 (.ret)) (.seq (zr [zn 14 (.bin .eql (.t 7) (zi 1)),
 zm 13 14] [0,2,7,13])
 (.cond (.t 13) (.seq (zr [zm 15 0,
 zm 16 2,
 zn 17 (.bin .neq (.t 15) (.t 16)),
 zm 6 17] [6])
 (.ret)) (.seq (zr [zn 19 (.bin .eql (.t 7) (zi 2)),
 zm 18 19] [0,2,7,18])
 (.cond (.t 18) (.seq (zr [zm 20 0,
 zm 21 2,
 zn 22 (.bin .lss (.t 20) (.t 21)),
 zm 6 22] [6])
 (.ret)) (.seq (zr [zn 24 (.bin .eql (.t 7) (zi 3)),
 zm 23 24] [0,2,7,23])
 (.cond (.t 23) (.seq (zr [zm 25 0,
 zm 26 2,
 zn 27 (.bin .leq (.t 25) (.t 26)),
 zm 6 27] [6])
 (.ret)) (.seq (zr [zn 29 (.bin .eql (.t 7) (zi 4)),
 zm 28 29] [0,2,7,28])
 (.cond (.t 28) (.seq (zr [zm 30 0,
 zm 31 2,
 zn 32 (.bin .gtr (.t 30) (.t 31)),
 zm 6 32] [6])
 (.ret)) (.seq (zr [zn 34 (.bin .eql (.t 7) (zi 5)),
 zm 33 34] [0,2,33])
 (.cond (.t 33) (.seq (zr [zm 35 0,
 zm 36 2,
 zn 37 (.bin .geq (.t 35) (.t 36)),
 zm 6 37] [6])
 (.ret)) (.skip)))))))))))))))
 (.seq (zr [zn 6 (.mov (zb false))] [6])
 (.ret)))
def F_sums_Holds:F:=⟨i_sums_Holds,[(6,none)],false⟩
def i_slices_isNaN_int:IR:=.seq (zr [zn 2 (.mov (zb false))] [0])
 (.seq (zr [zm 3 0,
 zm 4 0,
 zn 5 (.bin .neq (.t 3) (.t 4)),
 zm 2 5] [2])
 (.ret))
def F_slices_isNaN_int:F:=⟨i_slices_isNaN_int,[(2,none)],false⟩
def i_bits_all:IR:=.seq (zr [zn 1 (.box (.t 0)),
 zn 2 (.mov (.c (.nilf)))] [1])
 (.seq (zr [zn 3 (.mkf (.func n_bits_all_1) [] [(.t 1)]),
 zm 2 3] [2])
 (.ret))
def F_bits_all:F:=⟨i_bits_all,[(2,none)],true⟩
def i_dom_asked_dom_Dom:IR:=.seq (zr [zn 2 (.box (.t 0)),
 zn 4 (.new (.agg [.nsl 1,.int .u64 0]))] [1,2,4])
 (.seq (zr [zn 5 (.new (.agg [.nsl 1,.int .u64 0]))] [1,2,4,5])
 (.seq (.seq (zr [zL 6 2 2,
 zn 7 (.call n_dom_May [(.t 6)]),
 zn 8 (.un .not (.t 7))] [1,2,4,5,8])
 (.cond (.t 8) (.seq (zr [zL 9 2 5,
 ⟨none,none,.st 2 (.t 4) (.t 9)⟩] [4])
 (.ret)) (.skip)))
 (.seq (zr [zm 10 1,
 zL 11 2 2,
 zn 12 (.callv (.t 10) [(.t 11)]),
 ⟨none,none,.st 2 (.t 4) (.t 12)⟩] [4])
 (.ret))))
def F_dom_asked_dom_Dom:F:=⟨i_dom_asked_dom_Dom,[(4,some (true,2))],true⟩
def b_dom_kept_1_0:IR:=.seq (zr [zn 16 (.bin .lss (.t 15) (.t 14))] [1,2,3,4,13,14,15,16])
 (.seq (.cond (.t 16) (.skip) (.ext 0))
 (.seq (.blk 1 (.seq (zr [zn 17 (.iad 1 (.t 13) (.t 15)),
 zl 18 1 17,
 zm 6 18] [1,2,3,4,6,13,14,15])
 (.seq (.dq [(zl 19 1 1,[]),
 (zn 20 (.fad 0 (.t 2)),[]),
 (zl 21 1 20,[1]),
 (zm 22 6,[]),
 (zn 23 (.iad 1 (.t 21) (.t 22)),[1,2,3]),
 (zl 24 1 23,[1,2,3,4]),
 (zn 25 (.callv (.t 19) [(.t 24)]),[0,1,2,3,4,5])] (some [1,2,3,4,6,13,14,15,25]))
 (.cond (.t 25) (.dq [(zn 26 (.fad 1 (.t 4)),[]),
 (zl 27 1 26,[0]),
 (zm 28 6,[]),
 (zn 29 (.bsf (.int .i64 0) 1 [(0,(.t 28))]),[2]),
 (zn 30 (.call n_bits_Of [(.t 29)]),[2,3]),
 (zn 31 (.bin .or (.t 27) (.t 30)),[0,1,2,3,4]),
 (zn 32 (.fad 1 (.t 4)),[0,1,2,3,4,5]),
 (⟨none,none,.st 1 (.t 32) (.t 31)⟩,[0,1,2,3,4,5,6])] (some [1,2,3,4,13,14,15])) (.skip)))))
 (zr [zn 33 (.bin .add (.t 15) (zi 1)),
 zm 15 33] [1,2,3,4,13,14,15])))
def i_dom_kept_1_l0:IR:=.loop b_dom_kept_1_0
theorem r_dom_kept_1_0 {C:Cx} {Y:Yl} {fr:Fr} {h:List Ob}:evw C Y i_dom_kept_1_l0 fr h=nxt (evw C Y b_dom_kept_1_0 fr h) fun fr h=>evw C Y i_dom_kept_1_l0 fr h:=w_loop
def i_dom_kept_1:IR:=.seq (zr [zn 2 (.box (.t 0)),
 zn 3 (.new (.agg [.nsl 1,.int .u64 0]))] [1,2,3])
 (.seq (zr [zn 7 (.fad 0 (.t 2)),
 zl 8 1 7,
 zn 9 (.call n_slices_Clone_sint_int [(.t 8)]),
 zn 10 (.bld [.nsl 1,.int .u64 0] [(0,1,(.t 9))]),
 zn 4 (.new (.agg [.nsl 1,.int .u64 0])),
 ⟨none,none,.st 2 (.t 4) (.t 10)⟩] [1,2,3,4])
 (.seq (.seq (zr [zn 11 (.fad 1 (.t 2)),
 zl 12 1 11,
 zn 13 (.call n_bits_List [(.t 12)]),
 zn 14 (.len (.t 13)),
 zn 15 (.mov (zi 0))] [1,2,3,4,13,14,15])
 (.blk 0 (i_dom_kept_1_l0)))
 (.seq (zr [zL 34 2 4,
 ⟨none,none,.st 2 (.t 3) (.t 34)⟩] [3])
 (.ret))))
def F_dom_kept_1:F:=⟨i_dom_kept_1,[(3,some (true,2))],true⟩
def b_bits_Of_0:IR:=.seq (zr [zn 9 (.bin .lss (.t 8) (.t 7))] [3,6,7,8,9])
 (.seq (.cond (.t 9) (.skip) (.ext 0))
 (.seq (.blk 1 (.seq (zr [zn 10 (.iad 1 (.t 6) (.t 8)),
 zl 11 1 10,
 zm 5 11] [3,5,6,7,8])
 (.seq (zr [zm 12 5,
 zn 13 (.bin .geq (.t 12) (zi 0)),
 zm 14 13,
 zM 15 14 5,
 zg 16 14 (.bin .lss (.t 15) (zi 64)),
 zp 17 14 16] [3,5,6,7,8,17])
 (.cond (.t 17) (zr [zm 18 3,
 zm 19 5,
 zn 20 (.bin .shl (.c (.int .u64 1)) (.t 19)),
 zn 21 (.bin .or (.t 18) (.t 20)),
 zm 3 21] [3,6,7,8]) (.skip)))))
 (zr [zn 22 (.bin .add (.t 8) (zi 1)),
 zm 8 22] [3,6,7,8])))
def i_bits_Of_l0:IR:=.loop b_bits_Of_0
theorem r_bits_Of_0 {C:Cx} {Y:Yl} {fr:Fr} {h:List Ob}:evw C Y i_bits_Of_l0 fr h=nxt (evw C Y b_bits_Of_0 fr h) fun fr h=>evw C Y i_bits_Of_l0 fr h:=w_loop
def i_bits_Of:IR:=.seq (zr [zn 2 (.mov (.c (.int .u64 0)))] [0])
 (.seq (zr [zn 3 (.mov (.c (.int .u64 0)))] [0,3])
 (.seq (.seq (zr [zm 6 0,
 zn 7 (.len (.t 6)),
 zn 8 (.mov (zi 0))] [3,6,7,8])
 (.blk 0 (i_bits_Of_l0)))
 (.seq (zr [zm 23 3,
 zm 2 23] [2])
 (.ret))))
def F_bits_Of:F:=⟨i_bits_Of,[(2,none)],false⟩
def i_dom_at:IR:=.seq (zr [zn 2 (.box (.t 0)),
 zn 4 (.mov (zi 0)),
 zn 5 (.mov (zb false))] [1,2])
 (.seq (.seq (zr [zm 6 1,
 zn 7 (.bin .lss (.t 6) (zi 0))] [1,2,7])
 (.cond (.t 7) (.seq (zr [zn 4 (.mov (zi 0)),
 zn 5 (.mov (zb false))] [4,5])
 (.ret)) (.skip)))
 (.seq (zr [zn 8 (.fad 0 (.t 2)),
 zl 9 1 8,
 zm 10 1,
 zn 11 (.iad 1 (.t 9) (.t 10)),
 zl 12 1 11,
 zm 4 12,
 zn 5 (.mov (zb true))] [4,5])
 (.ret)))
def F_dom_at:F:=⟨i_dom_at,[(4,none),(5,none)],false⟩
def i_bits_Least:IR:=.seq (zr [zn 2 (.mov (zi 0))] [0])
 (.seq (.seq (zr [zm 3 0,
 zn 4 (.bin .eql (.t 3) (.c (.int .u64 0)))] [0,4])
 (.cond (.t 4) (.seq (zr [zn 2 (.mov (zi (-1)))] [2])
 (.ret)) (.skip)))
 (.seq (zr [zm 5 0,
 zn 6 (.call n_math_bits_TrailingZeros64 [(.t 5)]),
 zm 2 6] [2])
 (.ret)))
def F_bits_Least:F:=⟨i_bits_Least,[(2,none)],false⟩
def i_model_within:IR:=.seq (zr [zn 3 (.box (.t 1)),
 zn 4 (.mov (zb false))] [0,3])
 (.seq (zr [zm 5 0,
 zn 6 (.mkf (.func n_model_within_1) [] [(.t 3)]),
 zn 7 (.call n_slices_ContainsFunc_sint_int [(.t 5),(.t 6)]),
 zn 8 (.un .not (.t 7)),
 zm 4 8] [4])
 (.ret))
def F_model_within:F:=⟨i_model_within,[(4,none)],false⟩
def i_cmp_isNaN_int:IR:=.seq (zr [zn 2 (.mov (zb false))] [0])
 (.seq (zr [zm 3 0,
 zm 4 0,
 zn 5 (.bin .neq (.t 3) (.t 4)),
 zm 2 5] [2])
 (.ret))
def F_cmp_isNaN_int:F:=⟨i_cmp_isNaN_int,[(2,none)],false⟩
def i_bits_Greatest:IR:=.seq (zr [zn 2 (.mov (zi 0))] [0])
 (.seq (zr [zm 3 0,
 zn 4 (.call n_math_bits_LeadingZeros64 [(.t 3)]),
 zn 5 (.bin .sub (zi 63) (.t 4)),
 zm 2 5] [2])
 (.ret))
def F_bits_Greatest:F:=⟨i_bits_Greatest,[(2,none)],false⟩
def b_bits_all_1_0:IR:=.seq (.seq (zr [zl 3 1 1,
 zn 4 (.bin .neq (.t 3) (.c (.int .u64 0)))] [0,1,4])
 (.cond (.t 4) (.skip) (.ext 0)))
 (.seq (.blk 1 (.seq (zr [zm 9 0,
 zl 10 1 1,
 zn 11 (.call n_bits_Least [(.t 10)]),
 zn 12 (.callv (.t 9) [(.t 11)]),
 zn 13 (.un .not (.t 12))] [0,1,13])
 (.cond (.t 13) (.ret) (.skip))))
 (zr [zl 5 1 1,
 zl 6 1 1,
 zn 7 (.bin .sub (.t 6) (.c (.int .u64 1))),
 zn 8 (.bin .and (.t 5) (.t 7)),
 ⟨none,none,.st 1 (.t 1) (.t 8)⟩] [0,1]))
def i_bits_all_1_l0:IR:=.loop b_bits_all_1_0
theorem r_bits_all_1_0 {C:Cx} {Y:Yl} {fr:Fr} {h:List Ob}:evw C Y i_bits_all_1_l0 fr h=nxt (evw C Y b_bits_all_1_0 fr h) fun fr h=>evw C Y i_bits_all_1_l0 fr h:=w_loop
def i_bits_all_1:IR:=.blk 0 (i_bits_all_1_l0)
def F_bits_all_1:F:=⟨i_bits_all_1,[],true⟩
def i_model_within_1:IR:=.seq (zr [zn 3 (.mov (zb false))] [0,1])
 (.seq (zr [zm 4 0,
 zl 5 1 1,
 zn 6 (.un .neg (.t 5)),
 zn 7 (.bin .lss (.t 4) (.t 6)),
 zm 8 7,
 zF 9 8 0,
 zf 10 8 (.ld false 1 (.t 1)),
 zf 11 8 (.bin .gtr (.t 9) (.t 10)),
 zq 12 8 11,
 zm 3 12] [3])
 (.ret))
def F_model_within_1:F:=⟨i_model_within_1,[(3,none)],false⟩
def i_math_bits_LeadingZeros64:IR:=.seq (zr [zn 2 (.mov (zi 0))] [0])
 (.seq (zr [zm 3 0,
 zn 4 (.call n_math_bits_Len64 [(.t 3)]),
 zn 5 (.bin .sub (zi 64) (.t 4)),
 zm 2 5] [2])
 (.ret))
def F_math_bits_LeadingZeros64:F:=⟨i_math_bits_LeadingZeros64,[(2,none)],false⟩
theorem ok_law17_FixSound:mF Go.Proofs.Tryz.prog n_law17_FixSound F_law17_FixSound=true:=by kernel_rfl
theorem ok_law17_awake:mF Go.Proofs.Tryz.prog n_law17_awake F_law17_awake=true:=by kernel_rfl
theorem ok_law17_Large:mF Go.Proofs.Tryz.prog n_law17_Large F_law17_Large=true:=by kernel_rfl
theorem ok_fix_Run:mF Go.Proofs.Tryz.prog n_fix_Run F_fix_Run=true:=by kernel_rfl
theorem ok_fix_Order:mF Go.Proofs.Tryz.prog n_fix_Order F_fix_Order=true:=by kernel_rfl
theorem ok_fix_Step:mF Go.Proofs.Tryz.prog n_fix_Step F_fix_Step=true:=by kernel_rfl
theorem ok_dom_Size:mF Go.Proofs.Tryz.prog n_dom_Size F_dom_Size=true:=by kernel_rfl
theorem ok_law12_Fewer:mF Go.Proofs.Tryz.prog n_law12_Fewer F_law12_Fewer=true:=by kernel_rfl
theorem ok_law12_Within:mF Go.Proofs.Tryz.prog n_law12_Within F_law12_Within=true:=by kernel_rfl
theorem ok_law12_Left:mF Go.Proofs.Tryz.prog n_law12_Left F_law12_Left=true:=by kernel_rfl
theorem ok_ref11_All:mF Go.Proofs.Tryz.prog n_ref11_All F_ref11_All=true:=by kernel_rfl
theorem ok_law17_awake_1:mF Go.Proofs.Tryz.prog n_law17_awake_1 F_law17_awake_1=true:=by kernel_rfl
theorem ok_fix_Wiped:mF Go.Proofs.Tryz.prog n_fix_Wiped F_fix_Wiped=true:=by kernel_rfl
theorem ok_law11_Large:mF Go.Proofs.Tryz.prog n_law11_Large F_law11_Large=true:=by kernel_rfl
theorem ok_law12_Large:mF Go.Proofs.Tryz.prog n_law12_Large F_law12_Large=true:=by kernel_rfl
theorem ok_fix_right:mF Go.Proofs.Tryz.prog n_fix_right F_fix_right=true:=by kernel_rfl
theorem ok_fix_queue_int_push:mF Go.Proofs.Tryz.prog n_fix_queue_int_push F_fix_queue_int_push=true:=by kernel_rfl
theorem ok_fix_copied:mF Go.Proofs.Tryz.prog n_fix_copied F_fix_copied=true:=by kernel_rfl
theorem ok_fix_lives:mF Go.Proofs.Tryz.prog n_fix_lives F_fix_lives=true:=by kernel_rfl
theorem ok_fix_queue_int_pop:mF Go.Proofs.Tryz.prog n_fix_queue_int_pop F_fix_queue_int_pop=true:=by kernel_rfl
theorem ok_trail_Trail_uint64_Save:mF Go.Proofs.Tryz.prog n_trail_Trail_uint64_Save F_trail_Trail_uint64_Save=true:=by kernel_rfl
theorem ok_trail_Trail_uint64_Set:mF Go.Proofs.Tryz.prog n_trail_Trail_uint64_Set F_trail_Trail_uint64_Set=true:=by kernel_rfl
theorem ok_slices_Contains_sint_int:mF Go.Proofs.Tryz.prog n_slices_Contains_sint_int F_slices_Contains_sint_int=true:=by kernel_rfl
theorem ok_slices_EqualFunc_sdom_Dom_sdom_Dom_dom_Dom_dom_Dom:mF Go.Proofs.Tryz.prog n_slices_EqualFunc_sdom_Dom_sdom_Dom_dom_Dom_dom_Dom F_slices_EqualFunc_sdom_Dom_sdom_Dom_dom_Dom_dom_Dom=true:=by kernel_rfl
theorem ok_dom_Same:mF Go.Proofs.Tryz.prog n_dom_Same F_dom_Same=true:=by kernel_rfl
theorem ok_ref04_May:mF Go.Proofs.Tryz.prog n_ref04_May F_ref04_May=true:=by kernel_rfl
theorem ok_ref08_Right:mF Go.Proofs.Tryz.prog n_ref08_Right F_ref08_Right=true:=by kernel_rfl
theorem ok_ref04_Same:mF Go.Proofs.Tryz.prog n_ref04_Same F_ref04_Same=true:=by kernel_rfl
theorem ok_linear_Step:mF Go.Proofs.Tryz.prog n_linear_Step F_linear_Step=true:=by kernel_rfl
theorem ok_product_Step:mF Go.Proofs.Tryz.prog n_product_Step F_product_Step=true:=by kernel_rfl
theorem ok_element_Step:mF Go.Proofs.Tryz.prog n_element_Step F_element_Step=true:=by kernel_rfl
theorem ok_differ_Step:mF Go.Proofs.Tryz.prog n_differ_Step F_differ_Step=true:=by kernel_rfl
theorem ok_table_Step:mF Go.Proofs.Tryz.prog n_table_Step F_table_Step=true:=by kernel_rfl
theorem ok_dom_asked_int:mF Go.Proofs.Tryz.prog n_dom_asked_int F_dom_asked_int=true:=by kernel_rfl
theorem ok_dom_Size_1:mF Go.Proofs.Tryz.prog n_dom_Size_1 F_dom_Size_1=true:=by kernel_rfl
theorem ok_bits_Count:mF Go.Proofs.Tryz.prog n_bits_Count F_bits_Count=true:=by kernel_rfl
theorem ok_ref04_List:mF Go.Proofs.Tryz.prog n_ref04_List F_ref04_List=true:=by kernel_rfl
theorem ok_ref11_Right:mF Go.Proofs.Tryz.prog n_ref11_Right F_ref11_Right=true:=by kernel_rfl
theorem ok_ref11_Holds:mF Go.Proofs.Tryz.prog n_ref11_Holds F_ref11_Holds=true:=by kernel_rfl
theorem ok_slices_ContainsFunc_sdom_Dom_dom_Dom:mF Go.Proofs.Tryz.prog n_slices_ContainsFunc_sdom_Dom_dom_Dom F_slices_ContainsFunc_sdom_Dom_dom_Dom=true:=by kernel_rfl
theorem ok_fix_Wiped_1:mF Go.Proofs.Tryz.prog n_fix_Wiped_1 F_fix_Wiped_1=true:=by kernel_rfl
theorem ok_slices_ContainsFunc_sapi_Con_api_Con:mF Go.Proofs.Tryz.prog n_slices_ContainsFunc_sapi_Con_api_Con F_slices_ContainsFunc_sapi_Con_api_Con=true:=by kernel_rfl
theorem ok_fix_right_1:mF Go.Proofs.Tryz.prog n_fix_right_1 F_fix_right_1=true:=by kernel_rfl
theorem ok_model_Right:mF Go.Proofs.Tryz.prog n_model_Right F_model_Right=true:=by kernel_rfl
theorem ok_fix_right_2:mF Go.Proofs.Tryz.prog n_fix_right_2 F_fix_right_2=true:=by kernel_rfl
theorem ok_dom_May:mF Go.Proofs.Tryz.prog n_dom_May F_dom_May=true:=by kernel_rfl
theorem ok_trail_New_uint64:mF Go.Proofs.Tryz.prog n_trail_New_uint64 F_trail_New_uint64=true:=by kernel_rfl
theorem ok_trail_Trail_uint64_Marks:mF Go.Proofs.Tryz.prog n_trail_Trail_uint64_Marks F_trail_Trail_uint64_Marks=true:=by kernel_rfl
theorem ok_trail_Trail_uint64_there:mF Go.Proofs.Tryz.prog n_trail_Trail_uint64_there F_trail_Trail_uint64_there=true:=by kernel_rfl
theorem ok_trail_Trail_uint64_last:mF Go.Proofs.Tryz.prog n_trail_Trail_uint64_last F_trail_Trail_uint64_last=true:=by kernel_rfl
theorem ok_trail_Trail_uint64_put:mF Go.Proofs.Tryz.prog n_trail_Trail_uint64_put F_trail_Trail_uint64_put=true:=by kernel_rfl
theorem ok_slices_Index_sint_int:mF Go.Proofs.Tryz.prog n_slices_Index_sint_int F_slices_Index_sint_int=true:=by kernel_rfl
theorem ok_slices_Equal_sint_int:mF Go.Proofs.Tryz.prog n_slices_Equal_sint_int F_slices_Equal_sint_int=true:=by kernel_rfl
theorem ok_ref08_all:mF Go.Proofs.Tryz.prog n_ref08_all F_ref08_all=true:=by kernel_rfl
theorem ok_ref02_Same:mF Go.Proofs.Tryz.prog n_ref02_Same F_ref02_Same=true:=by kernel_rfl
theorem ok_linear_Step_1:mF Go.Proofs.Tryz.prog n_linear_Step_1 F_linear_Step_1=true:=by kernel_rfl
theorem ok_slices_ContainsFunc_sint_int:mF Go.Proofs.Tryz.prog n_slices_ContainsFunc_sint_int F_slices_ContainsFunc_sint_int=true:=by kernel_rfl
theorem ok_linear_Step_2:mF Go.Proofs.Tryz.prog n_linear_Step_2 F_linear_Step_2=true:=by kernel_rfl
theorem ok_linear_none:mF Go.Proofs.Tryz.prog n_linear_none F_linear_none=true:=by kernel_rfl
theorem ok_linear_sum:mF Go.Proofs.Tryz.prog n_linear_sum F_linear_sum=true:=by kernel_rfl
theorem ok_linear_iff:mF Go.Proofs.Tryz.prog n_linear_iff F_linear_iff=true:=by kernel_rfl
theorem ok_product_Step_1:mF Go.Proofs.Tryz.prog n_product_Step_1 F_product_Step_1=true:=by kernel_rfl
theorem ok_product_try:mF Go.Proofs.Tryz.prog n_product_try F_product_try=true:=by kernel_rfl
theorem ok_dom_List:mF Go.Proofs.Tryz.prog n_dom_List F_dom_List=true:=by kernel_rfl
theorem ok_dom_Less:mF Go.Proofs.Tryz.prog n_dom_Less F_dom_Less=true:=by kernel_rfl
theorem ok_element_Step_1:mF Go.Proofs.Tryz.prog n_element_Step_1 F_element_Step_1=true:=by kernel_rfl
theorem ok_element_kept:mF Go.Proofs.Tryz.prog n_element_kept F_element_kept=true:=by kernel_rfl
theorem ok_element_Step_2:mF Go.Proofs.Tryz.prog n_element_Step_2 F_element_Step_2=true:=by kernel_rfl
theorem ok_dom_Has:mF Go.Proofs.Tryz.prog n_dom_Has F_dom_Has=true:=by kernel_rfl
theorem ok_element_Step_3:mF Go.Proofs.Tryz.prog n_element_Step_3 F_element_Step_3=true:=by kernel_rfl
theorem ok_differ_Step_1:mF Go.Proofs.Tryz.prog n_differ_Step_1 F_differ_Step_1=true:=by kernel_rfl
theorem ok_differ_few:mF Go.Proofs.Tryz.prog n_differ_few F_differ_few=true:=by kernel_rfl
theorem ok_differ_kept:mF Go.Proofs.Tryz.prog n_differ_kept F_differ_kept=true:=by kernel_rfl
theorem ok_differ_Step_2:mF Go.Proofs.Tryz.prog n_differ_Step_2 F_differ_Step_2=true:=by kernel_rfl
theorem ok_differ_Step_2_1:mF Go.Proofs.Tryz.prog n_differ_Step_2_1 F_differ_Step_2_1=true:=by kernel_rfl
theorem ok_dom_Single:mF Go.Proofs.Tryz.prog n_dom_Single F_dom_Single=true:=by kernel_rfl
theorem ok_table_Step_1:mF Go.Proofs.Tryz.prog n_table_Step_1 F_table_Step_1=true:=by kernel_rfl
theorem ok_table_alive:mF Go.Proofs.Tryz.prog n_table_alive F_table_alive=true:=by kernel_rfl
theorem ok_slices_ContainsFunc_ssint_sint:mF Go.Proofs.Tryz.prog n_slices_ContainsFunc_ssint_sint F_slices_ContainsFunc_ssint_sint=true:=by kernel_rfl
theorem ok_table_Step_2:mF Go.Proofs.Tryz.prog n_table_Step_2 F_table_Step_2=true:=by kernel_rfl
theorem ok_math_bits_OnesCount64:mF Go.Proofs.Tryz.prog n_math_bits_OnesCount64 F_math_bits_OnesCount64=true:=by kernel_rfl
theorem ok_ref11_sum:mF Go.Proofs.Tryz.prog n_ref11_sum F_ref11_sum=true:=by kernel_rfl
theorem ok_slices_IndexFunc_sdom_Dom_dom_Dom:mF Go.Proofs.Tryz.prog n_slices_IndexFunc_sdom_Dom_dom_Dom F_slices_IndexFunc_sdom_Dom_dom_Dom=true:=by kernel_rfl
theorem ok_slices_IndexFunc_sapi_Con_api_Con:mF Go.Proofs.Tryz.prog n_slices_IndexFunc_sapi_Con_api_Con F_slices_IndexFunc_sapi_Con_api_Con=true:=by kernel_rfl
theorem ok_model_looker_linear:mF Go.Proofs.Tryz.prog n_model_looker_linear F_model_looker_linear=true:=by kernel_rfl
theorem ok_model_looker_product:mF Go.Proofs.Tryz.prog n_model_looker_product F_model_looker_product=true:=by kernel_rfl
theorem ok_model_looker_iff:mF Go.Proofs.Tryz.prog n_model_looker_iff F_model_looker_iff=true:=by kernel_rfl
theorem ok_model_looker_element:mF Go.Proofs.Tryz.prog n_model_looker_element F_model_looker_element=true:=by kernel_rfl
theorem ok_model_looker_differ:mF Go.Proofs.Tryz.prog n_model_looker_differ F_model_looker_differ=true:=by kernel_rfl
theorem ok_model_looker_table:mF Go.Proofs.Tryz.prog n_model_looker_table F_model_looker_table=true:=by kernel_rfl
theorem ok_bits_First:mF Go.Proofs.Tryz.prog n_bits_First F_bits_First=true:=by kernel_rfl
theorem ok_slices_IndexFunc_sint_int:mF Go.Proofs.Tryz.prog n_slices_IndexFunc_sint_int F_slices_IndexFunc_sint_int=true:=by kernel_rfl
theorem ok_linear_kept:mF Go.Proofs.Tryz.prog n_linear_kept F_linear_kept=true:=by kernel_rfl
theorem ok_linear_none_1:mF Go.Proofs.Tryz.prog n_linear_none_1 F_linear_none_1=true:=by kernel_rfl
theorem ok_linear_total:mF Go.Proofs.Tryz.prog n_linear_total F_linear_total=true:=by kernel_rfl
theorem ok_linear_ends_plus:mF Go.Proofs.Tryz.prog n_linear_ends_plus F_linear_ends_plus=true:=by kernel_rfl
theorem ok_linear_sum_1:mF Go.Proofs.Tryz.prog n_linear_sum_1 F_linear_sum_1=true:=by kernel_rfl
theorem ok_linear_ends_may:mF Go.Proofs.Tryz.prog n_linear_ends_may F_linear_ends_may=true:=by kernel_rfl
theorem ok_linear_Contrary:mF Go.Proofs.Tryz.prog n_linear_Contrary F_linear_Contrary=true:=by kernel_rfl
theorem ok_linear_iff_1:mF Go.Proofs.Tryz.prog n_linear_iff_1 F_linear_iff_1=true:=by kernel_rfl
theorem ok_slices_BinarySearch_sint_int:mF Go.Proofs.Tryz.prog n_slices_BinarySearch_sint_int F_slices_BinarySearch_sint_int=true:=by kernel_rfl
theorem ok_dom_asked_sint:mF Go.Proofs.Tryz.prog n_dom_asked_sint F_dom_asked_sint=true:=by kernel_rfl
theorem ok_dom_List_1:mF Go.Proofs.Tryz.prog n_dom_List_1 F_dom_List_1=true:=by kernel_rfl
theorem ok_bits_List:mF Go.Proofs.Tryz.prog n_bits_List F_bits_List=true:=by kernel_rfl
theorem ok_dom_kept:mF Go.Proofs.Tryz.prog n_dom_kept F_dom_kept=true:=by kernel_rfl
theorem ok_dom_Less_1:mF Go.Proofs.Tryz.prog n_dom_Less_1 F_dom_Less_1=true:=by kernel_rfl
theorem ok_dom_Least:mF Go.Proofs.Tryz.prog n_dom_Least F_dom_Least=true:=by kernel_rfl
theorem ok_slices_IndexFunc_ssint_sint:mF Go.Proofs.Tryz.prog n_slices_IndexFunc_ssint_sint F_slices_IndexFunc_ssint_sint=true:=by kernel_rfl
theorem ok_model_looker_variables:mF Go.Proofs.Tryz.prog n_model_looker_variables F_model_looker_variables=true:=by kernel_rfl
theorem ok_model_looker_sum:mF Go.Proofs.Tryz.prog n_model_looker_sum F_model_looker_sum=true:=by kernel_rfl
theorem ok_model_looker_bare:mF Go.Proofs.Tryz.prog n_model_looker_bare F_model_looker_bare=true:=by kernel_rfl
theorem ok_cmp_Less_int:mF Go.Proofs.Tryz.prog n_cmp_Less_int F_cmp_Less_int=true:=by kernel_rfl
theorem ok_dom_Greatest:mF Go.Proofs.Tryz.prog n_dom_Greatest F_dom_Greatest=true:=by kernel_rfl
theorem ok_linear_ends_may_1:mF Go.Proofs.Tryz.prog n_linear_ends_may_1 F_linear_ends_may_1=true:=by kernel_rfl
theorem ok_sums_Holds:mF Go.Proofs.Tryz.prog n_sums_Holds F_sums_Holds=true:=by kernel_rfl
theorem ok_slices_isNaN_int:mF Go.Proofs.Tryz.prog n_slices_isNaN_int F_slices_isNaN_int=true:=by kernel_rfl
theorem ok_bits_all:mF Go.Proofs.Tryz.prog n_bits_all F_bits_all=true:=by kernel_rfl
theorem ok_dom_asked_dom_Dom:mF Go.Proofs.Tryz.prog n_dom_asked_dom_Dom F_dom_asked_dom_Dom=true:=by kernel_rfl
theorem ok_dom_kept_1:mF Go.Proofs.Tryz.prog n_dom_kept_1 F_dom_kept_1=true:=by kernel_rfl
theorem ok_bits_Of:mF Go.Proofs.Tryz.prog n_bits_Of F_bits_Of=true:=by kernel_rfl
theorem ok_dom_at:mF Go.Proofs.Tryz.prog n_dom_at F_dom_at=true:=by kernel_rfl
theorem ok_bits_Least:mF Go.Proofs.Tryz.prog n_bits_Least F_bits_Least=true:=by kernel_rfl
theorem ok_model_within:mF Go.Proofs.Tryz.prog n_model_within F_model_within=true:=by kernel_rfl
theorem ok_cmp_isNaN_int:mF Go.Proofs.Tryz.prog n_cmp_isNaN_int F_cmp_isNaN_int=true:=by kernel_rfl
theorem ok_bits_Greatest:mF Go.Proofs.Tryz.prog n_bits_Greatest F_bits_Greatest=true:=by kernel_rfl
theorem ok_bits_all_1:mF Go.Proofs.Tryz.prog n_bits_all_1 F_bits_all_1=true:=by kernel_rfl
theorem ok_model_within_1:mF Go.Proofs.Tryz.prog n_model_within_1 F_model_within_1=true:=by kernel_rfl
theorem ok_math_bits_LeadingZeros64:mF Go.Proofs.Tryz.prog n_math_bits_LeadingZeros64 F_math_bits_LeadingZeros64=true:=by kernel_rfl
def tbl:List (Nat×F):=[(n_law17_FixSound,F_law17_FixSound),(n_law17_awake,F_law17_awake),(n_law17_Large,F_law17_Large),(n_fix_Run,F_fix_Run),(n_fix_Order,F_fix_Order),(n_fix_Step,F_fix_Step),(n_dom_Size,F_dom_Size),(n_law12_Fewer,F_law12_Fewer),(n_law12_Within,F_law12_Within),(n_law12_Left,F_law12_Left),(n_ref11_All,F_ref11_All),(n_law17_awake_1,F_law17_awake_1),(n_fix_Wiped,F_fix_Wiped),(n_law11_Large,F_law11_Large),(n_law12_Large,F_law12_Large),(n_fix_right,F_fix_right),(n_fix_queue_int_push,F_fix_queue_int_push),(n_fix_copied,F_fix_copied),(n_fix_lives,F_fix_lives),(n_fix_queue_int_pop,F_fix_queue_int_pop),(n_trail_Trail_uint64_Save,F_trail_Trail_uint64_Save),(n_trail_Trail_uint64_Set,F_trail_Trail_uint64_Set),(n_slices_Contains_sint_int,F_slices_Contains_sint_int),(n_slices_EqualFunc_sdom_Dom_sdom_Dom_dom_Dom_dom_Dom,F_slices_EqualFunc_sdom_Dom_sdom_Dom_dom_Dom_dom_Dom),(n_dom_Same,F_dom_Same),(n_ref04_May,F_ref04_May),(n_ref08_Right,F_ref08_Right),(n_ref04_Same,F_ref04_Same),(n_linear_Step,F_linear_Step),(n_product_Step,F_product_Step),(n_element_Step,F_element_Step),(n_differ_Step,F_differ_Step),(n_table_Step,F_table_Step),(n_dom_asked_int,F_dom_asked_int),(n_dom_Size_1,F_dom_Size_1),(n_bits_Count,F_bits_Count),(n_ref04_List,F_ref04_List),(n_ref11_Right,F_ref11_Right),(n_ref11_Holds,F_ref11_Holds),(n_slices_ContainsFunc_sdom_Dom_dom_Dom,F_slices_ContainsFunc_sdom_Dom_dom_Dom),(n_fix_Wiped_1,F_fix_Wiped_1),(n_slices_ContainsFunc_sapi_Con_api_Con,F_slices_ContainsFunc_sapi_Con_api_Con),(n_fix_right_1,F_fix_right_1),(n_model_Right,F_model_Right),(n_fix_right_2,F_fix_right_2),(n_dom_May,F_dom_May),(n_trail_New_uint64,F_trail_New_uint64),(n_trail_Trail_uint64_Marks,F_trail_Trail_uint64_Marks),(n_trail_Trail_uint64_there,F_trail_Trail_uint64_there),(n_trail_Trail_uint64_last,F_trail_Trail_uint64_last),(n_trail_Trail_uint64_put,F_trail_Trail_uint64_put),(n_slices_Index_sint_int,F_slices_Index_sint_int),(n_slices_Equal_sint_int,F_slices_Equal_sint_int),(n_ref08_all,F_ref08_all),(n_ref02_Same,F_ref02_Same),(n_linear_Step_1,F_linear_Step_1),(n_slices_ContainsFunc_sint_int,F_slices_ContainsFunc_sint_int),(n_linear_Step_2,F_linear_Step_2),(n_linear_none,F_linear_none),(n_linear_sum,F_linear_sum),(n_linear_iff,F_linear_iff),(n_product_Step_1,F_product_Step_1),(n_product_try,F_product_try),(n_dom_List,F_dom_List),(n_dom_Less,F_dom_Less),(n_element_Step_1,F_element_Step_1),(n_element_kept,F_element_kept),(n_element_Step_2,F_element_Step_2),(n_dom_Has,F_dom_Has),(n_element_Step_3,F_element_Step_3),(n_differ_Step_1,F_differ_Step_1),(n_differ_few,F_differ_few),(n_differ_kept,F_differ_kept),(n_differ_Step_2,F_differ_Step_2),(n_differ_Step_2_1,F_differ_Step_2_1),(n_dom_Single,F_dom_Single),(n_table_Step_1,F_table_Step_1),(n_table_alive,F_table_alive),(n_slices_ContainsFunc_ssint_sint,F_slices_ContainsFunc_ssint_sint),(n_table_Step_2,F_table_Step_2),(n_math_bits_OnesCount64,F_math_bits_OnesCount64),(n_ref11_sum,F_ref11_sum),(n_slices_IndexFunc_sdom_Dom_dom_Dom,F_slices_IndexFunc_sdom_Dom_dom_Dom),(n_slices_IndexFunc_sapi_Con_api_Con,F_slices_IndexFunc_sapi_Con_api_Con),(n_model_looker_linear,F_model_looker_linear),(n_model_looker_product,F_model_looker_product),(n_model_looker_iff,F_model_looker_iff),(n_model_looker_element,F_model_looker_element),(n_model_looker_differ,F_model_looker_differ),(n_model_looker_table,F_model_looker_table),(n_bits_First,F_bits_First),(n_slices_IndexFunc_sint_int,F_slices_IndexFunc_sint_int),(n_linear_kept,F_linear_kept),(n_linear_none_1,F_linear_none_1),(n_linear_total,F_linear_total),(n_linear_ends_plus,F_linear_ends_plus),(n_linear_sum_1,F_linear_sum_1),(n_linear_ends_may,F_linear_ends_may),(n_linear_Contrary,F_linear_Contrary),(n_linear_iff_1,F_linear_iff_1),(n_slices_BinarySearch_sint_int,F_slices_BinarySearch_sint_int),(n_dom_asked_sint,F_dom_asked_sint),(n_dom_List_1,F_dom_List_1),(n_bits_List,F_bits_List),(n_dom_kept,F_dom_kept),(n_dom_Less_1,F_dom_Less_1),(n_dom_Least,F_dom_Least),(n_slices_IndexFunc_ssint_sint,F_slices_IndexFunc_ssint_sint),(n_model_looker_variables,F_model_looker_variables),(n_model_looker_sum,F_model_looker_sum),(n_model_looker_bare,F_model_looker_bare),(n_cmp_Less_int,F_cmp_Less_int),(n_dom_Greatest,F_dom_Greatest),(n_linear_ends_may_1,F_linear_ends_may_1),(n_sums_Holds,F_sums_Holds),(n_slices_isNaN_int,F_slices_isNaN_int),(n_bits_all,F_bits_all),(n_dom_asked_dom_Dom,F_dom_asked_dom_Dom),(n_dom_kept_1,F_dom_kept_1),(n_bits_Of,F_bits_Of),(n_dom_at,F_dom_at),(n_bits_Least,F_bits_Least),(n_model_within,F_model_within),(n_cmp_isNaN_int,F_cmp_isNaN_int),(n_bits_Greatest,F_bits_Greatest),(n_bits_all_1,F_bits_all_1),(n_model_within_1,F_model_within_1),(n_math_bits_LeadingZeros64,F_math_bits_LeadingZeros64)]
def T (n:Nat):Option F:=(tbl.find? fun p=>p.1==n).map (·.2)
theorem T_law17_FixSound:T n_law17_FixSound=some F_law17_FixSound:=rfl
theorem T_law17_awake:T n_law17_awake=some F_law17_awake:=rfl
theorem T_law17_Large:T n_law17_Large=some F_law17_Large:=rfl
theorem T_fix_Run:T n_fix_Run=some F_fix_Run:=rfl
theorem T_fix_Order:T n_fix_Order=some F_fix_Order:=rfl
theorem T_fix_Step:T n_fix_Step=some F_fix_Step:=rfl
theorem T_dom_Size:T n_dom_Size=some F_dom_Size:=rfl
theorem T_law12_Fewer:T n_law12_Fewer=some F_law12_Fewer:=rfl
theorem T_law12_Within:T n_law12_Within=some F_law12_Within:=rfl
theorem T_law12_Left:T n_law12_Left=some F_law12_Left:=rfl
theorem T_ref11_All:T n_ref11_All=some F_ref11_All:=rfl
theorem T_law17_awake_1:T n_law17_awake_1=some F_law17_awake_1:=rfl
theorem T_fix_Wiped:T n_fix_Wiped=some F_fix_Wiped:=rfl
theorem T_law11_Large:T n_law11_Large=some F_law11_Large:=rfl
theorem T_law12_Large:T n_law12_Large=some F_law12_Large:=rfl
theorem T_fix_right:T n_fix_right=some F_fix_right:=rfl
theorem T_fix_queue_int_push:T n_fix_queue_int_push=some F_fix_queue_int_push:=rfl
theorem T_fix_copied:T n_fix_copied=some F_fix_copied:=rfl
theorem T_fix_lives:T n_fix_lives=some F_fix_lives:=rfl
theorem T_fix_queue_int_pop:T n_fix_queue_int_pop=some F_fix_queue_int_pop:=rfl
theorem T_trail_Trail_uint64_Save:T n_trail_Trail_uint64_Save=some F_trail_Trail_uint64_Save:=rfl
theorem T_trail_Trail_uint64_Set:T n_trail_Trail_uint64_Set=some F_trail_Trail_uint64_Set:=rfl
theorem T_slices_Contains_sint_int:T n_slices_Contains_sint_int=some F_slices_Contains_sint_int:=rfl
theorem T_slices_EqualFunc_sdom_Dom_sdom_Dom_dom_Dom_dom_Dom:T n_slices_EqualFunc_sdom_Dom_sdom_Dom_dom_Dom_dom_Dom=some F_slices_EqualFunc_sdom_Dom_sdom_Dom_dom_Dom_dom_Dom:=rfl
theorem T_dom_Same:T n_dom_Same=some F_dom_Same:=rfl
theorem T_ref04_May:T n_ref04_May=some F_ref04_May:=rfl
theorem T_ref08_Right:T n_ref08_Right=some F_ref08_Right:=rfl
theorem T_ref04_Same:T n_ref04_Same=some F_ref04_Same:=rfl
theorem T_linear_Step:T n_linear_Step=some F_linear_Step:=rfl
theorem T_product_Step:T n_product_Step=some F_product_Step:=rfl
theorem T_element_Step:T n_element_Step=some F_element_Step:=rfl
theorem T_differ_Step:T n_differ_Step=some F_differ_Step:=rfl
theorem T_table_Step:T n_table_Step=some F_table_Step:=rfl
theorem T_dom_asked_int:T n_dom_asked_int=some F_dom_asked_int:=rfl
theorem T_dom_Size_1:T n_dom_Size_1=some F_dom_Size_1:=rfl
theorem T_bits_Count:T n_bits_Count=some F_bits_Count:=rfl
theorem T_ref04_List:T n_ref04_List=some F_ref04_List:=rfl
theorem T_ref11_Right:T n_ref11_Right=some F_ref11_Right:=rfl
theorem T_ref11_Holds:T n_ref11_Holds=some F_ref11_Holds:=rfl
theorem T_slices_ContainsFunc_sdom_Dom_dom_Dom:T n_slices_ContainsFunc_sdom_Dom_dom_Dom=some F_slices_ContainsFunc_sdom_Dom_dom_Dom:=rfl
theorem T_fix_Wiped_1:T n_fix_Wiped_1=some F_fix_Wiped_1:=rfl
theorem T_slices_ContainsFunc_sapi_Con_api_Con:T n_slices_ContainsFunc_sapi_Con_api_Con=some F_slices_ContainsFunc_sapi_Con_api_Con:=rfl
theorem T_fix_right_1:T n_fix_right_1=some F_fix_right_1:=rfl
theorem T_model_Right:T n_model_Right=some F_model_Right:=rfl
theorem T_fix_right_2:T n_fix_right_2=some F_fix_right_2:=rfl
theorem T_dom_May:T n_dom_May=some F_dom_May:=rfl
theorem T_trail_New_uint64:T n_trail_New_uint64=some F_trail_New_uint64:=rfl
theorem T_trail_Trail_uint64_Marks:T n_trail_Trail_uint64_Marks=some F_trail_Trail_uint64_Marks:=rfl
theorem T_trail_Trail_uint64_there:T n_trail_Trail_uint64_there=some F_trail_Trail_uint64_there:=rfl
theorem T_trail_Trail_uint64_last:T n_trail_Trail_uint64_last=some F_trail_Trail_uint64_last:=rfl
theorem T_trail_Trail_uint64_put:T n_trail_Trail_uint64_put=some F_trail_Trail_uint64_put:=rfl
theorem T_slices_Index_sint_int:T n_slices_Index_sint_int=some F_slices_Index_sint_int:=rfl
theorem T_slices_Equal_sint_int:T n_slices_Equal_sint_int=some F_slices_Equal_sint_int:=rfl
theorem T_ref08_all:T n_ref08_all=some F_ref08_all:=rfl
theorem T_ref02_Same:T n_ref02_Same=some F_ref02_Same:=rfl
theorem T_linear_Step_1:T n_linear_Step_1=some F_linear_Step_1:=rfl
theorem T_slices_ContainsFunc_sint_int:T n_slices_ContainsFunc_sint_int=some F_slices_ContainsFunc_sint_int:=rfl
theorem T_linear_Step_2:T n_linear_Step_2=some F_linear_Step_2:=rfl
theorem T_linear_none:T n_linear_none=some F_linear_none:=rfl
theorem T_linear_sum:T n_linear_sum=some F_linear_sum:=rfl
theorem T_linear_iff:T n_linear_iff=some F_linear_iff:=rfl
theorem T_product_Step_1:T n_product_Step_1=some F_product_Step_1:=rfl
theorem T_product_try:T n_product_try=some F_product_try:=rfl
theorem T_dom_List:T n_dom_List=some F_dom_List:=rfl
theorem T_dom_Less:T n_dom_Less=some F_dom_Less:=rfl
theorem T_element_Step_1:T n_element_Step_1=some F_element_Step_1:=rfl
theorem T_element_kept:T n_element_kept=some F_element_kept:=rfl
theorem T_element_Step_2:T n_element_Step_2=some F_element_Step_2:=rfl
theorem T_dom_Has:T n_dom_Has=some F_dom_Has:=rfl
theorem T_element_Step_3:T n_element_Step_3=some F_element_Step_3:=rfl
theorem T_differ_Step_1:T n_differ_Step_1=some F_differ_Step_1:=rfl
theorem T_differ_few:T n_differ_few=some F_differ_few:=rfl
theorem T_differ_kept:T n_differ_kept=some F_differ_kept:=rfl
theorem T_differ_Step_2:T n_differ_Step_2=some F_differ_Step_2:=rfl
theorem T_differ_Step_2_1:T n_differ_Step_2_1=some F_differ_Step_2_1:=rfl
theorem T_dom_Single:T n_dom_Single=some F_dom_Single:=rfl
theorem T_table_Step_1:T n_table_Step_1=some F_table_Step_1:=rfl
theorem T_table_alive:T n_table_alive=some F_table_alive:=rfl
theorem T_slices_ContainsFunc_ssint_sint:T n_slices_ContainsFunc_ssint_sint=some F_slices_ContainsFunc_ssint_sint:=rfl
theorem T_table_Step_2:T n_table_Step_2=some F_table_Step_2:=rfl
theorem T_math_bits_OnesCount64:T n_math_bits_OnesCount64=some F_math_bits_OnesCount64:=rfl
theorem T_ref11_sum:T n_ref11_sum=some F_ref11_sum:=rfl
theorem T_slices_IndexFunc_sdom_Dom_dom_Dom:T n_slices_IndexFunc_sdom_Dom_dom_Dom=some F_slices_IndexFunc_sdom_Dom_dom_Dom:=rfl
theorem T_slices_IndexFunc_sapi_Con_api_Con:T n_slices_IndexFunc_sapi_Con_api_Con=some F_slices_IndexFunc_sapi_Con_api_Con:=rfl
theorem T_model_looker_linear:T n_model_looker_linear=some F_model_looker_linear:=rfl
theorem T_model_looker_product:T n_model_looker_product=some F_model_looker_product:=rfl
theorem T_model_looker_iff:T n_model_looker_iff=some F_model_looker_iff:=rfl
theorem T_model_looker_element:T n_model_looker_element=some F_model_looker_element:=rfl
theorem T_model_looker_differ:T n_model_looker_differ=some F_model_looker_differ:=rfl
theorem T_model_looker_table:T n_model_looker_table=some F_model_looker_table:=rfl
theorem T_bits_First:T n_bits_First=some F_bits_First:=rfl
theorem T_slices_IndexFunc_sint_int:T n_slices_IndexFunc_sint_int=some F_slices_IndexFunc_sint_int:=rfl
theorem T_linear_kept:T n_linear_kept=some F_linear_kept:=rfl
theorem T_linear_none_1:T n_linear_none_1=some F_linear_none_1:=rfl
theorem T_linear_total:T n_linear_total=some F_linear_total:=rfl
theorem T_linear_ends_plus:T n_linear_ends_plus=some F_linear_ends_plus:=rfl
theorem T_linear_sum_1:T n_linear_sum_1=some F_linear_sum_1:=rfl
theorem T_linear_ends_may:T n_linear_ends_may=some F_linear_ends_may:=rfl
theorem T_linear_Contrary:T n_linear_Contrary=some F_linear_Contrary:=rfl
theorem T_linear_iff_1:T n_linear_iff_1=some F_linear_iff_1:=rfl
theorem T_slices_BinarySearch_sint_int:T n_slices_BinarySearch_sint_int=some F_slices_BinarySearch_sint_int:=rfl
theorem T_dom_asked_sint:T n_dom_asked_sint=some F_dom_asked_sint:=rfl
theorem T_dom_List_1:T n_dom_List_1=some F_dom_List_1:=rfl
theorem T_bits_List:T n_bits_List=some F_bits_List:=rfl
theorem T_dom_kept:T n_dom_kept=some F_dom_kept:=rfl
theorem T_dom_Less_1:T n_dom_Less_1=some F_dom_Less_1:=rfl
theorem T_dom_Least:T n_dom_Least=some F_dom_Least:=rfl
theorem T_slices_IndexFunc_ssint_sint:T n_slices_IndexFunc_ssint_sint=some F_slices_IndexFunc_ssint_sint:=rfl
theorem T_model_looker_variables:T n_model_looker_variables=some F_model_looker_variables:=rfl
theorem T_model_looker_sum:T n_model_looker_sum=some F_model_looker_sum:=rfl
theorem T_model_looker_bare:T n_model_looker_bare=some F_model_looker_bare:=rfl
theorem T_cmp_Less_int:T n_cmp_Less_int=some F_cmp_Less_int:=rfl
theorem T_dom_Greatest:T n_dom_Greatest=some F_dom_Greatest:=rfl
theorem T_linear_ends_may_1:T n_linear_ends_may_1=some F_linear_ends_may_1:=rfl
theorem T_sums_Holds:T n_sums_Holds=some F_sums_Holds:=rfl
theorem T_slices_isNaN_int:T n_slices_isNaN_int=some F_slices_isNaN_int:=rfl
theorem T_bits_all:T n_bits_all=some F_bits_all:=rfl
theorem T_dom_asked_dom_Dom:T n_dom_asked_dom_Dom=some F_dom_asked_dom_Dom:=rfl
theorem T_dom_kept_1:T n_dom_kept_1=some F_dom_kept_1:=rfl
theorem T_bits_Of:T n_bits_Of=some F_bits_Of:=rfl
theorem T_dom_at:T n_dom_at=some F_dom_at:=rfl
theorem T_bits_Least:T n_bits_Least=some F_bits_Least:=rfl
theorem T_model_within:T n_model_within=some F_model_within:=rfl
theorem T_cmp_isNaN_int:T n_cmp_isNaN_int=some F_cmp_isNaN_int:=rfl
theorem T_bits_Greatest:T n_bits_Greatest=some F_bits_Greatest:=rfl
theorem T_bits_all_1:T n_bits_all_1=some F_bits_all_1:=rfl
theorem T_model_within_1:T n_model_within_1=some F_model_within_1:=rfl
theorem T_math_bits_LeadingZeros64:T n_math_bits_LeadingZeros64=some F_math_bits_LeadingZeros64:=rfl
theorem T_ok:∀ f F,T f=some F→mF Go.Proofs.Tryz.prog f F=true:=by
 intro f F h
 unfold T at h
 obtain ⟨p,hp,rfl⟩:=Option.map_eq_some_iff.1 h
 have h1:=List.mem_of_find?_eq_some hp
 have h2:p.1=f:=by simpa using List.find?_some hp
 subst h2
 clear h hp
 simp only [tbl,List.mem_cons,List.not_mem_nil,or_false] at h1
 rcases h1 with rfl|rfl|rfl|rfl|rfl|rfl|rfl|rfl|rfl|rfl|rfl|rfl|rfl|rfl|rfl|rfl|rfl|rfl|rfl|rfl|rfl|rfl|rfl|rfl|rfl|rfl|rfl|rfl|rfl|rfl|rfl|rfl|rfl|rfl|rfl|rfl|rfl|rfl|rfl|rfl|rfl|rfl|rfl|rfl|rfl|rfl|rfl|rfl|rfl|rfl|rfl|rfl|rfl|rfl|rfl|rfl|rfl|rfl|rfl|rfl|rfl|rfl|rfl|rfl|rfl|rfl|rfl|rfl|rfl|rfl|rfl|rfl|rfl|rfl|rfl|rfl|rfl|rfl|rfl|rfl|rfl|rfl|rfl|rfl|rfl|rfl|rfl|rfl|rfl|rfl|rfl|rfl|rfl|rfl|rfl|rfl|rfl|rfl|rfl|rfl|rfl|rfl|rfl|rfl|rfl|rfl|rfl|rfl|rfl|rfl|rfl|rfl|rfl|rfl|rfl|rfl|rfl|rfl|rfl|rfl|rfl|rfl|rfl|rfl|rfl|rfl|rfl|rfl
 ·exact ok_law17_FixSound
 ·exact ok_law17_awake
 ·exact ok_law17_Large
 ·exact ok_fix_Run
 ·exact ok_fix_Order
 ·exact ok_fix_Step
 ·exact ok_dom_Size
 ·exact ok_law12_Fewer
 ·exact ok_law12_Within
 ·exact ok_law12_Left
 ·exact ok_ref11_All
 ·exact ok_law17_awake_1
 ·exact ok_fix_Wiped
 ·exact ok_law11_Large
 ·exact ok_law12_Large
 ·exact ok_fix_right
 ·exact ok_fix_queue_int_push
 ·exact ok_fix_copied
 ·exact ok_fix_lives
 ·exact ok_fix_queue_int_pop
 ·exact ok_trail_Trail_uint64_Save
 ·exact ok_trail_Trail_uint64_Set
 ·exact ok_slices_Contains_sint_int
 ·exact ok_slices_EqualFunc_sdom_Dom_sdom_Dom_dom_Dom_dom_Dom
 ·exact ok_dom_Same
 ·exact ok_ref04_May
 ·exact ok_ref08_Right
 ·exact ok_ref04_Same
 ·exact ok_linear_Step
 ·exact ok_product_Step
 ·exact ok_element_Step
 ·exact ok_differ_Step
 ·exact ok_table_Step
 ·exact ok_dom_asked_int
 ·exact ok_dom_Size_1
 ·exact ok_bits_Count
 ·exact ok_ref04_List
 ·exact ok_ref11_Right
 ·exact ok_ref11_Holds
 ·exact ok_slices_ContainsFunc_sdom_Dom_dom_Dom
 ·exact ok_fix_Wiped_1
 ·exact ok_slices_ContainsFunc_sapi_Con_api_Con
 ·exact ok_fix_right_1
 ·exact ok_model_Right
 ·exact ok_fix_right_2
 ·exact ok_dom_May
 ·exact ok_trail_New_uint64
 ·exact ok_trail_Trail_uint64_Marks
 ·exact ok_trail_Trail_uint64_there
 ·exact ok_trail_Trail_uint64_last
 ·exact ok_trail_Trail_uint64_put
 ·exact ok_slices_Index_sint_int
 ·exact ok_slices_Equal_sint_int
 ·exact ok_ref08_all
 ·exact ok_ref02_Same
 ·exact ok_linear_Step_1
 ·exact ok_slices_ContainsFunc_sint_int
 ·exact ok_linear_Step_2
 ·exact ok_linear_none
 ·exact ok_linear_sum
 ·exact ok_linear_iff
 ·exact ok_product_Step_1
 ·exact ok_product_try
 ·exact ok_dom_List
 ·exact ok_dom_Less
 ·exact ok_element_Step_1
 ·exact ok_element_kept
 ·exact ok_element_Step_2
 ·exact ok_dom_Has
 ·exact ok_element_Step_3
 ·exact ok_differ_Step_1
 ·exact ok_differ_few
 ·exact ok_differ_kept
 ·exact ok_differ_Step_2
 ·exact ok_differ_Step_2_1
 ·exact ok_dom_Single
 ·exact ok_table_Step_1
 ·exact ok_table_alive
 ·exact ok_slices_ContainsFunc_ssint_sint
 ·exact ok_table_Step_2
 ·exact ok_math_bits_OnesCount64
 ·exact ok_ref11_sum
 ·exact ok_slices_IndexFunc_sdom_Dom_dom_Dom
 ·exact ok_slices_IndexFunc_sapi_Con_api_Con
 ·exact ok_model_looker_linear
 ·exact ok_model_looker_product
 ·exact ok_model_looker_iff
 ·exact ok_model_looker_element
 ·exact ok_model_looker_differ
 ·exact ok_model_looker_table
 ·exact ok_bits_First
 ·exact ok_slices_IndexFunc_sint_int
 ·exact ok_linear_kept
 ·exact ok_linear_none_1
 ·exact ok_linear_total
 ·exact ok_linear_ends_plus
 ·exact ok_linear_sum_1
 ·exact ok_linear_ends_may
 ·exact ok_linear_Contrary
 ·exact ok_linear_iff_1
 ·exact ok_slices_BinarySearch_sint_int
 ·exact ok_dom_asked_sint
 ·exact ok_dom_List_1
 ·exact ok_bits_List
 ·exact ok_dom_kept
 ·exact ok_dom_Less_1
 ·exact ok_dom_Least
 ·exact ok_slices_IndexFunc_ssint_sint
 ·exact ok_model_looker_variables
 ·exact ok_model_looker_sum
 ·exact ok_model_looker_bare
 ·exact ok_cmp_Less_int
 ·exact ok_dom_Greatest
 ·exact ok_linear_ends_may_1
 ·exact ok_sums_Holds
 ·exact ok_slices_isNaN_int
 ·exact ok_bits_all
 ·exact ok_dom_asked_dom_Dom
 ·exact ok_dom_kept_1
 ·exact ok_bits_Of
 ·exact ok_dom_at
 ·exact ok_bits_Least
 ·exact ok_model_within
 ·exact ok_cmp_isNaN_int
 ·exact ok_bits_Greatest
 ·exact ok_bits_all_1
 ·exact ok_model_within_1
 ·exact ok_math_bits_LeadingZeros64
theorem ok_trail_Trail_uint64_Changed:mFN Go.Proofs.Tryz.prog n_trail_Trail_uint64_Changed F_trail_Trail_uint64_Changed=true:=by kernel_rfl
end Go.RR.M
