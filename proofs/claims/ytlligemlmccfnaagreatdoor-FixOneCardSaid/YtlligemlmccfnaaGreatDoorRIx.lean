/- The code of the functions, by name, for the second reading; that it is theirs. -/
import Derived.Test.YtlligemlmccfnaaGreatDoorProg
import Derived.KernelRfl
import Derived.Test.YtlligemlmccfnaaGreatDoorR4
import Derived.Test.YtlligemlmccfnaaGreatDoorRN
set_option linter.unusedSimpArgs false
set_option linter.unusedVariables false
set_option maxRecDepth 100000
namespace Go.RR.M
open Go Go.RR
abbrev zm (a b:Nat):In:=⟨some a,none,.mov (.t b)⟩
abbrev zn (a:Nat) (i:I):In:=⟨some a,none,i⟩
abbrev zg (a b:Nat) (i:I):In:=⟨some a,some (b,true),i⟩
abbrev zf (a b:Nat) (i:I):In:=⟨some a,some (b,false),i⟩
abbrev zM (a b c:Nat):In:=⟨some a,some (b,true),.mov (.t c)⟩
abbrev zF (a b c:Nat):In:=⟨some a,some (b,false),.mov (.t c)⟩
abbrev zi (n:Int):O:=.c (.int .i64 n)
abbrev zb (b:Bool):O:=.c (.bool b)
abbrev zr (l:List In) (k:List Nat):IR:=.rg l (some k)
abbrev zp (a c x:Nat):In:=⟨some a,none,.pick (.t c) (.t x) (.c (.bool false))⟩
abbrev zq (a c x:Nat):In:=⟨some a,none,.pick (.t c) (.c (.bool true)) (.t x)⟩
abbrev zl (a n b:Nat):In:=⟨some a,none,.ld false n (.t b)⟩
abbrev zL (a n b:Nat):In:=⟨some a,none,.ld true n (.t b)⟩
abbrev zE (i b:IR):Prop:=∀ {C:Cx} {Y:Yl} {fr:Fr} {h:List Ob},evw C Y i fr h=nxt (evw C Y b fr h) fun fr h=>evw C Y i fr h
def zDV:Nat:=0
def zD5:Nat:=1
def zzm:Nat:=2
def zhq:Nat:=3
def zzn:Nat:=4
def ziv:Nat:=5
def ziK:Nat:=6
def zeD:Nat:=7
def zgQ:Nat:=8
def ziT:Nat:=9
def zcC:Nat:=10
def zed:Nat:=11
def zkt:Nat:=12
def zem:Nat:=13
def zgW:Nat:=14
def zB9:Nat:=15
def zBl:Nat:=16
def zC6:Nat:=17
def zEO:Nat:=18
def zgw:Nat:=19
def ziY:Nat:=20
def zfM:Nat:=21
def zix:Nat:=22
def zi5:Nat:=23
def zaX:Nat:=24
def zhx:Nat:=25
def zmn:Nat:=26
def za7:Nat:=27
def zbt:Nat:=28
def zbc:Nat:=29
def zav:Nat:=30
def zaz:Nat:=31
def zao:Nat:=32
def zgX:Nat:=33
def zfo:Nat:=34
def zf8:Nat:=35
def zkw:Nat:=36
def zkN:Nat:=37
def zf6:Nat:=38
def zeT:Nat:=39
def zeF:Nat:=40
def zgd:Nat:=41
def zhN:Nat:=42
def zfX:Nat:=43
def zhz:Nat:=44
def zkL:Nat:=45
def zkS:Nat:=46
def zB4:Nat:=47
def zB6:Nat:=48
def zaf:Nat:=49
def zfZ:Nat:=50
def zay:Nat:=51
def zep:Nat:=52
def zbR:Nat:=53
def zgf:Nat:=54
def zcl:Nat:=55
def zas:Nat:=56
def zdL:Nat:=57
def zbh:Nat:=58
def zbl:Nat:=59
def za2:Nat:=60
def zbD:Nat:=61
def zbm:Nat:=62
def zbe:Nat:=63
def zbf:Nat:=64
def zgV:Nat:=65
def zkO:Nat:=66
def zhG:Nat:=67
def zkP:Nat:=68
def zku:Nat:=69
def zkd:Nat:=70
def zkF:Nat:=71
def zdO:Nat:=72
def zan:Nat:=73
def zcR:Nat:=74
def zf2:Nat:=75
def zfv:Nat:=76
def zkp:Nat:=77
def zdp:Nat:=78
def ziQ:Nat:=79
def zbZ:Nat:=80
def zfB:Nat:=81
def zdo:Nat:=82
def zeW:Nat:=83
def zdh:Nat:=84
def zjB:Nat:=85
def zdi:Nat:=86
def zdY:Nat:=87
def zkD:Nat:=88
def ziP:Nat:=89
def zd3:Nat:=90
def zbW:Nat:=91
def zkx:Nat:=92
def zeY:Nat:=93
def ziJ:Nat:=94
def zaG:Nat:=95
def zdq:Nat:=96
def zbQ:Nat:=97
def zEn:Nat:=98
def zaJ:Nat:=99
def zaK:Nat:=100
def zcq:Nat:=101
def zca:Nat:=102
def zdM:Nat:=103
def zb9:Nat:=104
def zcn:Nat:=105
def zcF:Nat:=106
def zkl:Nat:=107
def zs4:Nat:=108
def zBb:Nat:=109
def zaQ:Nat:=110
def zf0:Nat:=111
def zcs:Nat:=112
def za9:Nat:=113
def zgI:Nat:=114
def zjF:Nat:=115
def zc4:Nat:=116
def zdf:Nat:=117
def zhy:Nat:=118
def zgK:Nat:=119
def zhM:Nat:=120
def zlL:Nat:=121
def zd4:Nat:=122
def zkz:Nat:=123
def ziH:Nat:=124
def zaH:Nat:=125
def zco:Nat:=126
def zdR:Nat:=127
def zeC:Nat:=128
def zcj:Nat:=129
def zdA:Nat:=130
def zbX:Nat:=131
def zcT:Nat:=132
def zdB:Nat:=133
def za1:Nat:=134
def ze8:Nat:=135
def zfz:Nat:=136
def zgP:Nat:=137
def zol:Nat:=138
def zhT:Nat:=139
def zjf:Nat:=140
def za4:Nat:=141
def zax:Nat:=142
def zck:Nat:=143
def za8:Nat:=144
def zqj:Nat:=145
def zrB:Nat:=146
def zqk:Nat:=147
def zqB:Nat:=148
def zqq:Nat:=149
def zmJ:Nat:=150
def zhw:Nat:=151
def zpw:Nat:=152
def zrw:Nat:=153
def zy4:Nat:=154
def zcM:Nat:=155
def zky:Nat:=156
def zg8:Nat:=157
def zb2:Nat:=158
def zkj:Nat:=159
def zcr:Nat:=160
def zoi:Nat:=161
def zb0:Nat:=162
def zfu:Nat:=163
def zqa:Nat:=164
def zpQ:Nat:=165
def zhE:Nat:=166
def zdz:Nat:=167
def zrL:Nat:=168
def zur:Nat:=169
def zvb:Nat:=170
def zpu:Nat:=171
def ztn:Nat:=172
def zef:Nat:=173
def zlT:Nat:=174
def zgs:Nat:=175
def zfC:Nat:=176
def zaV:Nat:=177
def zci:Nat:=178
def zto:Nat:=179
def zbk:Nat:=180
def zsD:Nat:=181
def zps:Nat:=182
def zsV:Nat:=183
def zpq:Nat:=184
def ztp:Nat:=185
def zpW:Nat:=186
def zpr:Nat:=187
def zmI:Nat:=188
def zpv:Nat:=189
def zmF:Nat:=190
def zrs:Nat:=191
def zos:Nat:=192
def zzj:Nat:=193
def zqp:Nat:=194
def zmU:Nat:=195
def zyO:Nat:=196
def ztm:Nat:=197
def zyX:Nat:=198
def zbA:Nat:=199
def zcV:Nat:=200
def zbo:Nat:=201
def zzk:Nat:=202
def ze9:IR:=.seq (zr [zn 84 (.bin .lss (.t 83) (.t 82))] [7,81,82,83,84])
 (.seq (.cond (.t 84) (.skip) (.ext 0))
 (.seq (.blk 1 (.seq (zr [zn 85 (.iad 6 (.t 81) (.t 83)),zL 86 6 85,zn 13 (.new (.agg [.int .i64 0,.nsl 1,.nsl 1,.int .i64 0,.int .i64 0,.nsl 1])),⟨none,none,.st 6 (.t 13) (.t 86)⟩] [7,13,81,82,83])
 (.seq (zr [zL 88 6 13,zm 89 7,zn 90 (.call zem [(.t 88),(.t 89)]),zm 87 90,zn 91 (.ext (.t 87) 0),zn 92 (.ext (.t 87) 1),zm 14 91,zm 15 92] [7,14,15,81,82,83])
 (.seq (zr [zm 93 15,zn 94 (.bin .neq (.t 93) (zi 0)),zm 95 94,zF 96 95 14,zf 97 95 (.call zcC [(.t 96)]),zF 98 95 7,zf 99 95 (.call zcC [(.t 98)]),zf 100 95 (.call zed [(.t 97),(.t 99)]),zf 101 95 (.un .not (.t 100)),zq 102 95 101] [7,81,82,83,102])
 (.cond (.t 102) (.seq (zr [zn 6 (.mov (zb false))] [6])
 (.ret)) (.skip))))))
 (zr [zn 103 (.bin .add (.t 83) (zi 1)),zm 83 103] [7,81,82,83])))
def zg0:IR:=.loop ze9
theorem zmz:zE zg0 ze9:=zal
def zeH:IR:=.seq (zr [zn 6 (.mov (zb false))] [0,1,2])
 (.seq (.seq (zr [zn 16 (.call ziv []),zn 17 (.un .not (.t 16))] [0,1,2,17])
 (.cond (.t 17) (.seq (zr [zn 6 (.mov (zb false))] [6])
 (.ret)) (.skip)))
 (.seq (.seq (zr [zm 18 0,zm 19 1,zn 20 (.call ziK [(.t 18),(.t 19)]),zm 21 20,zF 22 21 2,zf 23 21 (.len (.t 22)),zf 24 21 (.bin .gtr (.t 23) (zi 40)),zq 25 21 24] [0,1,2,25])
 (.cond (.t 25) (.seq (zr [zn 6 (.mov (zb true))] [6])
 (.ret)) (.skip)))
 (.seq (zr [zm 27 0,zm 28 1,zn 29 (.call zeD [(.t 27),(.t 28)]),zm 26 29,zn 30 (.ext (.t 26) 0),zn 31 (.ext (.t 26) 1),zn 32 (.ext (.t 26) 2),zm 7 30,zm 8 31,zm 9 32] [0,1,2,7,9])
 (.seq (zr [zm 34 0,zm 35 1,zm 36 2,zn 37 (.call zgQ [(.t 34),(.t 35),(.t 36)]),zm 33 37,zn 38 (.ext (.t 33) 0),zn 39 (.ext (.t 33) 1),zm 10 38,zm 11 39] [0,1,7,9,10,11])
 (.seq (.seq (zr [zm 40 9,zm 41 11,zn 42 (.bin .neq (.t 40) (.t 41)),zm 43 42,zF 44 43 9,zf 45 43 (.bin .neq (.t 44) (zi 0)),zq 46 43 45] [0,1,7,9,10,11,46])
 (.cond (.t 46) (.seq (zr [zm 47 9,zm 48 11,zn 49 (.bin .eql (.t 47) (.t 48)),zm 50 49,zM 51 50 7,zg 52 50 (.len (.t 51)),zM 53 50 10,zg 54 50 (.len (.t 53)),zg 55 50 (.bin .add (.t 52) (.t 54)),zg 56 50 (.bin .eql (.t 55) (zi 0)),zp 57 50 56,zm 58 57,zM 59 58 0,zM 60 58 1,zg 61 58 (.call zcC [(.t 60)]),zg 62 58 (.call ziT [(.t 59),(.t 61)]),zg 63 58 (.un .not (.t 62)),zp 64 58 63,zm 6 64] [6])
 (.ret)) (.skip)))
 (.seq (.seq (zr [zm 65 7,zn 66 (.call zcC [(.t 65)]),zm 67 10,zn 68 (.call zcC [(.t 67)]),zn 69 (.call zed [(.t 66),(.t 68)]),zn 70 (.un .not (.t 69)),zm 71 70,zF 72 71 7,zf 73 71 (.call zcC [(.t 72)]),zF 74 71 0,zF 75 71 1,zf 76 71 (.call zcC [(.t 75)]),zf 77 71 (.call zkt [(.t 74),(.t 76)]),zf 78 71 (.call zed [(.t 73),(.t 77)]),zf 79 71 (.un .not (.t 78)),zq 80 71 79] [0,7,80])
 (.cond (.t 80) (.seq (zr [zn 6 (.mov (zb false))] [6])
 (.ret)) (.skip)))
 (.seq (.seq (zr [zm 81 0,zn 82 (.len (.t 81)),zn 83 (.mov (zi 0))] [7,81,82,83])
 (.blk 0 (zg0)))
 (.seq (zr [zn 6 (.mov (zb true))] [6])
 (.ret)))))))))
def zdx:F:=⟨zeH,[(6,none)],false⟩
def zpI:IR:=.seq (zr [zn 0 (.mov (zb false))] [])
 (.seq (zr [zn 13 (.bsf (.int .i64 0) 3 [(0,(zi 1)),(1,(zi 2)),(2,(zi 3))]),zn 14 (.bld [.nsl 1,.int .u64 0] [(0,1,(.t 13)),(1,1,(.c (.int .u64 7)))]),zn 1 (.new (.agg [.nsl 1,.int .u64 0])),⟨none,none,.st 2 (.t 1) (.t 14)⟩] [1])
 (.seq (zr [zn 2 (.mov (.c (.fn (.func zgw) [] [])))] [1,2])
 (.seq (.dq [(zm 16 2,[]),(zn 17 (.callv (.t 16) [(zi 0),(zi 1)]),[0]),(zm 18 2,[]),(zn 19 (.callv (.t 18) [(zi 1),(zi 2)]),[0,1,2]),(zn 20 (.bsf (.agg [.int .i64 0,.nsl 1,.nsl 1,.int .i64 0,.int .i64 0,.nsl 1]) 2 [(0,(.t 17)),(1,(.t 19))]),[0,1,2,3]),(zL 21 2 1,[]),(zL 22 2 1,[]),(zL 23 2 1,[]),(zn 24 (.bsf (.agg [.nsl 1,.int .u64 0]) 3 [(0,(.t 21)),(1,(.t 22)),(2,(.t 23))]),[5,6,7]),(zn 25 (.call zeD [(.t 20),(.t 24)]),[0,1,2,3,4,5,6,7,8]),(zm 15 25,[0,1,2,3,4,5,6,7,8,9]),(zn 26 (.ext (.t 15) 0),[0,1,2,3,4,5,6,7,8,9,10]),(zn 27 (.ext (.t 15) 1),[0,1,2,3,4,5,6,7,8,9,10]),(zn 28 (.ext (.t 15) 2),[0,1,2,3,4,5,6,7,8,9,10]),(zm 3 26,[0,1,2,3,4,5,6,7,8,9,10,11]),(zm 4 27,[0,1,2,3,4,5,6,7,8,9,10,11,12,14]),(zm 5 28,[0,1,2,3,4,5,6,7,8,9,10,11,12,13,14,15])] (some [1,2,3,4,5]))
 (.seq (.dq [(zm 30 2,[]),(zn 31 (.callv (.t 30) [(zi 0),(zi 1)]),[0]),(zm 32 2,[]),(zn 33 (.callv (.t 32) [(zi 1),(zi 0)]),[0,1,2]),(zn 34 (.bsf (.agg [.int .i64 0,.nsl 1,.nsl 1,.int .i64 0,.int .i64 0,.nsl 1]) 2 [(0,(.t 31)),(1,(.t 33))]),[0,1,2,3]),(zL 35 2 1,[]),(zL 36 2 1,[]),(zn 37 (.bsf (.agg [.nsl 1,.int .u64 0]) 2 [(0,(.t 35)),(1,(.t 36))]),[5,6]),(zn 38 (.bsf (.int .i64 0) 2 [(0,(zi 1)),(1,(zi (-1)))]),[]),(zn 39 (.call zgQ [(.t 34),(.t 37),(.t 38)]),[0,1,2,3,4,5,6,7,8]),(zm 29 39,[0,1,2,3,4,5,6,7,8,9]),(zn 40 (.ext (.t 29) 0),[0,1,2,3,4,5,6,7,8,9,10]),(zn 41 (.ext (.t 29) 1),[0,1,2,3,4,5,6,7,8,9,10]),(zm 6 40,[0,1,2,3,4,5,6,7,8,9,10,11]),(zm 7 41,[0,1,2,3,4,5,6,7,8,9,10,11,12,13])] (some [3,4,5,6,7]))
 (.seq (zr [zn 43 (.bld [.int .i64 0,.nsl 1,.nsl 1,.int .i64 0,.int .i64 0,.nsl 1] []),zn 44 (.call zem [(.t 43),(.c (.nsl 2))]),zm 42 44,zn 45 (.ext (.t 42) 0),zn 46 (.ext (.t 42) 1),zm 8 45,zm 9 46] [3,4,5,6,7,9])
 (.seq (zr [zn 48 (.bld [.int .i64 0,.nsl 1,.nsl 1,.int .i64 0,.int .i64 0,.nsl 1] []),zn 49 (.bsf (.agg [.int .i64 0,.nsl 1,.nsl 1,.int .i64 0,.int .i64 0,.nsl 1]) 1 [(0,(.t 48))]),zn 50 (.call zeD [(.t 49),(.c (.nsl 2))]),zm 47 50,zn 51 (.ext (.t 47) 0),zn 52 (.ext (.t 47) 1),zn 53 (.ext (.t 47) 2),zm 10 51,zm 11 52,zm 12 53] [3,4,5,6,7,9,12])
 (.seq (zr [zm 54 5,zn 55 (.bin .eql (.t 54) (zi 0)),zm 56 55,zM 57 56 4,zg 58 56 (.bin .gtr (.t 57) (zi 2)),zp 59 56 58,zm 60 59,zM 61 60 3,zg 62 60 (.len (.t 61)),zg 63 60 (.bin .eql (.t 62) (zi 3)),zp 64 60 63,zm 65 64,zM 66 65 3,zg 67 65 (.iad 2 (.t 66) (zi 0)),zg 68 65 (.fad 1 (.t 67)),zg 69 65 (.ld false 1 (.t 68)),zg 70 65 (.bin .eql (.t 69) (.c (.int .u64 1))),zp 71 65 70,zm 72 71,zM 73 72 3,zg 74 72 (.iad 2 (.t 73) (zi 1)),zg 75 72 (.fad 1 (.t 74)),zg 76 72 (.ld false 1 (.t 75)),zg 77 72 (.bin .eql (.t 76) (.c (.int .u64 2))),zp 78 72 77,zm 79 78,zM 80 79 3,zg 81 79 (.iad 2 (.t 80) (zi 2)),zg 82 79 (.fad 1 (.t 81)),zg 83 79 (.ld false 1 (.t 82)),zg 84 79 (.bin .eql (.t 83) (.c (.int .u64 4))),zp 85 79 84,zm 86 85,zM 87 86 7,zg 88 86 (.bin .eql (.t 87) (zi 0)),zp 89 86 88,zm 90 89,zM 91 90 6,zg 92 90 (.call ziY [(.t 91)]),zp 93 90 92,zm 94 93,zM 95 94 3,zg 96 94 (.call ziY [(.t 95)]),zg 97 94 (.un .not (.t 96)),zp 98 94 97,zm 99 98,zM 100 99 9,zg 101 99 (.bin .eql (.t 100) (zi 1)),zp 102 99 101,zm 103 102,zM 104 103 12,zg 105 103 (.bin .eql (.t 104) (zi 1)),zp 106 103 105,zm 0 106] [0])
 (.ret))))))))
def zmm:F:=⟨zpI,[(0,none)],false⟩
def ziA:IR:=.seq (zr [zn 4 (.mov (zb false))] [0,1])
 (.seq (.seq (zr [zm 5 0,zn 6 (.call zfM [(.t 5),(.c (.nsl 1))]),zm 7 6,zF 8 7 0,zf 9 7 (.len (.t 8)),zf 10 7 (.bin .gtr (.t 9) (zi 20)),zq 11 7 10] [1,11])
 (.cond (.t 11) (.seq (zr [zn 4 (.mov (zb true))] [4])
 (.ret)) (.skip)))
 (.seq (zr [zn 12 (.bld [.int .i64 0,.nsl 1,.nsl 1,.int .i64 0,.int .i64 0,.nsl 1] []),zm 13 1,zn 14 (.call zix [(.t 12),(.t 13)]),zm 4 14] [4])
 (.ret)))
def zfJ:F:=⟨ziA,[(4,none)],false⟩
def zl7:IR:=.seq (zr [zn 30 (.bin .lss (.t 29) (.t 28))] [0,1,7,28,29,30])
 (.seq (.cond (.t 30) (.skip) (.ext 0))
 (.seq (.blk 1 (.seq (zr [zm 31 29,zm 8 31] [0,1,7,8,28,29])
 (zr [zm 32 7,zm 33 8,zn 34 (.call zaX [(.t 32),(.t 33)])] [0,1,7,28,29])))
 (zr [zn 35 (.bin .add (.t 29) (zi 1)),zm 29 35] [0,1,7,28,29])))
def znv:IR:=.loop zl7
theorem zsA:zE znv zl7:=zal
def zl0:IR:=.seq (zr [zn 67 (.bin .lss (.t 66) (.t 65))] [0,7,9,10,11,64,65,66,67])
 (.seq (.cond (.t 67) (.skip) (.ext 4))
 (.seq (.blk 5 (.seq (zr [zm 68 66,zn 69 (.iad 2 (.t 64) (.t 66)),zL 70 2 69,zn 15 (.new (.agg [.nsl 1,.int .u64 0])),zm 14 68,⟨none,none,.st 2 (.t 15) (.t 70)⟩] [0,7,9,10,11,14,15,64,65,66])
 (zr [zm 71 10,zm 72 14,zn 73 (.fad 1 (.t 15)),zl 74 1 73,zn 75 (.call zbc [(.t 71),(.t 72),(.t 74)])] [0,7,9,10,11,64,65,66])))
 (zr [zn 76 (.bin .add (.t 66) (zi 1)),zm 66 76] [0,7,9,10,11,64,65,66])))
def zm2:IR:=.loop zl0
theorem zs9:zE zm2 zl0:=zal
def zjd:IR:=.seq (zr [zn 87 (.bin .lss (.t 86) (.t 85))] [0,7,9,10,11,17,78,79,80,84,85,86,87])
 (.seq (.cond (.t 87) (.skip) (.ext 8))
 (.seq (.blk 9 (.seq (zr [zm 88 86,zn 89 (.iad 6 (.t 84) (.t 86)),zL 90 6 89,zn 19 (.new (.agg [.int .i64 0,.nsl 1,.nsl 1,.int .i64 0,.int .i64 0,.nsl 1])),zm 18 88,⟨none,none,.st 6 (.t 19) (.t 90)⟩] [0,7,9,10,11,17,18,19,78,79,80,84,85,86])
 (.seq (zr [zn 91 (.fad 1 (.t 19)),zl 92 1 91,zm 93 17,zn 94 (.call zaz [(.t 92),(.t 93)])] [0,7,9,10,11,17,18,78,79,80,84,85,86,94])
 (.cond (.t 94) (zr [zm 95 7,zm 96 18,zn 97 (.call zaX [(.t 95),(.t 96)])] [0,7,9,10,11,17,78,79,80,84,85,86]) (.skip)))))
 (zr [zn 98 (.bin .add (.t 86) (zi 1)),zm 86 98] [0,7,9,10,11,17,78,79,80,84,85,86])))
def zng:IR:=.loop zjd
theorem zo7:zE zng zjd:=zal
def zjh:IR:=.seq (zr [zn 81 (.bin .lss (.t 80) (.t 79))] [0,7,9,10,11,78,79,80,81])
 (.seq (.cond (.t 81) (.skip) (.ext 6))
 (.seq (.blk 7 (.seq (zr [zn 82 (.iad 1 (.t 78) (.t 80)),zl 83 1 82,zm 17 83] [0,7,9,10,11,17,78,79,80])
 (.seq (zr [zm 84 0,zn 85 (.len (.t 84)),zn 86 (.mov (zi 0))] [0,7,9,10,11,17,78,79,80,84,85,86])
 (.blk 8 (zng)))))
 (zr [zn 99 (.bin .add (.t 80) (zi 1)),zm 80 99] [0,7,9,10,11,78,79,80])))
def zhD:IR:=.loop zjh
theorem zpk:zE zhD zjh:=zal
def zgU:IR:=.seq (.seq (zr [zm 45 13] [0,7,9,10,11,12,45])
 (.cond (.t 45) (.skip) (.ext 2)))
 (.seq (.blk 3 (.seq (zr [zm 52 0,zm 53 12,zn 54 (.iad 6 (.t 52) (.t 53)),zL 55 6 54,zm 56 9,zn 57 (.call zem [(.t 55),(.t 56)]),zm 51 57,zn 58 (.ext (.t 51) 0),zn 59 (.ext (.t 51) 1),zm 9 58] [0,7,9,10,11])
 (.seq (zr [zm 60 11,zn 61 (.bin .add (.t 60) (zi 1)),zm 11 61] [0,7,9,10,11])
 (.seq (zr [zm 62 10,zn 63 (.call zbt [(.t 62)])] [0,7,9,10,11])
 (.seq (.seq (zr [zm 64 9,zn 65 (.len (.t 64)),zn 66 (.mov (zi 0))] [0,7,9,10,11,64,65,66])
 (.blk 4 (zm2)))
 (.seq (zr [zm 77 10,zn 78 (.call zav [(.t 77)]),zn 79 (.len (.t 78)),zn 80 (.mov (zi 0))] [0,7,9,10,11,78,79,80])
 (.blk 6 (zhD))))))))
 (zr [zm 47 7,zn 48 (.call za7 [(.t 47)]),zm 46 48,zn 49 (.ext (.t 46) 0),zn 50 (.ext (.t 46) 1),zm 12 49,zm 13 50] [0,7,9,10,11,12,13]))
def zd5:IR:=.loop zgU
theorem zpm:zE zd5 zgU:=zal
def zpL:IR:=.seq (zr [zn 4 (.mov (.c (.nsl 2))),zn 5 (.mov (zi 0)),zn 6 (.mov (zi 0))] [0,1])
 (.seq (.seq (zr [zm 20 0,zm 21 1,zn 22 (.call zi5 [(.t 20),(.t 21)]),zn 23 (.un .not (.t 22))] [0,1,23])
 (.cond (.t 23) (.seq (zr [zn 4 (.mov (.c (.nsl 2))),zn 5 (.mov (zi 0)),zn 6 (.mov (zi 1))] [4,5,6])
 (.ret)) (.skip)))
 (.seq (zr [zn 24 (.op .mkm []),zn 25 (.bld [.nsl 1,.nmp] [(1,1,(.t 24))]),zn 26 (.box (.t 25)),zm 7 26] [0,1,7])
 (.seq (.seq (zr [zm 27 0,zn 28 (.len (.t 27)),zn 29 (.mov (zi 0))] [0,1,7,28,29])
 (.blk 0 (znv)))
 (.seq (zr [zm 36 1,zn 37 (.call zhx [(.t 36)]),zm 9 37] [0,7,9])
 (.seq (zr [zm 38 9,zn 39 (.call zmn [(.t 38)]),zm 10 39] [0,7,9,10])
 (.seq (zr [zn 11 (.mov (zi 0))] [0,7,9,10,11])
 (.seq (.seq (zr [zm 41 7,zn 42 (.call za7 [(.t 41)]),zm 40 42,zn 43 (.ext (.t 40) 0),zn 44 (.ext (.t 40) 1),zm 12 43,zm 13 44] [0,7,9,10,11,12,13])
 (.blk 2 (zd5)))
 (.seq (zr [zm 100 9,zm 101 11,zm 4 100,zm 5 101,zn 6 (.mov (zi 0))] [4,5,6])
 (.ret)))))))))
def zlC:F:=⟨zpL,[(4,none),(5,none),(6,none)],false⟩
def zfP:IR:=.seq (zr [zn 27 (.bin .lss (.t 26) (.t 25))] [0,2,8,9,24,25,26,27])
 (.seq (.cond (.t 27) (.skip) (.ext 2))
 (.seq (.blk 3 (.seq (zr [zn 28 (.iad 1 (.t 24) (.t 26)),zl 29 1 28,zm 11 29] [0,2,8,9,11,24,25,26])
 (.seq (zr [zm 31 0,zm 32 11,zm 33 0,zn 34 (.len (.t 33)),zn 35 (.bin .rem (.t 32) (.t 34)),zm 36 0,zn 37 (.len (.t 36)),zn 38 (.bin .add (.t 35) (.t 37)),zm 39 0,zn 40 (.len (.t 39)),zn 41 (.bin .rem (.t 38) (.t 40)),zn 42 (.iad 6 (.t 31) (.t 41)),zL 43 6 42,zm 44 8,zn 45 (.call zem [(.t 43),(.t 44)]),zm 30 45,zn 46 (.ext (.t 30) 0),zn 47 (.ext (.t 30) 1),zm 12 46,zm 13 47] [0,2,8,9,12,24,25,26])
 (.seq (zr [zm 48 9,zm 49 48,zF 50 49 12,zF 51 49 8,zf 52 49 (.call zao [(.t 50),(.t 51),(.c (.fn (.func zgX) [] []))]),zf 53 49 (.un .not (.t 52)),zq 54 49 53,zm 9 54] [0,2,9,12,24,25,26])
 (zr [zm 55 12,zm 8 55] [0,2,8,9,24,25,26])))))
 (zr [zn 56 (.bin .add (.t 26) (zi 1)),zm 26 56] [0,2,8,9,24,25,26])))
def zho:IR:=.loop zfP
theorem zpC:zE zho zfP:=zal
def zeq:IR:=.seq (.seq (zr [zm 23 9] [0,2,8,23])
 (.cond (.t 23) (.skip) (.ext 0)))
 (.blk 1 (.seq (zr [zn 9 (.mov (zb false))] [0,2,8,9])
 (.seq (zr [zm 24 2,zn 25 (.len (.t 24)),zn 26 (.mov (zi 0))] [0,2,8,9,24,25,26])
 (.blk 2 (zho)))))
def zbv:IR:=.loop zeq
theorem zge:zE zbv zeq:=zal
def zjr:IR:=.seq (zr [zn 6 (.mov (.c (.nsl 2))),zn 7 (.mov (zi 0))] [0,1,2])
 (.seq (.seq (zr [zm 14 0,zm 15 1,zn 16 (.call zi5 [(.t 14),(.t 15)]),zn 17 (.un .not (.t 16))] [0,1,2,17])
 (.cond (.t 17) (.seq (zr [zn 6 (.mov (.c (.nsl 2))),zn 7 (.mov (zi 1))] [6,7])
 (.ret)) (.skip)))
 (.seq (zr [zm 18 1,zn 19 (.call zhx [(.t 18)]),zm 8 19] [0,2,8])
 (.seq (.seq (zr [zm 20 0,zn 21 (.len (.t 20)),zn 22 (.bin .gtr (.t 21) (zi 0)),zm 9 22] [0,2,8,9])
 (.blk 0 (zbv)))
 (.seq (zr [zm 58 0,zm 59 8,zn 60 (.call zeD [(.t 58),(.t 59)]),zm 57 60,zn 61 (.ext (.t 57) 0),zn 62 (.ext (.t 57) 1),zn 63 (.ext (.t 57) 2),zm 8 61] [8])
 (.seq (zr [zm 64 8,zm 6 64,zn 7 (.mov (zi 0))] [6,7])
 (.ret))))))
def zfl:F:=⟨zjr,[(6,none),(7,none)],false⟩
def zd8:IR:=.seq (.seq (zr [zm 10 5,zm 11 1,zn 12 (.len (.t 11)),zn 13 (.bin .lss (.t 10) (.t 12))] [0,1,5,13])
 (.cond (.t 13) (.skip) (.ext 0)))
 (.seq (.blk 1 (.seq (zr [zm 16 1,zm 17 5,zn 18 (.iad 2 (.t 16) (.t 17)),zL 19 2 18,zn 20 (.call zfo [(.t 19)]),zn 21 (.un .not (.t 20))] [0,1,5,21])
 (.cond (.t 21) (.seq (zr [zn 4 (.mov (zb false))] [4])
 (.ret)) (.skip))))
 (zr [zm 14 5,zn 15 (.bin .add (.t 14) (zi 1)),zm 5 15] [0,1,5]))
def zh8:IR:=.loop zd8
theorem zjI:zE zh8 zd8:=zal
def zdS:IR:=.seq (.seq (zr [zm 22 6,zm 23 0,zn 24 (.len (.t 23)),zn 25 (.bin .lss (.t 22) (.t 24))] [0,1,6,25])
 (.cond (.t 25) (.skip) (.ext 2)))
 (.seq (.blk 3 (.seq (zr [zm 28 0,zm 29 6,zn 30 (.iad 6 (.t 28) (.t 29)),zL 31 6 30,zm 32 1,zn 33 (.len (.t 32)),zn 34 (.call zf8 [(.t 31),(.t 33)]),zn 35 (.un .not (.t 34))] [0,1,6,35])
 (.cond (.t 35) (.seq (zr [zn 4 (.mov (zb false))] [4])
 (.ret)) (.skip))))
 (zr [zm 26 6,zn 27 (.bin .add (.t 26) (zi 1)),zm 6 27] [0,1,6]))
def zh5:IR:=.loop zdS
theorem zjk:zE zh5 zdS:=zal
def zf3:IR:=.seq (zr [zn 4 (.mov (zb false))] [0,1])
 (.seq (.seq (zr [zm 7 1,zn 8 (.len (.t 7)),zn 9 (.bin .gtr (.t 8) (zi 16))] [0,1,9])
 (.cond (.t 9) (.seq (zr [zn 4 (.mov (zb false))] [4])
 (.ret)) (.skip)))
 (.seq (.seq (zr [zn 5 (.mov (zi 0))] [0,1,5])
 (.blk 0 (zh8)))
 (.seq (.seq (zr [zn 6 (.mov (zi 0))] [0,1,6])
 (.blk 2 (zh5)))
 (.seq (zr [zn 4 (.mov (zb true))] [4])
 (.ret)))))
def zel:F:=⟨zf3,[(4,none)],false⟩
def ziN:IR:=.seq (zr [zn 10 (.bin .lss (.t 9) (.t 8))] [3,7,8,9,10])
 (.seq (.cond (.t 10) (.skip) (.ext 0))
 (.seq (.blk 1 (.seq (zr [zn 11 (.iad 2 (.t 7) (.t 9)),zL 12 2 11,zn 5 (.new (.agg [.nsl 1,.int .u64 0])),⟨none,none,.st 2 (.t 5) (.t 12)⟩] [3,5,7,8,9])
 (zr [zm 13 3,zL 14 2 5,zn 15 (.bsf (.agg [.nsl 1,.int .u64 0]) 1 [(0,(.t 14))]),zn 16 (.app 2 32 (.t 13) (.t 15)),zm 3 16] [3,7,8,9])))
 (zr [zn 17 (.bin .add (.t 9) (zi 1)),zm 9 17] [3,7,8,9])))
def zlo:IR:=.loop ziN
theorem zpB:zE zlo ziN:=zal
def zr0:IR:=.seq (zr [zn 2 (.mov (.c (.nsl 2)))] [0])
 (.seq (zr [zn 6 (.bsl (.agg [.nsl 1,.int .u64 0]) 0 []),zm 3 6] [0,3])
 (.seq (.seq (zr [zm 7 0,zn 8 (.len (.t 7)),zn 9 (.mov (zi 0))] [3,7,8,9])
 (.blk 0 (zlo)))
 (.seq (zr [zm 18 3,zm 2 18] [2])
 (.ret))))
def zo6:F:=⟨zr0,[(2,none)],false⟩
def ze3:IR:=.seq (.seq (zr [zm 11 5,zm 12 0,zn 13 (.len (.t 12)),zn 14 (.bin .lss (.t 11) (.t 13))] [0,1,5,14])
 (.cond (.t 14) (.skip) (.ext 0)))
 (.seq (.blk 1 (.seq (.dq [(zm 17 0,[]),(zm 18 5,[]),(zn 19 (.iad 2 (.t 17) (.t 18)),[0,1]),(zL 20 2 19,[0,1,2]),(zm 21 1,[]),(zm 22 5,[]),(zn 23 (.iad 2 (.t 21) (.t 22)),[4,5]),(zL 24 2 23,[4,5,6]),(zn 25 (.call zkw [(.t 20),(.t 24)]),[0,1,2,3,4,5,6,7]),(zn 26 (.un .not (.t 25)),[0,1,2,3,4,5,6,7,8])] (some [0,1,5,26]))
 (.cond (.t 26) (.seq (zr [zn 4 (.mov (zb false))] [4])
 (.ret)) (.skip))))
 (zr [zm 15 5,zn 16 (.bin .add (.t 15) (zi 1)),zm 5 16] [0,1,5]))
def zj1:IR:=.loop ze3
theorem zk4:zE zj1 ze3:=zal
def zks:IR:=.seq (zr [zn 4 (.mov (zb false))] [0,1])
 (.seq (.seq (zr [zm 6 0,zn 7 (.len (.t 6)),zm 8 1,zn 9 (.len (.t 8)),zn 10 (.bin .neq (.t 7) (.t 9))] [0,1,10])
 (.cond (.t 10) (.seq (zr [zn 4 (.mov (zb false))] [4])
 (.ret)) (.skip)))
 (.seq (.seq (zr [zn 5 (.mov (zi 0))] [0,1,5])
 (.blk 0 (zj1)))
 (.seq (zr [zn 4 (.mov (zb true))] [4])
 (.ret))))
def zhK:F:=⟨zks,[(4,none)],false⟩
def zha:IR:=.seq (.seq (zr [zm 13 7,zn 14 (.bin .geq (.t 13) (zi 0))] [0,1,6,7,14])
 (.cond (.t 14) (.skip) (.ext 2)))
 (.seq (.blk 3 (zr [zm 18 0,zm 19 7,zn 20 (.iad 6 (.t 18) (.t 19)),zL 21 6 20,zm 22 1,zn 23 (.call zkN [(.t 21),(.t 22)]),zm 17 23,zn 24 (.ext (.t 17) 0),zn 25 (.ext (.t 17) 1),zm 1 24] [0,1,6,7]))
 (zr [zm 15 7,zn 16 (.bin .sub (.t 15) (zi 1)),zm 7 16] [0,1,6,7]))
def zjq:IR:=.loop zha
theorem zoI:zE zjq zha:=zal
def zcv:IR:=.seq (.seq (zr [zm 8 5] [0,1,8])
 (.cond (.t 8) (.skip) (.ext 0)))
 (.blk 1 (.seq (zr [zm 9 1,zm 6 9] [0,1,6])
 (.seq (.seq (zr [zm 10 0,zn 11 (.len (.t 10)),zn 12 (.bin .sub (.t 11) (zi 1)),zm 7 12] [0,1,6,7])
 (.blk 2 (zjq)))
 (zr [zm 26 6,zm 27 1,zn 28 (.call zed [(.t 26),(.t 27)]),zn 29 (.un .not (.t 28)),zm 5 29] [0,1,5]))))
def zjz:IR:=.loop zcv
theorem zeE:zE zjz zcv:=zal
def zq8:IR:=.seq (zr [zn 4 (.mov (.c (.nsl 2)))] [0,1])
 (.seq (.seq (zr [zn 5 (.mov (zb true))] [0,1,5])
 (.blk 0 (zjz)))
 (.seq (zr [zm 30 1,zm 4 30] [4])
 (.ret)))
def znH:F:=⟨zq8,[(4,none)],false⟩
def zfD:IR:=.seq (zr [zn 2 (.box (.t 0)),zn 4 (.mov (.c (.nsl 2))),zn 5 (.mov (zi 0))] [1,2])
 (.seq (.seq (zr [zn 6 (.fad 0 (.t 2)),zl 7 1 6] [1,2,7])
 (.blk 0 (.seq (.seq (zr [zn 9 (.bin .eql (.t 7) (zi 1)),zm 8 9] [1,2,7,8])
 (.cond (.t 8) (.skip) (zr [zn 10 (.bin .eql (.t 7) (zi 3)),zm 8 10] [1,2,7,8])))
 (.cond (.t 8) (.seq (zr [zL 11 6 2,zm 12 1,zn 13 (.call zf6 [(.t 11),(.t 12)]),zn 14 (.ext (.t 13) 0),zn 15 (.ext (.t 13) 1),zm 4 14,zm 5 15] [4,5])
 (.ret)) (.seq (zr [zn 17 (.bin .eql (.t 7) (zi 2)),zm 16 17] [1,2,7,16])
 (.cond (.t 16) (.seq (zr [zL 18 6 2,zm 19 1,zn 20 (.call zeT [(.t 18),(.t 19)]),zn 21 (.ext (.t 20) 0),zn 22 (.ext (.t 20) 1),zm 4 21,zm 5 22] [4,5])
 (.ret)) (.seq (zr [zn 24 (.bin .eql (.t 7) (zi 4)),zm 23 24] [1,2,7,23])
 (.cond (.t 23) (.seq (zr [zL 25 6 2,zm 26 1,zn 27 (.call zeF [(.t 25),(.t 26)]),zn 28 (.ext (.t 27) 0),zn 29 (.ext (.t 27) 1),zm 4 28,zm 5 29] [4,5])
 (.ret)) (.seq (zr [zn 31 (.bin .eql (.t 7) (zi 5)),zm 30 31] [1,2,7,30])
 (.cond (.t 30) (.seq (zr [zL 32 6 2,zm 33 1,zn 34 (.call zgd [(.t 32),(.t 33)]),zn 35 (.ext (.t 34) 0),zn 36 (.ext (.t 34) 1),zm 4 35,zm 5 36] [4,5])
 (.ret)) (.seq (zr [zn 38 (.bin .eql (.t 7) (zi 6)),zm 37 38] [1,2,37])
 (.cond (.t 37) (.seq (zr [zL 39 6 2,zm 40 1,zn 41 (.call zhN [(.t 39),(.t 40)]),zn 42 (.ext (.t 41) 0),zn 43 (.ext (.t 41) 1),zm 4 42,zm 5 43] [4,5])
 (.ret)) (.skip)))))))))))))
 (.seq (zr [zn 4 (.mov (.c (.nsl 2))),zn 5 (.mov (zi 1))] [4,5])
 (.ret)))
def zdy:F:=⟨zfD,[(4,none),(5,none)],false⟩
def ztS:IR:=.seq (zr [zn 1 (.box (.t 0)),zn 2 (.mov (zi 0))] [1])
 (.seq (zr [zL 3 2 1,zn 4 (.call zfX [(.t 3),(.c (.fn (.func zhz) [] []))]),zm 2 4] [2])
 (.ret))
def zqr:F:=⟨ztS,[(2,none)],false⟩
def zm1:IR:=.seq (zr [zn 4 (.new (.agg [.int .i64 0,.nsl 1,.nsl 1,.int .i64 0,.int .i64 0,.nsl 1]))] [0,1,4])
 (.seq (zr [zm 5 0,zm 6 1,zn 7 (.bsl (.int .i64 0) 2 [(0,(.t 5)),(1,(.t 6))]),zn 8 (.bsl (.int .i64 0) 2 [(0,(zi 1)),(1,(zi (-1)))]),zn 9 (.bld [.int .i64 0,.nsl 1,.nsl 1,.int .i64 0,.int .i64 0,.nsl 1] [(0,1,(zi 1)),(1,1,(.t 7)),(2,1,(.t 8)),(3,1,(zi 2))]),⟨none,none,.st 6 (.t 4) (.t 9)⟩] [4])
 (.ret))
def zjE:F:=⟨zm1,[(4,some (true,6))],false⟩
def zrX:IR:=.seq (zr [zn 2 (.mov (zb false))] [0])
 (.seq (zr [zm 3 0,zn 4 (.call zaf [(.t 3),(.c (.fn (.func zfZ) [] []))]),zm 2 4] [2])
 (.ret))
def zo9:F:=⟨zrX,[(2,none)],false⟩
def zb4:IR:=.seq (zr [zn 18 (.bin .lss (.t 17) (.t 16))] [15,16,17,18])
 (.seq (.cond (.t 18) (.skip) (.ext 0))
 (.seq (.blk 1 (.seq (zr [zn 19 (.iad 6 (.t 15) (.t 17)),zL 20 6 19,zn 6 (.new (.agg [.int .i64 0,.nsl 1,.nsl 1,.int .i64 0,.int .i64 0,.nsl 1])),⟨none,none,.st 6 (.t 6) (.t 20)⟩] [6,15,16,17])
 (.seq (zr [zn 21 (.fad 1 (.t 6)),zl 22 1 21,zn 23 (.len (.t 22)),zn 24 (.bin .gtr (.t 23) (zi 150)),zm 25 24,zf 26 25 (.fad 2 (.t 6)),zf 27 25 (.ld false 1 (.t 26)),zf 28 25 (.len (.t 27)),zf 29 25 (.bin .gtr (.t 28) (zi 150)),zq 30 25 29,zm 31 30,zf 32 31 (.fad 5 (.t 6)),zf 33 31 (.ld false 1 (.t 32)),zf 34 31 (.len (.t 33)),zf 35 31 (.bin .gtr (.t 34) (zi 150)),zq 36 31 35] [15,16,17,36])
 (.cond (.t 36) (.seq (zr [zn 4 (.mov (zb true))] [4])
 (.ret)) (.skip)))))
 (zr [zn 37 (.bin .add (.t 17) (zi 1)),zm 17 37] [15,16,17])))
def ziq:IR:=.loop zb4
theorem znj:zE ziq zb4:=zal
def zfG:IR:=.seq (zr [zn 4 (.mov (zb false))] [0,1])
 (.seq (.seq (zr [zm 7 0,zn 8 (.len (.t 7)),zn 9 (.bin .gtr (.t 8) (zi 40)),zm 10 9,zF 11 10 1,zf 12 10 (.len (.t 11)),zf 13 10 (.bin .gtr (.t 12) (zi 40)),zq 14 10 13] [0,14])
 (.cond (.t 14) (.seq (zr [zn 4 (.mov (zb true))] [4])
 (.ret)) (.skip)))
 (.seq (.seq (zr [zm 15 0,zn 16 (.len (.t 15)),zn 17 (.mov (zi 0))] [15,16,17])
 (.blk 0 (ziq)))
 (.seq (zr [zn 4 (.mov (zb false))] [4])
 (.ret))))
def zej:F:=⟨zfG,[(4,none)],false⟩
def zdW:IR:=.seq (zr [zn 31 (.bin .lss (.t 30) (.t 29))] [28,29,30,31])
 (.seq (.cond (.t 31) (.skip) (.ext 0))
 (.seq (.blk 1 (.seq (zr [zn 32 (.iad 2 (.t 28) (.t 30)),zL 33 2 32,zn 6 (.new (.agg [.nsl 1,.int .u64 0])),⟨none,none,.st 2 (.t 6) (.t 33)⟩] [6,28,29,30])
 (.seq (zr [zn 34 (.fad 0 (.t 6)),zl 35 1 34,zn 36 (.len (.t 35)),zn 37 (.bin .gtr (.t 36) (zi 150))] [28,29,30,37])
 (.cond (.t 37) (.seq (zr [zn 4 (.mov (zb true))] [4])
 (.ret)) (.skip)))))
 (zr [zn 38 (.bin .add (.t 30) (zi 1)),zm 30 38] [28,29,30])))
def zig:IR:=.loop zdW
theorem zjC:zE zig zdW:=zal
def ziS:IR:=.seq (zr [zn 2 (.box (.t 0)),zn 4 (.mov (zb false))] [1,2])
 (.seq (.seq (zr [zm 7 1,zn 8 (.len (.t 7)),zn 9 (.bin .gtr (.t 8) (zi 20)),zm 10 9,zf 11 10 (.fad 1 (.t 2)),zf 12 10 (.ld false 1 (.t 11)),zf 13 10 (.len (.t 12)),zf 14 10 (.bin .gtr (.t 13) (zi 150)),zq 15 10 14,zm 16 15,zf 17 16 (.fad 2 (.t 2)),zf 18 16 (.ld false 1 (.t 17)),zf 19 16 (.len (.t 18)),zf 20 16 (.bin .gtr (.t 19) (zi 150)),zq 21 16 20,zm 22 21,zf 23 22 (.fad 5 (.t 2)),zf 24 22 (.ld false 1 (.t 23)),zf 25 22 (.len (.t 24)),zf 26 22 (.bin .gtr (.t 25) (zi 150)),zq 27 22 26] [1,27])
 (.cond (.t 27) (.seq (zr [zn 4 (.mov (zb true))] [4])
 (.ret)) (.skip)))
 (.seq (.seq (zr [zm 28 1,zn 29 (.len (.t 28)),zn 30 (.mov (zi 0))] [28,29,30])
 (.blk 0 (zig)))
 (.seq (zr [zn 4 (.mov (zb false))] [4])
 (.ret))))
def zgi:F:=⟨ziS,[(4,none)],false⟩
def zlQ:IR:=.seq (zr [zn 3 (.box (.t 1)),zn 4 (.mov (zb false))] [0,3])
 (.seq (zr [zl 5 1 3,zn 6 (.len (.t 5)),zn 7 (.bin .leq (.t 6) (zi 16)),zm 8 7,zM 9 8 0,zg 10 8 (.mkf (.func zep) [] [(.t 3)]),zg 11 8 (.call zay [(.t 9),(.t 10)]),zg 12 8 (.un .not (.t 11)),zp 13 8 12,zm 14 13,zg 15 14 (.ld false 1 (.t 3)),zg 16 14 (.call zaf [(.t 15),(.c (.fn (.func zgf) [] []))]),zg 17 14 (.un .not (.t 16)),zp 18 14 17,zm 4 18] [4])
 (.ret))
def zjK:F:=⟨zlQ,[(4,none)],false⟩
def zcI:IR:=.seq (zr [zm 4 0,zn 5 (.nck (.t 4)),zn 6 (.fad 1 (.t 5)),zl 7 1 6,zm 8 1,zn 9 (.op (.lku (some .i64) (.int .i64 0) false) [(.t 7),(.t 8)]),zn 10 (.bin .eql (.t 9) (zi 0))] [0,1,10])
 (.cond (.t 10) (.seq (zr [zm 11 0,zm 12 0,zn 13 (.nck (.t 12)),zn 14 (.fad 0 (.t 13)),zl 15 1 14,zm 16 1,zn 17 (.bsf (.int .i64 0) 1 [(0,(.t 16))]),zn 18 (.app 1 8 (.t 15) (.t 17)),zn 19 (.nck (.t 11)),zn 20 (.fad 0 (.t 19)),⟨none,none,.st 1 (.t 20) (.t 18)⟩] [0,1])
 (zr [zm 21 0,zn 22 (.nck (.t 21)),zn 23 (.fad 1 (.t 22)),zl 24 1 23,zm 25 1,⟨none,none,.op (.mpu (some .i64)) [(.t 24),(.t 25),(zi 1)]⟩] [])) (.skip))
def zbK:F:=⟨zcI,[],true⟩
def zg2:IR:=.seq (zr [zn 9 (.bin .lss (.t 8) (.t 7))] [3,6,7,8,9])
 (.seq (.cond (.t 9) (.skip) (.ext 0))
 (.seq (.blk 1 (.seq (zr [zn 10 (.iad 2 (.t 6) (.t 8)),zL 11 2 10,zn 5 (.new (.agg [.nsl 1,.int .u64 0])),⟨none,none,.st 2 (.t 5) (.t 11)⟩] [3,5,6,7,8])
 (.dq [(zm 12 3,[]),(zn 13 (.fad 0 (.t 5)),[]),(zl 14 1 13,[1]),(zn 15 (.call zas [(.t 14)]),[1,2]),(zn 16 (.fad 1 (.t 5)),[]),(zl 17 1 16,[4]),(zn 18 (.bld [.nsl 1,.int .u64 0] [(0,1,(.t 15)),(1,1,(.t 17))]),[1,2,3,4,5]),(zn 19 (.bsf (.agg [.nsl 1,.int .u64 0]) 1 [(0,(.t 18))]),[1,2,3,4,5,6]),(zn 20 (.app 2 32 (.t 12) (.t 19)),[0,1,2,3,4,5,6,7]),(zm 3 20,[0,1,2,3,4,5,6,7,8])] (some [3,6,7,8]))))
 (zr [zn 21 (.bin .add (.t 8) (zi 1)),zm 8 21] [3,6,7,8])))
def zjo:IR:=.loop zg2
theorem zoK:zE zjo zg2:=zal
def zq0:IR:=.seq (zr [zn 2 (.mov (.c (.nsl 2)))] [0])
 (.seq (zr [zn 3 (.mov (.c (.nsl 2)))] [0,3])
 (.seq (.seq (zr [zm 6 0,zn 7 (.len (.t 6)),zn 8 (.mov (zi 0))] [3,6,7,8])
 (.blk 0 (zjo)))
 (.seq (zr [zm 22 3,zm 2 22] [2])
 (.ret))))
def znG:F:=⟨zq0,[(2,none)],false⟩
def ziM:IR:=.seq (zr [zn 16 (.bin .lss (.t 15) (.t 14))] [3,13,14,15,16])
 (.seq (.cond (.t 16) (.skip) (.ext 0))
 (.seq (.blk 1 (.seq (zr [zm 17 15,zn 18 (.iad 2 (.t 13) (.t 15)),zL 19 2 18,zn 6 (.new (.agg [.nsl 1,.int .u64 0])),zm 5 17,⟨none,none,.st 2 (.t 6) (.t 19)⟩] [3,5,6,13,14,15])
 (zr [zm 20 3,zm 21 5,zn 22 (.fad 1 (.t 6)),zl 23 1 22,zn 24 (.call zbc [(.t 20),(.t 21),(.t 23)])] [3,13,14,15])))
 (zr [zn 25 (.bin .add (.t 15) (zi 1)),zm 15 25] [3,13,14,15])))
def zkY:IR:=.loop ziM
theorem zpx:zE zkY ziM:=zal
def zsy:IR:=.seq (zr [zn 2 (.mov (.c (.nilp)))] [0])
 (.seq (zr [zm 8 0,zn 9 (.len (.t 8)),zn 10 (.call zdL [(.t 9)]),zm 7 10,zn 11 (.ext (.t 7) 0),zn 12 (.ext (.t 7) 1),zm 3 11,zm 4 12] [0,3])
 (.seq (.seq (zr [zm 13 0,zn 14 (.len (.t 13)),zn 15 (.mov (zi 0))] [3,13,14,15])
 (.blk 0 (zkY)))
 (.seq (zr [zm 26 3,zm 2 26] [2])
 (.ret))))
def zo2:F:=⟨zsy,[(2,none)],true⟩
def zdb:IR:=.seq (zr [zn 2 (.mov (zi 0)),zn 3 (.mov (zb false))] [0])
 (.seq (zr [zn 4 (.mov (zi 0))] [0,4])
 (.seq (.seq (zr [zm 5 0,zn 6 (.nck (.t 5)),zn 7 (.fad 0 (.t 6)),zl 8 1 7,zn 9 (.len (.t 8)),zn 10 (.bin .eql (.t 9) (zi 0))] [0,4,10])
 (.cond (.t 10) (.seq (zr [zm 11 4,zm 2 11,zn 3 (.mov (zb false))] [2,3])
 (.ret)) (.skip)))
 (.seq (zr [zm 12 0,zn 13 (.nck (.t 12)),zn 14 (.fad 0 (.t 13)),zl 15 1 14,zn 16 (.iad 1 (.t 15) (zi 0)),zl 17 1 16,zm 4 17] [0,4])
 (.seq (zr [zm 18 0,zm 19 0,zn 20 (.nck (.t 19)),zn 21 (.fad 0 (.t 20)),zl 22 1 21,zn 23 (.sll 1 (.t 22) (some (zi 1)) none none),zn 24 (.nck (.t 18)),zn 25 (.fad 0 (.t 24)),⟨none,none,.st 1 (.t 25) (.t 23)⟩] [0,4])
 (.seq (zr [zm 26 0,zn 27 (.nck (.t 26)),zn 28 (.fad 1 (.t 27)),zl 29 1 28,zm 30 4,⟨none,none,.op (.mdl (some .i64)) [(.t 29),(.t 30)]⟩] [4])
 (.seq (zr [zm 31 4,zm 2 31,zn 3 (.mov (zb true))] [2,3])
 (.ret)))))))
def zb3:F:=⟨zdb,[(2,none),(3,none)],true⟩
def zeZ:IR:=.seq (zr [zn 2 (.mov (zi 0))] [0])
 (.seq (zr [zm 3 0,zm 4 0,zn 5 (.nck (.t 4)),zn 6 (.fad 2 (.t 5)),zl 7 1 6,zn 8 (.op .mkm []),zn 9 (.bsl (.nmp) 1 [(0,(.t 8))]),zn 10 (.app 1 8 (.t 7) (.t 9)),zn 11 (.nck (.t 3)),zn 12 (.fad 2 (.t 11)),⟨none,none,.st 1 (.t 12) (.t 10)⟩] [0])
 (.seq (zr [zm 13 0,zn 14 (.call zbh [(.t 13)]),zm 2 14] [2])
 (.ret)))
def zcz:F:=⟨zeZ,[(2,none)],true⟩
def zcJ:IR:=.seq (zr [zn 6 (.mov (zi 0))] [0,1,2])
 (.seq (.seq (zr [zm 10 0,zm 11 1,zn 12 (.call zbl [(.t 10),(.t 11)]),zn 13 (.un .not (.t 12))] [0,1,2,13])
 (.cond (.t 13) (.seq (zr [zn 6 (.mov (zi 1))] [6])
 (.ret)) (.skip)))
 (.seq (zr [zm 14 0,zn 15 (.call za2 [(.t 14)]),zm 7 15] [0,1,2,7])
 (.seq (.seq (zr [zm 17 7,zm 18 1,zn 19 (.op (.lku (some .i64) (.int .u64 0) true) [(.t 17),(.t 18)]),zm 16 19,zn 20 (.ext (.t 16) 0),zn 21 (.ext (.t 16) 1),zm 8 20,zm 9 21] [0,1,2,7,9])
 (.seq (zr [zm 22 9,zn 23 (.un .not (.t 22))] [0,1,2,7,23])
 (.cond (.t 23) (zr [zm 24 7,zm 25 1,zm 26 0,zn 27 (.nck (.t 26)),zn 28 (.fad 0 (.t 27)),zl 29 1 28,zm 30 1,zn 31 (.iad 1 (.t 29) (.t 30)),zl 32 1 31,⟨none,none,.op (.mpu (some .i64)) [(.t 24),(.t 25),(.t 32)]⟩] [0,1,2]) (.skip))))
 (.seq (zr [zm 33 0,zm 34 1,zm 35 2,zn 36 (.call zbD [(.t 33),(.t 34),(.t 35)])] [])
 (.seq (zr [zn 6 (.mov (zi 0))] [6])
 (.ret))))))
def zbI:F:=⟨zcJ,[(6,none)],true⟩
def zbx:IR:=.seq (zr [zm 14 0,zn 15 (.nck (.t 14)),zn 16 (.fad 0 (.t 15)),zl 17 1 16,zm 18 4,zn 19 (.iad 1 (.t 17) (.t 18)),zl 20 1 19,zm 21 5,zn 22 (.bin .neq (.t 20) (.t 21))] [0,3,4,8,22])
 (.cond (.t 22) (zr [zm 23 3,zm 24 4,zn 25 (.bsf (.int .i64 0) 1 [(0,(.t 24))]),zn 26 (.app 1 8 (.t 23) (.t 25)),zm 3 26] [0,3,8]) (.skip))
def zam:Rm:={ pre:=[zm 6 0,zn 7 (.call za2 [(.t 6)])],m:=(.t 7),it:=8,kA:=some [0,3,8],b0:=0,nx:=9,bl:=[zn 10 (.ext (.t 9) 0)],kB:=some [0,3,8,10],ok:=(.t 10),b1:=1,en:=11,dl:=[zn 12 (.ext (.t 11) 0),zn 13 (.ext (.t 11) 1),zm 4 12,zm 5 13],kD:=some [0,3,4,5,8],body:=zbx }
def ziE:RN:=.seq (.det (zr [zn 2 (.mov (.c (.nsl 1)))] [0]))
 (.seq (.det (zr [zn 3 (.mov (.c (.nsl 1)))] [0,3]))
 (.seq (.rm zam)
 (.det (.seq (zr [zm 27 3,zn 28 (.call zbm [(.t 27)])] [3])
 (.seq (zr [zm 29 3,zm 2 29] [2])
 (.ret))))))
def zaP:FN:=⟨ziE,[(2,none)]⟩
def zj6:IR:=.seq (zr [zn 4 (.mov (zb false))] [0,1])
 (.seq (zr [zm 5 0,zm 6 1,zn 7 (.call zbe [(.t 5),(.t 6)]),zn 8 (.bin .geq (.t 7) (zi 0)),zm 4 8] [4])
 (.ret))
def zew:F:=⟨zj6,[(4,none)],false⟩
def zaN:IR:=.seq (zr [zn 18 (.bin .lss (.t 17) (.t 16))] [1,2,15,16,17,18])
 (.seq (.cond (.t 18) (.skip) (.ext 0))
 (.seq (.blk 1 (.seq (zr [zm 19 17,zn 20 (.iad 2 (.t 15) (.t 17)),zL 21 2 20,zn 8 (.new (.agg [.nsl 1,.int .u64 0])),zm 7 19,⟨none,none,.st 2 (.t 8) (.t 21)⟩] [1,2,7,8,15,16,17])
 (.seq (zr [zm 22 1,zm 23 7,zn 24 (.iad 2 (.t 22) (.t 23)),zL 25 2 24,zn 9 (.new (.agg [.nsl 1,.int .u64 0])),⟨none,none,.st 2 (.t 9) (.t 25)⟩] [1,2,8,9,15,16,17])
 (.seq (zr [zm 26 2,zL 27 2 8,zL 28 2 9,zn 29 (.callv (.t 26) [(.t 27),(.t 28)]),zn 30 (.un .not (.t 29))] [1,2,15,16,17,30])
 (.cond (.t 30) (.seq (zr [zn 6 (.mov (zb false))] [6])
 (.ret)) (.skip))))))
 (zr [zn 31 (.bin .add (.t 17) (zi 1)),zm 17 31] [1,2,15,16,17])))
def zaL:IR:=.loop zaN
theorem zis:zE zaL zaN:=zal
def zbS:IR:=.seq (zr [zn 6 (.mov (zb false))] [0,1,2])
 (.seq (.seq (zr [zm 10 0,zn 11 (.len (.t 10)),zm 12 1,zn 13 (.len (.t 12)),zn 14 (.bin .neq (.t 11) (.t 13))] [0,1,2,14])
 (.cond (.t 14) (.seq (zr [zn 6 (.mov (zb false))] [6])
 (.ret)) (.skip)))
 (.seq (.seq (zr [zm 15 0,zn 16 (.len (.t 15)),zn 17 (.mov (zi 0))] [1,2,15,16,17])
 (.blk 0 (zaL)))
 (.seq (zr [zn 6 (.mov (zb true))] [6])
 (.ret))))
def zaS:F:=⟨zbS,[(6,none)],false⟩
def zn6:IR:=.seq (zr [zn 2 (.box (.t 0)),zn 3 (.box (.t 1)),zn 4 (.mov (zb false))] [2,3])
 (.seq (zr [zn 5 (.fad 1 (.t 2)),zl 6 1 5,zn 7 (.fad 1 (.t 3)),zl 8 1 7,zn 9 (.bin .eql (.t 6) (.t 8)),zm 10 9,zg 11 10 (.fad 0 (.t 2)),zg 12 10 (.ld false 1 (.t 11)),zg 13 10 (.fad 0 (.t 3)),zg 14 10 (.ld false 1 (.t 13)),zg 15 10 (.call zbf [(.t 12),(.t 14)]),zp 16 10 15,zm 4 16] [4])
 (.ret))
def zlB:F:=⟨zn6,[(4,none)],false⟩
def zcp:IR:=.seq (.seq (zr [zm 10 3,zn 11 (.fad 0 (.t 1)),zl 12 1 11,zn 13 (.len (.t 12)),zn 14 (.bin .lss (.t 10) (.t 13))] [1,3,14])
 (.cond (.t 14) (.skip) (.ext 0)))
 (.seq (.blk 1 (.seq (.dq [(zn 17 (.fad 0 (.t 1)),[]),(zl 18 1 17,[0]),(zm 19 3,[]),(zn 20 (.iad 1 (.t 18) (.t 19)),[0,1,2]),(zl 21 1 20,[0,1,2,3]),(zn 22 (.bin .lss (.t 21) (zi (-1048576))),[0,1,2,3,4]),(zm 23 22,[0,1,2,3,4,5]),(zf 24 23 (.fad 0 (.t 1)),[0,1,2,3,4,5,6]),(zf 25 23 (.ld false 1 (.t 24)),[0,1,2,3,4,5,6,7]),(zF 26 23 3,[0,1,2,3,4,5,6]),(zf 27 23 (.iad 1 (.t 25) (.t 26)),[0,1,2,3,4,5,6,7,8,9]),(zf 28 23 (.ld false 1 (.t 27)),[0,1,2,3,4,5,6,7,8,9,10]),(zf 29 23 (.bin .gtr (.t 28) (zi 1048576)),[0,1,2,3,4,5,6,7,8,9,10,11]),(zq 30 23 29,[0,1,2,3,4,5,6,7,8,9,10,11,12]),(zm 31 30,[0,1,2,3,4,5,6,7,8,9,10,11,12,13]),(zF 32 31 3,[0,1,2,3,4,5,6,7,8,9,10,11,12,13,14]),(zf 33 31 (.bin .gtr (.t 32) (zi 0)),[0,1,2,3,4,5,6,7,8,9,10,11,12,13,14,15]),(zF 34 31 33,[0,1,2,3,4,5,6,7,8,9,10,11,12,13,14,15,16]),(zg 35 34 (.fad 0 (.t 1)),[0,1,2,3,4,5,6,7,8,9,10,11,12,13,14,15,16,17]),(zg 36 34 (.ld false 1 (.t 35)),[0,1,2,3,4,5,6,7,8,9,10,11,12,13,14,15,16,17,18]),(zM 37 34 3,[0,1,2,3,4,5,6,7,8,9,10,11,12,13,14,15,16,17]),(zg 38 34 (.bin .sub (.t 37) (zi 1)),[0,1,2,3,4,5,6,7,8,9,10,11,12,13,14,15,16,17,20]),(zg 39 34 (.iad 1 (.t 36) (.t 38)),[0,1,2,3,4,5,6,7,8,9,10,11,12,13,14,15,16,17,18,19,20,21]),(zg 40 34 (.ld false 1 (.t 39)),[0,1,2,3,4,5,6,7,8,9,10,11,12,13,14,15,16,17,18,19,20,21,22]),(zg 41 34 (.fad 0 (.t 1)),[0,1,2,3,4,5,6,7,8,9,10,11,12,13,14,15,16,17]),(zg 42 34 (.ld false 1 (.t 41)),[0,1,2,3,4,5,6,7,8,9,10,11,12,13,14,15,16,17,24]),(zM 43 34 3,[0,1,2,3,4,5,6,7,8,9,10,11,12,13,14,15,16,17]),(zg 44 34 (.iad 1 (.t 42) (.t 43)),[0,1,2,3,4,5,6,7,8,9,10,11,12,13,14,15,16,17,24,25,26]),(zg 45 34 (.ld false 1 (.t 44)),[0,1,2,3,4,5,6,7,8,9,10,11,12,13,14,15,16,17,24,25,26,27]),(zg 46 34 (.bin .geq (.t 40) (.t 45)),[0,1,2,3,4,5,6,7,8,9,10,11,12,13,14,15,16,17,18,19,20,21,22,23,24,25,26,27,28]),(zf 47 31 (.pick (.t 34) (.t 46) (zb false)),[0,1,2,3,4,5,6,7,8,9,10,11,12,13,14,15,16,17,18,19,20,21,22,23,24,25,26,27,28,29]),(zq 48 31 47,[0,1,2,3,4,5,6,7,8,9,10,11,12,13,14,15,16,17,18,19,20,21,22,23,24,25,26,27,28,29,30])] (some [1,3,48]))
 (.cond (.t 48) (.seq (zr [zn 2 (.mov (zb false))] [2])
 (.ret)) (.skip))))
 (zr [zm 15 3,zn 16 (.bin .add (.t 15) (zi 1)),zm 3 16] [1,3]))
def zle:IR:=.loop zcp
theorem zpG:zE zle zcp:=zal
def ziw:IR:=.seq (.seq (zr [zm 49 5,zn 50 (.fad 0 (.t 1)),zl 51 1 50,zn 52 (.len (.t 51)),zn 53 (.bin .lss (.t 49) (.t 52))] [1,4,5,53])
 (.cond (.t 53) (.skip) (.ext 2)))
 (.seq (.blk 3 (zr [zm 56 4,zn 57 (.bin .mul (.c (.int .u64 2)) (.t 56)),zm 4 57] [1,4,5]))
 (zr [zm 54 5,zn 55 (.bin .add (.t 54) (zi 1)),zm 5 55] [1,4,5]))
def zk9:IR:=.loop ziw
theorem zp9:zE zk9 ziw:=zal
def zi1:IR:=.seq (zr [zn 1 (.box (.t 0)),zn 2 (.mov (zb false))] [1])
 (.seq (.seq (zr [zn 6 (.fad 0 (.t 1)),zl 7 1 6,zn 8 (.len (.t 7)),zn 9 (.bin .gtr (.t 8) (zi 64))] [1,9])
 (.cond (.t 9) (.seq (zr [zn 2 (.mov (zb false))] [2])
 (.ret)) (.skip)))
 (.seq (.seq (zr [zn 3 (.mov (zi 0))] [1,3])
 (.blk 0 (zle)))
 (.seq (zr [zn 4 (.mov (.c (.int .u64 1)))] [1,4])
 (.seq (.seq (zr [zn 5 (.mov (zi 0))] [1,4,5])
 (.blk 2 (zk9)))
 (.seq (zr [zn 58 (.fad 0 (.t 1)),zl 59 1 58,zn 60 (.len (.t 59)),zn 61 (.bin .eql (.t 60) (zi 64)),zm 62 61,zf 63 62 (.fad 1 (.t 1)),zf 64 62 (.ld false 1 (.t 63)),zF 65 62 4,zf 66 62 (.bin .lss (.t 64) (.t 65)),zq 67 62 66,zm 2 67] [2])
 (.ret))))))
def zgN:F:=⟨zi1,[(2,none)],false⟩
def zcQ:IR:=.seq (.seq (zr [zm 33 7,zm 34 6,zn 35 (.bin .lss (.t 33) (.t 34))] [1,2,5,6,7,35])
 (.cond (.t 35) (.skip) (.ext 2)))
 (.seq (.blk 3 (.seq (.dq [(zn 38 (.fad 1 (.t 2)),[]),(zl 39 1 38,[0]),(zm 40 7,[]),(zn 41 (.iad 1 (.t 39) (.t 40)),[0,1,2]),(zl 42 1 41,[0,1,2,3]),(zn 43 (.fad 1 (.t 2)),[]),(zl 44 1 43,[5]),(zm 45 6,[]),(zn 46 (.iad 1 (.t 44) (.t 45)),[5,6,7]),(zl 47 1 46,[5,6,7,8]),(zn 48 (.bin .eql (.t 42) (.t 47)),[0,1,2,3,4,5,6,7,8,9])] (some [1,2,5,6,7,48]))
 (.cond (.t 48) (.seq (zr [zn 4 (.mov (zb false))] [4])
 (.ret)) (.skip))))
 (zr [zm 36 7,zn 37 (.bin .add (.t 36) (zi 1)),zm 7 37] [1,2,5,6,7]))
def zhX:IR:=.loop zcQ
theorem zAm:zE zhX zcQ:=zal
def zb7:IR:=.seq (.seq (zr [zm 13 6,zm 14 5,zn 15 (.bin .lss (.t 13) (.t 14))] [1,2,5,6,15])
 (.cond (.t 15) (.skip) (.ext 0)))
 (.seq (.blk 1 (.seq (.seq (zr [zn 18 (.fad 1 (.t 2)),zl 19 1 18,zm 20 6,zn 21 (.iad 1 (.t 19) (.t 20)),zl 22 1 21,zn 23 (.bin .lss (.t 22) (zi 0)),zm 24 23,zf 25 24 (.fad 1 (.t 2)),zf 26 24 (.ld false 1 (.t 25)),zF 27 24 6,zf 28 24 (.iad 1 (.t 26) (.t 27)),zf 29 24 (.ld false 1 (.t 28)),zF 30 24 1,zf 31 24 (.bin .geq (.t 29) (.t 30)),zq 32 24 31] [1,2,5,6,32])
 (.cond (.t 32) (.seq (zr [zn 4 (.mov (zb false))] [4])
 (.ret)) (.skip)))
 (.seq (zr [zn 7 (.mov (zi 0))] [1,2,5,6,7])
 (.blk 2 (zhX)))))
 (zr [zm 16 6,zn 17 (.bin .add (.t 16) (zi 1)),zm 6 17] [1,2,5,6]))
def zih:IR:=.loop zb7
theorem znP:zE zih zb7:=zal
def zcP:IR:=.seq (.seq (zr [zm 61 9,zn 62 (.fad 2 (.t 2)),zl 63 1 62,zn 64 (.len (.t 63)),zn 65 (.bin .lss (.t 61) (.t 64))] [2,5,8,9,65])
 (.cond (.t 65) (.skip) (.ext 4)))
 (.seq (.blk 5 (.seq (zr [zn 68 (.fad 2 (.t 2)),zl 69 1 68,zm 70 9,zn 71 (.iad 1 (.t 69) (.t 70)),zl 72 1 71,zn 73 (.bin .eql (.t 72) (zi 0))] [2,5,8,9,73])
 (.cond (.t 73) (.seq (zr [zn 4 (.mov (zb false))] [4])
 (.ret)) (.skip))))
 (zr [zm 66 9,zn 67 (.bin .add (.t 66) (zi 1)),zm 9 67] [2,5,8,9]))
def zio:IR:=.loop zcP
theorem zA5:zE zio zcP:=zal
def zae:IR:=.seq (zr [zn 2 (.box (.t 0)),zn 4 (.mov (zb false))] [1,2])
 (.seq (zr [zn 10 (.fad 1 (.t 2)),zl 11 1 10,zn 12 (.len (.t 11)),zm 5 12] [1,2,5])
 (.seq (.seq (zr [zn 6 (.mov (zi 0))] [1,2,5,6])
 (.blk 0 (zih)))
 (.seq (.seq (zr [zn 49 (.fad 0 (.t 2)),zl 50 1 49,zn 51 (.bin .eql (.t 50) (zi 1)),zm 52 51,zf 53 52 (.fad 0 (.t 2)),zf 54 52 (.ld false 1 (.t 53)),zf 55 52 (.bin .eql (.t 54) (zi 3)),zq 56 52 55] [2,5,56])
 (.cond (.t 56) (.seq (zr [zn 57 (.fad 0 (.t 2)),zl 58 1 57,zn 59 (.bin .sub (.t 58) (zi 1)),zn 60 (.bin .quo (.t 59) (zi 2)),zm 8 60] [2,5,8])
 (.seq (.seq (zr [zn 9 (.mov (zi 0))] [2,5,8,9])
 (.blk 4 (zio)))
 (.seq (zr [zm 74 5,zm 75 8,zn 76 (.bin .sub (.t 74) (.t 75)),zn 77 (.bin .geq (.t 76) (zi 1)),zm 78 77,zM 79 78 5,zM 80 78 8,zg 81 78 (.bin .sub (.t 79) (.t 80)),zg 82 78 (.bin .leq (.t 81) (zi 8)),zp 83 78 82,zm 84 83,zg 85 84 (.fad 2 (.t 2)),zg 86 84 (.ld false 1 (.t 85)),zg 87 84 (.len (.t 86)),zM 88 84 5,zM 89 84 8,zg 90 84 (.bin .sub (.t 88) (.t 89)),zg 91 84 (.bin .eql (.t 87) (.t 90)),zp 92 84 91,zm 93 92,zg 94 93 (.fad 2 (.t 2)),zg 95 93 (.ld false 1 (.t 94)),zg 96 93 (.call zgV [(.t 95),(zi 1048576)]),zp 97 93 96,zm 98 97,zg 99 98 (.fad 3 (.t 2)),zg 100 98 (.ld false 1 (.t 99)),zg 101 98 (.bin .geq (.t 100) (zi 0)),zp 102 98 101,zm 103 102,zg 104 103 (.fad 3 (.t 2)),zg 105 103 (.ld false 1 (.t 104)),zg 106 103 (.bin .leq (.t 105) (zi 5)),zp 107 103 106,zm 108 107,zg 109 108 (.fad 4 (.t 2)),zg 110 108 (.ld false 1 (.t 109)),zg 111 108 (.bsf (.int .i64 0) 1 [(0,(.t 110))]),zg 112 108 (.call zgV [(.t 111),(zi 1099511627776)]),zp 113 108 112,zm 114 113,zg 115 114 (.fad 5 (.t 2)),zg 116 114 (.ld false 1 (.t 115)),zg 117 114 (.len (.t 116)),zg 118 114 (.bin .eql (.t 117) (zi 0)),zp 119 114 118,zm 4 119] [4])
 (.ret)))) (.skip)))
 (.seq (.seq (zr [zn 120 (.fad 2 (.t 2)),zl 121 1 120,zn 122 (.len (.t 121)),zn 123 (.bin .gtr (.t 122) (zi 0)),zm 124 123,zf 125 124 (.fad 3 (.t 2)),zf 126 124 (.ld false 1 (.t 125)),zf 127 124 (.bin .neq (.t 126) (zi 0)),zq 128 124 127,zm 129 128,zf 130 129 (.fad 4 (.t 2)),zf 131 129 (.ld false 1 (.t 130)),zf 132 129 (.bin .neq (.t 131) (zi 0)),zq 133 129 132,zm 134 133,zf 135 134 (.fad 5 (.t 2)),zf 136 134 (.ld false 1 (.t 135)),zf 137 134 (.call zgV [(.t 136),(zi 1048576)]),zf 138 134 (.un .not (.t 137)),zq 139 134 138,zm 140 139,zf 141 140 (.fad 5 (.t 2)),zf 142 140 (.ld false 1 (.t 141)),zf 143 140 (.len (.t 142)),zf 144 140 (.bin .gtr (.t 143) (zi 96)),zq 145 140 144] [2,5,145])
 (.cond (.t 145) (.seq (zr [zn 4 (.mov (zb false))] [4])
 (.ret)) (.skip)))
 (.seq (.seq (zr [zn 146 (.fad 0 (.t 2)),zl 147 1 146] [2,5,147])
 (.blk 6 (.seq (zr [zn 149 (.bin .eql (.t 147) (zi 2)),zm 148 149] [2,5,147,148])
 (.cond (.t 148) (.seq (zr [zm 150 5,zn 151 (.bin .eql (.t 150) (zi 3)),zm 152 151,zg 153 152 (.fad 5 (.t 2)),zg 154 152 (.ld false 1 (.t 153)),zg 155 152 (.len (.t 154)),zg 156 152 (.bin .eql (.t 155) (zi 0)),zp 157 152 156,zm 4 157] [4])
 (.ret)) (.seq (zr [zn 159 (.bin .eql (.t 147) (zi 4)),zm 158 159] [2,5,147,158])
 (.cond (.t 158) (.seq (zr [zm 160 5,zn 161 (.bin .eql (.t 160) (zi 2)),zm 162 161,zg 163 162 (.fad 5 (.t 2)),zg 164 162 (.ld false 1 (.t 163)),zg 165 162 (.len (.t 164)),zg 166 162 (.bin .geq (.t 165) (zi 1)),zp 167 162 166,zm 4 167] [4])
 (.ret)) (.seq (zr [zn 169 (.bin .eql (.t 147) (zi 5)),zm 168 169] [2,5,147,168])
 (.cond (.t 168) (.seq (zr [zm 170 5,zn 171 (.bin .geq (.t 170) (zi 2)),zm 172 171,zM 173 172 5,zg 174 172 (.bin .leq (.t 173) (zi 8)),zp 175 172 174,zm 176 175,zg 177 176 (.fad 5 (.t 2)),zg 178 176 (.ld false 1 (.t 177)),zg 179 176 (.len (.t 178)),zg 180 176 (.bin .eql (.t 179) (zi 0)),zp 181 176 180,zm 4 181] [4])
 (.ret)) (.seq (zr [zn 183 (.bin .eql (.t 147) (zi 6)),zm 182 183] [2,5,182])
 (.cond (.t 182) (.seq (zr [zm 184 5,zn 185 (.bin .geq (.t 184) (zi 1)),zm 186 185,zM 187 186 5,zg 188 186 (.bin .leq (.t 187) (zi 8)),zp 189 186 188,zm 190 189,zg 191 190 (.fad 5 (.t 2)),zg 192 190 (.ld false 1 (.t 191)),zg 193 190 (.len (.t 192)),zM 194 190 5,zg 195 190 (.bin .rem (.t 193) (.t 194)),zg 196 190 (.bin .eql (.t 195) (zi 0)),zp 197 190 196,zm 4 197] [4])
 (.ret)) (.skip)))))))))))
 (.seq (zr [zn 4 (.mov (zb false))] [4])
 (.ret)))))))
def zad:F:=⟨zae,[(4,none)],false⟩
def zkr:IR:=.seq (zr [zn 2 (.box (.t 0)),zn 3 (.box (.t 1)),zn 4 (.mov (zb false))] [2,3])
 (.seq (zr [zn 5 (.fad 1 (.t 2)),zl 6 1 5,zn 7 (.fad 1 (.t 3)),zl 8 1 7,zn 9 (.bin .eql (.t 6) (.t 8)),zm 10 9,zg 11 10 (.fad 0 (.t 2)),zg 12 10 (.ld false 1 (.t 11)),zg 13 10 (.fad 0 (.t 3)),zg 14 10 (.ld false 1 (.t 13)),zg 15 10 (.call zkO [(.t 12),(.t 14)]),zp 16 10 15,zm 4 16] [4])
 (.ret))
def zhO:F:=⟨zkr,[(4,none)],false⟩
def zdU:IR:=.seq (zr [zn 2 (.box (.t 0)),zn 4 (.mov (.c (.nsl 2))),zn 5 (.mov (zi 0))] [1,2])
 (.seq (.seq (zr [zn 6 (.fad 0 (.t 2)),zl 7 1 6] [1,2,7])
 (.blk 0 (.seq (.seq (zr [zn 9 (.bin .eql (.t 7) (zi 1)),zm 8 9] [1,2,7,8])
 (.cond (.t 8) (.skip) (zr [zn 10 (.bin .eql (.t 7) (zi 3)),zm 8 10] [1,2,7,8])))
 (.cond (.t 8) (.seq (zr [zL 11 6 2,zm 12 1,zn 13 (.call zhG [(.t 11),(.t 12)]),zn 14 (.ext (.t 13) 0),zn 15 (.ext (.t 13) 1),zm 4 14,zm 5 15] [4,5])
 (.ret)) (.seq (zr [zn 17 (.bin .eql (.t 7) (zi 2)),zm 16 17] [1,2,7,16])
 (.cond (.t 16) (.seq (zr [zL 18 6 2,zm 19 1,zn 20 (.call zkP [(.t 18),(.t 19)]),zn 21 (.ext (.t 20) 0),zn 22 (.ext (.t 20) 1),zm 4 21,zm 5 22] [4,5])
 (.ret)) (.seq (zr [zn 24 (.bin .eql (.t 7) (zi 4)),zm 23 24] [1,2,7,23])
 (.cond (.t 23) (.seq (zr [zL 25 6 2,zm 26 1,zn 27 (.call zku [(.t 25),(.t 26)]),zn 28 (.ext (.t 27) 0),zn 29 (.ext (.t 27) 1),zm 4 28,zm 5 29] [4,5])
 (.ret)) (.seq (zr [zn 31 (.bin .eql (.t 7) (zi 5)),zm 30 31] [1,2,7,30])
 (.cond (.t 30) (.seq (zr [zL 32 6 2,zm 33 1,zn 34 (.call zkd [(.t 32),(.t 33)]),zn 35 (.ext (.t 34) 0),zn 36 (.ext (.t 34) 1),zm 4 35,zm 5 36] [4,5])
 (.ret)) (.seq (zr [zn 38 (.bin .eql (.t 7) (zi 6)),zm 37 38] [1,2,37])
 (.cond (.t 37) (.seq (zr [zL 39 6 2,zm 40 1,zn 41 (.call zkF [(.t 39),(.t 40)]),zn 42 (.ext (.t 41) 0),zn 43 (.ext (.t 41) 1),zm 4 42,zm 5 43] [4,5])
 (.ret)) (.skip)))))))))))))
 (.seq (zr [zn 4 (.mov (.c (.nsl 2))),zn 5 (.mov (zi 1))] [4,5])
 (.ret)))
def zcZ:F:=⟨zdU,[(4,none),(5,none)],false⟩
def zgg:IR:=.seq (zr [zn 31 (.bin .lss (.t 30) (.t 29))] [2,3,6,28,29,30,31])
 (.seq (.cond (.t 31) (.skip) (.ext 0))
 (.seq (.blk 1 (.seq (zr [zn 32 (.iad 2 (.t 28) (.t 30)),zL 33 2 32,zn 8 (.new (.agg [.nsl 1,.int .u64 0])),⟨none,none,.st 2 (.t 8) (.t 33)⟩] [2,3,6,8,28,29,30])
 (.dq [(zm 34 6,[]),(zn 35 (.fad 0 (.t 8)),[]),(zl 36 1 35,[1]),(zn 37 (.call zas [(.t 36)]),[1,2]),(zn 38 (.fad 1 (.t 8)),[]),(zl 39 1 38,[4]),(zn 40 (.bld [.nsl 1,.int .u64 0] [(0,1,(.t 37)),(1,1,(.t 39))]),[1,2,3,4,5]),(zn 41 (.bsf (.agg [.nsl 1,.int .u64 0]) 1 [(0,(.t 40))]),[1,2,3,4,5,6]),(zn 42 (.app 2 32 (.t 34) (.t 41)),[0,1,2,3,4,5,6,7]),(zm 6 42,[0,1,2,3,4,5,6,7,8])] (some [2,3,6,28,29,30]))))
 (zr [zn 43 (.bin .add (.t 30) (zi 1)),zm 30 43] [2,3,6,28,29,30])))
def zh9:IR:=.loop zgg
theorem znW:zE zh9 zgg:=zal
def zbu:IR:=.seq (zr [zn 2 (.box (.t 0)),zn 3 (.box (.t 1)),zn 4 (.mov (.c (.nsl 2))),zn 5 (.mov (zi 0))] [2,3])
 (.seq (.seq (zr [zn 9 (.fad 0 (.t 2)),zl 10 1 9,zn 11 (.bin .neq (.t 10) (zi 1)),zm 12 11,zg 13 12 (.fad 0 (.t 2)),zg 14 12 (.ld false 1 (.t 13)),zg 15 12 (.bin .neq (.t 14) (zi 3)),zp 16 12 15,zm 17 16,zf 18 17 (.ld true 6 (.t 2)),zf 19 17 (.ld false 1 (.t 3)),zf 20 17 (.len (.t 19)),zf 21 17 (.call zbR [(.t 18),(.t 20)]),zf 22 17 (.un .not (.t 21)),zq 23 17 22,zm 24 23,zf 25 24 (.ld false 1 (.t 3)),zf 26 24 (.call zaf [(.t 25),(.c (.fn (.func zdO) [] []))]),zq 27 24 26] [2,3,27])
 (.cond (.t 27) (.seq (zr [zn 4 (.mov (.c (.nsl 2))),zn 5 (.mov (zi 1))] [4,5])
 (.ret)) (.skip)))
 (.seq (zr [zn 6 (.mov (.c (.nsl 2)))] [2,3,6])
 (.seq (.seq (zr [zl 28 1 3,zn 29 (.len (.t 28)),zn 30 (.mov (zi 0))] [2,3,6,28,29,30])
 (.blk 0 (zh9)))
 (.seq (.blk 2 (.seq (zr [zn 49 (.fad 1 (.t 2)),zl 50 1 49,zn 51 (.mkf (.func zcR) [] [(.t 3)]),zn 52 (.call zan [(.t 50),(.t 51)]),zm 48 52] [2,3,6,48])
 (.cond (.t 48) (zr [zL 53 6 2,zm 54 6,zn 55 (.call zf2 [(.t 53),(.t 54)])] [6]) (.seq (zr [zn 57 (.fad 0 (.t 2)),zl 58 1 57,zn 59 (.bin .eql (.t 58) (zi 1)),zm 56 59] [2,3,6,56])
 (.cond (.t 56) (zr [zL 60 6 2,zn 61 (.fad 1 (.t 2)),zl 62 1 61,zn 63 (.fad 3 (.t 2)),zl 64 1 63,zl 65 1 3,zm 66 6,zn 67 (.call zfv [(.t 60),(.t 62),(.t 64),(.t 65),(.t 66)])] [6]) (zr [zL 44 6 2,zl 45 1 3,zm 46 6,zn 47 (.call zkp [(.t 44),(.t 45),(.t 46)])] [6]))))))
 (.seq (zr [zm 68 6,zm 4 68,zn 5 (.mov (zi 0))] [4,5])
 (.ret))))))
def za5:F:=⟨zbu,[(4,none),(5,none)],false⟩
def zfa:IR:=.seq (zr [zn 32 (.bin .lss (.t 31) (.t 30))] [1,2,6,29,30,31,32])
 (.seq (.cond (.t 32) (.skip) (.ext 0))
 (.seq (.blk 1 (.seq (zr [zn 33 (.iad 2 (.t 29) (.t 31)),zL 34 2 33,zn 8 (.new (.agg [.nsl 1,.int .u64 0])),⟨none,none,.st 2 (.t 8) (.t 34)⟩] [1,2,6,8,29,30,31])
 (.dq [(zm 35 6,[]),(zn 36 (.fad 0 (.t 8)),[]),(zl 37 1 36,[1]),(zn 38 (.call zas [(.t 37)]),[1,2]),(zn 39 (.fad 1 (.t 8)),[]),(zl 40 1 39,[4]),(zn 41 (.bld [.nsl 1,.int .u64 0] [(0,1,(.t 38)),(1,1,(.t 40))]),[1,2,3,4,5]),(zn 42 (.bsf (.agg [.nsl 1,.int .u64 0]) 1 [(0,(.t 41))]),[1,2,3,4,5,6]),(zn 43 (.app 2 32 (.t 35) (.t 42)),[0,1,2,3,4,5,6,7]),(zm 6 43,[0,1,2,3,4,5,6,7,8])] (some [1,2,6,29,30,31]))))
 (zr [zn 44 (.bin .add (.t 31) (zi 1)),zm 31 44] [1,2,6,29,30,31])))
def zgT:IR:=.loop zfa
theorem zmp:zE zgT zfa:=zal
def zdj:IR:=.seq (zr [zn 83 (.bin .lss (.t 82) (.t 81))] [1,6,10,11,12,69,70,71,80,81,82,83])
 (.seq (.cond (.t 83) (.skip) (.ext 4))
 (.seq (.blk 5 (.seq (zr [zn 84 (.iad 1 (.t 80) (.t 82)),zl 85 1 84,zm 14 85] [1,6,10,11,12,14,69,70,71,80,81,82])
 (.seq (zr [zm 86 11,zn 87 (.op (.iaa 3 1) [(.t 10),(.t 86)]),zl 88 1 87,zm 89 14,zn 90 (.op (.lku (some .i64) (.int .i64 0) false) [(.t 88),(.t 89)]),zn 91 (.bin .eql (.t 90) (zi 0))] [1,6,10,11,12,14,69,70,71,80,81,82,91])
 (.cond (.t 91) (zr [zm 92 6,zm 93 12,zm 94 6,zm 95 12,zn 96 (.iad 2 (.t 94) (.t 95)),zL 97 2 96,zm 98 14,zn 99 (.call zfB [(.t 97),(.t 98)]),zn 100 (.iad 2 (.t 92) (.t 93)),⟨none,none,.st 2 (.t 100) (.t 99)⟩] [1,6,10,11,12,69,70,71,80,81,82]) (.skip)))))
 (zr [zn 101 (.bin .add (.t 82) (zi 1)),zm 82 101] [1,6,10,11,12,69,70,71,80,81,82])))
def zgE:IR:=.loop zdj
theorem zij:zE zgE zdj:=zal
def ze6:IR:=.seq (zr [zn 72 (.bin .lss (.t 71) (.t 70))] [1,6,10,69,70,71,72])
 (.seq (.cond (.t 72) (.skip) (.ext 2))
 (.seq (.blk 3 (.seq (zr [zm 73 71,zn 74 (.iad 1 (.t 69) (.t 71)),zl 75 1 74,zm 11 73,zm 12 75] [1,6,10,11,12,69,70,71])
 (.seq (zr [zm 76 1,zm 77 12,zn 78 (.iad 2 (.t 76) (.t 77)),zL 79 2 78,zn 80 (.call zbZ [(.t 79)]),zn 81 (.len (.t 80)),zn 82 (.mov (zi 0))] [1,6,10,11,12,69,70,71,80,81,82])
 (.blk 4 (zgE)))))
 (zr [zn 102 (.bin .add (.t 71) (zi 1)),zm 71 102] [1,6,10,69,70,71])))
def zgR:IR:=.loop ze6
theorem zmt:zE zgR ze6:=zal
def zeB:IR:=.seq (zr [zn 2 (.box (.t 0)),zn 4 (.mov (.c (.nsl 2))),zn 5 (.mov (zi 0))] [1,2])
 (.seq (.seq (zr [zn 15 (.fad 0 (.t 2)),zl 16 1 15,zn 17 (.bin .neq (.t 16) (zi 2)),zm 18 17,zf 19 18 (.ld true 6 (.t 2)),zF 20 18 1,zf 21 18 (.len (.t 20)),zf 22 18 (.call zbR [(.t 19),(.t 21)]),zf 23 18 (.un .not (.t 22)),zq 24 18 23,zm 25 24,zF 26 25 1,zf 27 25 (.call zaf [(.t 26),(.c (.fn (.func zdp) [] []))]),zq 28 25 27] [1,2,28])
 (.cond (.t 28) (.seq (zr [zn 4 (.mov (.c (.nsl 2))),zn 5 (.mov (zi 1))] [4,5])
 (.ret)) (.skip)))
 (.seq (zr [zn 6 (.mov (.c (.nsl 2)))] [1,2,6])
 (.seq (.seq (zr [zm 29 1,zn 30 (.len (.t 29)),zn 31 (.mov (zi 0))] [1,2,6,29,30,31])
 (.blk 0 (zgT)))
 (.seq (zr [zn 45 (.fad 1 (.t 2)),zl 46 1 45,zm 9 46] [1,6,9])
 (.seq (.df [(zm 47 1,[],false),(zm 48 9,[],false),(zn 49 (.iad 1 (.t 48) (zi 0)),[1],false),(zl 50 1 49,[1,2],false),(zn 51 (.iad 2 (.t 47) (.t 50)),[0,1,2,3],false),(zL 52 2 51,[0,1,2,3,4],false),(zn 53 (.call zbZ [(.t 52)]),[0,1,2,3,4,5],false),(zm 54 1,[],false),(zm 55 9,[],false),(zn 56 (.iad 1 (.t 55) (zi 1)),[8],false),(zl 57 1 56,[8,9],false),(zn 58 (.iad 2 (.t 54) (.t 57)),[7,8,9,10],false),(zL 59 2 58,[7,8,9,10,11],false),(zn 60 (.call zbZ [(.t 59)]),[0,1,2,3,4,5,6,7,8,9,10,11,12],false),(zm 61 1,[],false),(zm 62 9,[],false),(zn 63 (.iad 1 (.t 62) (zi 2)),[15],false),(zl 64 1 63,[15,16],false),(zn 65 (.iad 2 (.t 61) (.t 64)),[14,15,16,17],false),(zL 66 2 65,[14,15,16,17,18],false),(zn 67 (.call zbZ [(.t 66)]),[0,1,2,3,4,5,6,7,8,9,10,11,12,13,14,15,16,17,18,19],false),(zn 68 (.call ziQ [(.t 53),(.t 60),(.t 67)]),[0,1,2,3,4,5,6,7,8,9,10,11,12,13,14,15,16,17,18,19,20],true)] 10 (.agg [.nmp,.nmp,.nmp]) 3 (.t 68) [0,1,2,3,4,5,6,7,8,9,10,11,12,13,14,15,16,17,18,19,20,21,22] (some [1,6,9,10]))
 (.seq (.seq (zr [zm 69 9,zn 70 (.len (.t 69)),zn 71 (.mov (zi 0))] [1,6,10,69,70,71])
 (.blk 2 (zgR)))
 (.seq (zr [zm 103 6,zm 4 103,zn 5 (.mov (zi 0))] [4,5])
 (.ret))))))))
def zcy:F:=⟨zeB,[(4,none),(5,none)],false⟩
def zfd:IR:=.seq (zr [zn 29 (.bin .lss (.t 28) (.t 27))] [2,3,6,26,27,28,29])
 (.seq (.cond (.t 29) (.skip) (.ext 0))
 (.seq (.blk 1 (.seq (zr [zn 30 (.iad 2 (.t 26) (.t 28)),zL 31 2 30,zn 8 (.new (.agg [.nsl 1,.int .u64 0])),⟨none,none,.st 2 (.t 8) (.t 31)⟩] [2,3,6,8,26,27,28])
 (.dq [(zm 32 6,[]),(zn 33 (.fad 0 (.t 8)),[]),(zl 34 1 33,[1]),(zn 35 (.call zas [(.t 34)]),[1,2]),(zn 36 (.fad 1 (.t 8)),[]),(zl 37 1 36,[4]),(zn 38 (.bld [.nsl 1,.int .u64 0] [(0,1,(.t 35)),(1,1,(.t 37))]),[1,2,3,4,5]),(zn 39 (.bsf (.agg [.nsl 1,.int .u64 0]) 1 [(0,(.t 38))]),[1,2,3,4,5,6]),(zn 40 (.app 2 32 (.t 32) (.t 39)),[0,1,2,3,4,5,6,7]),(zm 6 40,[0,1,2,3,4,5,6,7,8])] (some [2,3,6,26,27,28]))))
 (zr [zn 41 (.bin .add (.t 28) (zi 1)),zm 28 41] [2,3,6,26,27,28])))
def zgM:IR:=.loop zfd
theorem zmq:zE zgM zfd:=zal
def zeU:IR:=.seq (zr [zn 2 (.box (.t 0)),zn 3 (.box (.t 1)),zn 4 (.mov (.c (.nsl 2))),zn 5 (.mov (zi 0))] [2,3])
 (.seq (.seq (zr [zn 12 (.fad 0 (.t 2)),zl 13 1 12,zn 14 (.bin .neq (.t 13) (zi 4)),zm 15 14,zf 16 15 (.ld true 6 (.t 2)),zf 17 15 (.ld false 1 (.t 3)),zf 18 15 (.len (.t 17)),zf 19 15 (.call zbR [(.t 16),(.t 18)]),zf 20 15 (.un .not (.t 19)),zq 21 15 20,zm 22 21,zf 23 22 (.ld false 1 (.t 3)),zf 24 22 (.call zaf [(.t 23),(.c (.fn (.func zdo) [] []))]),zq 25 22 24] [2,3,25])
 (.cond (.t 25) (.seq (zr [zn 4 (.mov (.c (.nsl 2))),zn 5 (.mov (zi 1))] [4,5])
 (.ret)) (.skip)))
 (.seq (zr [zn 6 (.mov (.c (.nsl 2)))] [2,3,6])
 (.seq (.seq (zr [zl 26 1 3,zn 27 (.len (.t 26)),zn 28 (.mov (zi 0))] [2,3,6,26,27,28])
 (.blk 0 (zgM)))
 (.seq (.dc [(zn 42 (.fad 1 (.t 2)),[],false),(zl 43 1 42,[0],false),(zn 44 (.iad 1 (.t 43) (zi 0)),[0,1],false),(zl 45 1 44,[0,1,2],false),(zn 46 (.fad 1 (.t 2)),[],false),(zl 47 1 46,[4],false),(zn 48 (.iad 1 (.t 47) (zi 1)),[4,5],false),(zl 49 1 48,[4,5,6],false),(zn 10 (.new (.int .i64 0)),[],true),(zm 9 45,[0,1,2,3,8],false),(⟨none,none,.st 1 (.t 10) (.t 49)⟩,[0,1,2,3,4,5,6,7,8,9],true)] (some [2,3,6,9,10]))
 (.seq (zr [zn 50 (.op .mkm []),zn 11 (.new (.nmp)),⟨none,none,.st 1 (.t 11) (.t 50)⟩] [2,3,6,9,10,11])
 (.seq (zr [zm 51 6,zm 52 9,zm 53 6,zm 54 9,zn 55 (.iad 2 (.t 53) (.t 54)),zL 56 2 55,zn 57 (.mkf (.func zdh) [] [(.t 2),(.t 3),(.t 10),(.t 11)]),zn 58 (.call zeW [(.t 56),(.t 57)]),zn 59 (.iad 2 (.t 51) (.t 52)),⟨none,none,.st 2 (.t 59) (.t 58)⟩] [6,10,11])
 (.seq (.dc [(zm 60 6,[],false),(zl 61 1 10,[],false),(zm 62 6,[],false),(zl 63 1 10,[],false),(zn 64 (.iad 2 (.t 62) (.t 63)),[2,3],false),(zL 65 2 64,[2,3,4],false),(zn 66 (.mkf (.func zdi) [] [(.t 11)]),[],false),(zn 67 (.call zeW [(.t 65),(.t 66)]),[2,3,4,5,6],true),(zn 68 (.iad 2 (.t 60) (.t 61)),[0,1,2,3,4,5,6,7],false),(⟨none,none,.st 2 (.t 68) (.t 67)⟩,[0,1,2,3,4,5,6,7,8],true)] (some [6]))
 (.seq (zr [zm 69 6,zm 4 69,zn 5 (.mov (zi 0))] [4,5])
 (.ret)))))))))
def zcA:F:=⟨zeU,[(4,none),(5,none)],false⟩
def zfN:IR:=.seq (zr [zn 29 (.bin .lss (.t 28) (.t 27))] [2,3,6,26,27,28,29])
 (.seq (.cond (.t 29) (.skip) (.ext 0))
 (.seq (.blk 1 (.seq (zr [zn 30 (.iad 2 (.t 26) (.t 28)),zL 31 2 30,zn 8 (.new (.agg [.nsl 1,.int .u64 0])),⟨none,none,.st 2 (.t 8) (.t 31)⟩] [2,3,6,8,26,27,28])
 (.dq [(zm 32 6,[]),(zn 33 (.fad 0 (.t 8)),[]),(zl 34 1 33,[1]),(zn 35 (.call zas [(.t 34)]),[1,2]),(zn 36 (.fad 1 (.t 8)),[]),(zl 37 1 36,[4]),(zn 38 (.bld [.nsl 1,.int .u64 0] [(0,1,(.t 35)),(1,1,(.t 37))]),[1,2,3,4,5]),(zn 39 (.bsf (.agg [.nsl 1,.int .u64 0]) 1 [(0,(.t 38))]),[1,2,3,4,5,6]),(zn 40 (.app 2 32 (.t 32) (.t 39)),[0,1,2,3,4,5,6,7]),(zm 6 40,[0,1,2,3,4,5,6,7,8])] (some [2,3,6,26,27,28]))))
 (zr [zn 41 (.bin .add (.t 28) (zi 1)),zm 28 41] [2,3,6,26,27,28])))
def zir:IR:=.loop zfN
theorem zmR:zE zir zfN:=zal
def zf9:IR:=.seq (zr [zn 49 (.bin .lss (.t 48) (.t 47))] [2,3,6,9,46,47,48,49])
 (.seq (.cond (.t 49) (.skip) (.ext 2))
 (.seq (.blk 3 (.seq (zr [zn 50 (.iad 1 (.t 46) (.t 48)),zl 51 1 50,zn 11 (.new (.int .i64 0)),⟨none,none,.st 1 (.t 11) (.t 51)⟩] [2,3,6,9,11,46,47,48])
 (.dc [(zm 52 6,[],false),(zl 53 1 11,[],false),(zm 54 6,[],false),(zl 55 1 11,[],false),(zn 56 (.iad 2 (.t 54) (.t 55)),[2,3],false),(zL 57 2 56,[2,3,4],false),(zn 58 (.mkf (.func zd3) [] [(.t 9),(.t 2),(.t 3),(.t 11)]),[],false),(zn 59 (.call ziP [(.t 57),(.t 58)]),[2,3,4,5,6],true),(zn 60 (.iad 2 (.t 52) (.t 53)),[0,1,2,3,4,5,6,7],false),(⟨none,none,.st 2 (.t 60) (.t 59)⟩,[0,1,2,3,4,5,6,7,8],true)] (some [2,3,6,9,46,47,48]))))
 (zr [zn 61 (.bin .add (.t 48) (zi 1)),zm 48 61] [2,3,6,9,46,47,48])))
def zhV:IR:=.loop zf9
theorem znb:zE zhV zf9:=zal
def zga:IR:=.seq (zr [zn 2 (.box (.t 0)),zn 3 (.box (.t 1)),zn 4 (.mov (.c (.nsl 2))),zn 5 (.mov (zi 0))] [2,3])
 (.seq (.seq (zr [zn 12 (.fad 0 (.t 2)),zl 13 1 12,zn 14 (.bin .neq (.t 13) (zi 5)),zm 15 14,zf 16 15 (.ld true 6 (.t 2)),zf 17 15 (.ld false 1 (.t 3)),zf 18 15 (.len (.t 17)),zf 19 15 (.call zbR [(.t 16),(.t 18)]),zf 20 15 (.un .not (.t 19)),zq 21 15 20,zm 22 21,zf 23 22 (.ld false 1 (.t 3)),zf 24 22 (.call zaf [(.t 23),(.c (.fn (.func zdY) [] []))]),zq 25 22 24] [2,3,25])
 (.cond (.t 25) (.seq (zr [zn 4 (.mov (.c (.nsl 2))),zn 5 (.mov (zi 1))] [4,5])
 (.ret)) (.skip)))
 (.seq (zr [zn 6 (.mov (.c (.nsl 2)))] [2,3,6])
 (.seq (.seq (zr [zl 26 1 3,zn 27 (.len (.t 26)),zn 28 (.mov (zi 0))] [2,3,6,26,27,28])
 (.blk 0 (zir)))
 (.seq (zr [zL 42 6 2,zl 43 1 3,zn 44 (.call zkD [(.t 42),(.t 43)]),zn 9 (.new (.bool false)),⟨none,none,.st 1 (.t 9) (.t 44)⟩] [2,3,6,9])
 (.seq (.seq (zr [zn 45 (.fad 1 (.t 2)),zl 46 1 45,zn 47 (.len (.t 46)),zn 48 (.mov (zi 0))] [2,3,6,9,46,47,48])
 (.blk 2 (zhV)))
 (.seq (zr [zm 62 6,zm 4 62,zn 5 (.mov (zi 0))] [4,5])
 (.ret)))))))
def zdc:F:=⟨zga,[(4,none),(5,none)],false⟩
def zhv:IR:=.seq (zr [zn 31 (.bin .lss (.t 30) (.t 29))] [1,2,6,28,29,30,31])
 (.seq (.cond (.t 31) (.skip) (.ext 0))
 (.seq (.blk 1 (.seq (zr [zn 32 (.iad 2 (.t 28) (.t 30)),zL 33 2 32,zn 8 (.new (.agg [.nsl 1,.int .u64 0])),⟨none,none,.st 2 (.t 8) (.t 33)⟩] [1,2,6,8,28,29,30])
 (.dq [(zm 34 6,[]),(zn 35 (.fad 0 (.t 8)),[]),(zl 36 1 35,[1]),(zn 37 (.call zas [(.t 36)]),[1,2]),(zn 38 (.fad 1 (.t 8)),[]),(zl 39 1 38,[4]),(zn 40 (.bld [.nsl 1,.int .u64 0] [(0,1,(.t 37)),(1,1,(.t 39))]),[1,2,3,4,5]),(zn 41 (.bsf (.agg [.nsl 1,.int .u64 0]) 1 [(0,(.t 40))]),[1,2,3,4,5,6]),(zn 42 (.app 2 32 (.t 34) (.t 41)),[0,1,2,3,4,5,6,7]),(zm 6 42,[0,1,2,3,4,5,6,7,8])] (some [1,2,6,28,29,30]))))
 (zr [zn 43 (.bin .add (.t 30) (zi 1)),zm 30 43] [1,2,6,28,29,30])))
def zjD:IR:=.loop zhv
theorem zow:zE zjD zhv:=zal
def zeI:IR:=.seq (zr [zn 62 (.bin .lss (.t 61) (.t 60))] [1,6,9,10,11,48,49,50,59,60,61,62])
 (.seq (.cond (.t 62) (.skip) (.ext 4))
 (.seq (.blk 5 (.seq (zr [zn 63 (.iad 1 (.t 59) (.t 61)),zl 64 1 63,zn 13 (.new (.int .i64 0)),⟨none,none,.st 1 (.t 13) (.t 64)⟩] [1,6,9,10,11,13,48,49,50,59,60,61])
 (.seq (zr [zm 65 9,zn 66 (.mkf (.func zdq) [] [(.t 10),(.t 13)]),zn 67 (.call zaG [(.t 65),(.t 66)]),zn 68 (.un .not (.t 67))] [1,6,9,10,11,13,48,49,50,59,60,61,68])
 (.cond (.t 68) (.dq [(zm 69 6,[]),(zm 70 11,[]),(zm 71 6,[]),(zm 72 11,[]),(zn 73 (.iad 2 (.t 71) (.t 72)),[2,3]),(zL 74 2 73,[2,3,4]),(zl 75 1 13,[]),(zn 76 (.call zfB [(.t 74),(.t 75)]),[2,3,4,5,6]),(zn 77 (.iad 2 (.t 69) (.t 70)),[0,1,2,3,4,5,6,7]),(⟨none,none,.st 2 (.t 77) (.t 76)⟩,[0,1,2,3,4,5,6,7,8])] (some [1,6,9,10,11,48,49,50,59,60,61])) (.skip)))))
 (zr [zn 78 (.bin .add (.t 61) (zi 1)),zm 61 78] [1,6,9,10,11,48,49,50,59,60,61])))
def zjc:IR:=.loop zeI
theorem zk3:zE zjc zeI:=zal
def zhe:IR:=.seq (zr [zn 51 (.bin .lss (.t 50) (.t 49))] [1,6,9,48,49,50,51])
 (.seq (.cond (.t 51) (.skip) (.ext 2))
 (.seq (.blk 3 (.seq (zr [zm 52 50,zn 53 (.iad 1 (.t 48) (.t 50)),zl 54 1 53,zn 10 (.new (.int .i64 0)),⟨none,none,.st 1 (.t 10) (.t 52)⟩,zm 11 54] [1,6,9,10,11,48,49,50])
 (.seq (zr [zm 55 1,zm 56 11,zn 57 (.iad 2 (.t 55) (.t 56)),zL 58 2 57,zn 59 (.call zbZ [(.t 58)]),zn 60 (.len (.t 59)),zn 61 (.mov (zi 0))] [1,6,9,10,11,48,49,50,59,60,61])
 (.blk 4 (zjc)))))
 (zr [zn 79 (.bin .add (.t 50) (zi 1)),zm 50 79] [1,6,9,48,49,50])))
def zjt:IR:=.loop zhe
theorem zoS:zE zjt zhe:=zal
def zhR:IR:=.seq (zr [zn 2 (.box (.t 0)),zn 4 (.mov (.c (.nsl 2))),zn 5 (.mov (zi 0))] [1,2])
 (.seq (.seq (zr [zn 14 (.fad 0 (.t 2)),zl 15 1 14,zn 16 (.bin .neq (.t 15) (zi 6)),zm 17 16,zf 18 17 (.ld true 6 (.t 2)),zF 19 17 1,zf 20 17 (.len (.t 19)),zf 21 17 (.call zbR [(.t 18),(.t 20)]),zf 22 17 (.un .not (.t 21)),zq 23 17 22,zm 24 23,zF 25 24 1,zf 26 24 (.call zaf [(.t 25),(.c (.fn (.func zeY) [] []))]),zq 27 24 26] [1,2,27])
 (.cond (.t 27) (.seq (zr [zn 4 (.mov (.c (.nsl 2))),zn 5 (.mov (zi 1))] [4,5])
 (.ret)) (.skip)))
 (.seq (zr [zn 6 (.mov (.c (.nsl 2)))] [1,2,6])
 (.seq (.seq (zr [zm 28 1,zn 29 (.len (.t 28)),zn 30 (.mov (zi 0))] [1,2,6,28,29,30])
 (.blk 0 (zjD)))
 (.seq (zr [zL 44 6 2,zm 45 1,zn 46 (.call ziJ [(.t 44),(.t 45)]),zm 9 46] [1,2,6,9])
 (.seq (.seq (zr [zn 47 (.fad 1 (.t 2)),zl 48 1 47,zn 49 (.len (.t 48)),zn 50 (.mov (zi 0))] [1,6,9,48,49,50])
 (.blk 2 (zjt)))
 (.seq (zr [zm 80 6,zm 4 80,zn 5 (.mov (zi 0))] [4,5])
 (.ret)))))))
def zd0:F:=⟨zhR,[(4,none),(5,none)],false⟩
def zjG:IR:=.seq (zr [zn 2 (.box (.t 0)),zn 4 (.mov (zi 0))] [1,2])
 (.seq (zr [zn 5 (.mov (zi 0))] [1,2,5])
 (.seq (.seq (zr [zL 6 2 2,zn 7 (.call zcl [(.t 6)]),zn 8 (.un .not (.t 7))] [1,2,5,8])
 (.cond (.t 8) (.seq (zr [zm 9 5,zm 4 9] [4])
 (.ret)) (.skip)))
 (.seq (zr [zm 10 1,zL 11 2 2,zn 12 (.callv (.t 10) [(.t 11)]),zm 4 12] [4])
 (.ret))))
def zgp:F:=⟨zjG,[(4,none)],false⟩
def zrl:IR:=.seq (zr [zn 1 (.box (.t 0)),zn 2 (.mov (zi 0))] [1])
 (.seq (zr [zn 3 (.fad 1 (.t 1)),zl 4 1 3,zn 5 (.call zkL [(.t 4)]),zm 2 5] [2])
 (.ret))
def znT:F:=⟨zrl,[(2,none)],false⟩
def zrj:IR:=.seq (zr [zn 2 (.mov (zi 0))] [0])
 (.seq (zr [zm 3 0,zn 4 (.call zbQ [(.t 3)]),zm 2 4] [2])
 (.ret))
def zmX:F:=⟨zrj,[(2,none)],false⟩
def zeX:IR:=.seq (.seq (zr [zm 13 5,zn 14 (.fad 0 (.t 1)),zl 15 1 14,zn 16 (.len (.t 15)),zn 17 (.bin .lss (.t 13) (.t 16))] [1,3,4,5,17])
 (.cond (.t 17) (.skip) (.ext 0)))
 (.seq (.blk 1 (.seq (.seq (zr [zm 20 4,zn 21 (.bin .rem (.t 20) (.c (.int .u64 2))),zn 22 (.bin .eql (.t 21) (.c (.int .u64 1)))] [1,3,4,5,22])
 (.cond (.t 22) (zr [zm 23 3,zn 24 (.fad 0 (.t 1)),zl 25 1 24,zm 26 5,zn 27 (.iad 1 (.t 25) (.t 26)),zl 28 1 27,zn 29 (.bsf (.int .i64 0) 1 [(0,(.t 28))]),zn 30 (.app 1 8 (.t 23) (.t 29)),zm 3 30] [1,3,4,5]) (.skip)))
 (zr [zm 31 4,zn 32 (.bin .quo (.t 31) (.c (.int .u64 2))),zm 4 32] [1,3,4,5])))
 (zr [zm 18 5,zn 19 (.bin .add (.t 18) (zi 1)),zm 5 19] [1,3,4,5]))
def zjY:IR:=.loop zeX
theorem zk8:zE zjY zeX:=zal
def zmP:IR:=.seq (zr [zn 1 (.box (.t 0)),zn 2 (.mov (.c (.nsl 1)))] [1])
 (.seq (zr [zn 6 (.bsl (.int .i64 0) 0 []),zm 3 6] [1,3])
 (.seq (.seq (zr [zL 7 2 1,zn 8 (.call zfo [(.t 7)]),zn 9 (.un .not (.t 8))] [1,3,9])
 (.cond (.t 9) (.seq (zr [zm 10 3,zm 2 10] [2])
 (.ret)) (.skip)))
 (.seq (zr [zn 11 (.fad 1 (.t 1)),zl 12 1 11,zm 4 12] [1,3,4])
 (.seq (.seq (zr [zn 5 (.mov (zi 0))] [1,3,4,5])
 (.blk 0 (zjY)))
 (.seq (zr [zm 33 3,zm 2 33] [2])
 (.ret))))))
def zkn:F:=⟨zmP,[(2,none)],false⟩
def zen:IR:=.seq (zr [zn 4 (.mov (zb false))] [0,1])
 (.seq (zr [zm 5 0,zm 6 1,zn 7 (.call zaJ [(.t 5),(.t 6)]),zn 8 (.bin .geq (.t 7) (zi 0)),zm 4 8] [4])
 (.ret))
def zbG:F:=⟨zen,[(4,none)],false⟩
def zp7:IR:=.seq (zr [zn 1 (.box (.t 0)),zn 2 (.mov (zb false))] [1])
 (.seq (zr [zL 3 2 1,zn 4 (.call zgW [(.t 3)]),zn 5 (.bin .eql (.t 4) (zi 0)),zm 2 5] [2])
 (.ret))
def zmh:F:=⟨zp7,[(2,none)],false⟩
def zeo:IR:=.seq (zr [zn 4 (.mov (zb false))] [0,1])
 (.seq (zr [zm 5 0,zm 6 1,zn 7 (.call zaK [(.t 5),(.t 6)]),zn 8 (.bin .geq (.t 7) (zi 0)),zm 4 8] [4])
 (.ret))
def zbE:F:=⟨zeo,[(4,none)],false⟩
def zpK:IR:=.seq (zr [zn 2 (.box (.t 0)),zn 3 (.mov (zb false))] [1,2])
 (.seq (zr [zL 4 6 2,zl 5 1 1,zn 6 (.len (.t 5)),zn 7 (.call zbR [(.t 4),(.t 6)]),zn 8 (.un .not (.t 7)),zm 3 8] [3])
 (.ret))
def zmg:F:=⟨zpK,[(3,none)],false⟩
def zbP:IR:=.seq (zr [zn 2 (.box (.t 0)),zn 4 (.mov (zb false))] [1,2])
 (.seq (zr [zn 6 (.bsl (.nilf) 6 [(0,(.c (.fn (.func zcq) [] []))),(1,(.c (.fn (.func zca) [] []))),(2,(.c (.fn (.func zdM) [] []))),(3,(.c (.fn (.func zb9) [] []))),(4,(.c (.fn (.func zcn) [] []))),(5,(.c (.fn (.func zcF) [] [])))]),zm 5 6] [1,2,5])
 (.seq (.dq [(zn 7 (.fad 0 (.t 2)),[]),(zl 8 1 7,[0]),(zn 9 (.bin .geq (.t 8) (zi 1)),[0,1]),(zm 10 9,[0,1,2]),(zg 11 10 (.fad 0 (.t 2)),[0,1,2,3]),(zg 12 10 (.ld false 1 (.t 11)),[0,1,2,3,4]),(zM 13 10 5,[0,1,2,3]),(zg 14 10 (.len (.t 13)),[0,1,2,3,6]),(zg 15 10 (.bin .leq (.t 12) (.t 14)),[0,1,2,3,4,5,6,7]),(zp 16 10 15,[0,1,2,3,4,5,6,7,8]),(zm 17 16,[0,1,2,3,4,5,6,7,8,9]),(zM 18 17 5,[0,1,2,3,4,5,6,7,8,9,10]),(zg 19 17 (.fad 0 (.t 2)),[0,1,2,3,4,5,6,7,8,9,10]),(zg 20 17 (.ld false 1 (.t 19)),[0,1,2,3,4,5,6,7,8,9,10,12]),(zg 21 17 (.bin .sub (.t 20) (zi 1)),[0,1,2,3,4,5,6,7,8,9,10,12,13]),(zg 22 17 (.iad 1 (.t 18) (.t 21)),[0,1,2,3,4,5,6,7,8,9,10,11,12,13,14]),(zg 23 17 (.ld false 1 (.t 22)),[0,1,2,3,4,5,6,7,8,9,10,11,12,13,14,15]),(zg 24 17 (.ld true 6 (.t 2)),[0,1,2,3,4,5,6,7,8,9,10]),(zM 25 17 1,[0,1,2,3,4,5,6,7,8,9,10]),(zg 26 17 (.bld [.int .i64 0,.nsl 1,.nsl 1,.int .i64 0,.int .i64 0,.nsl 1,.int .i64 0] [(0,6,(.t 24)),(6,1,(.t 25))]),[0,1,2,3,4,5,6,7,8,9,10,17,18]),(zg 27 17 (.callv (.t 23) [(.t 26)]),[0,1,2,3,4,5,6,7,8,9,10,11,12,13,14,15,16,17,18,19]),(zp 28 17 27,[0,1,2,3,4,5,6,7,8,9,10,11,12,13,14,15,16,17,18,19,20]),(zm 4 28,[0,1,2,3,4,5,6,7,8,9,10,11,12,13,14,15,16,17,18,19,20,21])] (some [4]))
 (.ret)))
def zbs:F:=⟨zbP,[(4,none)],false⟩
def zqi:IR:=.seq (zr [zn 1 (.box (.t 0)),zn 2 (.mov (zb false))] [1])
 (.seq (zr [zL 3 2 1,zn 4 (.call zcl [(.t 3)]),zn 5 (.un .not (.t 4)),zm 2 5] [2])
 (.ret))
def zl6:F:=⟨zqi,[(2,none)],false⟩
def zd2:IR:=.seq (zr [zn 23 (.bin .lss (.t 22) (.t 21))] [1,20,21,22,23])
 (.seq (.cond (.t 23) (.skip) (.ext 0))
 (.seq (.blk 1 (.seq (zr [zm 24 22,zn 25 (.iad 1 (.t 20) (.t 22)),zl 26 1 25,zm 4 24,zm 5 26] [1,4,5,20,21,22])
 (.seq (zr [zm 27 5,zn 28 (.bin .lss (.t 27) (zi (-1048576))),zm 29 28,zF 30 29 5,zf 31 29 (.bin .gtr (.t 30) (zi 1048576)),zq 32 29 31,zm 33 32,zF 34 33 4,zf 35 33 (.bin .gtr (.t 34) (zi 0)),zF 36 33 35,zM 37 36 5,zg 38 36 (.fad 0 (.t 1)),zg 39 36 (.ld false 1 (.t 38)),zM 40 36 4,zg 41 36 (.bin .sub (.t 40) (zi 1)),zg 42 36 (.iad 1 (.t 39) (.t 41)),zg 43 36 (.ld false 1 (.t 42)),zg 44 36 (.bin .leq (.t 37) (.t 43)),zf 45 33 (.pick (.t 36) (.t 44) (zb false)),zq 46 33 45] [1,20,21,22,46])
 (.cond (.t 46) (.seq (zr [zn 2 (.mov (zb false))] [2])
 (.ret)) (.skip)))))
 (zr [zn 47 (.bin .add (.t 22) (zi 1)),zm 22 47] [1,20,21,22])))
def znZ:IR:=.loop zd2
theorem zsh:zE znZ zd2:=zal
def zmO:IR:=.seq (zr [zn 1 (.box (.t 0)),zn 2 (.mov (zb false))] [1])
 (.seq (zr [zn 6 (.fad 0 (.t 1)),zl 7 1 6,zn 8 (.len (.t 7)),zm 3 8] [1,3])
 (.seq (.seq (.dq [(zm 9 3,[]),(zn 10 (.bin .gtr (.t 9) (zi 64)),[0]),(zm 11 10,[0,1]),(zf 12 11 (.fad 1 (.t 1)),[0,1,2]),(zf 13 11 (.ld false 1 (.t 12)),[0,1,2,3]),(zF 14 11 3,[0,1,2]),(zf 15 11 (.call zkl [(.t 14)]),[0,1,2,5]),(zf 16 11 (.bin .andNot (.t 13) (.t 15)),[0,1,2,3,4,5,6]),(zf 17 11 (.bin .neq (.t 16) (.c (.int .u64 0))),[0,1,2,3,4,5,6,7]),(zq 18 11 17,[0,1,2,3,4,5,6,7,8])] (some [1,18]))
 (.cond (.t 18) (.seq (zr [zn 2 (.mov (zb false))] [2])
 (.ret)) (.skip)))
 (.seq (.seq (zr [zn 19 (.fad 0 (.t 1)),zl 20 1 19,zn 21 (.len (.t 20)),zn 22 (.mov (zi 0))] [1,20,21,22])
 (.blk 0 (znZ)))
 (.seq (zr [zn 2 (.mov (zb true))] [2])
 (.ret)))))
def zlI:F:=⟨zmO,[(2,none)],false⟩
def zkB:IR:=.seq (zr [zn 2 (.mov (.c (.nilp))),zn 3 (.mov (zi 0))] [0])
 (.seq (.seq (zr [zm 4 0,zn 5 (.bin .lss (.t 4) (zi 0)),zm 6 5,zF 7 6 0,zf 8 6 (.bin .gtr (.t 7) (zi 1000)),zq 9 6 8] [0,9])
 (.cond (.t 9) (.seq (zr [zn 2 (.mov (.c (.nilp))),zn 3 (.mov (zi 1))] [2,3])
 (.ret)) (.skip)))
 (.seq (.dr [(zm 10 0,[]),(zn 11 (.mks 8 (.int .u64 0) (.t 10) (.t 10)),[0]),(zm 12 0,[]),(zn 13 (.mks 8 (.int .i64 0) (.t 12) (.t 12)),[2]),(zn 14 (.op .mkm []),[]),(zn 15 (.bsl (.nmp) 1 [(0,(.t 14))]),[4]),(zn 16 (.bld [.nsl 1,.nsl 1,.nsl 1] [(0,1,(.t 11)),(1,1,(.t 13)),(2,1,(.t 15))]),[0,1,2,3,4,5]),(zn 17 (.box (.t 16)),[0,1,2,3,4,5,6]),(zm 2 17,[0,1,2,3,4,5,6,7]),(zn 3 (.mov (zi 0)),[0,1,2,3,4,5,6,7,8])] (some [2,3]))
 (.ret)))
def zgk:F:=⟨zkB,[(2,none),(3,none)],true⟩
def zes:IR:=.seq (zr [zn 2 (.mov (zi 0))] [0])
 (.seq (zr [zm 3 0,zn 4 (.nck (.t 3)),zn 5 (.fad 2 (.t 4)),zl 6 1 5,zn 7 (.len (.t 6)),zn 8 (.bin .sub (.t 7) (zi 1)),zm 2 8] [2])
 (.ret))
def zcb:F:=⟨zes,[(2,none)],true⟩
def zcf:IR:=.seq (zr [zn 4 (.mov (zb false))] [0,1])
 (.seq (zr [zm 5 1,zn 6 (.bin .geq (.t 5) (zi 0)),zm 7 6,zM 8 7 1,zM 9 7 0,zg 10 7 (.nck (.t 9)),zg 11 7 (.fad 0 (.t 10)),zg 12 7 (.ld false 1 (.t 11)),zg 13 7 (.len (.t 12)),zg 14 7 (.bin .lss (.t 8) (.t 13)),zp 15 7 14,zm 4 15] [4])
 (.ret))
def zbi:F:=⟨zcf,[(4,none)],true⟩
def zeR:IR:=.seq (zr [zn 2 (.mov (.c (.nmp)))] [0])
 (.seq (.dq [(zm 3 0,[]),(zn 4 (.nck (.t 3)),[0]),(zn 5 (.fad 2 (.t 4)),[0,1]),(zl 6 1 5,[0,1,2]),(zm 7 0,[]),(zn 8 (.nck (.t 7)),[4]),(zn 9 (.fad 2 (.t 8)),[4,5]),(zl 10 1 9,[4,5,6]),(zn 11 (.len (.t 10)),[4,5,6,7]),(zn 12 (.bin .sub (.t 11) (zi 1)),[4,5,6,7,8]),(zn 13 (.iad 1 (.t 6) (.t 12)),[0,1,2,3,4,5,6,7,8,9]),(zl 14 1 13,[0,1,2,3,4,5,6,7,8,9,10]),(zm 2 14,[0,1,2,3,4,5,6,7,8,9,10,11])] (some [2]))
 (.ret))
def zcx:F:=⟨zeR,[(2,none)],true⟩
def zcK:IR:=.seq (zr [zm 6 0,zn 7 (.nck (.t 6)),zn 8 (.fad 0 (.t 7)),zl 9 1 8,zm 10 1,zn 11 (.iad 1 (.t 9) (.t 10)),zl 12 1 11,zm 13 2,zn 14 (.bin .neq (.t 12) (.t 13))] [0,1,2,14])
 (.cond (.t 14) (.seq (zr [zm 15 0,zn 16 (.nck (.t 15)),zn 17 (.fad 0 (.t 16)),zl 18 1 17,zm 19 1,zm 20 2,zn 21 (.iad 1 (.t 18) (.t 19)),⟨none,none,.st 1 (.t 21) (.t 20)⟩] [0,1])
 (zr [zm 22 0,zn 23 (.nck (.t 22)),zn 24 (.fad 1 (.t 23)),zl 25 1 24,zm 26 1,zn 27 (.iad 1 (.t 25) (.t 26)),zl 28 1 27,zn 29 (.bin .add (.t 28) (zi 1)),zn 30 (.iad 1 (.t 25) (.t 26)),⟨none,none,.st 1 (.t 30) (.t 29)⟩] [])) (.skip))
def zbB:F:=⟨zcK,[],true⟩
def zeK:IR:=.seq (zr [zn 9 (.bin .lss (.t 8) (.t 7))] [0,1,7,8,9])
 (.seq (.cond (.t 9) (.skip) (.ext 0))
 (.seq (.blk 1 (.seq (zr [zm 10 8,zm 5 10] [0,1,5,7,8])
 (.seq (zr [zm 11 1,zm 12 0,zm 13 5,zn 14 (.iad 1 (.t 12) (.t 13)),zl 15 1 14,zn 16 (.bin .eql (.t 11) (.t 15))] [0,1,5,7,8,16])
 (.cond (.t 16) (.seq (zr [zm 17 5,zm 4 17] [4])
 (.ret)) (.skip)))))
 (zr [zn 18 (.bin .add (.t 8) (zi 1)),zm 8 18] [0,1,7,8])))
def zet:IR:=.loop zeK
theorem ztD:zE zet zeK:=zal
def zlP:IR:=.seq (zr [zn 4 (.mov (zi 0))] [0,1])
 (.seq (.seq (zr [zm 6 0,zn 7 (.len (.t 6)),zn 8 (.mov (zi 0))] [0,1,7,8])
 (.blk 0 (zet)))
 (.seq (zr [zn 4 (.mov (zi (-1)))] [4])
 (.ret)))
def zf5:F:=⟨zlP,[(4,none)],false⟩
def zeV:IR:=.seq (zr [zn 14 (.bin .lss (.t 13) (.t 12))] [0,1,12,13,14])
 (.seq (.cond (.t 14) (.skip) (.ext 0))
 (.seq (.blk 1 (.seq (zr [zm 15 13,zm 5 15] [0,1,5,12,13])
 (.seq (.dq [(zm 16 0,[]),(zm 17 5,[]),(zn 18 (.iad 1 (.t 16) (.t 17)),[0,1]),(zl 19 1 18,[0,1,2]),(zm 20 1,[]),(zm 21 5,[]),(zn 22 (.iad 1 (.t 20) (.t 21)),[4,5]),(zl 23 1 22,[4,5,6]),(zn 24 (.bin .neq (.t 19) (.t 23)),[0,1,2,3,4,5,6,7])] (some [0,1,12,13,24]))
 (.cond (.t 24) (.seq (zr [zn 4 (.mov (zb false))] [4])
 (.ret)) (.skip)))))
 (zr [zn 25 (.bin .add (.t 13) (zi 1)),zm 13 25] [0,1,12,13])))
def zey:IR:=.loop zeV
theorem ztu:zE zey zeV:=zal
def zlX:IR:=.seq (zr [zn 4 (.mov (zb false))] [0,1])
 (.seq (.seq (zr [zm 6 0,zn 7 (.len (.t 6)),zm 8 1,zn 9 (.len (.t 8)),zn 10 (.bin .neq (.t 7) (.t 9))] [0,1,10])
 (.cond (.t 10) (.seq (zr [zn 4 (.mov (zb false))] [4])
 (.ret)) (.skip)))
 (.seq (.seq (zr [zm 11 0,zn 12 (.len (.t 11)),zn 13 (.mov (zi 0))] [0,1,12,13])
 (.blk 0 (zey)))
 (.seq (zr [zn 4 (.mov (zb true))] [4])
 (.ret))))
def zfQ:F:=⟨zlX,[(4,none)],false⟩
def zda:IR:=.seq (.seq (zr [zm 6 5,zm 7 0,zn 8 (.len (.t 7)),zn 9 (.bin .lss (.t 6) (.t 8))] [0,1,5,9])
 (.cond (.t 9) (.skip) (.ext 0)))
 (.seq (.blk 1 (.seq (zr [zm 12 0,zm 13 5,zn 14 (.iad 1 (.t 12) (.t 13)),zl 15 1 14,zm 16 1,zn 17 (.un .neg (.t 16)),zn 18 (.bin .lss (.t 15) (.t 17)),zm 19 18,zF 20 19 0,zF 21 19 5,zf 22 19 (.iad 1 (.t 20) (.t 21)),zf 23 19 (.ld false 1 (.t 22)),zF 24 19 1,zf 25 19 (.bin .gtr (.t 23) (.t 24)),zq 26 19 25] [0,1,5,26])
 (.cond (.t 26) (.seq (zr [zn 4 (.mov (zb false))] [4])
 (.ret)) (.skip))))
 (zr [zm 10 5,zn 11 (.bin .add (.t 10) (zi 1)),zm 5 11] [0,1,5]))
def zk2:IR:=.loop zda
theorem zBv:zE zk2 zda:=zal
def zpp:IR:=.seq (zr [zn 4 (.mov (zb false))] [0,1])
 (.seq (.seq (zr [zn 5 (.mov (zi 0))] [0,1,5])
 (.blk 0 (zk2)))
 (.seq (zr [zn 4 (.mov (zb true))] [4])
 (.ret)))
def zme:F:=⟨zpp,[(4,none)],false⟩
def zdE:IR:=.seq (.seq (zr [zm 11 5,zm 12 0,zn 13 (.len (.t 12)),zn 14 (.bin .lss (.t 11) (.t 13))] [0,1,5,14])
 (.cond (.t 14) (.skip) (.ext 0)))
 (.seq (.blk 1 (.seq (.dq [(zm 17 0,[]),(zm 18 5,[]),(zn 19 (.iad 1 (.t 17) (.t 18)),[0,1]),(zl 20 1 19,[0,1,2]),(zm 21 1,[]),(zm 22 5,[]),(zn 23 (.iad 1 (.t 21) (.t 22)),[4,5]),(zl 24 1 23,[4,5,6]),(zn 25 (.bin .neq (.t 20) (.t 24)),[0,1,2,3,4,5,6,7])] (some [0,1,5,25]))
 (.cond (.t 25) (.seq (zr [zn 4 (.mov (zb false))] [4])
 (.ret)) (.skip))))
 (zr [zm 15 5,zn 16 (.bin .add (.t 15) (zi 1)),zm 5 16] [0,1,5]))
def zjL:IR:=.loop zdE
theorem zBs:zE zjL zdE:=zal
def zke:IR:=.seq (zr [zn 4 (.mov (zb false))] [0,1])
 (.seq (.seq (zr [zm 6 0,zn 7 (.len (.t 6)),zm 8 1,zn 9 (.len (.t 8)),zn 10 (.bin .neq (.t 7) (.t 9))] [0,1,10])
 (.cond (.t 10) (.seq (zr [zn 4 (.mov (zb false))] [4])
 (.ret)) (.skip)))
 (.seq (.seq (zr [zn 5 (.mov (zi 0))] [0,1,5])
 (.blk 0 (zjL)))
 (.seq (zr [zn 4 (.mov (zb true))] [4])
 (.ret))))
def zhF:F:=⟨zke,[(4,none)],false⟩
def zba:IR:=.seq (zr [zn 2 (.box (.t 0)),zn 4 (.mov (.c (.nsl 2))),zn 5 (.mov (zi 0))] [1,2])
 (.seq (.seq (zr [zL 15 6 2,zm 16 1,zn 17 (.bsf (.int .i64 0) 2 [(0,(zi 1)),(1,(zi 3))]),zn 18 (.call zaQ [(.t 15),(.t 16),(.t 17)]),zn 19 (.un .not (.t 18))] [1,2,19])
 (.cond (.t 19) (.seq (zr [zn 4 (.mov (.c (.nsl 2))),zn 5 (.mov (zi 1))] [4,5])
 (.ret)) (.skip)))
 (.seq (.dq [(zL 21 6 2,[]),(zm 22 1,[]),(zn 23 (.call zcs [(.t 22)]),[1]),(zn 24 (.call zf0 [(.t 21),(.t 23)]),[0,1,2]),(zm 20 24,[0,1,2,3]),(zn 25 (.ext (.t 20) 0),[0,1,2,3,4]),(zn 26 (.ext (.t 20) 1),[0,1,2,3,4]),(zm 6 25,[0,1,2,3,4,5]),(zm 7 26,[0,1,2,3,4,5,6,7])] (some [1,2,6,7]))
 (.seq (.seq (zr [zm 27 7] [1,2,6,27])
 (.cond (.t 27) (.seq (zr [zm 28 1,zm 29 6,zn 30 (.call za9 [(.t 28),(.t 29)]),zm 4 30,zn 5 (.mov (zi 0))] [4,5])
 (.ret)) (.skip)))
 (.seq (.seq (zr [zn 31 (.fad 0 (.t 2)),zl 32 1 31,zn 33 (.bin .eql (.t 32) (zi 1))] [1,2,6,33])
 (.cond (.t 33) (.seq (zr [zm 34 1,zL 35 6 2,zn 36 (.fad 1 (.t 2)),zl 37 1 36,zn 38 (.fad 3 (.t 2)),zl 39 1 38,zm 40 6,zn 41 (.call zgI [(.t 35),(.t 37),(.t 39),(.t 40)]),zn 42 (.cx za9 [(.t 34),(.t 41)]),zm 4 42,zn 5 (.mov (zi 0))] [4,5])
 (.ret)) (.skip)))
 (.seq (zr [zn 43 (.fad 1 (.t 2)),zl 44 1 43,zn 45 (.sll 1 (.t 44) (some (zi 1)) none none),zm 8 45] [1,2,6,8])
 (.seq (zr [zm 46 6,zn 47 (.fad 1 (.t 2)),zl 48 1 47,zn 49 (.iad 1 (.t 48) (zi 0)),zl 50 1 49,zn 51 (.iad 1 (.t 46) (.t 50)),zl 52 1 51,zn 53 (.call zjF [(.t 52),(zi 1)]),zm 9 53] [1,2,6,8,9])
 (.seq (zr [zm 54 6,zn 55 (.fad 1 (.t 2)),zl 56 1 55,zn 57 (.iad 1 (.t 56) (zi 0)),zl 58 1 57,zn 59 (.iad 1 (.t 54) (.t 58)),zl 60 1 59,zn 61 (.call zjF [(.t 60),(zi 0)]),zm 10 61] [1,2,6,8,9,10])
 (.seq (zr [zn 62 (.bsl (.nsl 1) 0 []),zm 63 6,zn 64 (.app 1 24 (.t 62) (.t 63)),zm 11 64] [1,2,6,8,9,10,11])
 (.seq (.seq (zr [zm 65 9,zn 66 (.un .not (.t 65)),zm 67 66,zM 68 67 10,zg 69 67 (.un .not (.t 68)),zp 70 67 69] [1,2,6,8,9,10,11,70])
 (.cond (.t 70) (.seq (zr [zm 71 1,zL 72 6 2,zm 73 6,zn 74 (.call zc4 [(.t 72),(.t 73)]),zn 75 (.cx za9 [(.t 71),(.t 74)]),zm 4 75,zn 5 (.mov (zi 0))] [4,5])
 (.ret)) (.skip)))
 (.seq (.seq (zr [zm 76 10,zn 77 (.un .not (.t 76))] [1,2,6,8,9,10,11,77])
 (.cond (.t 77) (zr [zL 78 6 2,zm 79 8,zn 80 (.fad 3 (.t 2)),zl 81 1 80,zm 82 6,zn 83 (.call zgI [(.t 78),(.t 79),(.t 81),(.t 82)]),zm 11 83] [1,2,6,8,9,10,11]) (.skip)))
 (.seq (.seq (zr [zm 84 9,zn 85 (.un .not (.t 84))] [1,2,6,8,9,10,11,85])
 (.cond (.t 85) (.dc [(zL 86 6 2,[],false),(zm 87 8,[],false),(zn 88 (.fad 3 (.t 2)),[],false),(zl 89 1 88,[2],false),(zn 90 (.call zdf [(.t 89)]),[2,3],false),(zm 91 6,[],false),(zn 92 (.call zgI [(.t 86),(.t 87),(.t 90),(.t 91)]),[0,1,2,3,4,5],true),(zm 11 92,[0,1,2,3,4,5,6],false)] (some [1,2,6,8,9,10,11])) (.skip)))
 (.seq (zr [zm 94 8,zn 95 (.fad 2 (.t 2)),zl 96 1 95,zm 97 6,zn 98 (.call zhy [(.t 94),(.t 96),(.t 97),(zi (-1))]),zm 93 98,zn 99 (.ext (.t 93) 0),zn 100 (.ext (.t 93) 1),zm 12 99,zm 13 100] [1,2,9,10,11,12,13])
 (.seq (zr [zn 101 (.bsl (.int .i64 0) 0 []),zm 14 101] [1,2,9,10,11,12,13,14])
 (.seq (.seq (.dq [(zm 102 10,[]),(zm 103 102,[0]),(zM 104 103 12,[0,1]),(zM 105 103 13,[0,1]),(zg 106 103 (.fad 3 (.t 2)),[0,1]),(zg 107 103 (.ld false 1 (.t 106)),[0,1,4]),(zg 108 103 (.call zdf [(.t 107)]),[0,1,4,5]),(zg 109 103 (.fad 4 (.t 2)),[0,1]),(zg 110 103 (.ld false 1 (.t 109)),[0,1,7]),(zg 111 103 (.call zgK [(.t 104),(.t 105),(.t 108),(.t 110)]),[0,1,2,3,4,5,6,7,8]),(zp 112 103 111,[0,1,2,3,4,5,6,7,8,9])] (some [1,2,9,11,12,13,14,112]))
 (.cond (.t 112) (zr [zm 113 14,zn 114 (.bsf (.int .i64 0) 1 [(0,(zi 0))]),zn 115 (.app 1 8 (.t 113) (.t 114)),zm 14 115] [1,2,9,11,12,13,14]) (.skip)))
 (.seq (.seq (zr [zm 116 9,zm 117 116,zM 118 117 12,zM 119 117 13,zg 120 117 (.fad 3 (.t 2)),zg 121 117 (.ld false 1 (.t 120)),zg 122 117 (.fad 4 (.t 2)),zg 123 117 (.ld false 1 (.t 122)),zg 124 117 (.call zgK [(.t 118),(.t 119),(.t 121),(.t 123)]),zp 125 117 124] [1,2,11,14,125])
 (.cond (.t 125) (zr [zm 126 14,zn 127 (.bsf (.int .i64 0) 1 [(0,(zi 1))]),zn 128 (.app 1 8 (.t 126) (.t 127)),zm 14 128] [1,2,11,14]) (.skip)))
 (.seq (zr [zm 129 11,zn 130 (.fad 1 (.t 2)),zl 131 1 130,zn 132 (.iad 1 (.t 131) (zi 0)),zl 133 1 132,zm 134 14,zn 135 (.iad 1 (.t 129) (.t 133)),⟨none,none,.st 1 (.t 135) (.t 134)⟩] [1,11])
 (.seq (zr [zm 136 1,zm 137 11,zn 138 (.cx za9 [(.t 136),(.t 137)]),zm 4 138,zn 5 (.mov (zi 0))] [4,5])
 (.ret))))))))))))))))))
def zaY:F:=⟨zba,[(4,none),(5,none)],false⟩
def zeG:IR:=.seq (.seq (zr [zm 30 10,zm 31 6,zm 32 9,zn 33 (.iad 1 (.t 31) (.t 32)),zl 34 1 33,zn 35 (.len (.t 34)),zn 36 (.bin .lss (.t 30) (.t 35))] [1,2,6,7,8,9,10,36])
 (.cond (.t 36) (.skip) (.ext 2)))
 (.seq (.blk 3 (.seq (.dq [(zL 39 6 2,[]),(zm 40 6,[]),(zm 41 8,[]),(zm 42 6,[]),(zm 43 9,[]),(zn 44 (.iad 1 (.t 42) (.t 43)),[3,4]),(zl 45 1 44,[3,4,5]),(zm 46 10,[]),(zn 47 (.iad 1 (.t 45) (.t 46)),[3,4,5,6,7]),(zl 48 1 47,[3,4,5,6,7,8]),(zn 49 (.call zhM [(.t 39),(.t 40),(.t 41),(.t 48)]),[0,1,2,3,4,5,6,7,8,9])] (some [1,2,6,7,8,9,10,49]))
 (.cond (.t 49) (.dc [(zm 50 7,[],false),(zm 51 9,[],false),(zn 52 (.bsl (.int .i64 0) 0 []),[],true),(zm 53 7,[],false),(zm 54 9,[],false),(zn 55 (.iad 1 (.t 53) (.t 54)),[3,4],false),(zl 56 1 55,[3,4,5],false),(zn 57 (.app 1 8 (.t 52) (.t 56)),[2,3,4,5,6],true),(zm 58 6,[],false),(zm 59 9,[],false),(zn 60 (.iad 1 (.t 58) (.t 59)),[8,9],false),(zl 61 1 60,[8,9,10],false),(zm 62 10,[],false),(zn 63 (.iad 1 (.t 61) (.t 62)),[8,9,10,11,12],false),(zl 64 1 63,[8,9,10,11,12,13],false),(zn 65 (.bsf (.int .i64 0) 1 [(0,(.t 64))]),[8,9,10,11,12,13,14],false),(zn 66 (.app 1 8 (.t 57) (.t 65)),[2,3,4,5,6,7,8,9,10,11,12,13,14,15],true),(zn 67 (.iad 1 (.t 50) (.t 51)),[0,1,2,3,4,5,6,7,8,9,10,11,12,13,14,15,16],false),(⟨none,none,.st 1 (.t 67) (.t 66)⟩,[0,1,2,3,4,5,6,7,8,9,10,11,12,13,14,15,16,17],true)] (some [1,2,6,7,8,9,10])) (.skip))))
 (zr [zm 37 10,zn 38 (.bin .add (.t 37) (zi 1)),zm 10 38] [1,2,6,7,8,9,10]))
def zj3:IR:=.loop zeG
theorem zkU:zE zj3 zeG:=zal
def zhr:IR:=.seq (.seq (zr [zm 21 8,zn 22 (.bin .lss (.t 21) (zi 3))] [1,2,6,7,8,22])
 (.cond (.t 22) (.skip) (.ext 0)))
 (.seq (.blk 1 (.seq (zr [zn 25 (.fad 1 (.t 2)),zl 26 1 25,zm 27 8,zn 28 (.iad 1 (.t 26) (.t 27)),zl 29 1 28,zm 9 29] [1,2,6,7,8,9])
 (.seq (zr [zn 10 (.mov (zi 0))] [1,2,6,7,8,9,10])
 (.blk 2 (zj3)))))
 (zr [zm 23 8,zn 24 (.bin .add (.t 23) (zi 1)),zm 8 24] [1,2,6,7,8]))
def zji:IR:=.loop zhr
theorem zov:zE zji zhr:=zal
def zrf:IR:=.seq (zr [zn 2 (.box (.t 0)),zn 4 (.mov (.c (.nsl 2))),zn 5 (.mov (zi 0))] [1,2])
 (.seq (.seq (zr [zL 11 6 2,zm 12 1,zn 13 (.bsf (.int .i64 0) 1 [(0,(zi 2))]),zn 14 (.call zaQ [(.t 11),(.t 12),(.t 13)]),zn 15 (.un .not (.t 14))] [1,2,15])
 (.cond (.t 15) (.seq (zr [zn 4 (.mov (.c (.nsl 2))),zn 5 (.mov (zi 1))] [4,5])
 (.ret)) (.skip)))
 (.seq (zr [zm 16 1,zn 17 (.call zcs [(.t 16)]),zm 6 17] [1,2,6])
 (.seq (zr [zL 18 6 2,zm 19 6,zn 20 (.call zc4 [(.t 18),(.t 19)]),zm 7 20] [1,2,6,7])
 (.seq (.seq (zr [zn 8 (.mov (zi 0))] [1,2,6,7,8])
 (.blk 0 (zji)))
 (.seq (zr [zm 68 1,zm 69 7,zn 70 (.cx za9 [(.t 68),(.t 69)]),zm 4 70,zn 5 (.mov (zi 0))] [4,5])
 (.ret))))))
def znd:F:=⟨zrf,[(4,none),(5,none)],false⟩
def zhp:IR:=.seq (.seq (zr [zm 47 13,zm 48 8,zn 49 (.len (.t 48)),zn 50 (.bin .lss (.t 47) (.t 49))] [1,2,6,7,8,9,10,11,12,13,50])
 (.cond (.t 50) (.skip) (.ext 2)))
 (.seq (.blk 3 (.dq [(zm 53 12,[]),(zm 54 53,[0]),(zf 55 54 (.fad 5 (.t 2)),[0,1]),(zf 56 54 (.ld false 1 (.t 55)),[0,1,2]),(zF 57 54 7,[0,1]),(zF 58 54 11,[0,1]),(zf 59 54 (.iad 1 (.t 57) (.t 58)),[0,1,4,5]),(zf 60 54 (.ld false 1 (.t 59)),[0,1,4,5,6]),(zF 61 54 8,[0,1]),(zF 62 54 13,[0,1]),(zf 63 54 (.iad 1 (.t 61) (.t 62)),[0,1,8,9]),(zf 64 54 (.ld false 1 (.t 63)),[0,1,8,9,10]),(zf 65 54 (.call zlL [(.t 56),(.t 60),(.t 64)]),[0,1,2,3,4,5,6,7,8,9,10,11]),(zq 66 54 65,[0,1,2,3,4,5,6,7,8,9,10,11,12]),(zm 12 66,[0,1,2,3,4,5,6,7,8,9,10,11,12,13])] (some [1,2,6,7,8,9,10,11,12,13])))
 (zr [zm 51 13,zn 52 (.bin .add (.t 51) (zi 1)),zm 13 52] [1,2,6,7,8,9,10,11,12,13]))
def zjw:IR:=.loop zhp
theorem zoO:zE zjw zhp:=zal
def zeS:IR:=.seq (.seq (zr [zm 41 11,zm 42 7,zn 43 (.len (.t 42)),zn 44 (.bin .lss (.t 41) (.t 43))] [1,2,6,7,8,9,10,11,44])
 (.cond (.t 44) (.skip) (.ext 0)))
 (.seq (.blk 1 (.seq (zr [zn 12 (.mov (zb false))] [1,2,6,7,8,9,10,11,12])
 (.seq (.seq (zr [zn 13 (.mov (zi 0))] [1,2,6,7,8,9,10,11,12,13])
 (.blk 2 (zjw)))
 (.seq (zr [zm 67 12] [1,2,6,7,8,9,10,11,67])
 (.cond (.t 67) (zr [zm 68 9,zm 69 7,zm 70 11,zn 71 (.iad 1 (.t 69) (.t 70)),zl 72 1 71,zn 73 (.bsf (.int .i64 0) 1 [(0,(.t 72))]),zn 74 (.app 1 8 (.t 68) (.t 73)),zm 9 74] [1,2,6,7,8,9,10,11]) (.skip))))))
 (zr [zm 45 11,zn 46 (.bin .add (.t 45) (zi 1)),zm 11 46] [1,2,6,7,8,9,10,11]))
def zjU:IR:=.loop zeS
theorem zk0:zE zjU zeS:=zal
def zhj:IR:=.seq (.seq (zr [zm 81 16,zm 82 7,zn 83 (.len (.t 82)),zn 84 (.bin .lss (.t 81) (.t 83))] [1,2,6,7,8,9,10,14,15,16,84])
 (.cond (.t 84) (.skip) (.ext 6)))
 (.seq (.blk 7 (.dq [(zm 87 15,[]),(zm 88 87,[0]),(zf 89 88 (.fad 5 (.t 2)),[0,1]),(zf 90 88 (.ld false 1 (.t 89)),[0,1,2]),(zF 91 88 7,[0,1]),(zF 92 88 16,[0,1]),(zf 93 88 (.iad 1 (.t 91) (.t 92)),[0,1,4,5]),(zf 94 88 (.ld false 1 (.t 93)),[0,1,4,5,6]),(zF 95 88 8,[0,1]),(zF 96 88 14,[0,1]),(zf 97 88 (.iad 1 (.t 95) (.t 96)),[0,1,8,9]),(zf 98 88 (.ld false 1 (.t 97)),[0,1,8,9,10]),(zf 99 88 (.call zlL [(.t 90),(.t 94),(.t 98)]),[0,1,2,3,4,5,6,7,8,9,10,11]),(zq 100 88 99,[0,1,2,3,4,5,6,7,8,9,10,11,12]),(zm 15 100,[0,1,2,3,4,5,6,7,8,9,10,11,12,13])] (some [1,2,6,7,8,9,10,14,15,16])))
 (zr [zm 85 16,zn 86 (.bin .add (.t 85) (zi 1)),zm 16 86] [1,2,6,7,8,9,10,14,15,16]))
def zj0:IR:=.loop zhj
theorem zoD:zE zj0 zhj:=zal
def zeP:IR:=.seq (.seq (zr [zm 75 14,zm 76 8,zn 77 (.len (.t 76)),zn 78 (.bin .lss (.t 75) (.t 77))] [1,2,6,7,8,9,10,14,78])
 (.cond (.t 78) (.skip) (.ext 4)))
 (.seq (.blk 5 (.seq (zr [zn 15 (.mov (zb false))] [1,2,6,7,8,9,10,14,15])
 (.seq (.seq (zr [zn 16 (.mov (zi 0))] [1,2,6,7,8,9,10,14,15,16])
 (.blk 6 (zj0)))
 (.seq (zr [zm 101 15] [1,2,6,7,8,9,10,14,101])
 (.cond (.t 101) (zr [zm 102 10,zm 103 8,zm 104 14,zn 105 (.iad 1 (.t 103) (.t 104)),zl 106 1 105,zn 107 (.bsf (.int .i64 0) 1 [(0,(.t 106))]),zn 108 (.app 1 8 (.t 102) (.t 107)),zm 10 108] [1,2,6,7,8,9,10,14]) (.skip))))))
 (zr [zm 79 14,zn 80 (.bin .add (.t 79) (zi 1)),zm 14 80] [1,2,6,7,8,9,10,14]))
def zjO:IR:=.loop zeP
theorem zli:zE zjO zeP:=zal
def zrn:IR:=.seq (zr [zn 2 (.box (.t 0)),zn 4 (.mov (.c (.nsl 2))),zn 5 (.mov (zi 0))] [1,2])
 (.seq (.seq (zr [zL 18 6 2,zm 19 1,zn 20 (.bsf (.int .i64 0) 1 [(0,(zi 4))]),zn 21 (.call zaQ [(.t 18),(.t 19),(.t 20)]),zn 22 (.un .not (.t 21))] [1,2,22])
 (.cond (.t 22) (.seq (zr [zn 4 (.mov (.c (.nsl 2))),zn 5 (.mov (zi 1))] [4,5])
 (.ret)) (.skip)))
 (.seq (zr [zm 23 1,zn 24 (.call zcs [(.t 23)]),zm 6 24] [1,2,6])
 (.seq (zr [zm 25 6,zn 26 (.fad 1 (.t 2)),zl 27 1 26,zn 28 (.iad 1 (.t 27) (zi 0)),zl 29 1 28,zn 30 (.iad 1 (.t 25) (.t 29)),zl 31 1 30,zm 7 31] [1,2,6,7])
 (.seq (zr [zm 32 6,zn 33 (.fad 1 (.t 2)),zl 34 1 33,zn 35 (.iad 1 (.t 34) (zi 1)),zl 36 1 35,zn 37 (.iad 1 (.t 32) (.t 36)),zl 38 1 37,zm 8 38] [1,2,6,7,8])
 (.seq (zr [zn 39 (.bsl (.int .i64 0) 0 []),zm 9 39] [1,2,6,7,8,9])
 (.seq (zr [zn 40 (.bsl (.int .i64 0) 0 []),zm 10 40] [1,2,6,7,8,9,10])
 (.seq (.seq (zr [zn 11 (.mov (zi 0))] [1,2,6,7,8,9,10,11])
 (.blk 0 (zjU)))
 (.seq (.seq (zr [zn 14 (.mov (zi 0))] [1,2,6,7,8,9,10,14])
 (.blk 4 (zjO)))
 (.seq (zr [zn 109 (.bsl (.nsl 1) 0 []),zm 110 6,zn 111 (.app 1 24 (.t 109) (.t 110)),zm 17 111] [1,2,9,10,17])
 (.seq (zr [zm 112 17,zn 113 (.fad 1 (.t 2)),zl 114 1 113,zn 115 (.iad 1 (.t 114) (zi 0)),zl 116 1 115,zm 117 9,zn 118 (.iad 1 (.t 112) (.t 116)),⟨none,none,.st 1 (.t 118) (.t 117)⟩] [1,2,10,17])
 (.seq (zr [zm 119 17,zn 120 (.fad 1 (.t 2)),zl 121 1 120,zn 122 (.iad 1 (.t 121) (zi 1)),zl 123 1 122,zm 124 10,zn 125 (.iad 1 (.t 119) (.t 123)),⟨none,none,.st 1 (.t 125) (.t 124)⟩] [1,17])
 (.seq (zr [zm 126 1,zm 127 17,zn 128 (.cx za9 [(.t 126),(.t 127)]),zm 4 128,zn 5 (.mov (zi 0))] [4,5])
 (.ret)))))))))))))
def zno:F:=⟨zrn,[(4,none),(5,none)],false⟩
def zeQ:IR:=.seq (.seq (zr [zm 36 10,zm 37 6,zn 38 (.fad 1 (.t 2)),zl 39 1 38,zm 40 9,zn 41 (.iad 1 (.t 39) (.t 40)),zl 42 1 41,zn 43 (.iad 1 (.t 37) (.t 42)),zl 44 1 43,zn 45 (.len (.t 44)),zn 46 (.bin .lss (.t 36) (.t 45))] [1,2,6,7,8,9,10,46])
 (.cond (.t 46) (.skip) (.ext 2)))
 (.seq (.blk 3 (.seq (zr [zm 49 6,zn 50 (.fad 1 (.t 2)),zl 51 1 50,zm 52 9,zn 53 (.iad 1 (.t 51) (.t 52)),zl 54 1 53,zn 55 (.iad 1 (.t 49) (.t 54)),zl 56 1 55,zm 57 10,zn 58 (.iad 1 (.t 56) (.t 57)),zl 59 1 58,zm 11 59] [1,2,6,7,8,9,10,11])
 (.seq (zr [zm 60 8,zm 61 11,zm 62 11,zn 63 (.call zd4 [(.t 60),(.t 61),(.t 62)]),zn 64 (.len (.t 63)),zn 65 (.bin .eql (.t 64) (zi 0))] [1,2,6,7,8,9,10,11,65])
 (.cond (.t 65) (zr [zm 66 8,zm 67 11,zn 68 (.bsf (.int .i64 0) 1 [(0,(.t 67))]),zn 69 (.app 1 8 (.t 66) (.t 68)),zm 8 69] [1,2,6,7,8,9,10]) (.skip)))))
 (zr [zm 47 10,zn 48 (.bin .add (.t 47) (zi 1)),zm 10 48] [1,2,6,7,8,9,10]))
def zjy:IR:=.loop zeQ
theorem zlm:zE zjy zeQ:=zal
def zhh:IR:=.seq (.seq (zr [zm 29 9,zn 30 (.fad 1 (.t 2)),zl 31 1 30,zn 32 (.len (.t 31)),zn 33 (.bin .lss (.t 29) (.t 32))] [1,2,6,7,8,9,33])
 (.cond (.t 33) (.skip) (.ext 0)))
 (.seq (.blk 1 (.seq (zr [zn 10 (.mov (zi 0))] [1,2,6,7,8,9,10])
 (.blk 2 (zjy))))
 (zr [zm 34 9,zn 35 (.bin .add (.t 34) (zi 1)),zm 9 35] [1,2,6,7,8,9]))
def zjQ:IR:=.loop zhh
theorem zoH:zE zjQ zhh:=zal
def zdt:IR:=.seq (.seq (zr [zm 94 14,zn 95 (.fad 1 (.t 2)),zl 96 1 95,zn 97 (.len (.t 96)),zn 98 (.bin .lss (.t 94) (.t 97))] [1,2,6,12,13,14,98])
 (.cond (.t 98) (.skip) (.ext 6)))
 (.seq (.blk 7 (.seq (zr [zm 101 6,zn 102 (.fad 1 (.t 2)),zl 103 1 102,zm 104 14,zn 105 (.iad 1 (.t 103) (.t 104)),zl 106 1 105,zn 107 (.iad 1 (.t 101) (.t 106)),zl 108 1 107,zm 15 108] [1,2,6,12,13,14,15])
 (.seq (zr [zm 109 14,zm 110 13,zn 111 (.bin .neq (.t 109) (.t 110)),zm 112 111,zM 113 112 15,zg 114 112 (.len (.t 113)),zg 115 112 (.bin .eql (.t 114) (zi 1)),zp 116 112 115] [1,2,6,12,13,14,15,116])
 (.cond (.t 116) (.dq [(zm 117 12,[]),(zn 118 (.fad 1 (.t 2)),[]),(zl 119 1 118,[1]),(zm 120 13,[]),(zn 121 (.iad 1 (.t 119) (.t 120)),[1,2,3]),(zl 122 1 121,[1,2,3,4]),(zm 123 12,[]),(zn 124 (.fad 1 (.t 2)),[]),(zl 125 1 124,[7]),(zm 126 13,[]),(zn 127 (.iad 1 (.t 125) (.t 126)),[7,8,9]),(zl 128 1 127,[7,8,9,10]),(zn 129 (.iad 1 (.t 123) (.t 128)),[6,7,8,9,10,11]),(zl 130 1 129,[6,7,8,9,10,11,12]),(zm 131 15,[]),(zn 132 (.iad 1 (.t 131) (zi 0)),[14]),(zl 133 1 132,[14,15]),(zn 134 (.call zkz [(.t 130),(.t 133)]),[6,7,8,9,10,11,12,13,14,15,16]),(zn 135 (.iad 1 (.t 117) (.t 122)),[0,1,2,3,4,5,6,7,8,9,10,11,12,13,14,15,16,17]),(⟨none,none,.st 1 (.t 135) (.t 134)⟩,[0,1,2,3,4,5,6,7,8,9,10,11,12,13,14,15,16,17,18])] (some [1,2,6,12,13,14])) (.skip)))))
 (zr [zm 99 14,zn 100 (.bin .add (.t 99) (zi 1)),zm 14 100] [1,2,6,12,13,14]))
def zjl:IR:=.loop zdt
theorem zhc:zE zjl zdt:=zal
def zg5:IR:=.seq (.seq (zr [zm 87 13,zn 88 (.fad 1 (.t 2)),zl 89 1 88,zn 90 (.len (.t 89)),zn 91 (.bin .lss (.t 87) (.t 90))] [1,2,6,12,13,91])
 (.cond (.t 91) (.skip) (.ext 4)))
 (.seq (.blk 5 (.seq (zr [zn 14 (.mov (zi 0))] [1,2,6,12,13,14])
 (.blk 6 (zjl))))
 (zr [zm 92 13,zn 93 (.bin .add (.t 92) (zi 1)),zm 13 93] [1,2,6,12,13]))
def zi3:IR:=.loop zg5
theorem zoZ:zE zi3 zg5:=zal
def zkc:IR:=.seq (zr [zn 2 (.box (.t 0)),zn 4 (.mov (.c (.nsl 2))),zn 5 (.mov (zi 0))] [1,2])
 (.seq (.seq (zr [zL 16 6 2,zm 17 1,zn 18 (.bsf (.int .i64 0) 1 [(0,(zi 5))]),zn 19 (.call zaQ [(.t 16),(.t 17),(.t 18)]),zn 20 (.un .not (.t 19))] [1,2,20])
 (.cond (.t 20) (.seq (zr [zn 4 (.mov (.c (.nsl 2))),zn 5 (.mov (zi 1))] [4,5])
 (.ret)) (.skip)))
 (.seq (.dq [(zL 22 6 2,[]),(zm 23 1,[]),(zn 24 (.call zcs [(.t 23)]),[1]),(zn 25 (.call zf0 [(.t 22),(.t 24)]),[0,1,2]),(zm 21 25,[0,1,2,3]),(zn 26 (.ext (.t 21) 0),[0,1,2,3,4]),(zn 27 (.ext (.t 21) 1),[0,1,2,3,4]),(zm 6 26,[0,1,2,3,4,5]),(zm 7 27,[0,1,2,3,4,5,6,7])] (some [1,2,6,7]))
 (.seq (zr [zn 28 (.bsl (.int .i64 0) 0 []),zm 8 28] [1,2,6,7,8])
 (.seq (.seq (zr [zn 9 (.mov (zi 0))] [1,2,6,7,8,9])
 (.blk 0 (zjQ)))
 (.seq (.seq (zr [zm 70 7,zm 71 70,zF 72 71 8,zf 73 71 (.len (.t 72)),zf 74 71 (.fad 1 (.t 2)),zf 75 71 (.ld false 1 (.t 74)),zf 76 71 (.len (.t 75)),zf 77 71 (.bin .lss (.t 73) (.t 76)),zq 78 71 77] [1,2,6,78])
 (.cond (.t 78) (.seq (zr [zm 79 1,zL 80 6 2,zm 81 6,zn 82 (.call zc4 [(.t 80),(.t 81)]),zn 83 (.cx za9 [(.t 79),(.t 82)]),zm 4 83,zn 5 (.mov (zi 0))] [4,5])
 (.ret)) (.skip)))
 (.seq (zr [zn 84 (.bsl (.nsl 1) 0 []),zm 85 6,zn 86 (.app 1 24 (.t 84) (.t 85)),zm 12 86] [1,2,6,12])
 (.seq (.seq (zr [zn 13 (.mov (zi 0))] [1,2,6,12,13])
 (.blk 4 (zi3)))
 (.seq (zr [zm 136 1,zm 137 12,zn 138 (.cx za9 [(.t 136),(.t 137)]),zm 4 138,zn 5 (.mov (zi 0))] [4,5])
 (.ret)))))))))
def zhJ:F:=⟨zkc,[(4,none),(5,none)],false⟩
def zdr:IR:=.seq (.seq (zr [zm 46 13,zn 47 (.fad 5 (.t 2)),zl 48 1 47,zn 49 (.len (.t 48)),zn 50 (.bin .lss (.t 46) (.t 49))] [1,2,6,7,8,9,10,11,12,13,50])
 (.cond (.t 50) (.skip) (.ext 4)))
 (.seq (.blk 5 (.dq [(zm 54 12,[]),(zm 55 54,[0]),(zf 56 55 (.fad 5 (.t 2)),[0,1]),(zf 57 55 (.ld false 1 (.t 56)),[0,1,2]),(zF 58 55 13,[0,1]),(zF 59 55 9,[0,1]),(zf 60 55 (.bin .add (.t 58) (.t 59)),[0,1,4,5]),(zf 61 55 (.iad 1 (.t 57) (.t 60)),[0,1,2,3,4,5,6]),(zf 62 55 (.ld false 1 (.t 61)),[0,1,2,3,4,5,6,7]),(zF 63 55 6,[0,1]),(zF 64 55 10,[0,1]),(zf 65 55 (.iad 1 (.t 63) (.t 64)),[0,1,9,10]),(zf 66 55 (.ld false 1 (.t 65)),[0,1,9,10,11]),(zF 67 55 11,[0,1]),(zf 68 55 (.iad 1 (.t 66) (.t 67)),[0,1,9,10,11,12,13]),(zf 69 55 (.ld false 1 (.t 68)),[0,1,9,10,11,12,13,14]),(zf 70 55 (.bin .eql (.t 62) (.t 69)),[0,1,2,3,4,5,6,7,8,9,10,11,12,13,14,15]),(zF 71 55 70,[0,1,2,3,4,5,6,7,8,9,10,11,12,13,14,15,16]),(zg 72 71 (.ld true 6 (.t 2)),[0,1,2,3,4,5,6,7,8,9,10,11,12,13,14,15,16,17]),(zM 73 71 6,[0,1,2,3,4,5,6,7,8,9,10,11,12,13,14,15,16,17]),(zM 74 71 13,[0,1,2,3,4,5,6,7,8,9,10,11,12,13,14,15,16,17]),(zg 75 71 (.call ziH [(.t 72),(.t 73),(.t 74)]),[0,1,2,3,4,5,6,7,8,9,10,11,12,13,14,15,16,17,18,19,20]),(zf 76 55 (.pick (.t 71) (.t 75) (zb false)),[0,1,2,3,4,5,6,7,8,9,10,11,12,13,14,15,16,17,18,19,20,21]),(zq 77 55 76,[0,1,2,3,4,5,6,7,8,9,10,11,12,13,14,15,16,17,18,19,20,21,22]),(zm 12 77,[0,1,2,3,4,5,6,7,8,9,10,11,12,13,14,15,16,17,18,19,20,21,22,23])] (some [1,2,6,7,8,9,10,11,12,13])))
 (zr [zm 51 13,zm 52 8,zn 53 (.bin .add (.t 51) (.t 52)),zm 13 53] [1,2,6,7,8,9,10,11,12,13]))
def zi9:IR:=.loop zdr
theorem zo0:zE zi9 zdr:=zal
def ze4:IR:=.seq (.seq (zr [zm 37 11,zm 38 6,zm 39 10,zn 40 (.iad 1 (.t 38) (.t 39)),zl 41 1 40,zn 42 (.len (.t 41)),zn 43 (.bin .lss (.t 37) (.t 42))] [1,2,6,7,8,9,10,11,43])
 (.cond (.t 43) (.skip) (.ext 2)))
 (.seq (.blk 3 (.seq (zr [zn 12 (.mov (zb false))] [1,2,6,7,8,9,10,11,12])
 (.seq (.seq (zr [zn 13 (.mov (zi 0))] [1,2,6,7,8,9,10,11,12,13])
 (.blk 4 (zi9)))
 (.seq (zr [zm 78 12] [1,2,6,7,8,9,10,11,78])
 (.cond (.t 78) (.dc [(zm 79 7,[],false),(zm 80 10,[],false),(zn 81 (.bsl (.int .i64 0) 0 []),[],true),(zm 82 7,[],false),(zm 83 10,[],false),(zn 84 (.iad 1 (.t 82) (.t 83)),[3,4],false),(zl 85 1 84,[3,4,5],false),(zn 86 (.app 1 8 (.t 81) (.t 85)),[2,3,4,5,6],true),(zm 87 6,[],false),(zm 88 10,[],false),(zn 89 (.iad 1 (.t 87) (.t 88)),[8,9],false),(zl 90 1 89,[8,9,10],false),(zm 91 11,[],false),(zn 92 (.iad 1 (.t 90) (.t 91)),[8,9,10,11,12],false),(zl 93 1 92,[8,9,10,11,12,13],false),(zn 94 (.bsf (.int .i64 0) 1 [(0,(.t 93))]),[8,9,10,11,12,13,14],false),(zn 95 (.app 1 8 (.t 86) (.t 94)),[2,3,4,5,6,7,8,9,10,11,12,13,14,15],true),(zn 96 (.iad 1 (.t 79) (.t 80)),[0,1,2,3,4,5,6,7,8,9,10,11,12,13,14,15,16],false),(⟨none,none,.st 1 (.t 96) (.t 95)⟩,[0,1,2,3,4,5,6,7,8,9,10,11,12,13,14,15,16,17],true)] (some [1,2,6,7,8,9,10,11])) (.skip))))))
 (zr [zm 44 11,zn 45 (.bin .add (.t 44) (zi 1)),zm 11 45] [1,2,6,7,8,9,10,11]))
def zj2:IR:=.loop ze4
theorem zkZ:zE zj2 ze4:=zal
def zhm:IR:=.seq (.seq (zr [zm 27 9,zm 28 8,zn 29 (.bin .lss (.t 27) (.t 28))] [1,2,6,7,8,9,29])
 (.cond (.t 29) (.skip) (.ext 0)))
 (.seq (.blk 1 (.seq (zr [zn 32 (.fad 1 (.t 2)),zl 33 1 32,zm 34 9,zn 35 (.iad 1 (.t 33) (.t 34)),zl 36 1 35,zm 10 36] [1,2,6,7,8,9,10])
 (.seq (zr [zn 11 (.mov (zi 0))] [1,2,6,7,8,9,10,11])
 (.blk 2 (zj2)))))
 (zr [zm 30 9,zn 31 (.bin .add (.t 30) (zi 1)),zm 9 31] [1,2,6,7,8,9]))
def zjs:IR:=.loop zhm
theorem zou:zE zjs zhm:=zal
def zq9:IR:=.seq (zr [zn 2 (.box (.t 0)),zn 4 (.mov (.c (.nsl 2))),zn 5 (.mov (zi 0))] [1,2])
 (.seq (.seq (zr [zL 14 6 2,zm 15 1,zn 16 (.bsf (.int .i64 0) 1 [(0,(zi 6))]),zn 17 (.call zaQ [(.t 14),(.t 15),(.t 16)]),zn 18 (.un .not (.t 17))] [1,2,18])
 (.cond (.t 18) (.seq (zr [zn 4 (.mov (.c (.nsl 2))),zn 5 (.mov (zi 1))] [4,5])
 (.ret)) (.skip)))
 (.seq (zr [zm 19 1,zn 20 (.call zcs [(.t 19)]),zm 6 20] [1,2,6])
 (.seq (zr [zL 21 6 2,zm 22 6,zn 23 (.call zc4 [(.t 21),(.t 22)]),zm 7 23] [1,2,6,7])
 (.seq (zr [zn 24 (.fad 1 (.t 2)),zl 25 1 24,zn 26 (.len (.t 25)),zm 8 26] [1,2,6,7,8])
 (.seq (.seq (zr [zn 9 (.mov (zi 0))] [1,2,6,7,8,9])
 (.blk 0 (zjs)))
 (.seq (zr [zm 97 1,zm 98 7,zn 99 (.cx za9 [(.t 97),(.t 98)]),zm 4 99,zn 5 (.mov (zi 0))] [4,5])
 (.ret)))))))
def zmW:F:=⟨zq9,[(4,none),(5,none)],false⟩
def znF:IR:=.seq (zr [zn 1 (.box (.t 0)),zn 2 (.mov (zb false))] [1])
 (.seq (zr [zL 3 2 1,zn 4 (.call zcl [(.t 3)]),zn 5 (.un .not (.t 4)),zm 2 5] [2])
 (.ret))
def zje:F:=⟨znF,[(2,none)],false⟩
def zhL:IR:=.seq (zr [zn 4 (.mov (zb false))] [0,1])
 (.seq (zr [zm 5 0,zm 6 1,zn 7 (.call zaH [(.t 5),(.t 6)]),zn 8 (.bin .geq (.t 7) (zi 0)),zm 4 8] [4])
 (.ret))
def zc1:F:=⟨zhL,[(4,none)],false⟩
def znk:IR:=.seq (zr [zn 3 (.mov (zb false))] [0,1])
 (.seq (zr [zl 4 1 1,zm 5 0,zn 6 (.iad 2 (.t 4) (.t 5)),zL 7 2 6,zn 8 (.call zgW [(.t 7)]),zn 9 (.bin .eql (.t 8) (zi 0)),zm 3 9] [3])
 (.ret))
def zjN:F:=⟨znk,[(3,none)],false⟩
def zf4:IR:=.seq (zr [zn 10 (.bin .lss (.t 9) (.t 8))] [1,7,8,9,10])
 (.seq (.cond (.t 10) (.skip) (.ext 0))
 (.seq (.blk 1 (.seq (zr [zn 11 (.iad 1 (.t 7) (.t 9)),zl 12 1 11,zm 5 12] [1,5,7,8,9])
 (zr [zm 13 1,zm 14 5,zm 15 1,zm 16 5,zn 17 (.iad 2 (.t 15) (.t 16)),zL 18 2 17,zn 19 (.call zco [(.t 18),(.c (.fn (.func zdR) [] []))]),zn 20 (.iad 2 (.t 13) (.t 14)),⟨none,none,.st 2 (.t 20) (.t 19)⟩] [1,7,8,9])))
 (zr [zn 21 (.bin .add (.t 9) (zi 1)),zm 9 21] [1,7,8,9])))
def zh1:IR:=.loop zf4
theorem zm3:zE zh1 zf4:=zal
def zqm:IR:=.seq (zr [zn 2 (.box (.t 0))] [1,2])
 (.seq (zr [zn 6 (.fad 1 (.t 2)),zl 7 1 6,zn 8 (.len (.t 7)),zn 9 (.mov (zi 0))] [1,7,8,9])
 (.blk 0 (zh1)))
def zl4:F:=⟨zqm,[],true⟩
def zg9:IR:=.seq (zr [zn 21 (.bin .lss (.t 20) (.t 19))] [3,4,5,7,10,18,19,20,21])
 (.seq (.cond (.t 21) (.skip) (.ext 0))
 (.seq (.blk 1 (.seq (zr [zm 22 20,zn 23 (.iad 1 (.t 18) (.t 20)),zl 24 1 23,zn 11 (.new (.int .i64 0)),⟨none,none,.st 1 (.t 11) (.t 22)⟩,zm 12 24] [3,4,5,7,10,11,12,18,19,20])
 (.seq (.dc [(zL 25 2 10,[],false),(zn 26 (.fad 2 (.t 5)),[],false),(zl 27 1 26,[1],false),(zl 28 1 11,[],false),(zn 29 (.iad 1 (.t 27) (.t 28)),[1,2,3],false),(zl 30 1 29,[1,2,3,4],false),(zm 31 3,[],false),(zm 32 12,[],false),(zn 33 (.iad 2 (.t 31) (.t 32)),[6,7],false),(zL 34 2 33,[6,7,8],false),(zn 35 (.call zcj [(.t 25),(.t 30),(.t 34),(zi (-1))]),[0,1,2,3,4,5,6,7,8,9],false),(zn 13 (.new (.agg [.int .i64 0,.int .i64 0])),[],true),(⟨none,none,.st 2 (.t 13) (.t 35)⟩,[0,1,2,3,4,5,6,7,8,9,10,11],true)] (some [3,4,5,7,10,11,12,13,18,19,20]))
 (zr [zm 36 4,zm 37 12,zm 38 3,zm 39 12,zn 40 (.iad 2 (.t 38) (.t 39)),zL 41 2 40,zn 42 (.mkf (.func zdA) [] [(.t 5),(.t 11),(.t 13),(.t 7)]),zn 43 (.call zco [(.t 41),(.t 42)]),zn 44 (.iad 2 (.t 36) (.t 37)),⟨none,none,.st 2 (.t 44) (.t 43)⟩] [3,4,5,7,10,18,19,20]))))
 (zr [zn 45 (.bin .add (.t 20) (zi 1)),zm 20 45] [3,4,5,7,10,18,19,20])))
def zjv:IR:=.loop zg9
theorem zoL:zE zjv zg9:=zal
def zrc:IR:=.seq (zr [zn 5 (.box (.t 0)),zn 7 (.box (.t 2))] [1,3,4,5,7])
 (.seq (zr [zL 14 6 5,zm 15 1,zm 16 3,zn 17 (.call zeC [(.t 14),(.t 15),(.t 16)]),zn 10 (.new (.agg [.int .i64 0,.int .i64 0])),⟨none,none,.st 2 (.t 10) (.t 17)⟩] [1,3,4,5,7,10])
 (.seq (zr [zm 18 1,zn 19 (.len (.t 18)),zn 20 (.mov (zi 0))] [3,4,5,7,10,18,19,20])
 (.blk 0 (zjv))))
def zm8:F:=⟨zrc,[],true⟩
def zhH:IR:=.seq (zr [zn 3 (.box (.t 0))] [1,2,3])
 (.seq (.dq [(zn 11 (.fad 1 (.t 3)),[]),(zl 12 1 11,[0]),(zn 13 (.iad 1 (.t 12) (zi 0)),[0,1]),(zl 14 1 13,[0,1,2]),(zn 15 (.fad 1 (.t 3)),[]),(zl 16 1 15,[4]),(zn 17 (.sll 1 (.t 16) (some (zi 1)) none none),[4,5]),(zm 6 14,[0,1,2,3]),(zm 7 17,[0,1,2,3,4,5,6,7])] (some [1,2,3,6,7]))
 (.seq (.dq [(zm 18 1,[]),(zm 19 6,[]),(zn 20 (.iad 2 (.t 18) (.t 19)),[0,1]),(zL 21 2 20,[0,1,2]),(zn 22 (.call zjB [(.t 21),(zi 1)]),[0,1,2,3]),(zm 23 1,[]),(zm 24 6,[]),(zn 25 (.iad 2 (.t 23) (.t 24)),[5,6]),(zL 26 2 25,[5,6,7]),(zn 27 (.call zjB [(.t 26),(zi 0)]),[0,1,2,3,4,5,6,7,8]),(zm 8 22,[0,1,2,3,4,5,6,7,8,9]),(zm 9 27,[0,1,2,3,4,5,6,7,8,9,10])] (some [1,2,3,6,7,8,9]))
 (.seq (.blk 0 (.seq (zr [zm 29 8,zn 30 (.un .not (.t 29)),zm 31 30,zM 32 31 9,zg 33 31 (.un .not (.t 32)),zp 34 31 33,zm 28 34] [1,2,3,6,7,8,9,28])
 (.cond (.t 28) (.seq (zr [zL 35 6 3,zm 36 2,zn 37 (.call zf2 [(.t 35),(.t 36)])] [])
 (.ret)) (.seq (zr [zm 39 8,zm 40 39,zM 41 40 9,zg 42 40 (.un .not (.t 41)),zp 43 40 42,zm 38 43] [1,2,3,6,7,8,9,38])
 (.cond (.t 38) (zr [zL 44 6 3,zm 45 7,zn 46 (.fad 3 (.t 3)),zl 47 1 46,zm 48 1,zm 49 2,zn 50 (.call zfv [(.t 44),(.t 45),(.t 47),(.t 48),(.t 49)])] [1,2,3,6,7]) (.seq (zr [zm 52 9,zm 53 52,zM 54 53 8,zg 55 53 (.un .not (.t 54)),zp 56 53 55,zm 51 56] [1,2,3,6,7,51])
 (.cond (.t 51) (.dc [(zL 57 6 3,[],false),(zm 58 7,[],false),(zn 59 (.fad 3 (.t 3)),[],false),(zl 60 1 59,[2],false),(zn 61 (.call zcT [(.t 60)]),[2,3],false),(zm 62 1,[],false),(zm 63 2,[],false),(zn 64 (.call zfv [(.t 57),(.t 58),(.t 61),(.t 62),(.t 63)]),[0,1,2,3,4,5,6],true)] (some [1,2,3,6,7])) (.skip))))))))
 (.seq (zr [zL 65 6 3,zm 66 7,zm 67 1,zn 68 (.call zeC [(.t 65),(.t 66),(.t 67)]),zn 10 (.new (.agg [.int .i64 0,.int .i64 0])),⟨none,none,.st 2 (.t 10) (.t 68)⟩] [1,2,3,6,10])
 (zr [zm 69 2,zm 70 6,zm 71 1,zm 72 6,zn 73 (.iad 2 (.t 71) (.t 72)),zL 74 2 73,zn 75 (.mkf (.func zdB) [] [(.t 10),(.t 3)]),zn 76 (.call zco [(.t 74),(.t 75)]),zn 77 (.iad 2 (.t 69) (.t 70)),⟨none,none,.st 2 (.t 77) (.t 76)⟩] [])))))
def zfs:F:=⟨zhH,[],true⟩
def zmx:IR:=.seq (zr [zn 1 (.box (.t 0)),zn 2 (.mov (zb false))] [1])
 (.seq (zr [zL 3 2 1,zn 4 (.call zcl [(.t 3)]),zn 5 (.un .not (.t 4)),zm 2 5] [2])
 (.ret))
def zim:F:=⟨zmx,[(2,none)],false⟩
def zec:IR:=.seq (zr [zn 27 (.bin .lss (.t 26) (.t 25))] [1,2,6,7,9,18,19,20,24,25,26,27])
 (.seq (.cond (.t 27) (.skip) (.ext 2))
 (.seq (.blk 3 (.seq (zr [zn 28 (.iad 1 (.t 24) (.t 26)),zl 29 1 28,zm 11 29] [1,2,6,7,9,11,18,19,20,24,25,26])
 (.seq (.seq (zr [zm 31 2,zm 32 9,zm 33 11,zn 34 (.bin .mul (.t 32) (.t 33)),zn 35 (.call za1 [(.t 31),(.t 34)]),zm 30 35,zn 36 (.ext (.t 30) 0),zn 37 (.ext (.t 30) 1),zm 12 36,zm 13 37] [1,2,6,7,9,11,13,18,19,20,24,25,26])
 (.seq (zr [zm 38 13,zn 39 (.un .not (.t 38))] [1,2,6,7,9,11,18,19,20,24,25,26,39])
 (.cond (.t 39) (.ext 3) (.skip))))
 (.dc [(zn 40 (.op (.iaa 3 1) [(.t 7),(zi 0)]),[],false),(zl 41 1 40,[0],false),(zm 42 9,[],false),(zn 43 (.op (.iaa 3 1) [(.t 7),(zi 1)]),[],false),(zl 44 1 43,[3],false),(zm 45 11,[],false),(zn 46 (.op (.iaa 3 1) [(.t 7),(zi 2)]),[],false),(zl 47 1 46,[6],false),(zm 48 9,[],false),(zm 49 11,[],false),(zn 50 (.bin .mul (.t 48) (.t 49)),[8,9],false),(⟨none,none,.op (.mpu (some .i64)) [(.t 41),(.t 42),(zi 1)]⟩,[0,1,2],true),(⟨none,none,.op (.mpu (some .i64)) [(.t 44),(.t 45),(zi 1)]⟩,[0,1,2,3,4,5,11],true),(⟨none,none,.op (.mpu (some .i64)) [(.t 47),(.t 50),(zi 1)]⟩,[0,1,2,3,4,5,6,7,8,9,10,11,12],true)] (some [1,2,6,7,9,18,19,20,24,25,26])))))
 (zr [zn 51 (.bin .add (.t 26) (zi 1)),zm 26 51] [1,2,6,7,9,18,19,20,24,25,26])))
def zik:IR:=.loop zec
theorem zjZ:zE zik zec:=zal
def zfS:IR:=.seq (zr [zn 21 (.bin .lss (.t 20) (.t 19))] [1,2,6,7,18,19,20,21])
 (.seq (.cond (.t 21) (.skip) (.ext 0))
 (.seq (.blk 1 (.seq (zr [zn 22 (.iad 1 (.t 18) (.t 20)),zl 23 1 22,zm 9 23] [1,2,6,7,9,18,19,20])
 (.scg (.seq (.lab 0)
 (.seq (zr [zm 24 1,zn 25 (.len (.t 24)),zn 26 (.mov (zi 0))] [1,2,6,7,9,18,19,20,24,25,26])
 (.blk 2 (zik)))))))
 (zr [zn 52 (.bin .add (.t 20) (zi 1)),zm 20 52] [1,2,6,7,18,19,20])))
def zhU:IR:=.loop zfS
theorem zmY:zE zhU zfS:=zal
def zpV:IR:=.seq (zr [zn 6 (.new (.agg [.nmp,.nmp,.nmp]))] [0,1,2,6])
 (.seq (zr [zn 14 (.op .mkm []),zn 15 (.op .mkm []),zn 16 (.op .mkm []),zn 17 (.bld [.nmp,.nmp,.nmp] [(0,1,(.t 14)),(1,1,(.t 15)),(2,1,(.t 16))]),zn 7 (.new (.agg [.nmp,.nmp,.nmp])),⟨none,none,.st 3 (.t 7) (.t 17)⟩] [0,1,2,6,7])
 (.seq (.seq (zr [zm 18 0,zn 19 (.len (.t 18)),zn 20 (.mov (zi 0))] [1,2,6,7,18,19,20])
 (.blk 0 (zhU)))
 (.seq (zr [zL 53 3 7,⟨none,none,.st 3 (.t 6) (.t 53)⟩] [6])
 (.ret))))
def zlS:F:=⟨zpV,[(6,some (true,3))],true⟩
def zt2:IR:=.seq (zr [zn 1 (.box (.t 0)),zn 2 (.mov (.c (.nsl 1)))] [1])
 (.seq (zr [zL 3 2 1,zn 4 (.call ze8 [(.t 3),(.c (.fn (.func zfz) [] []))]),zm 2 4] [2])
 (.ret))
def zqH:F:=⟨zt2,[(2,none)],false⟩
def zt8:IR:=.seq (zr [zn 2 (.box (.t 0)),zn 3 (.box (.t 1)),zn 4 (.new (.agg [.nsl 1,.int .u64 0]))] [2,3,4])
 (.seq (zr [zL 5 2 2,zn 6 (.mkf (.func zhT) [] [(.t 3)]),zn 7 (.call zol [(.t 5),(.t 6)]),⟨none,none,.st 2 (.t 4) (.t 7)⟩] [4])
 (.ret))
def zqu:F:=⟨zt8,[(4,some (true,2))],false⟩
def zmw:IR:=.seq (zr [zn 1 (.box (.t 0)),zn 2 (.mov (zb false))] [1])
 (.seq (zr [zL 3 2 1,zn 4 (.call zcl [(.t 3)]),zn 5 (.un .not (.t 4)),zm 2 5] [2])
 (.ret))
def zid:F:=⟨zmw,[(2,none)],false⟩
def zdn:IR:=.seq (zr [zn 11 (.bin .lss (.t 10) (.t 9))] [1,2,4,8,9,10,11])
 (.seq (.cond (.t 11) (.skip) (.ext 0))
 (.seq (.blk 1 (.seq (zr [zn 12 (.iad 1 (.t 8) (.t 10)),zl 13 1 12,zm 6 13] [1,2,4,6,8,9,10])
 (.seq (zr [zm 14 1,zm 15 6,zn 16 (.callv (.t 14) [(.t 15)]),zn 17 (.un .not (.t 16))] [1,2,4,6,8,9,10,17])
 (.cond (.t 17) (zr [zL 18 2 2,zm 19 6,zn 20 (.call zfB [(.t 18),(.t 19)]),⟨none,none,.st 2 (.t 2) (.t 20)⟩] [1,2,4,8,9,10]) (.skip)))))
 (zr [zn 21 (.bin .add (.t 10) (zi 1)),zm 10 21] [1,2,4,8,9,10])))
def zgJ:IR:=.loop zdn
theorem zms:zE zgJ zdn:=zal
def zoy:IR:=.seq (zr [zn 2 (.box (.t 0)),zn 4 (.new (.agg [.nsl 1,.int .u64 0]))] [1,2,4])
 (.seq (.seq (zr [zL 7 2 2,zn 8 (.call zbZ [(.t 7)]),zn 9 (.len (.t 8)),zn 10 (.mov (zi 0))] [1,2,4,8,9,10])
 (.blk 0 (zgJ)))
 (.seq (zr [zL 22 2 2,⟨none,none,.st 2 (.t 4) (.t 22)⟩] [4])
 (.ret)))
def zlf:F:=⟨zoy,[(4,some (true,2))],true⟩
def zdm:IR:=.seq (zr [zn 6 (.mov (zb false))] [0,1,2,3,4])
 (.seq (.dq [(zm 8 0,[]),(zn 9 (.bin .geq (.t 8) (zi 0)),[0]),(zm 10 9,[0,1]),(zM 11 10 0,[0,1,2]),(zg 12 10 (.fad 5 (.t 1)),[0,1,2]),(zg 13 10 (.ld false 1 (.t 12)),[0,1,2,4]),(zg 14 10 (.len (.t 13)),[0,1,2,4,5]),(zg 15 10 (.bin .lss (.t 11) (.t 14)),[0,1,2,3,4,5,6]),(zp 16 10 15,[0,1,2,3,4,5,6,7]),(zm 17 16,[0,1,2,3,4,5,6,7,8]),(zg 18 17 (.ld false 1 (.t 2)),[0,1,2,3,4,5,6,7,8,9]),(zg 19 17 (.ld false 1 (.t 3)),[0,1,2,3,4,5,6,7,8,9]),(zg 20 17 (.iad 2 (.t 18) (.t 19)),[0,1,2,3,4,5,6,7,8,9,10,11]),(zg 21 17 (.ld true 2 (.t 20)),[0,1,2,3,4,5,6,7,8,9,10,11,12]),(zg 22 17 (.fad 5 (.t 1)),[0,1,2,3,4,5,6,7,8,9]),(zg 23 17 (.ld false 1 (.t 22)),[0,1,2,3,4,5,6,7,8,9,14]),(zM 24 17 0,[0,1,2,3,4,5,6,7,8,9]),(zg 25 17 (.iad 1 (.t 23) (.t 24)),[0,1,2,3,4,5,6,7,8,9,14,15,16]),(zg 26 17 (.ld false 1 (.t 25)),[0,1,2,3,4,5,6,7,8,9,14,15,16,17]),(zg 27 17 (.call zjB [(.t 21),(.t 26)]),[0,1,2,3,4,5,6,7,8,9,10,11,12,13,14,15,16,17,18]),(zp 28 17 27,[0,1,2,3,4,5,6,7,8,9,10,11,12,13,14,15,16,17,18,19]),(zm 7 28,[0,1,2,3,4,5,6,7,8,9,10,11,12,13,14,15,16,17,18,19,20])] (some [0,1,4,7]))
 (.seq (.seq (zr [zm 29 7] [0,1,4,7,29])
 (.cond (.t 29) (.dq [(zl 30 1 4,[]),(zn 31 (.fad 5 (.t 1)),[]),(zl 32 1 31,[1]),(zm 33 0,[]),(zn 34 (.iad 1 (.t 32) (.t 33)),[1,2,3]),(zl 35 1 34,[1,2,3,4]),(zn 36 (.op (.lku (some .i64) (.int .i64 0) false) [(.t 30),(.t 35)]),[0,1,2,3,4,5]),(zn 37 (.bin .add (.t 36) (zi 1)),[0,1,2,3,4,5,6]),(⟨none,none,.op (.mpu (some .i64)) [(.t 30),(.t 35),(.t 37)]⟩,[0,1,2,3,4,5,6,7])] (some [7])) (.skip)))
 (.seq (zr [zm 38 7,zm 6 38] [6])
 (.ret))))
def zch:F:=⟨zdm,[(6,none)],true⟩
def zww:IR:=.seq (zr [zn 2 (.box (.t 0)),zn 4 (.mov (zb false))] [1,2])
 (.seq (zr [zL 5 2 2,zn 6 (.call zbZ [(.t 5)]),zm 7 1,zn 8 (.call zaz [(.t 6),(.t 7)]),zm 4 8] [4])
 (.ret))
def zsE:F:=⟨zww,[(4,none)],false⟩
def zmE:IR:=.seq (zr [zn 3 (.mov (zb false))] [0,1])
 (.seq (zr [zl 4 1 1,zm 5 0,zn 6 (.op (.lku (some .i64) (.int .i64 0) false) [(.t 4),(.t 5)]),zn 7 (.bin .gtr (.t 6) (zi 0)),zm 3 7] [3])
 (.ret))
def zif:F:=⟨zmE,[(3,none)],true⟩
def znn:IR:=.seq (zr [zn 1 (.box (.t 0)),zn 2 (.mov (zb false))] [1])
 (.seq (zr [zL 3 2 1,zn 4 (.call zcl [(.t 3)]),zn 5 (.un .not (.t 4)),zm 2 5] [2])
 (.ret))
def zju:F:=⟨znn,[(2,none)],false⟩
def zhd:IR:=.seq (zr [zn 31 (.bin .lss (.t 30) (.t 29))] [1,2,5,12,13,14,28,29,30,31])
 (.seq (.cond (.t 31) (.skip) (.ext 2))
 (.seq (.blk 3 (.seq (zr [zn 32 (.iad 1 (.t 28) (.t 30)),zl 33 1 32,zm 9 33] [1,2,5,9,12,13,14,28,29,30])
 (zr [zm 34 5,zm 35 9,zn 36 (.op (.lku (some .i64) (.int .i64 0) false) [(.t 34),(.t 35)]),zn 37 (.bin .add (.t 36) (zi 1)),⟨none,none,.op (.mpu (some .i64)) [(.t 34),(.t 35),(.t 37)]⟩] [1,2,5,12,13,14,28,29,30])))
 (zr [zn 38 (.bin .add (.t 30) (zi 1)),zm 30 38] [1,2,5,12,13,14,28,29,30])))
def zjX:IR:=.loop zhd
theorem zoC:zE zjX zhd:=zal
def zdw:IR:=.seq (zr [zn 15 (.bin .lss (.t 14) (.t 13))] [1,2,5,12,13,14,15])
 (.seq (.cond (.t 15) (.skip) (.ext 0))
 (.seq (.blk 1 (.seq (zr [zn 16 (.iad 1 (.t 12) (.t 14)),zl 17 1 16,zm 7 17] [1,2,5,7,12,13,14])
 (.seq (.seq (zr [zm 18 1,zm 19 7,zn 20 (.iad 2 (.t 18) (.t 19)),zL 21 2 20,zn 22 (.call zgW [(.t 21)]),zn 23 (.bin .eql (.t 22) (zi 0))] [1,2,5,7,12,13,14,23])
 (.cond (.t 23) (.seq (zr [zn 4 (.mov (zb true))] [4])
 (.ret)) (.skip)))
 (.seq (zr [zm 24 1,zm 25 7,zn 26 (.iad 2 (.t 24) (.t 25)),zL 27 2 26,zn 28 (.call zbZ [(.t 27)]),zn 29 (.len (.t 28)),zn 30 (.mov (zi 0))] [1,2,5,12,13,14,28,29,30])
 (.blk 2 (zjX))))))
 (zr [zn 39 (.bin .add (.t 14) (zi 1)),zm 14 39] [1,2,5,12,13,14])))
def zgv:IR:=.loop zdw
theorem zhb:zE zgv zdw:=zal
def zn0:IR:=.seq (zr [zn 2 (.box (.t 0)),zn 4 (.mov (zb false))] [1,2])
 (.seq (zr [zn 10 (.op .mkm []),zm 5 10] [1,2,5])
 (.seq (.seq (zr [zn 11 (.fad 1 (.t 2)),zl 12 1 11,zn 13 (.len (.t 12)),zn 14 (.mov (zi 0))] [1,2,5,12,13,14])
 (.blk 0 (zgv)))
 (.seq (zr [zm 40 5,zn 41 (.op .mln [(.t 40)]),zn 42 (.fad 1 (.t 2)),zl 43 1 42,zn 44 (.len (.t 43)),zn 45 (.bin .lss (.t 41) (.t 44)),zm 4 45] [4])
 (.ret))))
def zko:F:=⟨zn0,[(4,none)],false⟩
def zdN:IR:=.seq (zr [zn 11 (.bin .lss (.t 10) (.t 9))] [1,2,4,8,9,10,11])
 (.seq (.cond (.t 11) (.skip) (.ext 0))
 (.seq (.blk 1 (.seq (zr [zn 12 (.iad 1 (.t 8) (.t 10)),zl 13 1 12,zm 6 13] [1,2,4,6,8,9,10])
 (.seq (zr [zm 14 1,zm 15 6,zn 16 (.callv (.t 14) [(.t 15)]),zn 17 (.un .not (.t 16))] [1,2,4,6,8,9,10,17])
 (.cond (.t 17) (zr [zL 18 2 2,zm 19 6,zn 20 (.call zfB [(.t 18),(.t 19)]),⟨none,none,.st 2 (.t 2) (.t 20)⟩] [1,2,4,8,9,10]) (.skip)))))
 (zr [zn 21 (.bin .add (.t 10) (zi 1)),zm 10 21] [1,2,4,8,9,10])))
def zin:IR:=.loop zdN
theorem znS:zE zin zdN:=zal
def zpA:IR:=.seq (zr [zn 2 (.box (.t 0)),zn 4 (.new (.agg [.nsl 1,.int .u64 0]))] [1,2,4])
 (.seq (.seq (zr [zL 7 2 2,zn 8 (.call zbZ [(.t 7)]),zn 9 (.len (.t 8)),zn 10 (.mov (zi 0))] [1,2,4,8,9,10])
 (.blk 0 (zin)))
 (.seq (zr [zL 22 2 2,⟨none,none,.st 2 (.t 4) (.t 22)⟩] [4])
 (.ret)))
def zl9:F:=⟨zpA,[(4,some (true,2))],true⟩
def zjn:IR:=.seq (zr [zn 5 (.box (.t 0)),zn 6 (.mov (zb false))] [1,2,3,4,5])
 (.seq (zr [zl 7 1 1,zn 8 (.un .not (.t 7)),zm 9 8,zg 10 9 (.fad 1 (.t 2)),zg 11 9 (.ld false 1 (.t 10)),zg 12 9 (.mkf (.func zbW) [] [(.t 3),(.t 4),(.t 5)]),zg 13 9 (.call zan [(.t 11),(.t 12)]),zg 14 9 (.un .not (.t 13)),zp 15 9 14,zm 6 15] [6])
 (.ret))
def zf1:F:=⟨zjn,[(6,none)],false⟩
def zer:IR:=.seq (zr [zn 5 (.mov (zb false))] [0,1,2,3])
 (.seq (zr [zl 9 1 1,zm 10 0,zn 11 (.iad 2 (.t 9) (.t 10)),zL 12 2 11,zn 13 (.call zkx [(.t 12)]),zm 8 13,zn 14 (.ext (.t 8) 0),zn 15 (.ext (.t 8) 1),zm 6 14,zm 7 15] [0,2,3,6,7])
 (.seq (zr [zm 16 0,zl 17 1 2,zn 18 (.bin .neq (.t 16) (.t 17)),zm 19 18,zM 20 19 7,zp 21 19 20,zm 22 21,zM 23 22 6,zg 24 22 (.ld false 1 (.t 3)),zg 25 22 (.bin .eql (.t 23) (.t 24)),zp 26 22 25,zm 5 26] [5])
 (.ret)))
def zcS:F:=⟨zer,[(5,none)],false⟩
def zm9:IR:=.seq (zr [zn 1 (.box (.t 0)),zn 2 (.mov (zi 0)),zn 3 (.mov (zb false))] [1])
 (.seq (.seq (zr [zL 4 2 1,zn 5 (.call zgW [(.t 4)]),zn 6 (.bin .neq (.t 5) (zi 1))] [1,6])
 (.cond (.t 6) (.seq (zr [zn 2 (.mov (zi 0)),zn 3 (.mov (zb false))] [2,3])
 (.ret)) (.skip)))
 (.seq (zr [zL 7 2 1,zn 8 (.call zjf [(.t 7)]),zn 9 (.ext (.t 8) 0),zn 10 (.ext (.t 8) 1),zm 2 9,zm 3 10] [2,3])
 (.ret)))
def zkb:F:=⟨zm9,[(2,none),(3,none)],false⟩
def zoY:IR:=.seq (zr [zn 1 (.box (.t 0)),zn 2 (.mov (zb false))] [1])
 (.seq (zr [zL 3 2 1,zn 4 (.call zcl [(.t 3)]),zn 5 (.un .not (.t 4)),zm 2 5] [2])
 (.ret))
def zla:F:=⟨zoY,[(2,none)],false⟩
def zea:IR:=.seq (zr [zn 31 (.bin .lss (.t 30) (.t 29))] [1,2,5,6,7,8,28,29,30,31])
 (.seq (.cond (.t 31) (.skip) (.ext 0))
 (.seq (.blk 1 (.seq (zr [zm 32 30,zn 33 (.iad 1 (.t 28) (.t 30)),zl 34 1 33,zm 9 32,zm 10 34] [1,2,5,6,7,8,9,10,28,29,30])
 (.seq (.dq [(zm 35 1,[]),(zm 36 10,[]),(zn 37 (.iad 2 (.t 35) (.t 36)),[0,1]),(zL 38 2 37,[0,1,2]),(zm 39 8,[]),(zm 40 9,[]),(zn 41 (.iad 1 (.t 39) (.t 40)),[4,5]),(zl 42 1 41,[4,5,6]),(zn 43 (.call zjB [(.t 38),(.t 42)]),[0,1,2,3,4,5,6,7]),(zn 44 (.un .not (.t 43)),[0,1,2,3,4,5,6,7,8])] (some [1,2,5,6,7,8,28,29,30,44]))
 (.cond (.t 44) (.gto 0) (.skip)))))
 (zr [zn 45 (.bin .add (.t 30) (zi 1)),zm 30 45] [1,2,5,6,7,8,28,29,30])))
def zdk:IR:=.loop zea
theorem zjj:zE zdk zea:=zal
def zmf:IR:=.seq (zr [zn 2 (.box (.t 0)),zn 4 (.mov (.c (.nsl 1)))] [1,2])
 (.scg (.seq (zr [zn 5 (.mov (.c (.nsl 1)))] [1,2,5])
 (.seq (zr [zn 11 (.fad 1 (.t 2)),zl 12 1 11,zn 13 (.len (.t 12)),zm 6 13] [1,2,5,6])
 (.seq (zr [zn 14 (.fad 5 (.t 2)),zl 15 1 14,zm 7 15] [1,2,5,6,7])
 (.seq (.lab 0)
 (.seq (.seq (zr [zm 16 7,zn 17 (.len (.t 16)),zn 18 (.bin .eql (.t 17) (zi 0))] [1,2,5,6,7,18])
 (.cond (.t 18) (.seq (zr [zm 19 5,zm 4 19] [4])
 (.ret)) (.skip)))
 (.seq (zr [zm 20 7,zm 21 6,zm 22 6,zn 23 (.sll 1 (.t 20) none (some (.t 21)) (some (.t 22))),zm 8 23] [1,2,5,6,7,8])
 (.seq (zr [zm 24 7,zm 25 6,zn 26 (.sll 1 (.t 24) (some (.t 25)) none none),zm 7 26] [1,2,5,6,7,8])
 (.seq (.seq (zr [zn 27 (.fad 1 (.t 2)),zl 28 1 27,zn 29 (.len (.t 28)),zn 30 (.mov (zi 0))] [1,2,5,6,7,8,28,29,30])
 (.blk 0 (zdk)))
 (.seq (zr [zm 46 5,zm 47 8,zn 48 (.bsf (.nsl 1) 1 [(0,(.t 47))]),zn 49 (.app 1 24 (.t 46) (.t 48)),zm 5 49] [1,2,5,6,7])
 (.gto 0)))))))))))
def zmo:F:=⟨zmf,[(4,none)],false⟩
def zgx:IR:=.seq (zr [zn 4 (.mov (zb false))] [0,1])
 (.seq (zr [zm 5 0,zm 6 1,zn 7 (.call za4 [(.t 5),(.t 6)]),zn 8 (.bin .geq (.t 7) (zi 0)),zm 4 8] [4])
 (.ret))
def zcD:F:=⟨zgx,[(4,none)],false⟩
def zoA:IR:=.seq (zr [zn 4 (.mov (zb false))] [0,1,2])
 (.seq (.dq [(zm 5 0,[]),(zl 6 1 1,[]),(zn 7 (.iad 1 (.t 5) (.t 6)),[0,1]),(zl 8 1 7,[0,1,2]),(zl 9 1 2,[]),(zn 10 (.bin .eql (.t 8) (.t 9)),[0,1,2,3,4]),(zm 4 10,[0,1,2,3,4,5])] (some [4]))
 (.ret))
def zlw:F:=⟨zoA,[(4,none)],false⟩
def zgo:IR:=.seq (zr [zn 2 (.mov (zi 0))] [0])
 (.seq (zr [zm 3 0,zn 4 (.bin .shr (.t 3) (.c (.int .u64 1))),zn 5 (.bin .and (.t 4) (.c (.int .u64 6148914691236517205))),zm 6 0,zn 7 (.bin .and (.t 6) (.c (.int .u64 6148914691236517205))),zn 8 (.bin .add (.t 5) (.t 7)),zm 0 8] [0])
 (.seq (zr [zm 9 0,zn 10 (.bin .shr (.t 9) (.c (.int .u64 2))),zn 11 (.bin .and (.t 10) (.c (.int .u64 3689348814741910323))),zm 12 0,zn 13 (.bin .and (.t 12) (.c (.int .u64 3689348814741910323))),zn 14 (.bin .add (.t 11) (.t 13)),zm 0 14] [0])
 (.seq (zr [zm 15 0,zn 16 (.bin .shr (.t 15) (.c (.int .u64 4))),zm 17 0,zn 18 (.bin .add (.t 16) (.t 17)),zn 19 (.bin .and (.t 18) (.c (.int .u64 1085102592571150095))),zm 0 19] [0])
 (.seq (zr [zm 20 0,zm 21 0,zn 22 (.bin .shr (.t 21) (.c (.int .u64 8))),zn 23 (.bin .add (.t 20) (.t 22)),zm 0 23] [0])
 (.seq (zr [zm 24 0,zm 25 0,zn 26 (.bin .shr (.t 25) (.c (.int .u64 16))),zn 27 (.bin .add (.t 24) (.t 26)),zm 0 27] [0])
 (.seq (zr [zm 28 0,zm 29 0,zn 30 (.bin .shr (.t 29) (.c (.int .u64 32))),zn 31 (.bin .add (.t 28) (.t 30)),zm 0 31] [0])
 (.seq (zr [zm 32 0,zn 33 (.conv .i64 (.t 32)),zn 34 (.bin .and (.t 33) (zi 127)),zm 2 34] [2])
 (.ret))))))))
def zc6:F:=⟨zgo,[(2,none)],false⟩
def zbM:IR:=.seq (zr [zn 9 (.bin .lss (.t 8) (.t 7))] [0,1,7,8,9])
 (.seq (.cond (.t 9) (.skip) (.ext 0))
 (.seq (.blk 1 (.seq (zr [zm 10 8,zm 5 10] [0,1,5,7,8])
 (.seq (zr [zm 11 1,zm 12 0,zm 13 5,zn 14 (.iad 2 (.t 12) (.t 13)),zL 15 2 14,zn 16 (.callv (.t 11) [(.t 15)])] [0,1,5,7,8,16])
 (.cond (.t 16) (.seq (zr [zm 17 5,zm 4 17] [4])
 (.ret)) (.skip)))))
 (zr [zn 18 (.bin .add (.t 8) (zi 1)),zm 8 18] [0,1,7,8])))
def zbC:IR:=.loop zbM
theorem zop:zE zbC zbM:=zal
def zfe:IR:=.seq (zr [zn 4 (.mov (zi 0))] [0,1])
 (.seq (.seq (zr [zm 6 0,zn 7 (.len (.t 6)),zn 8 (.mov (zi 0))] [0,1,7,8])
 (.blk 0 (zbC)))
 (.seq (zr [zn 4 (.mov (zi (-1)))] [4])
 (.ret)))
def zb5:F:=⟨zfe,[(4,none)],false⟩
def zbO:IR:=.seq (zr [zn 9 (.bin .lss (.t 8) (.t 7))] [0,1,7,8,9])
 (.seq (.cond (.t 9) (.skip) (.ext 0))
 (.seq (.blk 1 (.seq (zr [zm 10 8,zm 5 10] [0,1,5,7,8])
 (.seq (zr [zm 11 1,zm 12 0,zm 13 5,zn 14 (.iad 6 (.t 12) (.t 13)),zL 15 6 14,zn 16 (.callv (.t 11) [(.t 15)])] [0,1,5,7,8,16])
 (.cond (.t 16) (.seq (zr [zm 17 5,zm 4 17] [4])
 (.ret)) (.skip)))))
 (zr [zn 18 (.bin .add (.t 8) (zi 1)),zm 8 18] [0,1,7,8])))
def zbF:IR:=.loop zbO
theorem zom:zE zbF zbO:=zal
def zfm:IR:=.seq (zr [zn 4 (.mov (zi 0))] [0,1])
 (.seq (.seq (zr [zm 6 0,zn 7 (.len (.t 6)),zn 8 (.mov (zi 0))] [0,1,7,8])
 (.blk 0 (zbF)))
 (.seq (zr [zn 4 (.mov (zi (-1)))] [4])
 (.ret)))
def zb6:F:=⟨zfm,[(4,none)],false⟩
def zhA:IR:=.seq (zr [zn 1 (.box (.t 0)),zn 2 (.mov (zb false))] [1])
 (.seq (zr [zL 3 7 1,zn 4 (.call zax [(.t 3),(zi 1),(zi 8)]),zm 5 4,zg 6 5 (.ld true 7 (.t 1)),zg 7 5 (.call zck [(.t 6),(zi 0)]),zp 8 5 7,zm 2 8] [2])
 (.ret))
def zdT:F:=⟨zhA,[(2,none)],false⟩
def zgC:IR:=.seq (zr [zn 1 (.box (.t 0)),zn 2 (.mov (zb false))] [1])
 (.seq (zr [zL 3 7 1,zn 4 (.call zax [(.t 3),(zi 3),(zi 3)]),zm 5 4,zg 6 5 (.ld true 7 (.t 1)),zg 7 5 (.call za8 [(.t 6),(zi 0),(zi 0)]),zp 8 5 7,zm 2 8] [2])
 (.ret))
def zdG:F:=⟨zgC,[(2,none)],false⟩
def zkh:IR:=.seq (zr [zn 1 (.box (.t 0)),zn 2 (.mov (zb false))] [1])
 (.seq (zr [zL 3 7 1,zn 4 (.call zax [(.t 3),(zi 2),(zi 9)]),zm 5 4,zg 6 5 (.ld true 7 (.t 1)),zg 7 5 (.call zck [(.t 6),(zi 1)]),zp 8 5 7,zm 2 8] [2])
 (.ret))
def zfI:F:=⟨zkh,[(2,none)],false⟩
def zgB:IR:=.seq (zr [zn 1 (.box (.t 0)),zn 2 (.mov (zb false))] [1])
 (.seq (zr [zL 3 7 1,zn 4 (.call zax [(.t 3),(zi 2),(zi 2)]),zm 5 4,zg 6 5 (.ld true 7 (.t 1)),zg 7 5 (.call za8 [(.t 6),(zi 1),(zi 96)]),zp 8 5 7,zm 2 8] [2])
 (.ret))
def zdF:F:=⟨zgB,[(2,none)],false⟩
def zhI:IR:=.seq (zr [zn 1 (.box (.t 0)),zn 2 (.mov (zb false))] [1])
 (.seq (zr [zL 3 7 1,zn 4 (.call zax [(.t 3),(zi 2),(zi 8)]),zm 5 4,zg 6 5 (.ld true 7 (.t 1)),zg 7 5 (.call za8 [(.t 6),(zi 0),(zi 0)]),zp 8 5 7,zm 2 8] [2])
 (.ret))
def zdZ:F:=⟨zhI,[(2,none)],false⟩
def zcG:IR:=.seq (zr [zn 1 (.box (.t 0)),zn 2 (.mov (zb false))] [1])
 (.seq (zr [zL 3 7 1,zn 4 (.call zax [(.t 3),(zi 1),(zi 8)]),zm 5 4,zg 6 5 (.ld true 7 (.t 1)),zg 7 5 (.call za8 [(.t 6),(zi 0),(zi 96)]),zp 8 5 7,zm 9 8,zg 10 9 (.fad 0 (.t 1)),zg 11 9 (.fad 5 (.t 10)),zg 12 9 (.ld false 1 (.t 11)),zg 13 9 (.len (.t 12)),zg 14 9 (.fad 0 (.t 1)),zg 15 9 (.fad 1 (.t 14)),zg 16 9 (.ld false 1 (.t 15)),zg 17 9 (.len (.t 16)),zg 18 9 (.bin .rem (.t 13) (.t 17)),zg 19 9 (.bin .eql (.t 18) (zi 0)),zp 20 9 19,zm 2 20] [2])
 (.ret))
def zbN:F:=⟨zcG,[(2,none)],false⟩
def zkH:IR:=.seq (zr [zn 2 (.mov (.c (.int .u64 0)))] [0])
 (.seq (.blk 0 (.seq (zr [zm 4 0,zn 5 (.bin .leq (.t 4) (zi 0)),zm 3 5] [0,3])
 (.cond (.t 3) (.seq (zr [zn 2 (.mov (.c (.int .u64 0)))] [2])
 (.ret)) (.seq (zr [zm 7 0,zn 8 (.bin .geq (.t 7) (zi 64)),zm 6 8] [0,6])
 (.cond (.t 6) (.seq (zr [zn 2 (.mov (.c (.int .u64 18446744073709551615)))] [2])
 (.ret)) (.skip))))))
 (.seq (zr [zm 9 0,zn 10 (.bin .shl (.c (.int .u64 1)) (.t 9)),zn 11 (.bin .sub (.t 10) (.c (.int .u64 1))),zm 2 11] [2])
 (.ret)))
def zhP:F:=⟨zkH,[(2,none)],false⟩
def zfO:IR:=.seq (.seq (zr [zm 10 8,zm 11 2,zn 12 (.len (.t 11)),zn 13 (.bin .lss (.t 10) (.t 12))] [1,2,3,7,8,13])
 (.cond (.t 13) (.skip) (.ext 0)))
 (.seq (.blk 1 (.dq [(zm 16 7,[]),(zm 17 16,[0]),(zF 18 17 2,[0,1]),(zF 19 17 8,[0,1]),(zf 20 17 (.iad 1 (.t 18) (.t 19)),[0,1,2,3]),(zf 21 17 (.ld false 1 (.t 20)),[0,1,2,3,4]),(zf 22 17 (.fad 0 (.t 3)),[0,1]),(zf 23 17 (.ld false 1 (.t 22)),[0,1,6]),(zf 24 17 (.bin .eql (.t 21) (.t 23)),[0,1,2,3,4,5,6,7]),(zq 25 17 24,[0,1,2,3,4,5,6,7,8]),(zm 7 25,[0,1,2,3,4,5,6,7,8,9])] (some [1,2,3,7,8])))
 (zr [zm 14 8,zn 15 (.bin .add (.t 14) (zi 1)),zm 8 15] [1,2,3,7,8]))
def zh0:IR:=.loop zfO
theorem zm5:zE zh0 zfO:=zal
def zgj:IR:=.seq (.seq (zr [zm 26 9,zm 27 1,zn 28 (.len (.t 27)),zn 29 (.bin .lss (.t 26) (.t 28))] [1,3,7,9,29])
 (.cond (.t 29) (.skip) (.ext 2)))
 (.seq (.blk 3 (zr [zm 32 7,zm 33 32,zM 34 33 1,zM 35 33 9,zg 36 33 (.iad 2 (.t 34) (.t 35)),zg 37 33 (.ld true 2 (.t 36)),zg 38 33 (.call zfo [(.t 37)]),zp 39 33 38,zm 7 39] [1,3,7,9]))
 (zr [zm 30 9,zn 31 (.bin .add (.t 30) (zi 1)),zm 9 31] [1,3,7,9]))
def zhZ:IR:=.loop zgj
theorem zni:zE zhZ zgj:=zal
def zpD:IR:=.seq (zr [zn 3 (.box (.t 0)),zn 6 (.mov (zb false))] [1,2,3])
 (.seq (zr [zn 7 (.mov (zb false))] [1,2,3,7])
 (.seq (.seq (zr [zn 8 (.mov (zi 0))] [1,2,3,7,8])
 (.blk 0 (zh0)))
 (.seq (.seq (zr [zn 9 (.mov (zi 0))] [1,3,7,9])
 (.blk 2 (zhZ)))
 (.seq (zr [zm 40 7,zm 41 40,zg 42 41 (.ld true 6 (.t 3)),zM 43 41 1,zg 44 41 (.len (.t 43)),zg 45 41 (.call zf8 [(.t 42),(.t 44)]),zp 46 41 45,zm 6 46] [6])
 (.ret)))))
def zlW:F:=⟨zpD,[(6,none)],false⟩
def zgt:IR:=.seq (.seq (zr [zm 8 7,zn 9 (.fad 1 (.t 2)),zl 10 1 9,zn 11 (.len (.t 10)),zn 12 (.bin .lss (.t 8) (.t 11))] [1,2,6,7,12])
 (.cond (.t 12) (.skip) (.ext 0)))
 (.seq (.blk 1 (zr [zm 15 6,zm 16 15,zF 17 16 1,zf 18 16 (.fad 1 (.t 2)),zf 19 16 (.ld false 1 (.t 18)),zF 20 16 7,zf 21 16 (.iad 1 (.t 19) (.t 20)),zf 22 16 (.ld false 1 (.t 21)),zf 23 16 (.iad 1 (.t 17) (.t 22)),zf 24 16 (.ld false 1 (.t 23)),zf 25 16 (.len (.t 24)),zf 26 16 (.bin .eql (.t 25) (zi 0)),zq 27 16 26,zm 6 27] [1,2,6,7]))
 (zr [zm 13 7,zn 14 (.bin .add (.t 13) (zi 1)),zm 7 14] [1,2,6,7]))
def zh7:IR:=.loop zgt
theorem znm:zE zh7 zgt:=zal
def zmd:IR:=.seq (zr [zn 2 (.box (.t 0)),zn 4 (.mov (.c (.nsl 1))),zn 5 (.mov (zb false))] [1,2])
 (.seq (zr [zn 6 (.mov (zb false))] [1,2,6])
 (.seq (.seq (zr [zn 7 (.mov (zi 0))] [1,2,6,7])
 (.blk 0 (zh7)))
 (.seq (.seq (zr [zm 28 6,zn 29 (.un .not (.t 28))] [1,2,29])
 (.cond (.t 29) (.seq (zr [zm 30 1,zm 4 30,zn 5 (.mov (zb false))] [4,5])
 (.ret)) (.skip)))
 (.seq (zr [zL 31 6 2,zm 32 1,zn 33 (.call zc4 [(.t 31),(.t 32)]),zm 4 33,zn 5 (.mov (zb true))] [4,5])
 (.ret)))))
def ziz:F:=⟨zmd,[(4,none),(5,none)],false⟩
def zfT:IR:=.seq (.seq (zr [zm 6 4,zm 7 0,zn 8 (.len (.t 7)),zn 9 (.bin .lss (.t 6) (.t 8))] [0,3,4,9])
 (.cond (.t 9) (.skip) (.ext 0)))
 (.seq (.blk 1 (zr [zm 12 3,zm 13 0,zm 14 4,zn 15 (.iad 2 (.t 13) (.t 14)),zL 16 2 15,zn 17 (.call zkS [(.t 16)]),zn 18 (.bsf (.nsl 1) 1 [(0,(.t 17))]),zn 19 (.app 1 24 (.t 12) (.t 18)),zm 3 19] [0,3,4]))
 (zr [zm 10 4,zn 11 (.bin .add (.t 10) (zi 1)),zm 4 11] [0,3,4]))
def zie:IR:=.loop zfT
theorem zmS:zE zie zfT:=zal
def zqo:IR:=.seq (zr [zn 2 (.mov (.c (.nsl 1)))] [0])
 (.seq (zr [zn 5 (.bsl (.nsl 1) 0 []),zm 3 5] [0,3])
 (.seq (.seq (zr [zn 4 (.mov (zi 0))] [0,3,4])
 (.blk 0 (zie)))
 (.seq (zr [zm 20 3,zm 2 20] [2])
 (.ret))))
def zl3:F:=⟨zqo,[(2,none)],false⟩
def zhs:IR:=.seq (.seq (zr [zm 8 6,zm 9 0,zn 10 (.len (.t 9)),zn 11 (.bin .lss (.t 8) (.t 10))] [0,1,5,6,11])
 (.cond (.t 11) (.skip) (.ext 0)))
 (.seq (.blk 1 (.dq [(zm 14 5,[]),(zm 15 0,[]),(zm 16 6,[]),(zn 17 (.iad 2 (.t 15) (.t 16)),[1,2]),(zL 18 2 17,[1,2,3]),(zm 19 1,[]),(zm 20 6,[]),(zn 21 (.iad 1 (.t 19) (.t 20)),[5,6]),(zl 22 1 21,[5,6,7]),(zn 23 (.call zky [(.t 18),(.t 22)]),[1,2,3,4,5,6,7,8]),(zn 24 (.bsf (.agg [.nsl 1,.int .u64 0]) 1 [(0,(.t 23))]),[1,2,3,4,5,6,7,8,9]),(zn 25 (.app 2 32 (.t 14) (.t 24)),[0,1,2,3,4,5,6,7,8,9,10]),(zm 5 25,[0,1,2,3,4,5,6,7,8,9,10,11])] (some [0,1,5,6])))
 (zr [zm 12 6,zn 13 (.bin .add (.t 12) (zi 1)),zm 6 13] [0,1,5,6]))
def zjT:IR:=.loop zhs
theorem zoR:zE zjT zhs:=zal
def zre:IR:=.seq (zr [zn 4 (.mov (.c (.nsl 2)))] [0,1])
 (.seq (zr [zn 7 (.bsl (.agg [.nsl 1,.int .u64 0]) 0 []),zm 5 7] [0,1,5])
 (.seq (.seq (zr [zn 6 (.mov (zi 0))] [0,1,5,6])
 (.blk 0 (zjT)))
 (.seq (zr [zm 26 5,zm 4 26] [4])
 (.ret))))
def znh:F:=⟨zre,[(4,none)],false⟩
def zfK:IR:=.seq (.seq (zr [zm 35 14,zm 36 3,zm 37 1,zm 38 10,zn 39 (.iad 1 (.t 37) (.t 38)),zl 40 1 39,zn 41 (.iad 1 (.t 36) (.t 40)),zl 42 1 41,zn 43 (.len (.t 42)),zn 44 (.bin .lss (.t 35) (.t 43))] [1,2,3,4,9,10,11,12,13,14,44])
 (.cond (.t 44) (.skip) (.ext 2)))
 (.seq (.blk 3 (.seq (.dq [(zn 47 (.fad 2 (.t 4)),[]),(zl 48 1 47,[0]),(zm 49 10,[]),(zn 50 (.iad 1 (.t 48) (.t 49)),[0,1,2]),(zl 51 1 50,[0,1,2,3]),(zm 52 3,[]),(zm 53 1,[]),(zm 54 10,[]),(zn 55 (.iad 1 (.t 53) (.t 54)),[6,7]),(zl 56 1 55,[6,7,8]),(zn 57 (.iad 1 (.t 52) (.t 56)),[5,6,7,8,9]),(zl 58 1 57,[5,6,7,8,9,10]),(zm 59 14,[]),(zn 60 (.iad 1 (.t 58) (.t 59)),[5,6,7,8,9,10,11,12]),(zl 61 1 60,[5,6,7,8,9,10,11,12,13]),(zn 62 (.bin .mul (.t 51) (.t 61)),[0,1,2,3,4,5,6,7,8,9,10,11,12,13,14]),(zm 15 62,[0,1,2,3,4,5,6,7,8,9,10,11,12,13,14,15])] (some [1,2,3,4,9,10,11,12,13,14,15]))
 (.seq (zr [zm 63 11,zm 64 15,zn 65 (.bin .add (.t 63) (.t 64)),zm 66 12,zm 67 15,zn 68 (.bin .add (.t 66) (.t 67)),zm 69 2,zn 70 (.fad 4 (.t 4)),zl 71 1 70,zn 72 (.call zgK [(.t 65),(.t 68),(.t 69),(.t 71)])] [1,2,3,4,9,10,11,12,13,14,72])
 (.cond (.t 72) (zr [zm 73 13,zm 74 3,zm 75 1,zm 76 10,zn 77 (.iad 1 (.t 75) (.t 76)),zl 78 1 77,zn 79 (.iad 1 (.t 74) (.t 78)),zl 80 1 79,zm 81 14,zn 82 (.iad 1 (.t 80) (.t 81)),zl 83 1 82,zn 84 (.bsf (.int .i64 0) 1 [(0,(.t 83))]),zn 85 (.app 1 8 (.t 73) (.t 84)),zm 13 85] [1,2,3,4,9,10,11,12,13,14]) (.skip)))))
 (zr [zm 45 14,zn 46 (.bin .add (.t 45) (zi 1)),zm 14 46] [1,2,3,4,9,10,11,12,13,14]))
def zlp:IR:=.loop zfK
theorem zlO:zE zlp zfK:=zal
def ziL:IR:=.seq (.seq (zr [zm 19 10,zm 20 1,zn 21 (.len (.t 20)),zn 22 (.bin .lss (.t 19) (.t 21))] [1,2,3,4,9,10,22])
 (.cond (.t 22) (.skip) (.ext 0)))
 (.seq (.blk 1 (.seq (zr [zm 26 1,zn 27 (.fad 2 (.t 4)),zl 28 1 27,zm 29 3,zm 30 10,zn 31 (.call zhy [(.t 26),(.t 28),(.t 29),(.t 30)]),zm 25 31,zn 32 (.ext (.t 25) 0),zn 33 (.ext (.t 25) 1),zm 11 32,zm 12 33] [1,2,3,4,9,10,11,12])
 (.seq (zr [zn 34 (.bsl (.int .i64 0) 0 []),zm 13 34] [1,2,3,4,9,10,11,12,13])
 (.seq (.seq (zr [zn 14 (.mov (zi 0))] [1,2,3,4,9,10,11,12,13,14])
 (.blk 2 (zlp)))
 (zr [zm 86 9,zm 87 1,zm 88 10,zn 89 (.iad 1 (.t 87) (.t 88)),zl 90 1 89,zm 91 13,zn 92 (.iad 1 (.t 86) (.t 90)),⟨none,none,.st 1 (.t 92) (.t 91)⟩] [1,2,3,4,9,10])))))
 (zr [zm 23 10,zn 24 (.bin .add (.t 23) (zi 1)),zm 10 24] [1,2,3,4,9,10]))
def zlb:IR:=.loop ziL
theorem zqn:zE zlb ziL:=zal
def zpl:IR:=.seq (zr [zn 4 (.box (.t 0)),zn 8 (.mov (.c (.nsl 1)))] [1,2,3,4])
 (.seq (zr [zn 16 (.bsl (.nsl 1) 0 []),zm 17 3,zn 18 (.app 1 24 (.t 16) (.t 17)),zm 9 18] [1,2,3,4,9])
 (.seq (.seq (zr [zn 10 (.mov (zi 0))] [1,2,3,4,9,10])
 (.blk 0 (zlb)))
 (.seq (zr [zm 93 9,zm 8 93] [8])
 (.ret))))
def zlZ:F:=⟨zpl,[(8,none)],true⟩
def zf7:IR:=.seq (.seq (zr [zm 6 5,zm 7 0,zn 8 (.len (.t 7)),zn 9 (.bin .lss (.t 6) (.t 8))] [0,1,5,9])
 (.cond (.t 9) (.skip) (.ext 0)))
 (.seq (.blk 1 (.seq (zr [zm 12 0,zm 13 5,zn 14 (.iad 1 (.t 12) (.t 13)),zl 15 1 14,zm 16 1,zn 17 (.bin .eql (.t 15) (.t 16))] [0,1,5,17])
 (.cond (.t 17) (.seq (zr [zn 4 (.mov (zb true))] [4])
 (.ret)) (.skip))))
 (zr [zm 10 5,zn 11 (.bin .add (.t 10) (zi 1)),zm 5 11] [0,1,5]))
def zkW:IR:=.loop zf7
theorem zl8:zE zkW zf7:=zal
def zpo:IR:=.seq (zr [zn 4 (.mov (zb false))] [0,1])
 (.seq (.seq (zr [zn 5 (.mov (zi 0))] [0,1,5])
 (.blk 0 (zkW)))
 (.seq (zr [zn 4 (.mov (zb false))] [4])
 (.ret)))
def zmi:F:=⟨zpo,[(4,none)],false⟩
def zhn:IR:=.seq (.seq (zr [zm 10 6,zn 11 (.fad 1 (.t 2)),zl 12 1 11,zn 13 (.len (.t 12)),zn 14 (.bin .lss (.t 10) (.t 13))] [2,5,6,14])
 (.cond (.t 14) (.skip) (.ext 0)))
 (.seq (.blk 1 (zr [zm 17 5,zn 18 (.fad 1 (.t 2)),zl 19 1 18,zm 20 6,zn 21 (.iad 1 (.t 19) (.t 20)),zl 22 1 21,zn 23 (.iad 1 (.t 17) (.t 22)),⟨none,none,.st 1 (.t 23) (.c (.nsl 1))⟩] [2,5,6]))
 (zr [zm 15 6,zn 16 (.bin .add (.t 15) (zi 1)),zm 6 16] [2,5,6]))
def ziX:IR:=.loop zhn
theorem zoz:zE ziX zhn:=zal
def znC:IR:=.seq (zr [zn 2 (.box (.t 0)),zn 4 (.mov (.c (.nsl 1)))] [1,2])
 (.seq (zr [zn 7 (.bsl (.nsl 1) 0 []),zm 8 1,zn 9 (.app 1 24 (.t 7) (.t 8)),zm 5 9] [2,5])
 (.seq (.seq (zr [zn 6 (.mov (zi 0))] [2,5,6])
 (.blk 0 (ziX)))
 (.seq (zr [zm 24 5,zm 4 24] [4])
 (.ret))))
def zkg:F:=⟨znC,[(4,none)],true⟩
def zmC:IR:=.seq (zr [zn 2 (.mov (zi 0))] [0])
 (.seq (.seq (zr [zm 3 0,zn 4 (.bin .lss (.t 3) (zi 0)),zm 5 4,zF 6 5 0,zf 7 5 (.bin .gtr (.t 6) (zi 5)),zq 8 5 7] [0,8])
 (.cond (.t 8) (.seq (zr [zm 9 0,zm 2 9] [2])
 (.ret)) (.skip)))
 (.seq (zr [zn 10 (.bsl (.int .i64 0) 6 [(0,(zi 1)),(1,(zi 0)),(2,(zi 5)),(3,(zi 4)),(4,(zi 3)),(5,(zi 2))]),zm 11 0,zn 12 (.iad 1 (.t 10) (.t 11)),zl 13 1 12,zm 2 13] [2])
 (.ret)))
def zil:F:=⟨zmC,[(2,none)],false⟩
def zdu:IR:=.seq (.seq (zr [zm 16 12,zm 17 0,zn 18 (.len (.t 17)),zn 19 (.bin .lss (.t 16) (.t 18))] [0,1,2,3,10,11,12,19])
 (.cond (.t 19) (.skip) (.ext 0)))
 (.seq (.blk 1 (.seq (.seq (zr [zm 22 12,zm 23 3,zn 24 (.bin .eql (.t 22) (.t 23))] [0,1,2,3,10,11,12,24])
 (.cond (.t 24) (.ext 1) (.skip)))
 (.seq (zr [zm 25 2,zm 26 0,zm 27 12,zn 28 (.iad 1 (.t 26) (.t 27)),zl 29 1 28,zn 30 (.iad 1 (.t 25) (.t 29)),zl 31 1 30,zm 13 31] [0,1,2,3,10,11,12,13])
 (.seq (.dq [(zm 32 1,[]),(zm 33 12,[]),(zn 34 (.iad 1 (.t 32) (.t 33)),[0,1]),(zl 35 1 34,[0,1,2]),(zm 36 13,[]),(zn 37 (.iad 1 (.t 36) (zi 0)),[4]),(zl 38 1 37,[4,5]),(zn 39 (.bin .mul (.t 35) (.t 38)),[0,1,2,3,4,5,6]),(zm 14 39,[0,1,2,3,4,5,6,7])] (some [0,1,2,3,10,11,12,13,14]))
 (.seq (.dq [(zm 40 1,[]),(zm 41 12,[]),(zn 42 (.iad 1 (.t 40) (.t 41)),[0,1]),(zl 43 1 42,[0,1,2]),(zm 44 13,[]),(zm 45 13,[]),(zn 46 (.len (.t 45)),[5]),(zn 47 (.bin .sub (.t 46) (zi 1)),[5,6]),(zn 48 (.iad 1 (.t 44) (.t 47)),[4,5,6,7]),(zl 49 1 48,[4,5,6,7,8]),(zn 50 (.bin .mul (.t 43) (.t 49)),[0,1,2,3,4,5,6,7,8,9]),(zm 15 50,[0,1,2,3,4,5,6,7,8,9,10])] (some [0,1,2,3,10,11,12,14,15]))
 (.seq (.seq (zr [zm 51 14,zm 52 15,zn 53 (.bin .gtr (.t 51) (.t 52))] [0,1,2,3,10,11,12,14,15,53])
 (.cond (.t 53) (zr [zm 54 15,zm 55 14,zm 14 54,zm 15 55] [0,1,2,3,10,11,12,14,15]) (.skip)))
 (.seq (zr [zm 56 10,zm 57 14,zn 58 (.bin .add (.t 56) (.t 57)),zm 10 58] [0,1,2,3,10,11,12,15])
 (zr [zm 59 11,zm 60 15,zn 61 (.bin .add (.t 59) (.t 60)),zm 11 61] [0,1,2,3,10,11,12]))))))))
 (zr [zm 20 12,zn 21 (.bin .add (.t 20) (zi 1)),zm 12 21] [0,1,2,3,10,11,12]))
def zjS:IR:=.loop zdu
theorem zlg:zE zjS zdu:=zal
def zrg:IR:=.seq (zr [zn 8 (.mov (zi 0)),zn 9 (.mov (zi 0))] [0,1,2,3])
 (.seq (zr [zn 10 (.mov (zi 0))] [0,1,2,3,10])
 (.seq (zr [zn 11 (.mov (zi 0))] [0,1,2,3,10,11])
 (.seq (.seq (zr [zn 12 (.mov (zi 0))] [0,1,2,3,10,11,12])
 (.blk 0 (zjS)))
 (.seq (zr [zm 62 10,zm 63 11,zm 8 62,zm 9 63] [8,9])
 (.ret)))))
def zmQ:F:=⟨zrg,[(8,none),(9,none)],false⟩
def zeg:IR:=.seq (zr [zn 8 (.mov (zb false))] [0,1,2,3])
 (.seq (.seq (zr [zm 9 2] [0,1,3,9])
 (.blk 0 (.seq (zr [zn 11 (.bin .eql (.t 9) (zi 0)),zm 10 11] [0,1,3,9,10])
 (.cond (.t 10) (.seq (zr [zm 12 0,zm 13 3,zn 14 (.bin .leq (.t 12) (.t 13)),zm 15 14,zM 16 15 3,zM 17 15 1,zg 18 15 (.bin .leq (.t 16) (.t 17)),zp 19 15 18,zm 8 19] [8])
 (.ret)) (.seq (zr [zn 21 (.bin .eql (.t 9) (zi 1)),zm 20 21] [0,1,3,9,20])
 (.cond (.t 20) (.seq (zr [zm 22 0,zm 23 3,zn 24 (.bin .neq (.t 22) (.t 23)),zm 25 24,zF 26 25 1,zF 27 25 3,zf 28 25 (.bin .neq (.t 26) (.t 27)),zq 29 25 28,zm 8 29] [8])
 (.ret)) (.seq (zr [zn 31 (.bin .eql (.t 9) (zi 2)),zm 30 31] [0,1,3,9,30])
 (.cond (.t 30) (.seq (zr [zm 32 0,zm 33 3,zn 34 (.bin .lss (.t 32) (.t 33)),zm 8 34] [8])
 (.ret)) (.seq (zr [zn 36 (.bin .eql (.t 9) (zi 3)),zm 35 36] [0,1,3,9,35])
 (.cond (.t 35) (.seq (zr [zm 37 0,zm 38 3,zn 39 (.bin .leq (.t 37) (.t 38)),zm 8 39] [8])
 (.ret)) (.seq (zr [zn 41 (.bin .eql (.t 9) (zi 4)),zm 40 41] [1,3,40])
 (.cond (.t 40) (.seq (zr [zm 42 1,zm 43 3,zn 44 (.bin .gtr (.t 42) (.t 43)),zm 8 44] [8])
 (.ret)) (.skip)))))))))))))
 (.seq (zr [zm 45 1,zm 46 3,zn 47 (.bin .geq (.t 45) (.t 46)),zm 8 47] [8])
 (.ret)))
def zdd:F:=⟨zeg,[(8,none)],false⟩
def zeL:IR:=.seq (.seq (zr [zm 53 12,zn 54 (.op (.iaa 3 1) [(.t 9),(zi 2)]),zl 55 1 54,zn 56 (.len (.t 55)),zn 57 (.bin .lss (.t 53) (.t 56))] [9,10,11,12,57])
 (.cond (.t 57) (.skip) (.ext 4)))
 (.seq (.blk 5 (.seq (.dq [(zn 60 (.op (.iaa 3 1) [(.t 9),(zi 0)]),[]),(zl 61 1 60,[0]),(zm 62 10,[]),(zn 63 (.iad 1 (.t 61) (.t 62)),[0,1,2]),(zl 64 1 63,[0,1,2,3]),(zn 65 (.op (.iaa 3 1) [(.t 9),(zi 1)]),[]),(zl 66 1 65,[5]),(zm 67 11,[]),(zn 68 (.iad 1 (.t 66) (.t 67)),[5,6,7]),(zl 69 1 68,[5,6,7,8]),(zn 70 (.bin .mul (.t 64) (.t 69)),[0,1,2,3,4,5,6,7,8,9]),(zn 71 (.op (.iaa 3 1) [(.t 9),(zi 2)]),[]),(zl 72 1 71,[11]),(zm 73 12,[]),(zn 74 (.iad 1 (.t 72) (.t 73)),[11,12,13]),(zl 75 1 74,[11,12,13,14]),(zn 76 (.bin .eql (.t 70) (.t 75)),[0,1,2,3,4,5,6,7,8,9,10,11,12,13,14,15])] (some [9,10,11,12,76]))
 (.cond (.t 76) (.seq (zr [zn 8 (.mov (zb true))] [8])
 (.ret)) (.skip))))
 (zr [zm 58 12,zn 59 (.bin .add (.t 58) (zi 1)),zm 12 59] [9,10,11,12]))
def zi2:IR:=.loop zeL
theorem zk1:zE zi2 zeL:=zal
def zeJ:IR:=.seq (.seq (zr [zm 46 11,zn 47 (.op (.iaa 3 1) [(.t 9),(zi 1)]),zl 48 1 47,zn 49 (.len (.t 48)),zn 50 (.bin .lss (.t 46) (.t 49))] [9,10,11,50])
 (.cond (.t 50) (.skip) (.ext 2)))
 (.seq (.blk 3 (.seq (zr [zn 12 (.mov (zi 0))] [9,10,11,12])
 (.blk 4 (zi2))))
 (zr [zm 51 11,zn 52 (.bin .add (.t 51) (zi 1)),zm 11 52] [9,10,11]))
def zi0:IR:=.loop zeJ
theorem zlh:zE zi0 zeJ:=zal
def zeN:IR:=.seq (.seq (zr [zm 39 10,zn 40 (.op (.iaa 3 1) [(.t 9),(zi 0)]),zl 41 1 40,zn 42 (.len (.t 41)),zn 43 (.bin .lss (.t 39) (.t 42))] [9,10,43])
 (.cond (.t 43) (.skip) (.ext 0)))
 (.seq (.blk 1 (.seq (zr [zn 11 (.mov (zi 0))] [9,10,11])
 (.blk 2 (zi0))))
 (zr [zm 44 10,zn 45 (.bin .add (.t 44) (zi 1)),zm 10 45] [9,10]))
def zfL:IR:=.loop zeN
theorem zlq:zE zfL zeN:=zal
def zdQ:IR:=.seq (zr [zn 4 (.box (.t 0)),zn 8 (.mov (zb false))] [1,2,3,4])
 (.seq (.dc [(zm 13 1,[],false),(zn 14 (.fad 1 (.t 4)),[],false),(zl 15 1 14,[1],false),(zn 16 (.iad 1 (.t 15) (zi 0)),[1,2],false),(zl 17 1 16,[1,2,3],false),(zn 18 (.iad 1 (.t 13) (.t 17)),[0,1,2,3,4],false),(zl 19 1 18,[0,1,2,3,4,5],false),(zm 20 1,[],false),(zn 21 (.fad 1 (.t 4)),[],false),(zl 22 1 21,[8],false),(zn 23 (.iad 1 (.t 22) (zi 1)),[8,9],false),(zl 24 1 23,[8,9,10],false),(zn 25 (.iad 1 (.t 20) (.t 24)),[7,8,9,10,11],false),(zl 26 1 25,[7,8,9,10,11,12],false),(zm 27 1,[],false),(zn 28 (.fad 1 (.t 4)),[],false),(zl 29 1 28,[15],false),(zn 30 (.iad 1 (.t 29) (zi 2)),[15,16],false),(zl 31 1 30,[15,16,17],false),(zn 32 (.iad 1 (.t 27) (.t 31)),[14,15,16,17,18],false),(zl 33 1 32,[14,15,16,17,18,19],false),(zn 34 (.bld [.nsl 1,.nsl 1,.nsl 1] [(0,1,(.t 19)),(1,1,(.t 26)),(2,1,(.t 33))]),[0,1,2,3,4,5,6,7,8,9,10,11,12,13,14,15,16,17,18,19,20],false),(zn 9 (.new (.agg [.nsl 1,.nsl 1,.nsl 1])),[],true),(⟨none,none,.st 3 (.t 9) (.t 34)⟩,[0,1,2,3,4,5,6,7,8,9,10,11,12,13,14,15,16,17,18,19,20,21,22],true)] (some [2,3,9]))
 (.seq (zr [zm 35 2,zm 36 3,zn 37 (.bsl (.int .i64 0) 1 [(0,(.t 36))]),zn 38 (.op (.iaa 3 1) [(.t 9),(.t 35)]),⟨none,none,.st 1 (.t 38) (.t 37)⟩] [9])
 (.seq (.seq (zr [zn 10 (.mov (zi 0))] [9,10])
 (.blk 0 (zfL)))
 (.seq (zr [zn 8 (.mov (zb false))] [8])
 (.ret)))))
def zc3:F:=⟨zdQ,[(8,none)],false⟩
def zn9:IR:=.seq (zr [zn 6 (.mov (zb false))] [0,1,2])
 (.seq (zr [zm 7 1,zn 8 (.bin .geq (.t 7) (zi 0)),zm 9 8,zM 10 9 1,zM 11 9 0,zg 12 9 (.len (.t 11)),zg 13 9 (.bin .lss (.t 10) (.t 12)),zp 14 9 13,zm 15 14,zM 16 15 0,zM 17 15 1,zg 18 15 (.iad 1 (.t 16) (.t 17)),zg 19 15 (.ld false 1 (.t 18)),zM 20 15 2,zg 21 15 (.bin .eql (.t 19) (.t 20)),zp 22 15 21,zm 6 22] [6])
 (.ret))
def zlE:F:=⟨zn9,[(6,none)],false⟩
def zbY:IR:=.seq (.seq (zr [zm 10 8,zm 11 0,zn 12 (.len (.t 11)),zn 13 (.bin .lss (.t 10) (.t 12))] [0,1,2,7,8,13])
 (.cond (.t 13) (.skip) (.ext 0)))
 (.seq (.blk 1 (.seq (zr [zm 16 0,zm 17 8,zn 18 (.iad 1 (.t 16) (.t 17)),zl 19 1 18,zm 20 1,zn 21 (.bin .geq (.t 19) (.t 20)),zm 22 21,zM 23 22 0,zM 24 22 8,zg 25 22 (.iad 1 (.t 23) (.t 24)),zg 26 22 (.ld false 1 (.t 25)),zM 27 22 2,zg 28 22 (.bin .leq (.t 26) (.t 27)),zp 29 22 28] [0,1,2,7,8,29])
 (.cond (.t 29) (zr [zm 30 7,zm 31 0,zm 32 8,zn 33 (.iad 1 (.t 31) (.t 32)),zl 34 1 33,zn 35 (.bsf (.int .i64 0) 1 [(0,(.t 34))]),zn 36 (.app 1 8 (.t 30) (.t 35)),zm 7 36] [0,1,2,7,8]) (.skip))))
 (zr [zm 14 8,zn 15 (.bin .add (.t 14) (zi 1)),zm 8 15] [0,1,2,7,8]))
def zgr:IR:=.loop zbY
theorem zgS:zE zgr zbY:=zal
def znr:IR:=.seq (zr [zn 6 (.mov (.c (.nsl 1)))] [0,1,2])
 (.seq (zr [zn 9 (.bsl (.int .i64 0) 0 []),zm 7 9] [0,1,2,7])
 (.seq (.seq (zr [zn 8 (.mov (zi 0))] [0,1,2,7,8])
 (.blk 0 (zgr)))
 (.seq (zr [zm 37 7,zm 6 37] [6])
 (.ret))))
def zjV:F:=⟨znr,[(6,none)],true⟩
def ze0:IR:=.seq (.seq (zr [zm 8 6,zm 9 0,zn 10 (.len (.t 9)),zn 11 (.bin .lss (.t 8) (.t 10))] [0,1,5,6,11])
 (.cond (.t 11) (.skip) (.ext 0)))
 (.seq (.blk 1 (.seq (zr [zm 14 0,zm 15 6,zn 16 (.iad 1 (.t 14) (.t 15)),zl 17 1 16,zm 18 1,zn 19 (.bin .neq (.t 17) (.t 18))] [0,1,5,6,19])
 (.cond (.t 19) (zr [zm 20 5,zm 21 0,zm 22 6,zn 23 (.iad 1 (.t 21) (.t 22)),zl 24 1 23,zn 25 (.bsf (.int .i64 0) 1 [(0,(.t 24))]),zn 26 (.app 1 8 (.t 20) (.t 25)),zm 5 26] [0,1,5,6]) (.skip))))
 (zr [zm 12 6,zn 13 (.bin .add (.t 12) (zi 1)),zm 6 13] [0,1,5,6]))
def zjm:IR:=.loop ze0
theorem zlu:zE zjm ze0:=zal
def zra:IR:=.seq (zr [zn 4 (.mov (.c (.nsl 1)))] [0,1])
 (.seq (zr [zn 7 (.bsl (.int .i64 0) 0 []),zm 5 7] [0,1,5])
 (.seq (.seq (zr [zn 6 (.mov (zi 0))] [0,1,5,6])
 (.blk 0 (zjm)))
 (.seq (zr [zm 27 5,zm 4 27] [4])
 (.ret))))
def znM:F:=⟨zra,[(4,none)],false⟩
def zd7:IR:=.seq (.seq (zr [zm 8 7,zn 9 (.fad 1 (.t 3)),zl 10 1 9,zn 11 (.len (.t 10)),zn 12 (.bin .lss (.t 8) (.t 11))] [1,2,3,7,12])
 (.cond (.t 12) (.skip) (.ext 0)))
 (.seq (.blk 1 (.seq (.dc [(zm 15 1,[],false),(zn 16 (.fad 1 (.t 3)),[],false),(zl 17 1 16,[1],false),(zm 18 7,[],false),(zn 19 (.iad 1 (.t 17) (.t 18)),[1,2,3],false),(zl 20 1 19,[1,2,3,4],false),(zn 21 (.iad 1 (.t 15) (.t 20)),[0,1,2,3,4,5],false),(zl 22 1 21,[0,1,2,3,4,5,6],false),(zn 23 (.fad 5 (.t 3)),[],false),(zl 24 1 23,[8],false),(zm 25 2,[],false),(zm 26 7,[],false),(zn 27 (.bin .add (.t 25) (.t 26)),[10,11],false),(zn 28 (.iad 1 (.t 24) (.t 27)),[8,9,10,11,12],false),(zl 29 1 28,[8,9,10,11,12,13],false),(zn 30 (.fad 5 (.t 3)),[],false),(zl 31 1 30,[15],false),(zm 32 2,[],false),(zm 33 7,[],false),(zn 34 (.bin .add (.t 32) (.t 33)),[17,18],false),(zn 35 (.iad 1 (.t 31) (.t 34)),[15,16,17,18,19],false),(zl 36 1 35,[15,16,17,18,19,20],false),(zn 37 (.call zd4 [(.t 22),(.t 29),(.t 36)]),[0,1,2,3,4,5,6,7,8,9,10,11,12,13,14,15,16,17,18,19,20,21],true),(zn 38 (.len (.t 37)),[0,1,2,3,4,5,6,7,8,9,10,11,12,13,14,15,16,17,18,19,20,21,22],false),(zn 39 (.bin .eql (.t 38) (zi 0)),[0,1,2,3,4,5,6,7,8,9,10,11,12,13,14,15,16,17,18,19,20,21,22,23],false)] (some [1,2,3,7,39]))
 (.cond (.t 39) (.seq (zr [zn 6 (.mov (zb false))] [6])
 (.ret)) (.skip))))
 (zr [zm 13 7,zn 14 (.bin .add (.t 13) (zi 1)),zm 7 14] [1,2,3,7]))
def zhW:IR:=.loop zd7
theorem zjp:zE zhW zd7:=zal
def zlY:IR:=.seq (zr [zn 3 (.box (.t 0)),zn 6 (.mov (zb false))] [1,2,3])
 (.seq (.seq (zr [zn 7 (.mov (zi 0))] [1,2,3,7])
 (.blk 0 (zhW)))
 (.seq (zr [zn 6 (.mov (zb true))] [6])
 (.ret)))
def ziG:F:=⟨zlY,[(6,none)],false⟩
def zde:IR:=.seq (zr [zn 9 (.bin .lss (.t 8) (.t 7))] [0,1,7,8,9])
 (.seq (.cond (.t 9) (.skip) (.ext 0))
 (.seq (.blk 1 (.seq (zr [zm 10 8,zm 5 10] [0,1,5,7,8])
 (.seq (zr [zm 11 1,zm 12 0,zm 13 5,zn 14 (.iad 1 (.t 12) (.t 13)),zl 15 1 14,zn 16 (.callv (.t 11) [(.t 15)])] [0,1,5,7,8,16])
 (.cond (.t 16) (.seq (zr [zm 17 5,zm 4 17] [4])
 (.ret)) (.skip)))))
 (zr [zn 18 (.bin .add (.t 8) (zi 1)),zm 8 18] [0,1,7,8])))
def zc0:IR:=.loop zde
theorem zrv:zE zc0 zde:=zal
def zi7:IR:=.seq (zr [zn 4 (.mov (zi 0))] [0,1])
 (.seq (.seq (zr [zm 6 0,zn 7 (.len (.t 6)),zn 8 (.mov (zi 0))] [0,1,7,8])
 (.blk 0 (zc0)))
 (.seq (zr [zn 4 (.mov (zi (-1)))] [4])
 (.ret)))
def zdX:F:=⟨zi7,[(4,none)],false⟩
def zee:IR:=.seq (zr [zn 11 (.bin .lss (.t 10) (.t 9))] [1,2,4,8,9,10,11])
 (.seq (.cond (.t 11) (.skip) (.ext 0))
 (.seq (.blk 1 (.seq (zr [zn 12 (.iad 1 (.t 8) (.t 10)),zl 13 1 12,zm 6 13] [1,2,4,6,8,9,10])
 (.seq (zr [zm 14 1,zm 15 6,zn 16 (.callv (.t 14) [(.t 15)]),zn 17 (.un .not (.t 16))] [1,2,4,6,8,9,10,17])
 (.cond (.t 17) (zr [zL 18 2 2,zm 19 6,zn 20 (.call zfB [(.t 18),(.t 19)]),⟨none,none,.st 2 (.t 2) (.t 20)⟩] [1,2,4,8,9,10]) (.skip)))))
 (zr [zn 21 (.bin .add (.t 10) (zi 1)),zm 10 21] [1,2,4,8,9,10])))
def zh3:IR:=.loop zee
theorem znl:zE zh3 zee:=zal
def zpY:IR:=.seq (zr [zn 2 (.box (.t 0)),zn 4 (.new (.agg [.nsl 1,.int .u64 0]))] [1,2,4])
 (.seq (.seq (zr [zL 7 2 2,zn 8 (.call zbZ [(.t 7)]),zn 9 (.len (.t 8)),zn 10 (.mov (zi 0))] [1,2,4,8,9,10])
 (.blk 0 (zh3)))
 (.seq (zr [zL 22 2 2,⟨none,none,.st 2 (.t 4) (.t 22)⟩] [4])
 (.ret)))
def zl2:F:=⟨zpY,[(4,some (true,2))],true⟩
def znN:IR:=.seq (zr [zn 2 (.mov (zb false))] [])
 (.seq (zr [zn 2 (.mov (zb false))] [2])
 (.ret))
def zjH:F:=⟨znN,[(2,none)],false⟩
def zfc:IR:=.seq (zr [zn 13 (.bin .lss (.t 12) (.t 11))] [2,3,6,7,10,11,12,13])
 (.seq (.cond (.t 13) (.skip) (.ext 0))
 (.seq (.blk 1 (.seq (zr [zm 14 12,zn 15 (.iad 1 (.t 10) (.t 12)),zl 16 1 15,zm 8 14,zm 9 16] [2,3,6,7,8,9,10,11,12])
 (.dq [(zL 17 2 7,[]),(zn 18 (.fad 2 (.t 3)),[]),(zl 19 1 18,[1]),(zm 20 8,[]),(zn 21 (.iad 1 (.t 19) (.t 20)),[1,2,3]),(zl 22 1 21,[1,2,3,4]),(zm 23 2,[]),(zm 24 9,[]),(zn 25 (.iad 2 (.t 23) (.t 24)),[6,7]),(zL 26 2 25,[6,7,8]),(zn 27 (.call zcj [(.t 17),(.t 22),(.t 26),(zi 1)]),[0,1,2,3,4,5,6,7,8,9]),(⟨none,none,.st 2 (.t 7) (.t 27)⟩,[0,1,2,3,4,5,6,7,8,9,10])] (some [2,3,6,7,10,11,12]))))
 (zr [zn 28 (.bin .add (.t 12) (zi 1)),zm 12 28] [2,3,6,7,10,11,12])))
def zgH:IR:=.loop zfc
theorem zmv:zE zgH zfc:=zal
def zoT:IR:=.seq (zr [zn 3 (.box (.t 0)),zn 6 (.new (.agg [.int .i64 0,.int .i64 0]))] [1,2,3,6])
 (.seq (zr [zn 7 (.new (.agg [.int .i64 0,.int .i64 0]))] [1,2,3,6,7])
 (.seq (.seq (zr [zm 10 1,zn 11 (.len (.t 10)),zn 12 (.mov (zi 0))] [2,3,6,7,10,11,12])
 (.blk 0 (zgH)))
 (.seq (zr [zL 29 2 7,⟨none,none,.st 2 (.t 6) (.t 29)⟩] [6])
 (.ret))))
def zkX:F:=⟨zoT,[(6,some (true,2))],false⟩
def zfH:IR:=.seq (zr [zn 4 (.box (.t 0)),zn 6 (.box (.t 2)),zn 8 (.new (.agg [.int .i64 0,.int .i64 0]))] [1,3,4,6,8])
 (.seq (zr [zL 16 2 6,zn 17 (.call zjf [(.t 16)]),zm 15 17,zn 18 (.ext (.t 15) 0),zn 19 (.ext (.t 15) 1),zm 9 18,zm 10 19] [1,3,4,6,8,9])
 (.seq (zr [zL 21 2 6,zn 22 (.call zg8 [(.t 21)]),zm 20 22,zn 23 (.ext (.t 20) 0),zn 24 (.ext (.t 20) 1),zm 11 23,zm 12 24] [1,3,4,8,9,11])
 (.seq (zr [zm 25 1,zm 26 9,zn 27 (.bin .mul (.t 25) (.t 26)),zm 28 1,zm 29 11,zn 30 (.bin .mul (.t 28) (.t 29)),zm 13 27,zm 14 30] [3,4,8,13,14])
 (.seq (zr [zn 31 (.fad 0 (.t 4)),zl 32 1 31,zm 33 3,zm 34 13,zm 35 14,zn 36 (.mxn false [(.t 34),(.t 35)]),zn 37 (.bin .mul (.t 33) (.t 36)),zn 38 (.bin .add (.t 32) (.t 37)),zn 39 (.fad 1 (.t 4)),zl 40 1 39,zm 41 3,zm 42 13,zm 43 14,zn 44 (.mxn true [(.t 42),(.t 43)]),zn 45 (.bin .mul (.t 41) (.t 44)),zn 46 (.bin .add (.t 40) (.t 45)),zn 47 (.bld [.int .i64 0,.int .i64 0] [(0,1,(.t 38)),(1,1,(.t 46))]),⟨none,none,.st 2 (.t 8) (.t 47)⟩] [8])
 (.ret)))))
def zdK:F:=⟨zfH,[(8,some (true,2))],false⟩
def zox:IR:=.seq (zr [zn 6 (.mov (zb false))] [0,1,2,3,4])
 (.seq (zr [zn 8 (.fad 2 (.t 1)),zl 9 1 8,zl 10 1 2,zn 11 (.iad 1 (.t 9) (.t 10)),zl 12 1 11,zm 13 0,zn 14 (.bin .mul (.t 12) (.t 13)),zm 7 14] [1,3,4,7])
 (.seq (zr [zn 15 (.fad 0 (.t 3)),zl 16 1 15,zm 17 7,zn 18 (.bin .add (.t 16) (.t 17)),zn 19 (.fad 1 (.t 3)),zl 20 1 19,zm 21 7,zn 22 (.bin .add (.t 20) (.t 21)),zn 23 (.bld [.int .i64 0,.int .i64 0] [(0,1,(.t 18)),(1,1,(.t 22))]),zl 24 1 4,zn 25 (.fad 4 (.t 1)),zl 26 1 25,zn 27 (.call zbX [(.t 23),(.t 24),(.t 26)]),zm 6 27] [6])
 (.ret)))
def zll:F:=⟨zox,[(6,none)],false⟩
def zbV:IR:=.seq (zr [zn 3 (.box (.t 0)),zn 4 (.box (.t 1)),zn 5 (.box (.t 2)),zn 6 (.mov (zb false))] [3,4,5])
 (.seq (zr [zn 8 (.mkf (.func zb2) [] [(.t 4),(.t 5)]),zm 7 8] [3,4,5,7])
 (.seq (.seq (zr [zl 9 1 4] [3,5,7,9])
 (.blk 0 (.seq (zr [zn 11 (.bin .eql (.t 9) (zi 0)),zm 10 11] [3,5,7,9,10])
 (.cond (.t 10) (.seq (zr [zn 12 (.fad 0 (.t 3)),zl 13 1 12,zl 14 1 5,zn 15 (.bin .leq (.t 13) (.t 14)),zm 16 15,zg 17 16 (.ld false 1 (.t 5)),zg 18 16 (.fad 1 (.t 3)),zg 19 16 (.ld false 1 (.t 18)),zg 20 16 (.bin .leq (.t 17) (.t 19)),zp 21 16 20,zm 6 21] [6])
 (.ret)) (.seq (.seq (zr [zn 23 (.bin .eql (.t 9) (zi 4)),zm 22 23] [3,7,9,22])
 (.cond (.t 22) (.skip) (zr [zn 24 (.bin .eql (.t 9) (zi 5)),zm 22 24] [3,7,9,22])))
 (.cond (.t 22) (.seq (zr [zm 25 7,zn 26 (.fad 1 (.t 3)),zl 27 1 26,zn 28 (.callv (.t 25) [(.t 27)]),zm 6 28] [6])
 (.ret)) (.seq (zr [zn 30 (.bin .eql (.t 9) (zi 1)),zm 29 30] [3,7,29])
 (.cond (.t 29) (.seq (zr [zm 31 7,zn 32 (.fad 0 (.t 3)),zl 33 1 32,zn 34 (.callv (.t 31) [(.t 33)]),zm 35 34,zF 36 35 7,zf 37 35 (.fad 1 (.t 3)),zf 38 35 (.ld false 1 (.t 37)),zf 39 35 (.callv (.t 36) [(.t 38)]),zq 40 35 39,zm 6 40] [6])
 (.ret)) (.skip)))))))))
 (.seq (zr [zm 41 7,zn 42 (.fad 0 (.t 3)),zl 43 1 42,zn 44 (.callv (.t 41) [(.t 43)]),zm 6 44] [6])
 (.ret))))
def zbp:F:=⟨zbV,[(6,none)],false⟩
def zlK:IR:=.seq (zr [zn 2 (.mov (zi 0))] [0])
 (.seq (.seq (zr [zm 3 0] [0,3])
 (.blk 0 (.seq (zr [zn 5 (.bin .eql (.t 3) (zi 0)),zm 4 5] [0,3,4])
 (.cond (.t 4) (.seq (zr [zn 2 (.mov (zi 1))] [2])
 (.ret)) (.seq (zr [zn 7 (.bin .eql (.t 3) (zi 1)),zm 6 7] [0,3,6])
 (.cond (.t 6) (.seq (zr [zn 2 (.mov (zi 0))] [2])
 (.ret)) (.seq (zr [zn 9 (.bin .eql (.t 3) (zi 2)),zm 8 9] [0,3,8])
 (.cond (.t 8) (.seq (zr [zn 2 (.mov (zi 5))] [2])
 (.ret)) (.seq (zr [zn 11 (.bin .eql (.t 3) (zi 5)),zm 10 11] [0,3,10])
 (.cond (.t 10) (.seq (zr [zn 2 (.mov (zi 2))] [2])
 (.ret)) (.seq (zr [zn 13 (.bin .eql (.t 3) (zi 3)),zm 12 13] [0,3,12])
 (.cond (.t 12) (.seq (zr [zn 2 (.mov (zi 4))] [2])
 (.ret)) (.seq (zr [zn 15 (.bin .eql (.t 3) (zi 4)),zm 14 15] [0,14])
 (.cond (.t 14) (.seq (zr [zn 2 (.mov (zi 3))] [2])
 (.ret)) (.skip)))))))))))))))
 (.seq (zr [zm 16 0,zm 2 16] [2])
 (.ret)))
def zg1:F:=⟨zlK,[(2,none)],false⟩
def zg4:IR:=.seq (zr [zn 4 (.mov (zb false))] [0,1,2])
 (.seq (.dq [(zm 5 0,[]),(zn 6 (.bin .eql (.t 5) (zi 1)),[0]),(zm 7 6,[0,1]),(zg 8 7 (.ld true 2 (.t 1)),[0,1,2]),(zg 9 7 (.fad 3 (.t 2)),[0,1,2]),(zg 10 7 (.ld false 1 (.t 9)),[0,1,2,4]),(zg 11 7 (.fad 4 (.t 2)),[0,1,2]),(zg 12 7 (.ld false 1 (.t 11)),[0,1,2,6]),(zg 13 7 (.call zbX [(.t 8),(.t 10),(.t 12)]),[0,1,2,3,4,5,6,7]),(zp 14 7 13,[0,1,2,3,4,5,6,7,8]),(zm 15 14,[0,1,2,3,4,5,6,7,8,9]),(zF 16 15 0,[0,1,2,3,4,5,6,7,8,9,10]),(zf 17 15 (.bin .eql (.t 16) (zi 0)),[0,1,2,3,4,5,6,7,8,9,10,11]),(zF 18 15 17,[0,1,2,3,4,5,6,7,8,9,10,11,12]),(zg 19 18 (.ld true 2 (.t 1)),[0,1,2,3,4,5,6,7,8,9,10,11,12,13]),(zg 20 18 (.fad 3 (.t 2)),[0,1,2,3,4,5,6,7,8,9,10,11,12,13]),(zg 21 18 (.ld false 1 (.t 20)),[0,1,2,3,4,5,6,7,8,9,10,11,12,13,15]),(zg 22 18 (.call zcT [(.t 21)]),[0,1,2,3,4,5,6,7,8,9,10,11,12,13,15,16]),(zg 23 18 (.fad 4 (.t 2)),[0,1,2,3,4,5,6,7,8,9,10,11,12,13]),(zg 24 18 (.ld false 1 (.t 23)),[0,1,2,3,4,5,6,7,8,9,10,11,12,13,18]),(zg 25 18 (.call zbX [(.t 19),(.t 22),(.t 24)]),[0,1,2,3,4,5,6,7,8,9,10,11,12,13,14,15,16,17,18,19]),(zf 26 15 (.pick (.t 18) (.t 25) (zb false)),[0,1,2,3,4,5,6,7,8,9,10,11,12,13,14,15,16,17,18,19,20]),(zq 27 15 26,[0,1,2,3,4,5,6,7,8,9,10,11,12,13,14,15,16,17,18,19,20,21]),(zm 4 27,[0,1,2,3,4,5,6,7,8,9,10,11,12,13,14,15,16,17,18,19,20,21,22])] (some [4]))
 (.ret))
def ze2:F:=⟨zg4,[(4,none)],false⟩
def zaA:IR:=.seq (.seq (zr [zm 13 7,zm 14 8,zn 15 (.bin .lss (.t 13) (.t 14))] [0,1,6,7,8,15])
 (.cond (.t 15) (.skip) (.ext 0)))
 (.blk 1 (.seq (zr [zm 16 7,zm 17 8,zn 18 (.bin .add (.t 16) (.t 17)),zn 19 (.conv .u64 (.t 18)),zn 20 (.bin .shr (.t 19) (.c (.int .u64 1))),zn 21 (.conv .i64 (.t 20)),zm 9 21] [0,1,6,7,8,9])
 (.seq (zr [zm 22 0,zm 23 9,zn 24 (.iad 1 (.t 22) (.t 23)),zl 25 1 24,zm 26 1,zn 27 (.call zhw [(.t 25),(.t 26)])] [0,1,6,7,8,9,27])
 (.cond (.t 27) (zr [zm 28 9,zn 29 (.bin .add (.t 28) (zi 1)),zm 7 29] [0,1,6,7,8]) (zr [zm 30 9,zm 8 30] [0,1,6,7,8])))))
def zbg:IR:=.loop zaA
theorem zaT:zE zbg zaA:=zal
def za0:IR:=.seq (zr [zn 4 (.mov (zi 0)),zn 5 (.mov (zb false))] [0,1])
 (.seq (zr [zm 10 0,zn 11 (.len (.t 10)),zm 6 11] [0,1,6])
 (.seq (zr [zm 12 6,zn 7 (.mov (zi 0)),zm 8 12] [0,1,6,7,8])
 (.seq (.blk 0 (zbg))
 (.seq (zr [zm 31 7,zm 32 7,zm 33 6,zn 34 (.bin .lss (.t 32) (.t 33)),zm 35 34,zM 36 35 0,zM 37 35 7,zg 38 35 (.iad 1 (.t 36) (.t 37)),zg 39 35 (.ld false 1 (.t 38)),zM 40 35 1,zg 41 35 (.bin .eql (.t 39) (.t 40)),zM 42 35 41,zF 43 42 0,zF 44 42 7,zf 45 42 (.iad 1 (.t 43) (.t 44)),zf 46 42 (.ld false 1 (.t 45)),zf 47 42 (.call zcr [(.t 46)]),zF 48 42 47,zM 49 48 1,zg 50 48 (.call zcr [(.t 49)]),zf 51 42 (.pick (.t 48) (.t 50) (zb false)),zg 52 35 (.pick (.t 42) (zb true) (.t 51)),zp 53 35 52,zm 4 31,zm 5 53] [4,5])
 (.ret)))))
def zaI:F:=⟨za0,[(4,none),(5,none)],false⟩
def zh6:IR:=.seq (zr [zn 2 (.box (.t 0)),zn 4 (.mov (.c (.nsl 1)))] [1,2])
 (.seq (zr [zn 5 (.mov (.c (.nsl 1)))] [1,2,5])
 (.seq (.seq (zr [zL 6 2 2,zn 7 (.call zcl [(.t 6)]),zn 8 (.un .not (.t 7))] [1,2,5,8])
 (.cond (.t 8) (.seq (zr [zm 9 5,zm 4 9] [4])
 (.ret)) (.skip)))
 (.seq (zr [zm 10 1,zL 11 2 2,zn 12 (.callv (.t 10) [(.t 11)]),zm 4 12] [4])
 (.ret))))
def ze5:F:=⟨zh6,[(4,none)],false⟩
def zhi:IR:=.seq (zr [zn 11 (.bin .lss (.t 10) (.t 9))] [1,3,8,9,10,11])
 (.seq (.cond (.t 11) (.skip) (.ext 0))
 (.seq (.blk 1 (.seq (zr [zn 12 (.iad 1 (.t 8) (.t 10)),zl 13 1 12,zm 5 13] [1,3,5,8,9,10])
 (zr [zm 14 3,zn 15 (.fad 0 (.t 1)),zl 16 1 15,zm 17 5,zn 18 (.iad 1 (.t 16) (.t 17)),zl 19 1 18,zn 20 (.bsf (.int .i64 0) 1 [(0,(.t 19))]),zn 21 (.app 1 8 (.t 14) (.t 20)),zm 3 21] [1,3,8,9,10])))
 (zr [zn 22 (.bin .add (.t 10) (zi 1)),zm 10 22] [1,3,8,9,10])))
def zjM:IR:=.loop zhi
theorem zoU:zE zjM zhi:=zal
def zqZ:IR:=.seq (zr [zn 1 (.box (.t 0)),zn 2 (.mov (.c (.nsl 1)))] [1])
 (.seq (zr [zn 3 (.mov (.c (.nsl 1)))] [1,3])
 (.seq (.seq (zr [zn 6 (.fad 1 (.t 1)),zl 7 1 6,zn 8 (.call zgP [(.t 7)]),zn 9 (.len (.t 8)),zn 10 (.mov (zi 0))] [1,3,8,9,10])
 (.blk 0 (zjM)))
 (.seq (zr [zm 23 3,zm 2 23] [2])
 (.ret))))
def znx:F:=⟨zqZ,[(2,none)],false⟩
def zdC:IR:=zr [zm 4 7] [3,4]
def zdD:IR:=.blk 1 (zr [zl 8 1 3,zm 9 4,zn 10 (.bsf (.int .i64 0) 1 [(0,(.t 9))]),zn 11 (.app 1 8 (.t 8) (.t 10)),⟨none,none,.st 1 (.t 3) (.t 11)⟩] [])
def zpi:IR:=.seq (zr [zn 2 (.mov (.c (.nsl 1)))] [0,2])
 (.seq (zr [zn 3 (.new (.nsl 1))] [0,2,3])
 (.seq (.seq (zr [zm 5 0,zn 6 (.call zoi [(.t 5)])] [2,3,6])
 (.blk 0 (.rf (.t 6) [7] zdC zdD)))
 (.seq (zr [zl 12 1 3,zm 2 12] [2])
 (.ret))))
def zmk:F:=⟨zpi,[(2,none)],false⟩
def zqF:IR:=.seq (zr [zn 2 (.box (.t 0)),zn 3 (.box (.t 1)),zn 4 (.new (.agg [.nsl 1,.int .u64 0]))] [2,3,4])
 (.seq (zr [zL 5 2 2,zn 6 (.mkf (.func zfu) [] [(.t 3)]),zn 7 (.call zb0 [(.t 5),(.t 6)]),⟨none,none,.st 2 (.t 4) (.t 7)⟩] [4])
 (.ret))
def zod:F:=⟨zqF,[(4,some (true,2))],true⟩
def zq4:IR:=.seq (zr [zn 3 (.mov (zb false))] [0,1])
 (.seq (zr [zm 4 0,zl 5 1 1,zn 6 (.bin .neq (.t 4) (.t 5)),zm 3 6] [3])
 (.ret))
def zna:F:=⟨zq4,[(3,none)],false⟩
def zpa:IR:=.seq (zr [zn 1 (.box (.t 0)),zn 2 (.mov (zi 0)),zn 3 (.mov (zb false))] [1])
 (.seq (.seq (zr [zL 4 2 1,zn 5 (.call zcl [(.t 4)]),zn 6 (.un .not (.t 5))] [1,6])
 (.cond (.t 6) (.seq (zr [zn 2 (.mov (zi 0)),zn 3 (.mov (zb false))] [2,3])
 (.ret)) (.skip)))
 (.seq (.dq [(zL 7 2 1,[]),(zn 8 (.fad 1 (.t 1)),[]),(zl 9 1 8,[1]),(zn 10 (.call zhE [(.t 9)]),[1,2]),(zn 11 (.call zpQ [(.t 7),(.t 10)]),[0,1,2,3]),(zn 12 (.ext (.t 11) 0),[0,1,2,3,4]),(zn 13 (.ext (.t 11) 1),[0,1,2,3,4]),(zm 2 12,[0,1,2,3,4,5,6]),(zm 3 13,[0,1,2,3,4,5,6,7])] (some [2,3]))
 (.ret)))
def zl5:F:=⟨zpa,[(2,none),(3,none)],false⟩
def zcU:IR:=.seq (zr [zn 9 (.bin .lss (.t 8) (.t 7))] [0,1,7,8,9])
 (.seq (.cond (.t 9) (.skip) (.ext 0))
 (.seq (.blk 1 (.seq (zr [zm 10 8,zm 5 10] [0,1,5,7,8])
 (.seq (zr [zm 11 1,zm 12 0,zm 13 5,zn 14 (.iad 1 (.t 12) (.t 13)),zl 15 1 14,zn 16 (.callv (.t 11) [(.t 15)])] [0,1,5,7,8,16])
 (.cond (.t 16) (.seq (zr [zm 17 5,zm 4 17] [4])
 (.ret)) (.skip)))))
 (zr [zn 18 (.bin .add (.t 8) (zi 1)),zm 8 18] [0,1,7,8])))
def zcE:IR:=.loop zcU
theorem zqI:zE zcE zcU:=zal
def zib:IR:=.seq (zr [zn 4 (.mov (zi 0))] [0,1])
 (.seq (.seq (zr [zm 6 0,zn 7 (.len (.t 6)),zn 8 (.mov (zi 0))] [0,1,7,8])
 (.blk 0 (zcE)))
 (.seq (zr [zn 4 (.mov (zi (-1)))] [4])
 (.ret)))
def zdg:F:=⟨zib,[(4,none)],false⟩
def zaE:IR:=.seq (zr [zn 27 (.bin .lss (.t 26) (.t 25))] [3,24,25,26,27])
 (.seq (.cond (.t 27) (.skip) (.ext 0))
 (.seq (.blk 1 (.seq (zr [zm 28 26,zn 29 (.iad 1 (.t 24) (.t 26)),zl 30 1 29,zm 8 28,zm 9 30] [3,8,9,24,25,26])
 (.seq (zr [zm 31 9,zn 32 (.bin .lss (.t 31) (zi 0)),zm 33 32,zF 34 33 9,zf 35 33 (.fad 6 (.t 3)),zf 36 33 (.ld false 1 (.t 35)),zf 37 33 (.bin .geq (.t 34) (.t 36)),zq 38 33 37,zm 39 38,zf 40 39 (.fad 0 (.t 3)),zf 41 39 (.fad 1 (.t 40)),zf 42 39 (.ld false 1 (.t 41)),zF 43 39 8,zf 44 39 (.sll 1 (.t 42) none (some (.t 43)) none),zF 45 39 9,zf 46 39 (.call zaz [(.t 44),(.t 45)]),zq 47 39 46] [3,24,25,26,47])
 (.cond (.t 47) (.seq (zr [zn 6 (.mov (zb false))] [6])
 (.ret)) (.skip)))))
 (zr [zn 48 (.bin .add (.t 26) (zi 1)),zm 26 48] [3,24,25,26])))
def zb8:IR:=.loop zaE
theorem zev:zE zb8 zaE:=zal
def zbb:IR:=.seq (zr [zn 3 (.box (.t 0)),zn 6 (.mov (zb false))] [1,2,3])
 (.seq (zr [zn 10 (.fad 0 (.t 3)),zn 11 (.fad 1 (.t 10)),zl 12 1 11,zn 13 (.len (.t 12)),zm 7 13] [1,2,3,7])
 (.seq (.seq (zr [zm 14 7,zm 15 1,zn 16 (.bin .lss (.t 14) (.t 15)),zm 17 16,zF 18 17 7,zF 19 17 2,zf 20 17 (.bin .gtr (.t 18) (.t 19)),zq 21 17 20] [3,21])
 (.cond (.t 21) (.seq (zr [zn 6 (.mov (zb false))] [6])
 (.ret)) (.skip)))
 (.seq (.seq (zr [zn 22 (.fad 0 (.t 3)),zn 23 (.fad 1 (.t 22)),zl 24 1 23,zn 25 (.len (.t 24)),zn 26 (.mov (zi 0))] [3,24,25,26])
 (.blk 0 (zb8)))
 (.seq (zr [zn 6 (.mov (zb true))] [6])
 (.ret)))))
def zaR:F:=⟨zbb,[(6,none)],false⟩
def zaZ:IR:=.seq (zr [zn 2 (.box (.t 0)),zn 4 (.mov (zb false))] [1,2])
 (.seq (zr [zn 6 (.fad 0 (.t 2)),zL 7 6 6,zn 5 (.new (.agg [.int .i64 0,.nsl 1,.nsl 1,.int .i64 0,.int .i64 0,.nsl 1])),⟨none,none,.st 6 (.t 5) (.t 7)⟩] [1,5])
 (.seq (zr [zn 8 (.fad 2 (.t 5)),zl 9 1 8,zn 10 (.len (.t 9)),zn 11 (.fad 1 (.t 5)),zl 12 1 11,zn 13 (.len (.t 12)),zm 14 1,zn 15 (.bin .sub (.t 13) (.t 14)),zn 16 (.bin .eql (.t 10) (.t 15)),zm 17 16,zg 18 17 (.fad 2 (.t 5)),zg 19 17 (.ld false 1 (.t 18)),zg 20 17 (.call zdz [(.t 19),(zi 1048576)]),zp 21 17 20,zm 22 21,zg 23 22 (.fad 2 (.t 5)),zg 24 22 (.ld false 1 (.t 23)),zg 25 22 (.call zaz [(.t 24),(zi 0)]),zg 26 22 (.un .not (.t 25)),zp 27 22 26,zm 28 27,zg 29 28 (.fad 3 (.t 5)),zg 30 28 (.ld false 1 (.t 29)),zg 31 28 (.bin .geq (.t 30) (zi 0)),zp 32 28 31,zm 33 32,zg 34 33 (.fad 3 (.t 5)),zg 35 33 (.ld false 1 (.t 34)),zg 36 33 (.bin .leq (.t 35) (zi 5)),zp 37 33 36,zm 38 37,zg 39 38 (.fad 4 (.t 5)),zg 40 38 (.ld false 1 (.t 39)),zg 41 38 (.bsf (.int .i64 0) 1 [(0,(.t 40))]),zg 42 38 (.call zdz [(.t 41),(zi 1099511627776)]),zp 43 38 42,zm 44 43,zg 45 44 (.fad 5 (.t 5)),zg 46 44 (.ld false 1 (.t 45)),zg 47 44 (.len (.t 46)),zg 48 44 (.bin .eql (.t 47) (zi 0)),zp 49 44 48,zm 4 49] [4])
 (.ret)))
def zaO:F:=⟨zaZ,[(4,none)],false⟩
def za6:IR:=.seq (zr [zn 3 (.box (.t 0)),zn 6 (.mov (zb false))] [1,2,3])
 (.seq (zr [zn 8 (.fad 0 (.t 3)),zL 9 6 8,zn 7 (.new (.agg [.int .i64 0,.nsl 1,.nsl 1,.int .i64 0,.int .i64 0,.nsl 1])),⟨none,none,.st 6 (.t 7) (.t 9)⟩] [1,2,7])
 (.seq (zr [zn 10 (.fad 2 (.t 7)),zl 11 1 10,zn 12 (.len (.t 11)),zn 13 (.bin .eql (.t 12) (zi 0)),zm 14 13,zg 15 14 (.fad 3 (.t 7)),zg 16 14 (.ld false 1 (.t 15)),zg 17 14 (.bin .eql (.t 16) (zi 0)),zp 18 14 17,zm 19 18,zg 20 19 (.fad 4 (.t 7)),zg 21 19 (.ld false 1 (.t 20)),zg 22 19 (.bin .eql (.t 21) (zi 0)),zp 23 19 22,zm 24 23,zg 25 24 (.fad 5 (.t 7)),zg 26 24 (.ld false 1 (.t 25)),zg 27 24 (.len (.t 26)),zM 28 24 1,zg 29 24 (.bin .geq (.t 27) (.t 28)),zp 30 24 29,zm 31 30,zg 32 31 (.fad 5 (.t 7)),zg 33 31 (.ld false 1 (.t 32)),zg 34 31 (.len (.t 33)),zM 35 31 2,zg 36 31 (.bin .leq (.t 34) (.t 35)),zp 37 31 36,zm 38 37,zg 39 38 (.fad 5 (.t 7)),zg 40 38 (.ld false 1 (.t 39)),zg 41 38 (.call zdz [(.t 40),(zi 1048576)]),zp 42 38 41,zm 6 42] [6])
 (.ret)))
def zaU:F:=⟨za6,[(6,none)],false⟩
def zoW:IR:=.seq (zr [zn 4 (.mov (zb false))] [0,1])
 (.seq (zr [zm 5 0,zn 6 (.call zef [(.t 5)]),zm 7 6,zM 8 7 1,zg 9 7 (.call zef [(.t 8)]),zg 10 7 (.un .not (.t 9)),zp 11 7 10,zm 12 11,zF 13 12 0,zF 14 12 1,zf 15 12 (.bin .lss (.t 13) (.t 14)),zq 16 12 15,zm 4 16] [4])
 (.ret))
def zk7:F:=⟨zoW,[(4,none)],false⟩
def zds:IR:=.seq (.seq (zr [zm 23 8,zm 24 1,zn 25 (.len (.t 24)),zn 26 (.bin .lss (.t 23) (.t 25))] [1,2,4,5,6,7,8,26])
 (.cond (.t 26) (.skip) (.ext 2)))
 (.seq (.blk 3 (.seq (.dq [(zm 29 1,[]),(zm 30 8,[]),(zn 31 (.iad 1 (.t 29) (.t 30)),[0,1]),(zl 32 1 31,[0,1,2]),(zn 33 (.fad 0 (.t 2)),[]),(zl 34 1 33,[4]),(zm 35 7,[]),(zn 36 (.iad 1 (.t 34) (.t 35)),[4,5,6]),(zl 37 1 36,[4,5,6,7]),(zn 38 (.bin .eql (.t 32) (.t 37)),[0,1,2,3,4,5,6,7,8]),(zm 39 38,[0,1,2,3,4,5,6,7,8,9]),(zM 40 39 6,[0,1,2,3,4,5,6,7,8,9,10]),(zg 41 39 (.bin .rem (.t 40) (.c (.int .u64 2))),[0,1,2,3,4,5,6,7,8,9,10,11]),(zg 42 39 (.bin .eql (.t 41) (.c (.int .u64 1))),[0,1,2,3,4,5,6,7,8,9,10,11,12]),(zp 43 39 42,[0,1,2,3,4,5,6,7,8,9,10,11,12,13])] (some [1,2,4,5,6,7,8,43]))
 (.cond (.t 43) (zr [zm 44 7,zn 45 (.op (.iaa 64 1) [(.t 5),(.t 44)]),⟨none,none,.st 1 (.t 45) (zb true)⟩] [1,2,4,5,6,7,8]) (.skip))))
 (zr [zm 27 8,zn 28 (.bin .add (.t 27) (zi 1)),zm 8 28] [1,2,4,5,6,7,8]))
def zjJ:IR:=.loop zds
theorem zg6:zE zjJ zds:=zal
def zg7:IR:=.seq (.seq (zr [zm 16 7,zn 17 (.fad 0 (.t 2)),zl 18 1 17,zn 19 (.len (.t 18)),zn 20 (.bin .lss (.t 16) (.t 19))] [1,2,4,5,6,7,20])
 (.cond (.t 20) (.skip) (.ext 0)))
 (.seq (.blk 1 (.seq (.seq (zr [zn 8 (.mov (zi 0))] [1,2,4,5,6,7,8])
 (.blk 2 (zjJ)))
 (zr [zm 46 6,zn 47 (.bin .quo (.t 46) (.c (.int .u64 2))),zm 6 47] [1,2,4,5,6,7])))
 (zr [zm 21 7,zn 22 (.bin .add (.t 21) (zi 1)),zm 7 22] [1,2,4,5,6,7]))
def zjW:IR:=.loop zg7
theorem zoF:zE zjW zg7:=zal
def zm4:IR:=.seq (zr [zn 2 (.box (.t 0)),zn 4 (.new (.agg [.nsl 1,.int .u64 0]))] [1,2,4])
 (.seq (.seq (zr [zL 9 2 2,zn 10 (.call zfo [(.t 9)]),zn 11 (.un .not (.t 10))] [1,2,4,11])
 (.cond (.t 11) (.seq (zr [zn 12 (.bld [.nsl 1,.int .u64 0] []),⟨none,none,.st 2 (.t 4) (.t 12)⟩] [4])
 (.ret)) (.skip)))
 (.seq (zr [zn 13 (.bld [.bool false,.bool false,.bool false,.bool false,.bool false,.bool false,.bool false,.bool false,.bool false,.bool false,.bool false,.bool false,.bool false,.bool false,.bool false,.bool false,.bool false,.bool false,.bool false,.bool false,.bool false,.bool false,.bool false,.bool false,.bool false,.bool false,.bool false,.bool false,.bool false,.bool false,.bool false,.bool false,.bool false,.bool false,.bool false,.bool false,.bool false,.bool false,.bool false,.bool false,.bool false,.bool false,.bool false,.bool false,.bool false,.bool false,.bool false,.bool false,.bool false,.bool false,.bool false,.bool false,.bool false,.bool false,.bool false,.bool false,.bool false,.bool false,.bool false,.bool false,.bool false,.bool false,.bool false,.bool false] []),zn 5 (.new (.agg [.bool false,.bool false,.bool false,.bool false,.bool false,.bool false,.bool false,.bool false,.bool false,.bool false,.bool false,.bool false,.bool false,.bool false,.bool false,.bool false,.bool false,.bool false,.bool false,.bool false,.bool false,.bool false,.bool false,.bool false,.bool false,.bool false,.bool false,.bool false,.bool false,.bool false,.bool false,.bool false,.bool false,.bool false,.bool false,.bool false,.bool false,.bool false,.bool false,.bool false,.bool false,.bool false,.bool false,.bool false,.bool false,.bool false,.bool false,.bool false,.bool false,.bool false,.bool false,.bool false,.bool false,.bool false,.bool false,.bool false,.bool false,.bool false,.bool false,.bool false,.bool false,.bool false,.bool false,.bool false])),⟨none,none,.st 64 (.t 5) (.t 13)⟩] [1,2,4,5])
 (.seq (zr [zn 14 (.fad 1 (.t 2)),zl 15 1 14,zm 6 15] [1,2,4,5,6])
 (.seq (.seq (zr [zn 7 (.mov (zi 0))] [1,2,4,5,6,7])
 (.blk 0 (zjW)))
 (.seq (.dc [(zn 48 (.bsl (.int .i64 0) 0 []),[],true),(zn 49 (.fad 0 (.t 2)),[],false),(zl 50 1 49,[1],false),(zn 51 (.app 1 8 (.t 48) (.t 50)),[0,1,2],true),(zL 52 64 5,[],false),(zn 53 (.call zlT [(.t 52)]),[0,1,2,3,4],false),(zn 54 (.bld [.nsl 1,.int .u64 0] [(0,1,(.t 51)),(1,1,(.t 53))]),[0,1,2,3,4,5],false),(⟨none,none,.st 2 (.t 4) (.t 54)⟩,[0,1,2,3,4,5,6],true)] (some [4]))
 (.ret))))))
def zkk:F:=⟨zm4,[(4,some (true,2))],false⟩
def zlj:IR:=.seq (zr [zn 1 (.box (.t 0)),zn 2 (.mov (zi 0)),zn 3 (.mov (zb false))] [1])
 (.seq (.seq (zr [zL 4 2 1,zn 5 (.call zcl [(.t 4)]),zn 6 (.un .not (.t 5))] [1,6])
 (.cond (.t 6) (.seq (zr [zn 2 (.mov (zi 0)),zn 3 (.mov (zb false))] [2,3])
 (.ret)) (.skip)))
 (.seq (.dq [(zL 7 2 1,[]),(zn 8 (.fad 1 (.t 1)),[]),(zl 9 1 8,[1]),(zn 10 (.call zgs [(.t 9)]),[1,2]),(zn 11 (.call zpQ [(.t 7),(.t 10)]),[0,1,2,3]),(zn 12 (.ext (.t 11) 0),[0,1,2,3,4]),(zn 13 (.ext (.t 11) 1),[0,1,2,3,4]),(zm 2 12,[0,1,2,3,4,5,6]),(zm 3 13,[0,1,2,3,4,5,6,7])] (some [2,3]))
 (.ret)))
def zhl:F:=⟨zlj,[(2,none),(3,none)],false⟩
def zjx:IR:=.seq (zr [zn 4 (.mov (zb false))] [0,1,2])
 (.seq (zr [zm 5 0,zl 6 1 1,zl 7 1 2,zn 8 (.call zkj [(.t 5),(.t 6),(.t 7)]),zm 4 8] [4])
 (.ret))
def zff:F:=⟨zjx,[(4,none)],false⟩
def zc5:IR:=.seq (zr [zn 6 (.mov (zb false))] [0,1,2])
 (.seq (.seq (zr [zm 7 1] [0,2,7])
 (.blk 0 (.seq (zr [zn 9 (.bin .eql (.t 7) (zi 0)),zm 8 9] [0,2,7,8])
 (.cond (.t 8) (.seq (zr [zm 10 0,zm 11 2,zn 12 (.bin .eql (.t 10) (.t 11)),zm 6 12] [6])
 (.ret)) (.seq (zr [zn 14 (.bin .eql (.t 7) (zi 1)),zm 13 14] [0,2,7,13])
 (.cond (.t 13) (.seq (zr [zm 15 0,zm 16 2,zn 17 (.bin .neq (.t 15) (.t 16)),zm 6 17] [6])
 (.ret)) (.seq (zr [zn 19 (.bin .eql (.t 7) (zi 2)),zm 18 19] [0,2,7,18])
 (.cond (.t 18) (.seq (zr [zm 20 0,zm 21 2,zn 22 (.bin .lss (.t 20) (.t 21)),zm 6 22] [6])
 (.ret)) (.seq (zr [zn 24 (.bin .eql (.t 7) (zi 3)),zm 23 24] [0,2,7,23])
 (.cond (.t 23) (.seq (zr [zm 25 0,zm 26 2,zn 27 (.bin .leq (.t 25) (.t 26)),zm 6 27] [6])
 (.ret)) (.seq (zr [zn 29 (.bin .eql (.t 7) (zi 4)),zm 28 29] [0,2,7,28])
 (.cond (.t 28) (.seq (zr [zm 30 0,zm 31 2,zn 32 (.bin .gtr (.t 30) (.t 31)),zm 6 32] [6])
 (.ret)) (.seq (zr [zn 34 (.bin .eql (.t 7) (zi 5)),zm 33 34] [0,2,33])
 (.cond (.t 33) (.seq (zr [zm 35 0,zm 36 2,zn 37 (.bin .geq (.t 35) (.t 36)),zm 6 37] [6])
 (.ret)) (.skip)))))))))))))))
 (.seq (zr [zn 6 (.mov (zb false))] [6])
 (.ret)))
def zcm:F:=⟨zc5,[(6,none)],false⟩
def zkC:IR:=.seq (zr [zn 2 (.mov (zb false))] [0])
 (.seq (zr [zm 3 0,zm 4 0,zn 5 (.bin .neq (.t 3) (.t 4)),zm 2 5] [2])
 (.ret))
def zfW:F:=⟨zkC,[(2,none)],false⟩
def zt0:IR:=.seq (zr [zn 1 (.box (.t 0)),zn 2 (.mov (.c (.nilf)))] [1])
 (.seq (zr [zn 3 (.mkf (.func zfC) [] [(.t 1)]),zm 2 3] [2])
 (.ret))
def zqz:F:=⟨zt0,[(2,none)],true⟩
def zfk:IR:=.seq (zr [zn 2 (.box (.t 0)),zn 4 (.new (.agg [.nsl 1,.int .u64 0]))] [1,2,4])
 (.seq (zr [zn 5 (.new (.agg [.nsl 1,.int .u64 0]))] [1,2,4,5])
 (.seq (.seq (zr [zL 6 2 2,zn 7 (.call zcl [(.t 6)]),zn 8 (.un .not (.t 7))] [1,2,4,5,8])
 (.cond (.t 8) (.seq (zr [zL 9 2 5,⟨none,none,.st 2 (.t 4) (.t 9)⟩] [4])
 (.ret)) (.skip)))
 (.seq (zr [zm 10 1,zL 11 2 2,zn 12 (.callv (.t 10) [(.t 11)]),⟨none,none,.st 2 (.t 4) (.t 12)⟩] [4])
 (.ret))))
def zc8:F:=⟨zfk,[(4,some (true,2))],true⟩
def ze1:IR:=.seq (zr [zn 16 (.bin .lss (.t 15) (.t 14))] [1,2,3,4,13,14,15,16])
 (.seq (.cond (.t 16) (.skip) (.ext 0))
 (.seq (.blk 1 (.seq (zr [zn 17 (.iad 1 (.t 13) (.t 15)),zl 18 1 17,zm 6 18] [1,2,3,4,6,13,14,15])
 (.seq (.dq [(zl 19 1 1,[]),(zn 20 (.fad 0 (.t 2)),[]),(zl 21 1 20,[1]),(zm 22 6,[]),(zn 23 (.iad 1 (.t 21) (.t 22)),[1,2,3]),(zl 24 1 23,[1,2,3,4]),(zn 25 (.callv (.t 19) [(.t 24)]),[0,1,2,3,4,5])] (some [1,2,3,4,6,13,14,15,25]))
 (.cond (.t 25) (.dq [(zn 26 (.fad 1 (.t 4)),[]),(zl 27 1 26,[0]),(zm 28 6,[]),(zn 29 (.bsf (.int .i64 0) 1 [(0,(.t 28))]),[2]),(zn 30 (.call zqa [(.t 29)]),[2,3]),(zn 31 (.bin .or (.t 27) (.t 30)),[0,1,2,3,4]),(zn 32 (.fad 1 (.t 4)),[0,1,2,3,4,5]),(⟨none,none,.st 1 (.t 32) (.t 31)⟩,[0,1,2,3,4,5,6])] (some [1,2,3,4,13,14,15])) (.skip)))))
 (zr [zn 33 (.bin .add (.t 15) (zi 1)),zm 15 33] [1,2,3,4,13,14,15])))
def zjA:IR:=.loop ze1
theorem zkV:zE zjA ze1:=zal
def zqW:IR:=.seq (zr [zn 2 (.box (.t 0)),zn 3 (.new (.agg [.nsl 1,.int .u64 0]))] [1,2,3])
 (.seq (zr [zn 7 (.fad 0 (.t 2)),zl 8 1 7,zn 9 (.call zas [(.t 8)]),zn 10 (.bld [.nsl 1,.int .u64 0] [(0,1,(.t 9))]),zn 4 (.new (.agg [.nsl 1,.int .u64 0])),⟨none,none,.st 2 (.t 4) (.t 10)⟩] [1,2,3,4])
 (.seq (.seq (zr [zn 11 (.fad 1 (.t 2)),zl 12 1 11,zn 13 (.call zgP [(.t 12)]),zn 14 (.len (.t 13)),zn 15 (.mov (zi 0))] [1,2,3,4,13,14,15])
 (.blk 0 (zjA)))
 (.seq (zr [zL 34 2 4,⟨none,none,.st 2 (.t 3) (.t 34)⟩] [3])
 (.ret))))
def zmM:F:=⟨zqW,[(3,some (true,2))],true⟩
def zlN:IR:=.seq (zr [zn 9 (.bin .lss (.t 8) (.t 7))] [3,6,7,8,9])
 (.seq (.cond (.t 9) (.skip) (.ext 0))
 (.seq (.blk 1 (.seq (zr [zn 10 (.iad 1 (.t 6) (.t 8)),zl 11 1 10,zm 5 11] [3,5,6,7,8])
 (.seq (zr [zm 12 5,zn 13 (.bin .geq (.t 12) (zi 0)),zm 14 13,zM 15 14 5,zg 16 14 (.bin .lss (.t 15) (zi 64)),zp 17 14 16] [3,5,6,7,8,17])
 (.cond (.t 17) (zr [zm 18 3,zm 19 5,zn 20 (.bin .shl (.c (.int .u64 1)) (.t 19)),zn 21 (.bin .or (.t 18) (.t 20)),zm 3 21] [3,6,7,8]) (.skip)))))
 (zr [zn 22 (.bin .add (.t 8) (zi 1)),zm 8 22] [3,6,7,8])))
def zkI:IR:=.loop zlN
theorem zse:zE zkI zlN:=zal
def zwk:IR:=.seq (zr [zn 2 (.mov (.c (.int .u64 0)))] [0])
 (.seq (zr [zn 3 (.mov (.c (.int .u64 0)))] [0,3])
 (.seq (.seq (zr [zm 6 0,zn 7 (.len (.t 6)),zn 8 (.mov (zi 0))] [3,6,7,8])
 (.blk 0 (zkI)))
 (.seq (zr [zm 23 3,zm 2 23] [2])
 (.ret))))
def zsL:F:=⟨zwk,[(2,none)],false⟩
def zug:IR:=.seq (zr [zn 2 (.box (.t 0)),zn 4 (.mov (zi 0)),zn 5 (.mov (zb false))] [1,2])
 (.seq (.seq (zr [zm 6 1,zn 7 (.bin .lss (.t 6) (zi 0))] [1,2,7])
 (.cond (.t 7) (.seq (zr [zn 4 (.mov (zi 0)),zn 5 (.mov (zb false))] [4,5])
 (.ret)) (.skip)))
 (.seq (zr [zn 8 (.fad 0 (.t 2)),zl 9 1 8,zm 10 1,zn 11 (.iad 1 (.t 9) (.t 10)),zl 12 1 11,zm 4 12,zn 5 (.mov (zb true))] [4,5])
 (.ret)))
def zrC:F:=⟨zug,[(4,none),(5,none)],false⟩
def znw:IR:=.seq (zr [zn 2 (.mov (zi 0))] [0])
 (.seq (.seq (zr [zm 3 0,zn 4 (.bin .eql (.t 3) (.c (.int .u64 0)))] [0,4])
 (.cond (.t 4) (.seq (zr [zn 2 (.mov (zi (-1)))] [2])
 (.ret)) (.skip)))
 (.seq (zr [zm 5 0,zn 6 (.call zaV [(.t 5)]),zm 2 6] [2])
 (.ret)))
def zkm:F:=⟨znw,[(2,none)],false⟩
def zoE:IR:=.seq (zr [zn 3 (.box (.t 1)),zn 4 (.mov (zb false))] [0,3])
 (.seq (zr [zm 5 0,zn 6 (.mkf (.func zci) [] [(.t 3)]),zn 7 (.call zan [(.t 5),(.t 6)]),zn 8 (.un .not (.t 7)),zm 4 8] [4])
 (.ret))
def zlv:F:=⟨zoE,[(4,none)],false⟩
def znV:IR:=.seq (zr [zn 2 (.mov (zb false))] [0])
 (.seq (zr [zm 3 0,zm 4 0,zn 5 (.bin .neq (.t 3) (.t 4)),zm 2 5] [2])
 (.ret))
def zi6:F:=⟨znV,[(2,none)],false⟩
def zgl:IR:=.seq (.seq (zr [zm 5 4,zn 6 (.bin .geq (.t 5) (zi 0))] [1,3,4,6])
 (.cond (.t 6) (.skip) (.ext 0)))
 (.seq (.blk 1 (.seq (zr [zm 9 3,zn 10 (.bin .mul (.c (.int .u64 2)) (.t 9)),zm 3 10] [1,3,4])
 (.seq (zr [zm 11 4,zn 12 (.op (.iaa 64 1) [(.t 1),(.t 11)]),zl 13 1 12] [1,3,4,13])
 (.cond (.t 13) (zr [zm 14 3,zn 15 (.bin .add (.t 14) (.c (.int .u64 1))),zm 3 15] [1,3,4]) (.skip)))))
 (zr [zm 7 4,zn 8 (.bin .sub (.t 7) (zi 1)),zm 4 8] [1,3,4]))
def zln:IR:=.loop zgl
theorem zlM:zE zln zgl:=zal
def ztd:IR:=.seq (zr [zn 1 (.box (.t 0)),zn 2 (.mov (.c (.int .u64 0)))] [1])
 (.seq (zr [zn 3 (.mov (.c (.int .u64 0)))] [1,3])
 (.seq (.seq (zr [zn 4 (.mov (zi 63))] [1,3,4])
 (.blk 0 (zln)))
 (.seq (zr [zm 16 3,zm 2 16] [2])
 (.ret))))
def zo4:F:=⟨ztd,[(2,none)],false⟩
def znX:IR:=.seq (zr [zn 2 (.mov (zi 0))] [0])
 (.seq (zr [zm 3 0,zn 4 (.call zbk [(.t 3)]),zn 5 (.bin .sub (zi 63) (.t 4)),zm 2 5] [2])
 (.ret))
def zi4:F:=⟨znX,[(2,none)],false⟩
def zg3:IR:=.seq (.seq (zr [zl 3 1 1,zn 4 (.bin .neq (.t 3) (.c (.int .u64 0)))] [0,1,4])
 (.cond (.t 4) (.skip) (.ext 0)))
 (.seq (.blk 1 (.seq (zr [zm 9 0,zl 10 1 1,zn 11 (.call zhE [(.t 10)]),zn 12 (.callv (.t 9) [(.t 11)]),zn 13 (.un .not (.t 12))] [0,1,13])
 (.cond (.t 13) (.ret) (.skip))))
 (zr [zl 5 1 1,zl 6 1 1,zn 7 (.bin .sub (.t 6) (.c (.int .u64 1))),zn 8 (.bin .and (.t 5) (.t 7)),⟨none,none,.st 1 (.t 1) (.t 8)⟩] [0,1]))
def zgh:IR:=.loop zg3
theorem zoB:zE zgh zg3:=zal
def zqS:IR:=.blk 0 (zgh)
def znu:F:=⟨zqS,[],true⟩
def zmy:IR:=.seq (zr [zn 3 (.mov (zb false))] [0,1])
 (.seq (zr [zm 4 0,zl 5 1 1,zn 6 (.un .neg (.t 5)),zn 7 (.bin .lss (.t 4) (.t 6)),zm 8 7,zF 9 8 0,zf 10 8 (.ld false 1 (.t 1)),zf 11 8 (.bin .gtr (.t 9) (.t 10)),zq 12 8 11,zm 3 12] [3])
 (.ret))
def zh2:F:=⟨zmy,[(3,none)],false⟩
def zex:IR:=.seq (zr [zn 2 (.mov (zi 0))] [0])
 (.seq (zr [zm 3 0,zn 4 (.call zcM [(.t 3)]),zn 5 (.bin .sub (zi 64) (.t 4)),zm 2 5] [2])
 (.ret))
def zcc:F:=⟨zex,[(2,none)],false⟩
def tbl:List (Nat×F):=[(zhq,zdx),(ziv,zmm),(ziK,zfJ),(zeD,zlC),(zgQ,zfl),(ziT,zel),(zcC,zo6),(zed,zhK),(zkt,znH),(zem,zdy),(zgW,zqr),(zgw,zjE),(ziY,zo9),(zfM,zej),(zix,zgi),(zi5,zjK),(zaX,zbK),(zhx,znG),(zmn,zo2),(za7,zb3),(zbt,zcz),(zbc,zbI),(zaz,zew),(zao,zaS),(zgX,zlB),(zfo,zgN),(zf8,zad),(zkw,zhO),(zkN,zcZ),(zf6,za5),(zeT,zcy),(zeF,zcA),(zgd,zdc),(zhN,zd0),(zfX,zgp),(zhz,znT),(zkL,zmX),(zkS,zkn),(zaf,zbG),(zfZ,zmh),(zay,zbE),(zep,zmg),(zbR,zbs),(zgf,zl6),(zcl,zlI),(zdL,zgk),(zbh,zcb),(zbl,zbi),(za2,zcx),(zbD,zbB),(zbe,zf5),(zbf,zfQ),(zgV,zme),(zkO,zhF),(zhG,zaY),(zkP,znd),(zku,zno),(zkd,zhJ),(zkF,zmW),(zdO,zje),(zan,zc1),(zcR,zjN),(zf2,zl4),(zfv,zm8),(zkp,zfs),(zdp,zim),(ziQ,zlS),(zbZ,zqH),(zfB,zqu),(zdo,zid),(zeW,zlf),(zdh,zch),(zjB,zsE),(zdi,zif),(zdY,zju),(zkD,zko),(ziP,zl9),(zd3,zf1),(zbW,zcS),(zkx,zkb),(zeY,zla),(ziJ,zmo),(zaG,zcD),(zdq,zlw),(zbQ,zc6),(zaJ,zb5),(zaK,zb6),(zcq,zdT),(zca,zdG),(zdM,zfI),(zb9,zdF),(zcn,zdZ),(zcF,zbN),(zkl,zhP),(zaQ,zlW),(zf0,ziz),(zcs,zl3),(za9,znh),(zgI,zlZ),(zjF,zmi),(zc4,zkg),(zdf,zil),(zhy,zmQ),(zgK,zdd),(zhM,zc3),(zlL,zlE),(zd4,zjV),(zkz,znM),(ziH,ziG),(zaH,zdX),(zco,zl2),(zdR,zjH),(zeC,zkX),(zcj,zdK),(zdA,zll),(zbX,zbp),(zcT,zg1),(zdB,ze2),(za1,zaI),(ze8,ze5),(zfz,znx),(zgP,zmk),(zol,zod),(zhT,zna),(zjf,zl5),(za4,zdg),(zax,zaR),(zck,zaO),(za8,zaU),(zhw,zk7),(zky,zkk),(zg8,zhl),(zb2,zff),(zkj,zcm),(zcr,zfW),(zoi,zqz),(zb0,zc8),(zfu,zmM),(zqa,zsL),(zpQ,zrC),(zhE,zkm),(zdz,zlv),(zef,zi6),(zlT,zo4),(zgs,zi4),(zfC,znu),(zci,zh2),(zbk,zcc)]
def T (n:Nat):Option F:=(tbl.find? fun p=>p.1==n).map (·.2)
theorem zhu:T zhq=some zdx:=rfl
theorem zu3:T ziv=some zmm:=rfl
theorem zuu:T ziK=some zfJ:=rfl
theorem ztj:T zeD=some zlC:=rfl
theorem ztg:T zgQ=some zfl:=rfl
theorem zus:T ziT=some zel:=rfl
theorem zxg:T zcC=some zo6:=rfl
theorem zwd:T zed=some zhK:=rfl
theorem zwx:T zkt=some znH:=rfl
theorem zqx:T zem=some zdy:=rfl
theorem zyu:T zgW=some zqr:=rfl
theorem zss:T zgw=some zjE:=rfl
theorem zw1:T ziY=some zo9:=rfl
theorem zqg:T zfM=some zej:=rfl
theorem zpy:T zix=some zgi:=rfl
theorem zwL:T zi5=some zjK:=rfl
theorem zeA:T zaX=some zbK:=rfl
theorem zwf:T zhx=some znG:=rfl
theorem zwI:T zmn=some zo2:=rfl
theorem ziZ:T za7=some zb3:=rfl
theorem zk5:T zbt=some zcz:=rfl
theorem zfA:T zbc=some zbI:=rfl
theorem zeu:T zaz=some zew:=rfl
theorem zbU:T zao=some zaS:=rfl
theorem zy8:T zgX=some zlB:=rfl
theorem zxd:T zfo=some zgN:=rfl
theorem zuz:T zf8=some zad:=rfl
theorem zv2:T zkw=some zhO:=rfl
theorem zvN:T zkN=some zcZ:=rfl
theorem zqe:T zf6=some za5:=rfl
theorem zoX:T zeT=some zcy:=rfl
theorem zoP:T zeF=some zcA:=rfl
theorem zp1:T zgd=some zdc:=rfl
theorem zqX:T zhN=some zd0:=rfl
theorem zs8:T zfX=some zgp:=rfl
theorem zvF:T zhz=some znT:=rfl
theorem zwe:T zkL=some zmX:=rfl
theorem zrm:T zkS=some zkn:=rfl
theorem zeh:T zaf=some zbG:=rfl
theorem zuU:T zfZ=some zmh:=rfl
theorem zei:T zay=some zbE:=rfl
theorem zuj:T zep=some zmg:=rfl
theorem zu1:T zbR=some zbs:=rfl
theorem zuG:T zgf=some zl6:=rfl
theorem zAg:T zcl=some zlI:=rfl
theorem zqd:T zdL=some zgk:=rfl
theorem zj9:T zbh=some zcb:=rfl
theorem zj8:T zbl=some zbi:=rfl
theorem zld:T za2=some zcx:=rfl
theorem zfx:T zbD=some zbB:=rfl
theorem zgb:T zbe=some zf5:=rfl
theorem zlV:T zbf=some zfQ:=rfl
theorem zw9:T zgV=some zme:=rfl
theorem zv6:T zkO=some zhF:=rfl
theorem zeb:T zhG=some zaY:=rfl
theorem zvo:T zkP=some znd:=rfl
theorem zvz:T zku=some zno:=rfl
theorem znf:T zkd=some zhJ:=rfl
theorem zwo:T zkF=some zmW:=rfl
theorem zr7:T zdO=some zje:=rfl
theorem zbw:T zan=some zc1:=rfl
theorem zrY:T zcR=some zjN:=rfl
theorem zuF:T zf2=some zl4:=rfl
theorem zvp:T zfv=some zm8:=rfl
theorem zkf:T zkp=some zfs:=rfl
theorem zrt:T zdp=some zim:=rfl
theorem zu5:T ziQ=some zlS:=rfl
theorem zys:T zbZ=some zqH:=rfl
theorem zyn:T zfB=some zqu:=rfl
theorem zrz:T zdo=some zid:=rfl
theorem ztq:T zeW=some zlf:=rfl
theorem ze7:T zdh=some zch:=rfl
theorem zBc:T zjB=some zsE:=rfl
theorem zrp:T zdi=some zif:=rfl
theorem zsk:T zdY=some zju:=rfl
theorem zro:T zkD=some zko:=rfl
theorem zu8:T ziP=some zl9:=rfl
theorem znR:T zd3=some zf1:=rfl
theorem zqw:T zbW=some zcS:=rfl
theorem zvX:T zkx=some zkb:=rfl
theorem ztv:T zeY=some zla:=rfl
theorem zuy:T ziJ=some zmo:=rfl
theorem zgy:T zaG=some zcD:=rfl
theorem ztE:T zdq=some zlw:=rfl
theorem zmc:T zbQ=some zc6:=rfl
theorem zfp:T zaJ=some zb5:=rfl
theorem zfh:T zaK=some zb6:=rfl
theorem zmT:T zcq=some zdT:=rfl
theorem zmH:T zca=some zdG:=rfl
theorem zpZ:T zdM=some zfI:=rfl
theorem zmG:T zb9=some zdF:=rfl
theorem znL:T zcn=some zdZ:=rfl
theorem zoo:T zcF=some zbN:=rfl
theorem zwb:T zkl=some zhP:=rfl
theorem zva:T zaQ=some zlW:=rfl
theorem zp8:T zf0=some ziz:=rfl
theorem zul:T zcs=some zl3:=rfl
theorem zwa:T za9=some znh:=rfl
theorem zwH:T zgI=some zlZ:=rfl
theorem zwW:T zjF=some zmi:=rfl
theorem zvl:T zc4=some zkg:=rfl
theorem zrq:T zdf=some zil:=rfl
theorem zwu:T zhy=some zmQ:=rfl
theorem zxh:T zgK=some zdd:=rfl
theorem zvG:T zhM=some zc3:=rfl
theorem zyN:T zlL=some zlE:=rfl
theorem zsX:T zd4=some zjV:=rfl
theorem zvU:T zkz=some znM:=rfl
theorem zui:T ziH=some ziG:=rfl
theorem zb1:T zaH=some zdX:=rfl
theorem zun:T zco=some zl2:=rfl
theorem zsl:T zdR=some zjH:=rfl
theorem ztA:T zeC=some zkX:=rfl
theorem zpF:T zcj=some zdK:=rfl
theorem zoG:T zdA=some zll:=rfl
theorem zqR:T zbX=some zbp:=rfl
theorem zqy:T zcT=some zg1:=rfl
theorem zoQ:T zdB=some ze2:=rfl
theorem zhS:T za1=some zaI:=rfl
theorem zmr:T ze8=some ze5:=rfl
theorem zvr:T zfz=some znx:=rfl
theorem zta:T zgP=some zmk:=rfl
theorem ztP:T zol=some zod:=rfl
theorem zwv:T zhT=some zna:=rfl
theorem zw3:T zjf=some zl5:=rfl
theorem zhY:T za4=some zdg:=rfl
theorem zlD:T zax=some zaR:=rfl
theorem zp5:T zck=some zaO:=rfl
theorem zpd:T za8=some zaU:=rfl
theorem ztC:T zhw=some zk7:=rfl
theorem zq1:T zky=some zkk:=rfl
theorem ztF:T zg8=some zhl:=rfl
theorem zjP:T zb2=some zff:=rfl
theorem zvi:T zkj=some zcm:=rfl
theorem zpR:T zcr=some zfW:=rfl
theorem zyt:T zoi=some zqz:=rfl
theorem zja:T zb0=some zc8:=rfl
theorem zvQ:T zfu=some zmM:=rfl
theorem zBi:T zqa=some zsL:=rfl
theorem zCG:T zpQ=some zrC:=rfl
theorem zwB:T zhE=some zkm:=rfl
theorem ztG:T zdz=some zlv:=rfl
theorem zr6:T zef=some zi6:=rfl
theorem zxw:T zlT=some zo4:=rfl
theorem zr9:T zgs=some zi4:=rfl
theorem zv1:T zfC=some znu:=rfl
theorem zrA:T zci=some zh2:=rfl
theorem zj5:T zbk=some zcc:=rfl
theorem T_all:(tbl.all fun p=>mF Go.Proofs.Tryz.prog p.1 p.2)=true:=by kernel_rfl
theorem T_ok:∀ f F,T f=some F→mF Go.Proofs.Tryz.prog f F=true:=by
 intro f F h
 unfold T at h
 obtain ⟨p,hp,rfl⟩:=Option.map_eq_some_iff.1 h
 have h1:=List.mem_of_find?_eq_some hp
 have h2:p.1=f:=by simpa using List.find?_some hp
 subst h2
 clear h hp
 exact List.all_eq_true.1 T_all p h1
theorem zh4:mFN Go.Proofs.Tryz.prog zav zaP=true:=by kernel_rfl
end Go.RR.M
