/- The code of the functions, for the second reading; that it is theirs. -/
import Derived.Test.YtblfcmjcdclijaaProg
import Derived.KernelRfl
import Derived.Test.YtblfcmjcdclijaaR4
set_option linter.unusedVariables false
set_option linter.unusedSimpArgs false
namespace Go.RR.A
open Go Go.RR
set_option maxRecDepth 100000
/-- gosem.cut.init -/
def i2 : IR := .rg [⟨(some 0), none, .call 1 []⟩] (some [])
def F2 : F := ⟨i2, [], false⟩
/-- stratagem/stratagemlaw06.OctetTells -/
def i3 : IR := .seq (.rg [⟨(some 4), none, .mov (.c (.bool false))⟩] (some [0, 1]))
   (.seq (.seq (.rg [⟨(some 15), none, .call 9 []⟩,
    ⟨(some 16), none, .un .not (.t 15)⟩] (some [0, 1, 16]))
   (.cond (.t 16) (.seq (.rg [⟨(some 4), none, .mov (.c (.bool false))⟩] (some [4]))
   (.ret)) (.skip)))
   (.seq (.seq (.rg [⟨(some 17), none, .mov (.t 1)⟩,
    ⟨(some 18), none, .len (.t 17)⟩,
    ⟨(some 19), none, .bin .gtr (.t 18) (.c (.int .i64 400))⟩] (some [0, 1, 19]))
   (.cond (.t 19) (.seq (.rg [⟨(some 4), none, .mov (.c (.bool true))⟩] (some [4]))
   (.ret)) (.skip)))
   (.seq (.rg [⟨(some 21), none, .mov (.t 0)⟩,
    ⟨(some 22), none, .call 10 [(.t 21)]⟩,
    ⟨(some 20), none, .mov (.t 22)⟩,
    ⟨(some 23), none, .ext (.t 20) 0⟩,
    ⟨(some 24), none, .ext (.t 20) 1⟩,
    ⟨(some 5), none, .mov (.t 23)⟩,
    ⟨(some 6), none, .mov (.t 24)⟩] (some [0, 1, 5, 6]))
   (.seq (.rg [⟨(some 26), none, .mov (.t 0)⟩,
    ⟨(some 27), none, .call 11 [(.t 26)]⟩,
    ⟨(some 25), none, .mov (.t 27)⟩,
    ⟨(some 28), none, .ext (.t 25) 0⟩,
    ⟨(some 29), none, .ext (.t 25) 1⟩,
    ⟨(some 7), none, .mov (.t 28)⟩,
    ⟨(some 8), none, .mov (.t 29)⟩] (some [0, 1, 5, 6, 7, 8]))
   (.seq (.rg [⟨(some 31), none, .mov (.t 1)⟩,
    ⟨(some 32), none, .call 12 [(.t 31)]⟩,
    ⟨(some 30), none, .mov (.t 32)⟩,
    ⟨(some 33), none, .ext (.t 30) 0⟩,
    ⟨(some 34), none, .ext (.t 30) 1⟩,
    ⟨(some 35), none, .ext (.t 30) 2⟩,
    ⟨(some 9), none, .mov (.t 33)⟩,
    ⟨(some 10), none, .mov (.t 34)⟩,
    ⟨(some 11), none, .mov (.t 35)⟩] (some [0, 1, 5, 6, 7, 8, 9, 10, 11]))
   (.seq (.rg [⟨(some 37), none, .mov (.t 1)⟩,
    ⟨(some 38), none, .call 13 [(.t 37)]⟩,
    ⟨(some 36), none, .mov (.t 38)⟩,
    ⟨(some 39), none, .ext (.t 36) 0⟩,
    ⟨(some 40), none, .ext (.t 36) 1⟩,
    ⟨(some 41), none, .ext (.t 36) 2⟩,
    ⟨(some 12), none, .mov (.t 39)⟩,
    ⟨(some 13), none, .mov (.t 40)⟩,
    ⟨(some 14), none, .mov (.t 41)⟩] (some [0, 1, 5, 6, 7, 8, 9, 10, 11, 12, 13, 14]))
   (.seq (.rg [⟨(some 42), none, .mov (.t 5)⟩,
    ⟨(some 43), none, .mov (.t 7)⟩,
    ⟨(some 44), none, .call 14 [(.t 42), (.t 43)]⟩,
    ⟨(some 45), none, .mov (.t 44)⟩,
    ⟨(some 46), (some (45, true)), .mov (.t 6)⟩,
    ⟨(some 47), (some (45, true)), .mov (.t 8)⟩,
    ⟨(some 48), (some (45, true)), .bin .eql (.t 46) (.t 47)⟩,
    ⟨(some 49), none, .pick (.t 45) (.t 48) (.c (.bool false))⟩,
    ⟨(some 50), none, .mov (.t 49)⟩,
    ⟨(some 51), (some (50, true)), .mov (.t 9)⟩,
    ⟨(some 52), (some (50, true)), .mov (.t 12)⟩,
    ⟨(some 53), (some (50, true)), .bin .eql (.t 51) (.t 52)⟩,
    ⟨(some 54), none, .pick (.t 50) (.t 53) (.c (.bool false))⟩,
    ⟨(some 55), none, .mov (.t 54)⟩,
    ⟨(some 56), (some (55, true)), .mov (.t 10)⟩,
    ⟨(some 57), (some (55, true)), .mov (.t 13)⟩,
    ⟨(some 58), (some (55, true)), .bin .eql (.t 56) (.t 57)⟩,
    ⟨(some 59), none, .pick (.t 55) (.t 58) (.c (.bool false))⟩,
    ⟨(some 60), none, .mov (.t 59)⟩,
    ⟨(some 61), (some (60, true)), .mov (.t 11)⟩,
    ⟨(some 62), (some (60, true)), .mov (.t 14)⟩,
    ⟨(some 63), (some (60, true)), .bin .eql (.t 61) (.t 62)⟩,
    ⟨(some 64), none, .pick (.t 60) (.t 63) (.c (.bool false))⟩,
    ⟨(some 65), none, .mov (.t 64)⟩,
    ⟨(some 66), (some (65, true)), .mov (.t 1)⟩,
    ⟨(some 67), (some (65, true)), .call 15 [(.t 66)]⟩,
    ⟨(some 68), (some (65, true)), .mov (.t 1)⟩,
    ⟨(some 69), (some (65, true)), .call 16 [(.t 68)]⟩,
    ⟨(some 70), (some (65, true)), .bin .eql (.t 67) (.t 69)⟩,
    ⟨(some 71), none, .pick (.t 65) (.t 70) (.c (.bool false))⟩,
    ⟨(some 72), none, .mov (.t 71)⟩,
    ⟨(some 73), (some (72, true)), .mov (.t 0)⟩,
    ⟨(some 74), (some (72, true)), .call 17 [(.t 73)]⟩,
    ⟨(some 75), (some (72, true)), .mov (.t 0)⟩,
    ⟨(some 76), (some (72, true)), .call 18 [(.t 75)]⟩,
    ⟨(some 77), (some (72, true)), .call 14 [(.t 74), (.t 76)]⟩,
    ⟨(some 78), none, .pick (.t 72) (.t 77) (.c (.bool false))⟩,
    ⟨(some 4), none, .mov (.t 78)⟩] (some [4]))
   (.ret))))))))
def F3 : F := ⟨i3, [(4, none)], false⟩
/-- stratagem/stratagemlaw06.OctetReads -/
def i4_b0 : IR := .seq (.rg [⟨(some 27), none, .bin .lss (.t 26) (.t 25)⟩] (some [5, 6, 24, 25, 26, 27]))
   (.seq (.cond (.t 27) (.skip) (.ext 0))
   (.seq (.blk 1 (.seq (.rg [⟨(some 28), none, .iad 1 (.t 24) (.t 26)⟩,
    ⟨(some 29), none, .ld false 1 (.t 28)⟩,
    ⟨(some 8), none, .mov (.t 29)⟩] (some [5, 6, 8, 24, 25, 26]))
   (.seq (.seq (.rg [⟨(some 30), none, .mov (.t 8)⟩,
    ⟨(some 31), none, .bin .eql (.t 30) (.c (.int .u64 0))⟩] (some [5, 6, 8, 24, 25, 26, 31]))
   (.cond (.t 31) (.seq (.rg [⟨(some 32), none, .mov (.t 5)⟩,
    ⟨(some 33), none, .call 20 [(.t 32)]⟩,
    ⟨(some 34), none, .mov (.t 6)⟩,
    ⟨(some 35), none, .call 21 [(.t 34)]⟩,
    ⟨(some 36), none, .bin .neq (.t 33) (.t 35)⟩] (some [5, 6, 24, 25, 26, 36]))
   (.cond (.t 36) (.seq (.rg [⟨(some 4), none, .mov (.c (.bool false))⟩] (some [4]))
   (.ret)) (.skip))) (.seq (.rg [⟨(some 37), none, .mov (.t 5)⟩,
    ⟨(some 38), none, .mov (.t 8)⟩,
    ⟨(some 39), none, .call 22 [(.t 37), (.t 38)]⟩,
    ⟨(some 40), none, .mov (.t 6)⟩,
    ⟨(some 41), none, .mov (.t 8)⟩,
    ⟨(some 42), none, .call 23 [(.t 40), (.t 41)]⟩,
    ⟨(some 43), none, .bin .neq (.t 39) (.t 42)⟩] (some [5, 6, 24, 25, 26, 43]))
   (.cond (.t 43) (.seq (.rg [⟨(some 4), none, .mov (.c (.bool false))⟩] (some [4]))
   (.ret)) (.skip)))))
   (.seq (.rg [⟨(some 44), none, .mov (.t 5)⟩,
    ⟨(some 45), none, .call 24 [(.t 44)]⟩,
    ⟨(some 46), none, .mov (.t 6)⟩,
    ⟨(some 47), none, .call 25 [(.t 46)]⟩,
    ⟨(some 48), none, .bin .neq (.t 45) (.t 47)⟩,
    ⟨(some 49), none, .mov (.t 48)⟩,
    ⟨(some 50), (some (49, false)), .mov (.t 5)⟩,
    ⟨(some 51), (some (49, false)), .call 26 [(.t 50)]⟩,
    ⟨(some 52), (some (49, false)), .mov (.t 6)⟩,
    ⟨(some 53), (some (49, false)), .call 27 [(.t 52)]⟩,
    ⟨(some 54), (some (49, false)), .bin .neq (.t 51) (.t 53)⟩,
    ⟨(some 55), none, .pick (.t 49) (.c (.bool true)) (.t 54)⟩] (some [5, 6, 24, 25, 26, 55]))
   (.cond (.t 55) (.seq (.rg [⟨(some 4), none, .mov (.c (.bool false))⟩] (some [4]))
   (.ret)) (.skip))))))
   (.rg [⟨(some 56), none, .bin .add (.t 26) (.c (.int .i64 1))⟩,
    ⟨(some 26), none, .mov (.t 56)⟩] (some [5, 6, 24, 25, 26]))))
def i4_l0 : IR := .loop i4_b0
theorem r4_l0 {C : Cx} {n : Nat} {fr : Fr} {h : List Ob} : ev C (n + 1) i4_l0 fr h = nxt (ev C (n + 1) i4_b0 fr h) fun fr h => ev C n i4_l0 fr h := ev_loop
def i4 : IR := .seq (.rg [⟨(some 4), none, .mov (.c (.bool false))⟩] (some [0, 1]))
   (.seq (.seq (.rg [⟨(some 9), none, .call 9 []⟩,
    ⟨(some 10), none, .un .not (.t 9)⟩] (some [0, 1, 10]))
   (.cond (.t 10) (.seq (.rg [⟨(some 4), none, .mov (.c (.bool false))⟩] (some [4]))
   (.ret)) (.skip)))
   (.seq (.seq (.rg [⟨(some 11), none, .mov (.t 0)⟩,
    ⟨(some 12), none, .len (.t 11)⟩,
    ⟨(some 13), none, .bin .gtr (.t 12) (.c (.int .i64 400))⟩,
    ⟨(some 14), none, .mov (.t 13)⟩,
    ⟨(some 15), (some (14, false)), .mov (.t 1)⟩,
    ⟨(some 16), (some (14, false)), .len (.t 15)⟩,
    ⟨(some 17), (some (14, false)), .bin .gtr (.t 16) (.c (.int .i64 60))⟩,
    ⟨(some 18), none, .pick (.t 14) (.c (.bool true)) (.t 17)⟩] (some [0, 1, 18]))
   (.cond (.t 18) (.seq (.rg [⟨(some 4), none, .mov (.c (.bool true))⟩] (some [4]))
   (.ret)) (.skip)))
   (.seq (.rg [⟨(some 19), none, .mov (.t 0)⟩,
    ⟨(some 20), none, .call 19 [(.t 19)]⟩,
    ⟨(some 21), none, .mov (.t 0)⟩,
    ⟨(some 22), none, .bld [.nsl 1, .int .i64 0] [(0, 1, (.t 21))]⟩,
    ⟨(some 23), none, .box (.t 22)⟩,
    ⟨(some 5), none, .mov (.t 20)⟩,
    ⟨(some 6), none, .mov (.t 23)⟩] (some [1, 5, 6]))
   (.seq (.seq (.rg [⟨(some 24), none, .mov (.t 1)⟩,
    ⟨(some 25), none, .len (.t 24)⟩,
    ⟨(some 26), none, .mov (.c (.int .i64 0))⟩] (some [5, 6, 24, 25, 26]))
   (.blk 0 (i4_l0)))
   (.seq (.rg [⟨(some 4), none, .mov (.c (.bool true))⟩] (some [4]))
   (.ret))))))
def F4 : F := ⟨i4, [(4, none)], false⟩
/-- stratagem/stratagemlaw06.OctetBack -/
def i5 : IR := .seq (.rg [⟨(some 6), none, .mov (.c (.bool false))⟩] (some [0, 1, 2]))
   (.seq (.seq (.rg [⟨(some 17), none, .call 9 []⟩,
    ⟨(some 18), none, .un .not (.t 17)⟩] (some [0, 1, 2, 18]))
   (.cond (.t 18) (.seq (.rg [⟨(some 6), none, .mov (.c (.bool false))⟩] (some [6]))
   (.ret)) (.skip)))
   (.seq (.seq (.rg [⟨(some 19), none, .mov (.t 2)⟩,
    ⟨(some 20), none, .len (.t 19)⟩,
    ⟨(some 21), none, .bin .gtr (.t 20) (.c (.int .i64 400))⟩] (some [0, 1, 2, 21]))
   (.cond (.t 21) (.seq (.rg [⟨(some 6), none, .mov (.c (.bool true))⟩] (some [6]))
   (.ret)) (.skip)))
   (.seq (.rg [⟨(some 23), none, .mov (.t 0)⟩,
    ⟨(some 24), none, .call 10 [(.t 23)]⟩,
    ⟨(some 22), none, .mov (.t 24)⟩,
    ⟨(some 25), none, .ext (.t 22) 0⟩,
    ⟨(some 26), none, .ext (.t 22) 1⟩,
    ⟨(some 7), none, .mov (.t 25)⟩,
    ⟨(some 8), none, .mov (.t 26)⟩] (some [0, 1, 2, 7, 8]))
   (.seq (.rg [⟨(some 28), none, .mov (.t 1)⟩,
    ⟨(some 29), none, .call 10 [(.t 28)]⟩,
    ⟨(some 27), none, .mov (.t 29)⟩,
    ⟨(some 30), none, .ext (.t 27) 0⟩,
    ⟨(some 31), none, .ext (.t 27) 1⟩,
    ⟨(some 9), none, .mov (.t 30)⟩,
    ⟨(some 10), none, .mov (.t 31)⟩] (some [0, 1, 2, 7, 8, 9, 10]))
   (.seq (.seq (.rg [⟨(some 32), none, .mov (.t 8)⟩,
    ⟨(some 33), none, .bin .eql (.t 32) (.c (.int .i64 0))⟩,
    ⟨(some 34), none, .mov (.t 0)⟩,
    ⟨(some 35), none, .bin .leq (.t 34) (.c (.int .u64 4611686018427387903))⟩,
    ⟨(some 36), none, .eq true .bool (.t 33) (.t 35)⟩,
    ⟨(some 37), none, .mov (.t 36)⟩,
    ⟨(some 38), (some (37, false)), .mov (.t 8)⟩,
    ⟨(some 39), (some (37, false)), .bin .neq (.t 38) (.c (.int .i64 0))⟩,
    ⟨(some 40), none, .pick (.t 37) (.c (.bool true)) (.t 39)⟩] (some [0, 1, 2, 7, 8, 9, 10, 40]))
   (.cond (.t 40) (.seq (.rg [⟨(some 41), none, .mov (.t 7)⟩,
    ⟨(some 42), none, .len (.t 41)⟩,
    ⟨(some 43), none, .bin .eql (.t 42) (.c (.int .i64 0))⟩,
    ⟨(some 44), none, .mov (.t 43)⟩,
    ⟨(some 45), (some (44, true)), .mov (.t 0)⟩,
    ⟨(some 46), (some (44, true)), .bin .gtr (.t 45) (.c (.int .u64 4611686018427387903))⟩,
    ⟨(some 47), none, .pick (.t 44) (.t 46) (.c (.bool false))⟩,
    ⟨(some 48), none, .mov (.t 47)⟩,
    ⟨(some 49), (some (48, true)), .mov (.t 8)⟩,
    ⟨(some 50), (some (48, true)), .bin .eql (.t 49) (.c (.int .i64 5))⟩,
    ⟨(some 51), none, .pick (.t 48) (.t 50) (.c (.bool false))⟩,
    ⟨(some 6), none, .mov (.t 51)⟩] (some [6]))
   (.ret)) (.skip)))
   (.seq (.seq (.rg [⟨(some 52), none, .mov (.t 7)⟩,
    ⟨(some 53), none, .len (.t 52)⟩,
    ⟨(some 54), none, .bin .eql (.t 53) (.c (.int .i64 0))⟩] (some [0, 1, 2, 7, 9, 10, 54]))
   (.cond (.t 54) (.seq (.rg [⟨(some 6), none, .mov (.c (.bool false))⟩] (some [6]))
   (.ret)) (.skip)))
   (.seq (.rg [⟨(some 56), none, .bsl (.int .u8 0) 0 []⟩,
    ⟨(some 57), none, .mov (.t 7)⟩,
    ⟨(some 58), none, .app 1 1 (.t 56) (.t 57)⟩,
    ⟨(some 59), none, .mov (.t 2)⟩,
    ⟨(some 60), none, .app 1 1 (.t 58) (.t 59)⟩,
    ⟨(some 61), none, .call 12 [(.t 60)]⟩,
    ⟨(some 55), none, .mov (.t 61)⟩,
    ⟨(some 62), none, .ext (.t 55) 0⟩,
    ⟨(some 63), none, .ext (.t 55) 1⟩,
    ⟨(some 64), none, .ext (.t 55) 2⟩,
    ⟨(some 11), none, .mov (.t 62)⟩,
    ⟨(some 12), none, .mov (.t 63)⟩,
    ⟨(some 13), none, .mov (.t 64)⟩] (some [0, 1, 7, 9, 10, 11, 12, 13]))
   (.seq (.rg [⟨(some 66), none, .mov (.t 7)⟩,
    ⟨(some 67), none, .mov (.t 7)⟩,
    ⟨(some 68), none, .len (.t 67)⟩,
    ⟨(some 69), none, .bin .sub (.t 68) (.c (.int .i64 1))⟩,
    ⟨(some 70), none, .sll 1 (.t 66) none (some (.t 69)) none⟩,
    ⟨(some 71), none, .call 12 [(.t 70)]⟩,
    ⟨(some 65), none, .mov (.t 71)⟩,
    ⟨(some 72), none, .ext (.t 65) 0⟩,
    ⟨(some 73), none, .ext (.t 65) 1⟩,
    ⟨(some 74), none, .ext (.t 65) 2⟩,
    ⟨(some 14), none, .mov (.t 72)⟩,
    ⟨(some 15), none, .mov (.t 73)⟩,
    ⟨(some 16), none, .mov (.t 74)⟩] (some [0, 1, 7, 9, 10, 11, 12, 13, 16]))
   (.seq (.seq (.rg [⟨(some 75), none, .mov (.t 11)⟩,
    ⟨(some 76), none, .mov (.t 0)⟩,
    ⟨(some 77), none, .bin .neq (.t 75) (.t 76)⟩,
    ⟨(some 78), none, .mov (.t 77)⟩,
    ⟨(some 79), (some (78, false)), .mov (.t 12)⟩,
    ⟨(some 80), (some (78, false)), .mov (.t 7)⟩,
    ⟨(some 81), (some (78, false)), .len (.t 80)⟩,
    ⟨(some 82), (some (78, false)), .bin .neq (.t 79) (.t 81)⟩,
    ⟨(some 83), none, .pick (.t 78) (.c (.bool true)) (.t 82)⟩,
    ⟨(some 84), none, .mov (.t 83)⟩,
    ⟨(some 85), (some (84, false)), .mov (.t 13)⟩,
    ⟨(some 86), (some (84, false)), .bin .neq (.t 85) (.c (.int .i64 0))⟩,
    ⟨(some 87), none, .pick (.t 84) (.c (.bool true)) (.t 86)⟩,
    ⟨(some 88), none, .mov (.t 87)⟩,
    ⟨(some 89), (some (88, false)), .mov (.t 16)⟩,
    ⟨(some 90), (some (88, false)), .bin .neq (.t 89) (.c (.int .i64 3))⟩,
    ⟨(some 91), none, .pick (.t 88) (.c (.bool true)) (.t 90)⟩] (some [0, 1, 7, 9, 10, 91]))
   (.cond (.t 91) (.seq (.rg [⟨(some 6), none, .mov (.c (.bool false))⟩] (some [6]))
   (.ret)) (.skip)))
   (.seq (.rg [⟨(some 92), none, .mov (.t 10)⟩,
    ⟨(some 93), none, .bin .neq (.t 92) (.c (.int .i64 0))⟩,
    ⟨(some 94), none, .mov (.t 93)⟩,
    ⟨(some 95), (some (94, false)), .mov (.t 7)⟩,
    ⟨(some 96), (some (94, false)), .mov (.t 9)⟩,
    ⟨(some 97), (some (94, false)), .call 14 [(.t 95), (.t 96)]⟩,
    ⟨(some 98), (some (94, false)), .mov (.t 0)⟩,
    ⟨(some 99), (some (94, false)), .mov (.t 1)⟩,
    ⟨(some 100), (some (94, false)), .bin .eql (.t 98) (.t 99)⟩,
    ⟨(some 101), (some (94, false)), .eq false .bool (.t 97) (.t 100)⟩,
    ⟨(some 102), (some (94, false)), .mov (.t 101)⟩,
    ⟨(some 103), (some (102, true)), .mov (.t 0)⟩,
    ⟨(some 104), (some (102, true)), .mov (.t 1)⟩,
    ⟨(some 105), (some (102, true)), .bin .gtr (.t 103) (.t 104)⟩,
    ⟨(some 106), (some (102, true)), .mov (.t 105)⟩,
    ⟨(some 107), (some (106, false)), .mov (.t 7)⟩,
    ⟨(some 108), (some (106, false)), .len (.t 107)⟩,
    ⟨(some 109), (some (106, false)), .mov (.t 9)⟩,
    ⟨(some 110), (some (106, false)), .len (.t 109)⟩,
    ⟨(some 111), (some (106, false)), .bin .leq (.t 108) (.t 110)⟩,
    ⟨(some 112), (some (102, true)), .pick (.t 106) (.c (.bool true)) (.t 111)⟩,
    ⟨(some 113), (some (94, false)), .pick (.t 102) (.t 112) (.c (.bool false))⟩,
    ⟨(some 114), none, .pick (.t 94) (.c (.bool true)) (.t 113)⟩,
    ⟨(some 6), none, .mov (.t 114)⟩] (some [6]))
   (.ret)))))))))))
def F5 : F := ⟨i5, [(6, none)], false⟩
/-- stratagem/stratagemlaw06.OctetOne -/
def i6 : IR := .seq (.rg [⟨(some 6), none, .mov (.c (.bool false))⟩] (some [0, 1, 2]))
   (.seq (.seq (.rg [⟨(some 14), none, .call 9 []⟩,
    ⟨(some 15), none, .un .not (.t 14)⟩] (some [0, 1, 2, 15]))
   (.cond (.t 15) (.seq (.rg [⟨(some 6), none, .mov (.c (.bool false))⟩] (some [6]))
   (.ret)) (.skip)))
   (.seq (.seq (.rg [⟨(some 16), none, .mov (.t 0)⟩,
    ⟨(some 17), none, .len (.t 16)⟩,
    ⟨(some 18), none, .bin .gtr (.t 17) (.c (.int .i64 400))⟩] (some [0, 1, 2, 18]))
   (.cond (.t 18) (.seq (.rg [⟨(some 6), none, .mov (.c (.bool true))⟩] (some [6]))
   (.ret)) (.skip)))
   (.seq (.rg [⟨(some 20), none, .mov (.t 0)⟩,
    ⟨(some 21), none, .call 12 [(.t 20)]⟩,
    ⟨(some 19), none, .mov (.t 21)⟩,
    ⟨(some 22), none, .ext (.t 19) 0⟩,
    ⟨(some 23), none, .ext (.t 19) 1⟩,
    ⟨(some 24), none, .ext (.t 19) 2⟩,
    ⟨(some 7), none, .mov (.t 22)⟩,
    ⟨(some 8), none, .mov (.t 23)⟩,
    ⟨(some 9), none, .mov (.t 24)⟩] (some [0, 1, 2, 7, 8, 9]))
   (.seq (.seq (.rg [⟨(some 25), none, .mov (.t 9)⟩,
    ⟨(some 26), none, .bin .neq (.t 25) (.c (.int .i64 0))⟩,
    ⟨(some 27), none, .mov (.t 26)⟩,
    ⟨(some 28), (some (27, true)), .mov (.t 7)⟩,
    ⟨(some 29), (some (27, true)), .bin .neq (.t 28) (.c (.int .u64 0))⟩,
    ⟨(some 30), (some (27, true)), .mov (.t 29)⟩,
    ⟨(some 31), (some (30, false)), .mov (.t 8)⟩,
    ⟨(some 32), (some (30, false)), .bin .neq (.t 31) (.c (.int .i64 0))⟩,
    ⟨(some 33), (some (27, true)), .pick (.t 30) (.c (.bool true)) (.t 32)⟩,
    ⟨(some 34), none, .pick (.t 27) (.t 33) (.c (.bool false))⟩] (some [0, 1, 2, 7, 8, 9, 34]))
   (.cond (.t 34) (.seq (.rg [⟨(some 6), none, .mov (.c (.bool false))⟩] (some [6]))
   (.ret)) (.skip)))
   (.seq (.seq (.rg [⟨(some 35), none, .mov (.t 9)⟩,
    ⟨(some 36), none, .bin .eql (.t 35) (.c (.int .i64 0))⟩] (some [0, 1, 2, 7, 8, 36]))
   (.cond (.t 36) (.seq (.rg [⟨(some 38), none, .mov (.t 7)⟩,
    ⟨(some 39), none, .call 10 [(.t 38)]⟩,
    ⟨(some 37), none, .mov (.t 39)⟩,
    ⟨(some 40), none, .ext (.t 37) 0⟩,
    ⟨(some 41), none, .ext (.t 37) 1⟩,
    ⟨(some 10), none, .mov (.t 40)⟩,
    ⟨(some 11), none, .mov (.t 41)⟩] (some [0, 1, 2, 8, 10, 11]))
   (.seq (.rg [⟨(some 42), none, .mov (.t 11)⟩,
    ⟨(some 43), none, .bin .neq (.t 42) (.c (.int .i64 0))⟩,
    ⟨(some 44), none, .mov (.t 43)⟩,
    ⟨(some 45), (some (44, false)), .mov (.t 8)⟩,
    ⟨(some 46), (some (44, false)), .bin .lss (.t 45) (.c (.int .i64 1))⟩,
    ⟨(some 47), none, .pick (.t 44) (.c (.bool true)) (.t 46)⟩,
    ⟨(some 48), none, .mov (.t 47)⟩,
    ⟨(some 49), (some (48, false)), .mov (.t 8)⟩,
    ⟨(some 50), (some (48, false)), .mov (.t 0)⟩,
    ⟨(some 51), (some (48, false)), .len (.t 50)⟩,
    ⟨(some 52), (some (48, false)), .bin .gtr (.t 49) (.t 51)⟩,
    ⟨(some 53), none, .pick (.t 48) (.c (.bool true)) (.t 52)⟩,
    ⟨(some 54), none, .mov (.t 53)⟩,
    ⟨(some 55), (some (54, false)), .mov (.t 10)⟩,
    ⟨(some 56), (some (54, false)), .mov (.t 0)⟩,
    ⟨(some 57), (some (54, false)), .mov (.t 8)⟩,
    ⟨(some 58), (some (54, false)), .sll 1 (.t 56) none (some (.t 57)) none⟩,
    ⟨(some 59), (some (54, false)), .call 14 [(.t 55), (.t 58)]⟩,
    ⟨(some 60), (some (54, false)), .un .not (.t 59)⟩,
    ⟨(some 61), none, .pick (.t 54) (.c (.bool true)) (.t 60)⟩] (some [0, 1, 2, 61]))
   (.cond (.t 61) (.seq (.rg [⟨(some 6), none, .mov (.c (.bool false))⟩] (some [6]))
   (.ret)) (.skip)))) (.skip)))
   (.seq (.rg [⟨(some 62), none, .bsl (.int .u8 0) 0 []⟩,
    ⟨(some 63), none, .mov (.t 0)⟩,
    ⟨(some 64), none, .app 1 1 (.t 62) (.t 63)⟩,
    ⟨(some 65), none, .mov (.t 1)⟩,
    ⟨(some 66), none, .bsl (.int .u8 0) 1 [(0, (.t 65))]⟩,
    ⟨(some 67), none, .app 1 1 (.t 64) (.t 66)⟩,
    ⟨(some 68), none, .call 15 [(.t 67)]⟩,
    ⟨(some 69), none, .bsl (.int .u8 0) 0 []⟩,
    ⟨(some 70), none, .mov (.t 0)⟩,
    ⟨(some 71), none, .app 1 1 (.t 69) (.t 70)⟩,
    ⟨(some 72), none, .mov (.t 2)⟩,
    ⟨(some 73), none, .bsl (.int .u8 0) 1 [(0, (.t 72))]⟩,
    ⟨(some 74), none, .app 1 1 (.t 71) (.t 73)⟩,
    ⟨(some 75), none, .call 15 [(.t 74)]⟩,
    ⟨(some 12), none, .mov (.t 68)⟩,
    ⟨(some 13), none, .mov (.t 75)⟩] (some [0, 1, 2, 12, 13]))
   (.seq (.rg [⟨(some 76), none, .mov (.t 12)⟩,
    ⟨(some 77), none, .mov (.t 13)⟩,
    ⟨(some 78), none, .bin .eql (.t 76) (.t 77)⟩,
    ⟨(some 79), none, .mov (.t 1)⟩,
    ⟨(some 80), none, .mov (.t 2)⟩,
    ⟨(some 81), none, .bin .eql (.t 79) (.t 80)⟩,
    ⟨(some 82), none, .eq false .bool (.t 78) (.t 81)⟩,
    ⟨(some 83), none, .mov (.t 82)⟩,
    ⟨(some 84), (some (83, true)), .mov (.t 12)⟩,
    ⟨(some 85), (some (83, true)), .mov (.t 0)⟩,
    ⟨(some 86), (some (83, true)), .call 15 [(.t 85)]⟩,
    ⟨(some 87), (some (83, true)), .mov (.t 1)⟩,
    ⟨(some 88), (some (83, true)), .conv .u64 (.t 87)⟩,
    ⟨(some 89), (some (83, true)), .bin .xor (.t 86) (.t 88)⟩,
    ⟨(some 90), (some (83, true)), .bin .mul (.t 89) (.c (.int .u64 1099511628211))⟩,
    ⟨(some 91), (some (83, true)), .bin .eql (.t 84) (.t 90)⟩,
    ⟨(some 92), none, .pick (.t 83) (.t 91) (.c (.bool false))⟩,
    ⟨(some 6), none, .mov (.t 92)⟩] (some [6]))
   (.ret))))))))
def F6 : F := ⟨i6, [(6, none)], false⟩
/-- stratagem/stratagemlaw07.ScanTells -/
def i7 : IR := .seq (.rg [⟨(some 2), none, .mov (.c (.bool false))⟩] (some [0]))
   (.seq (.seq (.rg [⟨(some 9), none, .call 28 []⟩,
    ⟨(some 10), none, .un .not (.t 9)⟩] (some [0, 10]))
   (.cond (.t 10) (.seq (.rg [⟨(some 2), none, .mov (.c (.bool false))⟩] (some [2]))
   (.ret)) (.skip)))
   (.seq (.seq (.rg [⟨(some 11), none, .mov (.t 0)⟩,
    ⟨(some 12), none, .slen (.t 11)⟩,
    ⟨(some 13), none, .bin .gtr (.t 12) (.c (.int .i64 1000))⟩,
    ⟨(some 14), none, .mov (.t 13)⟩,
    ⟨(some 15), (some (14, true)), .mov (.t 0)⟩,
    ⟨(some 16), (some (14, true)), .slen (.t 15)⟩,
    ⟨(some 17), (some (14, true)), .bin .leq (.t 16) (.c (.int .i64 4000))⟩,
    ⟨(some 18), none, .pick (.t 14) (.t 17) (.c (.bool false))⟩,
    ⟨(some 19), none, .mov (.t 18)⟩,
    ⟨(some 20), (some (19, false)), .mov (.t 0)⟩,
    ⟨(some 21), (some (19, false)), .slen (.t 20)⟩,
    ⟨(some 22), (some (19, false)), .bin .gtr (.t 21) (.c (.int .i64 5000))⟩,
    ⟨(some 23), none, .pick (.t 19) (.c (.bool true)) (.t 22)⟩] (some [0, 23]))
   (.cond (.t 23) (.seq (.rg [⟨(some 2), none, .mov (.c (.bool true))⟩] (some [2]))
   (.ret)) (.skip)))
   (.seq (.rg [⟨(some 25), none, .mov (.t 0)⟩,
    ⟨(some 26), none, .call 29 [(.t 25)]⟩,
    ⟨(some 24), none, .mov (.t 26)⟩,
    ⟨(some 27), none, .ext (.t 24) 0⟩,
    ⟨(some 28), none, .ext (.t 24) 1⟩,
    ⟨(some 29), none, .ext (.t 24) 2⟩,
    ⟨(some 3), none, .mov (.t 27)⟩,
    ⟨(some 4), none, .mov (.t 28)⟩,
    ⟨(some 5), none, .mov (.t 29)⟩] (some [0, 3, 4, 5]))
   (.seq (.rg [⟨(some 31), none, .mov (.t 0)⟩,
    ⟨(some 32), none, .call 30 [(.t 31)]⟩,
    ⟨(some 30), none, .mov (.t 32)⟩,
    ⟨(some 33), none, .ext (.t 30) 0⟩,
    ⟨(some 34), none, .ext (.t 30) 1⟩,
    ⟨(some 35), none, .ext (.t 30) 2⟩,
    ⟨(some 6), none, .mov (.t 33)⟩,
    ⟨(some 7), none, .mov (.t 34)⟩,
    ⟨(some 8), none, .mov (.t 35)⟩] (some [3, 4, 5, 6, 7, 8]))
   (.seq (.rg [⟨(some 36), none, .mov (.t 3)⟩,
    ⟨(some 37), none, .call 32 [(.t 36)]⟩,
    ⟨(some 38), none, .mov (.t 6)⟩,
    ⟨(some 39), none, .call 31 [(.t 37), (.t 38)]⟩,
    ⟨(some 40), none, .mov (.t 39)⟩,
    ⟨(some 41), (some (40, true)), .mov (.t 4)⟩,
    ⟨(some 42), (some (40, true)), .mov (.t 7)⟩,
    ⟨(some 43), (some (40, true)), .bin .eql (.t 41) (.t 42)⟩,
    ⟨(some 44), none, .pick (.t 40) (.t 43) (.c (.bool false))⟩,
    ⟨(some 45), none, .mov (.t 44)⟩,
    ⟨(some 46), (some (45, true)), .mov (.t 5)⟩,
    ⟨(some 47), (some (45, true)), .mov (.t 8)⟩,
    ⟨(some 48), (some (45, true)), .bin .eql (.t 46) (.t 47)⟩,
    ⟨(some 49), none, .pick (.t 45) (.t 48) (.c (.bool false))⟩,
    ⟨(some 2), none, .mov (.t 49)⟩] (some [2]))
   (.ret))))))
def F7 : F := ⟨i7, [(2, none)], false⟩
/-- stratagem/stratagemlaw07.ScanCut -/
def i8_b0 : IR := .seq (.rg [⟨(some 120), none, .bin .lss (.t 119) (.t 118)⟩] (some [0, 5, 8, 117, 118, 119, 120]))
   (.seq (.cond (.t 120) (.skip) (.ext 0))
   (.seq (.blk 1 (.seq (.rg [⟨(some 121), none, .mov (.t 119)⟩,
    ⟨(some 122), none, .iad 4 (.t 117) (.t 119)⟩,
    ⟨(some 123), none, .ld true 4 (.t 122)⟩,
    ⟨(some 18), none, .new (.agg [.int .i64 0, .str [], .int .i64 0, .int .i64 0])⟩,
    ⟨(some 17), none, .mov (.t 121)⟩,
    ⟨none, none, .st 4 (.t 18) (.t 123)⟩] (some [0, 5, 8, 17, 18, 117, 118, 119]))
   (.seq (.rg [⟨(some 124), none, .bld [.int .i64 0, .str [], .int .i64 0, .int .i64 0] []⟩,
    ⟨(some 19), none, .new (.agg [.int .i64 0, .str [], .int .i64 0, .int .i64 0])⟩,
    ⟨none, none, .st 4 (.t 19) (.t 124)⟩] (some [0, 5, 8, 17, 18, 19, 117, 118, 119]))
   (.seq (.seq (.rg [⟨(some 125), none, .mov (.t 17)⟩,
    ⟨(some 126), none, .mov (.t 5)⟩,
    ⟨(some 127), none, .len (.t 126)⟩,
    ⟨(some 128), none, .bin .lss (.t 125) (.t 127)⟩] (some [0, 5, 8, 17, 18, 19, 117, 118, 119, 128]))
   (.cond (.t 128) (.rg [⟨(some 129), none, .mov (.t 5)⟩,
    ⟨(some 130), none, .mov (.t 17)⟩,
    ⟨(some 131), none, .iad 4 (.t 129) (.t 130)⟩,
    ⟨(some 132), none, .ld true 4 (.t 131)⟩,
    ⟨none, none, .st 4 (.t 19) (.t 132)⟩] (some [0, 5, 8, 18, 19, 117, 118, 119])) (.seq (.rg [⟨(some 133), none, .mov (.t 8)⟩,
    ⟨(some 134), none, .mov (.t 17)⟩,
    ⟨(some 135), none, .mov (.t 5)⟩,
    ⟨(some 136), none, .len (.t 135)⟩,
    ⟨(some 137), none, .bin .sub (.t 134) (.t 136)⟩,
    ⟨(some 138), none, .iad 4 (.t 133) (.t 137)⟩,
    ⟨(some 139), none, .ld true 4 (.t 138)⟩,
    ⟨none, none, .st 4 (.t 19) (.t 139)⟩] (some [0, 5, 8, 18, 19, 117, 118, 119]))
   (.rg [⟨(some 140), none, .fad 3 (.t 19)⟩,
    ⟨(some 141), none, .ld false 1 (.t 140)⟩,
    ⟨(some 142), none, .mov (.t 0)⟩,
    ⟨(some 143), none, .slen (.t 142)⟩,
    ⟨(some 144), none, .bin .add (.t 143) (.c (.int .i64 1))⟩,
    ⟨(some 145), none, .bin .add (.t 141) (.t 144)⟩,
    ⟨(some 146), none, .fad 3 (.t 19)⟩,
    ⟨none, none, .st 1 (.t 146) (.t 145)⟩] (some [0, 5, 8, 18, 19, 117, 118, 119])))))
   (.seq (.rg [⟨(some 147), none, .ld true 4 (.t 18)⟩,
    ⟨(some 148), none, .ld true 4 (.t 19)⟩,
    ⟨(some 149), none, .eq true (.agg [(0, 1, .int), (1, 1, .str), (2, 1, .int), (3, 1, .int)]) (.t 147) (.t 148)⟩] (some [0, 5, 8, 117, 118, 119, 149]))
   (.cond (.t 149) (.seq (.rg [⟨(some 4), none, .mov (.c (.bool false))⟩] (some [4]))
   (.ret)) (.skip)))))))
   (.rg [⟨(some 150), none, .bin .add (.t 119) (.c (.int .i64 1))⟩,
    ⟨(some 119), none, .mov (.t 150)⟩] (some [0, 5, 8, 117, 118, 119]))))
def i8_l0 : IR := .loop i8_b0
theorem r8_l0 {C : Cx} {n : Nat} {fr : Fr} {h : List Ob} : ev C (n + 1) i8_l0 fr h = nxt (ev C (n + 1) i8_b0 fr h) fun fr h => ev C n i8_l0 fr h := ev_loop
def i8 : IR := .seq (.rg [⟨(some 4), none, .mov (.c (.bool false))⟩] (some [0, 1]))
   (.seq (.seq (.rg [⟨(some 20), none, .call 28 []⟩,
    ⟨(some 21), none, .un .not (.t 20)⟩] (some [0, 1, 21]))
   (.cond (.t 21) (.seq (.rg [⟨(some 4), none, .mov (.c (.bool false))⟩] (some [4]))
   (.ret)) (.skip)))
   (.seq (.seq (.rg [⟨(some 22), none, .mov (.t 0)⟩,
    ⟨(some 23), none, .slen (.t 22)⟩,
    ⟨(some 24), none, .bin .gtr (.t 23) (.c (.int .i64 1000))⟩,
    ⟨(some 25), none, .mov (.t 24)⟩,
    ⟨(some 26), (some (25, false)), .mov (.t 1)⟩,
    ⟨(some 27), (some (25, false)), .slen (.t 26)⟩,
    ⟨(some 28), (some (25, false)), .bin .gtr (.t 27) (.c (.int .i64 1000))⟩,
    ⟨(some 29), none, .pick (.t 25) (.c (.bool true)) (.t 28)⟩] (some [0, 1, 29]))
   (.cond (.t 29) (.seq (.rg [⟨(some 4), none, .mov (.c (.bool true))⟩] (some [4]))
   (.ret)) (.skip)))
   (.seq (.rg [⟨(some 31), none, .mov (.t 0)⟩,
    ⟨(some 32), none, .call 29 [(.t 31)]⟩,
    ⟨(some 30), none, .mov (.t 32)⟩,
    ⟨(some 33), none, .ext (.t 30) 0⟩,
    ⟨(some 34), none, .ext (.t 30) 1⟩,
    ⟨(some 35), none, .ext (.t 30) 2⟩,
    ⟨(some 5), none, .mov (.t 33)⟩,
    ⟨(some 6), none, .mov (.t 34)⟩,
    ⟨(some 7), none, .mov (.t 35)⟩] (some [0, 1, 5, 6, 7]))
   (.seq (.rg [⟨(some 37), none, .mov (.t 1)⟩,
    ⟨(some 38), none, .call 29 [(.t 37)]⟩,
    ⟨(some 36), none, .mov (.t 38)⟩,
    ⟨(some 39), none, .ext (.t 36) 0⟩,
    ⟨(some 40), none, .ext (.t 36) 1⟩,
    ⟨(some 41), none, .ext (.t 36) 2⟩,
    ⟨(some 8), none, .mov (.t 39)⟩,
    ⟨(some 9), none, .mov (.t 40)⟩,
    ⟨(some 10), none, .mov (.t 41)⟩] (some [0, 1, 5, 6, 7, 8, 9, 10]))
   (.seq (.rg [⟨(some 43), none, .mov (.t 0)⟩,
    ⟨(some 44), none, .bin .add (.t 43) (.c (.str [10]))⟩,
    ⟨(some 45), none, .mov (.t 1)⟩,
    ⟨(some 46), none, .bin .add (.t 44) (.t 45)⟩,
    ⟨(some 47), none, .call 29 [(.t 46)]⟩,
    ⟨(some 42), none, .mov (.t 47)⟩,
    ⟨(some 48), none, .ext (.t 42) 0⟩,
    ⟨(some 49), none, .ext (.t 42) 1⟩,
    ⟨(some 50), none, .ext (.t 42) 2⟩,
    ⟨(some 11), none, .mov (.t 48)⟩,
    ⟨(some 12), none, .mov (.t 49)⟩,
    ⟨(some 13), none, .mov (.t 50)⟩] (some [0, 5, 6, 7, 8, 9, 10, 11, 12, 13]))
   (.seq (.seq (.rg [⟨(some 51), none, .mov (.t 7)⟩,
    ⟨(some 52), none, .bin .neq (.t 51) (.c (.int .i64 0))⟩] (some [0, 5, 6, 7, 8, 9, 10, 11, 12, 13, 52]))
   (.cond (.t 52) (.seq (.seq (.rg [⟨(some 53), none, .mov (.t 6)⟩,
    ⟨(some 54), none, .bin .lss (.t 53) (.c (.int .i64 0))⟩,
    ⟨(some 55), none, .mov (.t 54)⟩,
    ⟨(some 56), (some (55, false)), .mov (.t 6)⟩,
    ⟨(some 57), (some (55, false)), .mov (.t 0)⟩,
    ⟨(some 58), (some (55, false)), .slen (.t 57)⟩,
    ⟨(some 59), (some (55, false)), .bin .gtr (.t 56) (.t 58)⟩,
    ⟨(some 60), none, .pick (.t 55) (.c (.bool true)) (.t 59)⟩] (some [0, 6, 7, 11, 12, 13, 60]))
   (.cond (.t 60) (.seq (.rg [⟨(some 4), none, .mov (.c (.bool false))⟩] (some [4]))
   (.ret)) (.skip)))
   (.seq (.rg [⟨(some 62), none, .mov (.t 0)⟩,
    ⟨(some 63), none, .mov (.t 6)⟩,
    ⟨(some 64), none, .sls (.t 62) none (some (.t 63))⟩,
    ⟨(some 65), none, .call 29 [(.t 64)]⟩,
    ⟨(some 61), none, .mov (.t 65)⟩,
    ⟨(some 66), none, .ext (.t 61) 0⟩,
    ⟨(some 67), none, .ext (.t 61) 1⟩,
    ⟨(some 68), none, .ext (.t 61) 2⟩,
    ⟨(some 14), none, .mov (.t 66)⟩,
    ⟨(some 15), none, .mov (.t 67)⟩,
    ⟨(some 16), none, .mov (.t 68)⟩] (some [6, 7, 11, 12, 13, 16]))
   (.seq (.rg [⟨(some 69), none, .mov (.t 13)⟩,
    ⟨(some 70), none, .mov (.t 7)⟩,
    ⟨(some 71), none, .bin .eql (.t 69) (.t 70)⟩,
    ⟨(some 72), none, .mov (.t 71)⟩,
    ⟨(some 73), (some (72, true)), .mov (.t 12)⟩,
    ⟨(some 74), (some (72, true)), .mov (.t 6)⟩,
    ⟨(some 75), (some (72, true)), .bin .eql (.t 73) (.t 74)⟩,
    ⟨(some 76), none, .pick (.t 72) (.t 75) (.c (.bool false))⟩,
    ⟨(some 77), none, .mov (.t 76)⟩,
    ⟨(some 78), (some (77, true)), .mov (.t 11)⟩,
    ⟨(some 79), (some (77, true)), .len (.t 78)⟩,
    ⟨(some 80), (some (77, true)), .bin .eql (.t 79) (.c (.int .i64 0))⟩,
    ⟨(some 81), none, .pick (.t 77) (.t 80) (.c (.bool false))⟩,
    ⟨(some 82), none, .mov (.t 81)⟩,
    ⟨(some 83), (some (82, true)), .mov (.t 16)⟩,
    ⟨(some 84), (some (82, true)), .bin .eql (.t 83) (.c (.int .i64 0))⟩,
    ⟨(some 85), none, .pick (.t 82) (.t 84) (.c (.bool false))⟩,
    ⟨(some 4), none, .mov (.t 85)⟩] (some [4]))
   (.ret)))) (.skip)))
   (.seq (.seq (.rg [⟨(some 86), none, .mov (.t 10)⟩,
    ⟨(some 87), none, .bin .neq (.t 86) (.c (.int .i64 0))⟩] (some [0, 5, 8, 9, 10, 11, 12, 13, 87]))
   (.cond (.t 87) (.seq (.rg [⟨(some 88), none, .mov (.t 13)⟩,
    ⟨(some 89), none, .mov (.t 10)⟩,
    ⟨(some 90), none, .bin .eql (.t 88) (.t 89)⟩,
    ⟨(some 91), none, .mov (.t 90)⟩,
    ⟨(some 92), (some (91, true)), .mov (.t 12)⟩,
    ⟨(some 93), (some (91, true)), .mov (.t 0)⟩,
    ⟨(some 94), (some (91, true)), .slen (.t 93)⟩,
    ⟨(some 95), (some (91, true)), .bin .add (.t 94) (.c (.int .i64 1))⟩,
    ⟨(some 96), (some (91, true)), .mov (.t 9)⟩,
    ⟨(some 97), (some (91, true)), .bin .add (.t 95) (.t 96)⟩,
    ⟨(some 98), (some (91, true)), .bin .eql (.t 92) (.t 97)⟩,
    ⟨(some 99), none, .pick (.t 91) (.t 98) (.c (.bool false))⟩,
    ⟨(some 100), none, .mov (.t 99)⟩,
    ⟨(some 101), (some (100, true)), .mov (.t 11)⟩,
    ⟨(some 102), (some (100, true)), .len (.t 101)⟩,
    ⟨(some 103), (some (100, true)), .bin .eql (.t 102) (.c (.int .i64 0))⟩,
    ⟨(some 104), none, .pick (.t 100) (.t 103) (.c (.bool false))⟩,
    ⟨(some 4), none, .mov (.t 104)⟩] (some [4]))
   (.ret)) (.skip)))
   (.seq (.seq (.rg [⟨(some 105), none, .mov (.t 13)⟩,
    ⟨(some 106), none, .bin .neq (.t 105) (.c (.int .i64 0))⟩,
    ⟨(some 107), none, .mov (.t 106)⟩,
    ⟨(some 108), (some (107, false)), .mov (.t 11)⟩,
    ⟨(some 109), (some (107, false)), .len (.t 108)⟩,
    ⟨(some 110), (some (107, false)), .mov (.t 5)⟩,
    ⟨(some 111), (some (107, false)), .len (.t 110)⟩,
    ⟨(some 112), (some (107, false)), .mov (.t 8)⟩,
    ⟨(some 113), (some (107, false)), .len (.t 112)⟩,
    ⟨(some 114), (some (107, false)), .bin .add (.t 111) (.t 113)⟩,
    ⟨(some 115), (some (107, false)), .bin .neq (.t 109) (.t 114)⟩,
    ⟨(some 116), none, .pick (.t 107) (.c (.bool true)) (.t 115)⟩] (some [0, 5, 8, 11, 116]))
   (.cond (.t 116) (.seq (.rg [⟨(some 4), none, .mov (.c (.bool false))⟩] (some [4]))
   (.ret)) (.skip)))
   (.seq (.seq (.rg [⟨(some 117), none, .mov (.t 11)⟩,
    ⟨(some 118), none, .len (.t 117)⟩,
    ⟨(some 119), none, .mov (.c (.int .i64 0))⟩] (some [0, 5, 8, 117, 118, 119]))
   (.blk 0 (i8_l0)))
   (.seq (.rg [⟨(some 4), none, .mov (.c (.bool true))⟩] (some [4]))
   (.ret)))))))))))
def F8 : F := ⟨i8, [(4, none)], false⟩
/-- stratagem/stratagemlaw06.awake -/
def i9 : IR := .seq (.rg [⟨(some 0), none, .mov (.c (.bool false))⟩] (some []))
   (.seq (.rg [⟨(some 21), none, .call 10 [(.c (.int .u64 16384))]⟩,
    ⟨(some 20), none, .mov (.t 21)⟩,
    ⟨(some 22), none, .ext (.t 20) 0⟩,
    ⟨(some 23), none, .ext (.t 20) 1⟩,
    ⟨(some 1), none, .mov (.t 22)⟩,
    ⟨(some 2), none, .mov (.t 23)⟩] (some [1, 2]))
   (.seq (.rg [⟨(some 25), none, .call 10 [(.c (.int .u64 4611686018427387904))]⟩,
    ⟨(some 24), none, .mov (.t 25)⟩,
    ⟨(some 26), none, .ext (.t 24) 0⟩,
    ⟨(some 27), none, .ext (.t 24) 1⟩,
    ⟨(some 3), none, .mov (.t 26)⟩,
    ⟨(some 4), none, .mov (.t 27)⟩] (some [1, 2, 4]))
   (.seq (.rg [⟨(some 29), none, .bsl (.int .u8 0) 3 [(0, (.c (.int .u8 64))), (1, (.c (.int .u8 64))), (2, (.c (.int .u8 9)))]⟩,
    ⟨(some 30), none, .call 12 [(.t 29)]⟩,
    ⟨(some 28), none, .mov (.t 30)⟩,
    ⟨(some 31), none, .ext (.t 28) 0⟩,
    ⟨(some 32), none, .ext (.t 28) 1⟩,
    ⟨(some 33), none, .ext (.t 28) 2⟩,
    ⟨(some 5), none, .mov (.t 31)⟩,
    ⟨(some 6), none, .mov (.t 32)⟩,
    ⟨(some 7), none, .mov (.t 33)⟩] (some [1, 2, 4, 5, 6, 7]))
   (.seq (.rg [⟨(some 35), none, .bsl (.int .u8 0) 2 [(0, (.c (.int .u8 64))), (1, (.c (.int .u8 63)))]⟩,
    ⟨(some 36), none, .call 12 [(.t 35)]⟩,
    ⟨(some 34), none, .mov (.t 36)⟩,
    ⟨(some 37), none, .ext (.t 34) 0⟩,
    ⟨(some 38), none, .ext (.t 34) 1⟩,
    ⟨(some 39), none, .ext (.t 34) 2⟩,
    ⟨(some 8), none, .mov (.t 37)⟩,
    ⟨(some 9), none, .mov (.t 38)⟩,
    ⟨(some 10), none, .mov (.t 39)⟩] (some [1, 2, 4, 5, 6, 7, 10]))
   (.seq (.rg [⟨(some 41), none, .bsl (.int .u8 0) 3 [(0, (.c (.int .u8 128))), (1, (.c (.int .u8 1))), (2, (.c (.int .u8 1)))]⟩,
    ⟨(some 42), none, .call 12 [(.t 41)]⟩,
    ⟨(some 40), none, .mov (.t 42)⟩,
    ⟨(some 43), none, .ext (.t 40) 0⟩,
    ⟨(some 44), none, .ext (.t 40) 1⟩,
    ⟨(some 45), none, .ext (.t 40) 2⟩,
    ⟨(some 11), none, .mov (.t 43)⟩,
    ⟨(some 12), none, .mov (.t 44)⟩,
    ⟨(some 13), none, .mov (.t 45)⟩] (some [1, 2, 4, 5, 6, 7, 10, 13]))
   (.seq (.rg [⟨(some 46), none, .bsl (.int .u8 0) 10 [(0, (.c (.int .u8 5))), (1, (.c (.int .u8 0))), (2, (.c (.int .u8 0))), (3, (.c (.int .u8 0))), (4, (.c (.int .u8 0))), (5, (.c (.int .u8 0))), (6, (.c (.int .u8 0))), (7, (.c (.int .u8 1))), (8, (.c (.int .u8 2))), (9, (.c (.int .u8 7)))]⟩,
    ⟨(some 47), none, .call 19 [(.t 46)]⟩,
    ⟨(some 14), none, .mov (.t 47)⟩] (some [1, 2, 4, 5, 6, 7, 10, 13, 14]))
   (.seq (.seq (.rg [⟨(some 48), none, .mov (.t 14)⟩,
    ⟨(some 49), none, .nilq false 0 (.t 48)⟩] (some [1, 2, 4, 5, 6, 7, 10, 13, 14, 49]))
   (.cond (.t 49) (.seq (.rg [⟨(some 0), none, .mov (.c (.bool false))⟩] (some [0]))
   (.ret)) (.skip)))
   (.seq (.rg [⟨(some 50), none, .mov (.t 14)⟩,
    ⟨(some 51), none, .call 22 [(.t 50), (.c (.int .u64 5))]⟩,
    ⟨(some 52), none, .mov (.t 14)⟩,
    ⟨(some 53), none, .call 20 [(.t 52)]⟩,
    ⟨(some 54), none, .mov (.t 14)⟩,
    ⟨(some 55), none, .call 24 [(.t 54)]⟩,
    ⟨(some 56), none, .mov (.t 14)⟩,
    ⟨(some 57), none, .call 26 [(.t 56)]⟩,
    ⟨(some 15), none, .mov (.t 51)⟩,
    ⟨(some 16), none, .mov (.t 53)⟩,
    ⟨(some 17), none, .mov (.t 55)⟩,
    ⟨(some 18), none, .mov (.t 57)⟩] (some [1, 2, 4, 5, 6, 7, 10, 13, 14, 15, 16, 17, 18]))
   (.seq (.rg [⟨(some 58), none, .mov (.t 14)⟩,
    ⟨(some 59), none, .call 22 [(.t 58), (.c (.int .u64 6))]⟩,
    ⟨(some 19), none, .mov (.t 59)⟩] (some [1, 2, 4, 5, 6, 7, 10, 13, 14, 15, 16, 17, 18, 19]))
   (.seq (.rg [⟨(some 60), none, .mov (.t 1)⟩,
    ⟨(some 61), none, .bsl (.int .u8 0) 4 [(0, (.c (.int .u8 128))), (1, (.c (.int .u8 0))), (2, (.c (.int .u8 64))), (3, (.c (.int .u8 0)))]⟩,
    ⟨(some 62), none, .call 14 [(.t 60), (.t 61)]⟩,
    ⟨(some 63), none, .mov (.t 62)⟩,
    ⟨(some 64), (some (63, true)), .mov (.t 2)⟩,
    ⟨(some 65), (some (63, true)), .bin .eql (.t 64) (.c (.int .i64 0))⟩,
    ⟨(some 66), none, .pick (.t 63) (.t 65) (.c (.bool false))⟩,
    ⟨(some 67), none, .mov (.t 66)⟩,
    ⟨(some 68), (some (67, true)), .mov (.t 4)⟩,
    ⟨(some 69), (some (67, true)), .bin .eql (.t 68) (.c (.int .i64 5))⟩,
    ⟨(some 70), none, .pick (.t 67) (.t 69) (.c (.bool false))⟩,
    ⟨(some 71), none, .mov (.t 70)⟩,
    ⟨(some 72), (some (71, true)), .mov (.t 5)⟩,
    ⟨(some 73), (some (71, true)), .bin .eql (.t 72) (.c (.int .u64 64))⟩,
    ⟨(some 74), none, .pick (.t 71) (.t 73) (.c (.bool false))⟩,
    ⟨(some 75), none, .mov (.t 74)⟩,
    ⟨(some 76), (some (75, true)), .mov (.t 6)⟩,
    ⟨(some 77), (some (75, true)), .bin .eql (.t 76) (.c (.int .i64 2))⟩,
    ⟨(some 78), none, .pick (.t 75) (.t 77) (.c (.bool false))⟩,
    ⟨(some 79), none, .mov (.t 78)⟩,
    ⟨(some 80), (some (79, true)), .mov (.t 7)⟩,
    ⟨(some 81), (some (79, true)), .bin .eql (.t 80) (.c (.int .i64 0))⟩,
    ⟨(some 82), none, .pick (.t 79) (.t 81) (.c (.bool false))⟩,
    ⟨(some 83), none, .mov (.t 82)⟩,
    ⟨(some 84), (some (83, true)), .mov (.t 10)⟩,
    ⟨(some 85), (some (83, true)), .bin .eql (.t 84) (.c (.int .i64 2))⟩,
    ⟨(some 86), none, .pick (.t 83) (.t 85) (.c (.bool false))⟩,
    ⟨(some 87), none, .mov (.t 86)⟩,
    ⟨(some 88), (some (87, true)), .mov (.t 13)⟩,
    ⟨(some 89), (some (87, true)), .bin .eql (.t 88) (.c (.int .i64 3))⟩,
    ⟨(some 90), none, .pick (.t 87) (.t 89) (.c (.bool false))⟩,
    ⟨(some 91), none, .mov (.t 90)⟩,
    ⟨(some 92), (some (91, true)), .call 15 [(.c (.nsl 1))]⟩,
    ⟨(some 93), (some (91, true)), .bin .eql (.t 92) (.c (.int .u64 14695981039346656037))⟩,
    ⟨(some 94), none, .pick (.t 91) (.t 93) (.c (.bool false))⟩,
    ⟨(some 95), none, .mov (.t 94)⟩,
    ⟨(some 96), (some (95, true)), .bsl (.int .u8 0) 1 [(0, (.c (.int .u8 97)))]⟩,
    ⟨(some 97), (some (95, true)), .call 15 [(.t 96)]⟩,
    ⟨(some 98), (some (95, true)), .bin .eql (.t 97) (.c (.int .u64 12638187200555641996))⟩,
    ⟨(some 99), none, .pick (.t 95) (.t 98) (.c (.bool false))⟩,
    ⟨(some 100), none, .mov (.t 99)⟩,
    ⟨(some 101), (some (100, true)), .call 17 [(.c (.int .u64 258))]⟩,
    ⟨(some 102), (some (100, true)), .bsl (.int .u8 0) 8 [(0, (.c (.int .u8 0))), (1, (.c (.int .u8 0))), (2, (.c (.int .u8 0))), (3, (.c (.int .u8 0))), (4, (.c (.int .u8 0))), (5, (.c (.int .u8 0))), (6, (.c (.int .u8 1))), (7, (.c (.int .u8 2)))]⟩,
    ⟨(some 103), (some (100, true)), .call 14 [(.t 101), (.t 102)]⟩,
    ⟨(some 104), none, .pick (.t 100) (.t 103) (.c (.bool false))⟩,
    ⟨(some 105), none, .mov (.t 104)⟩,
    ⟨(some 106), (some (105, true)), .mov (.t 15)⟩,
    ⟨(some 107), (some (105, true)), .bin .eql (.t 106) (.c (.int .u64 5))⟩,
    ⟨(some 108), none, .pick (.t 105) (.t 107) (.c (.bool false))⟩,
    ⟨(some 109), none, .mov (.t 108)⟩,
    ⟨(some 110), (some (109, true)), .mov (.t 16)⟩,
    ⟨(some 111), (some (109, true)), .bin .eql (.t 110) (.c (.int .u64 258))⟩,
    ⟨(some 112), none, .pick (.t 109) (.t 111) (.c (.bool false))⟩,
    ⟨(some 113), none, .mov (.t 112)⟩,
    ⟨(some 114), (some (113, true)), .mov (.t 17)⟩,
    ⟨(some 115), (some (113, true)), .bin .eql (.t 114) (.c (.int .i64 1))⟩,
    ⟨(some 116), none, .pick (.t 113) (.t 115) (.c (.bool false))⟩,
    ⟨(some 117), none, .mov (.t 116)⟩,
    ⟨(some 118), (some (117, true)), .mov (.t 18)⟩,
    ⟨(some 119), (some (117, true)), .bin .eql (.t 118) (.c (.int .i64 4))⟩,
    ⟨(some 120), none, .pick (.t 117) (.t 119) (.c (.bool false))⟩,
    ⟨(some 121), none, .mov (.t 120)⟩,
    ⟨(some 122), (some (121, true)), .mov (.t 19)⟩,
    ⟨(some 123), (some (121, true)), .bin .eql (.t 122) (.c (.int .u64 0))⟩,
    ⟨(some 124), none, .pick (.t 121) (.t 123) (.c (.bool false))⟩,
    ⟨(some 125), none, .mov (.t 124)⟩,
    ⟨(some 126), (some (125, true)), .mov (.t 14)⟩,
    ⟨(some 127), (some (125, true)), .call 26 [(.t 126)]⟩,
    ⟨(some 128), (some (125, true)), .bin .eql (.t 127) (.c (.int .i64 5))⟩,
    ⟨(some 129), none, .pick (.t 125) (.t 128) (.c (.bool false))⟩,
    ⟨(some 130), none, .mov (.t 129)⟩,
    ⟨(some 131), (some (130, true)), .mov (.t 14)⟩,
    ⟨(some 132), (some (130, true)), .call 24 [(.t 131)]⟩,
    ⟨(some 133), (some (130, true)), .bin .eql (.t 132) (.c (.int .i64 0))⟩,
    ⟨(some 134), none, .pick (.t 130) (.t 133) (.c (.bool false))⟩,
    ⟨(some 135), none, .mov (.t 134)⟩,
    ⟨(some 136), none, .pick (.t 135) (.c (.bool true)) (.c (.bool false))⟩,
    ⟨(some 0), none, .mov (.t 136)⟩] (some [0]))
   (.ret)))))))))))
def F9 : F := ⟨i9, [(0, none)], false⟩
/-- stratagem/octet.Put -/
def i10 : IR := .seq (.rg [⟨(some 2), none, .mov (.c (.nsl 1))⟩,
    ⟨(some 3), none, .mov (.c (.int .i64 0))⟩] (some [0]))
   (.seq (.seq (.rg [⟨(some 6), none, .mov (.t 0)⟩,
    ⟨(some 7), none, .bin .gtr (.t 6) (.c (.int .u64 4611686018427387903))⟩] (some [0, 7]))
   (.cond (.t 7) (.seq (.rg [⟨(some 2), none, .mov (.c (.nsl 1))⟩,
    ⟨(some 3), none, .mov (.c (.int .i64 5))⟩] (some [2, 3]))
   (.ret)) (.skip)))
   (.seq (.rg [⟨(some 8), none, .mov (.t 0)⟩,
    ⟨(some 9), none, .call 33 [(.t 8)]⟩,
    ⟨(some 4), none, .mov (.t 9)⟩] (some [0, 4]))
   (.seq (.rg [⟨(some 10), none, .mov (.t 0)⟩,
    ⟨(some 11), none, .call 17 [(.t 10)]⟩,
    ⟨(some 5), none, .mov (.t 11)⟩] (some [4, 5]))
   (.seq (.rg [⟨(some 12), none, .mov (.t 5)⟩,
    ⟨(some 13), none, .mov (.t 4)⟩,
    ⟨(some 14), none, .bin .shl (.c (.int .i64 1)) (.t 13)⟩,
    ⟨(some 15), none, .bin .sub (.c (.int .i64 8)) (.t 14)⟩,
    ⟨(some 16), none, .sll 1 (.t 12) (some (.t 15)) none none⟩,
    ⟨(some 5), none, .mov (.t 16)⟩] (some [4, 5]))
   (.seq (.rg [⟨(some 17), none, .mov (.t 5)⟩,
    ⟨(some 18), none, .iad 1 (.t 17) (.c (.int .i64 0))⟩,
    ⟨(some 19), none, .ld false 1 (.t 18)⟩,
    ⟨(some 20), none, .mov (.t 4)⟩,
    ⟨(some 21), none, .bin .shl (.t 20) (.c (.int .u64 6))⟩,
    ⟨(some 22), none, .conv .u8 (.t 21)⟩,
    ⟨(some 23), none, .bin .or (.t 19) (.t 22)⟩,
    ⟨(some 24), none, .iad 1 (.t 17) (.c (.int .i64 0))⟩,
    ⟨none, none, .st 1 (.t 24) (.t 23)⟩] (some [5]))
   (.seq (.rg [⟨(some 25), none, .mov (.t 5)⟩,
    ⟨(some 2), none, .mov (.t 25)⟩,
    ⟨(some 3), none, .mov (.c (.int .i64 0))⟩] (some [2, 3]))
   (.ret)))))))
def F10 : F := ⟨i10, [(2, none), (3, none)], false⟩
/-- stratagem/stratagemref06.Put -/
def i11 : IR := .seq (.rg [⟨(some 2), none, .mov (.c (.nsl 1))⟩,
    ⟨(some 3), none, .mov (.c (.int .i64 0))⟩] (some [0]))
   (.seq (.seq (.rg [⟨(some 6), none, .mov (.t 0)⟩,
    ⟨(some 7), none, .bin .geq (.t 6) (.c (.int .u64 4611686018427387904))⟩] (some [0, 7]))
   (.cond (.t 7) (.seq (.rg [⟨(some 2), none, .mov (.c (.nsl 1))⟩,
    ⟨(some 3), none, .mov (.c (.int .i64 5))⟩] (some [2, 3]))
   (.ret)) (.skip)))
   (.seq (.rg [⟨(some 8), none, .mov (.t 0)⟩,
    ⟨(some 9), none, .mov (.t 0)⟩,
    ⟨(some 10), none, .call 35 [(.t 9)]⟩,
    ⟨(some 11), none, .call 34 [(.t 8), (.t 10)]⟩,
    ⟨(some 4), none, .mov (.t 11)⟩] (some [0, 4]))
   (.seq (.rg [⟨(some 12), none, .bsl (.int .u8 0) 9 [(0, (.c (.int .u8 0))), (1, (.c (.int .u8 0))), (2, (.c (.int .u8 64))), (3, (.c (.int .u8 0))), (4, (.c (.int .u8 128))), (5, (.c (.int .u8 0))), (6, (.c (.int .u8 0))), (7, (.c (.int .u8 0))), (8, (.c (.int .u8 192)))]⟩,
    ⟨(some 5), none, .mov (.t 12)⟩] (some [0, 4, 5]))
   (.seq (.dr [(⟨(some 13), none, .mov (.t 4)⟩, []),
    (⟨(some 14), none, .mov (.t 4)⟩, []),
    (⟨(some 15), none, .iad 1 (.t 14) (.c (.int .i64 0))⟩, [1]),
    (⟨(some 16), none, .ld false 1 (.t 15)⟩, [1, 2]),
    (⟨(some 17), none, .mov (.t 5)⟩, []),
    (⟨(some 18), none, .mov (.t 0)⟩, []),
    (⟨(some 19), none, .call 35 [(.t 18)]⟩, [5]),
    (⟨(some 20), none, .iad 1 (.t 17) (.t 19)⟩, [4, 5, 6]),
    (⟨(some 21), none, .ld false 1 (.t 20)⟩, [4, 5, 6, 7]),
    (⟨(some 22), none, .bin .add (.t 16) (.t 21)⟩, [1, 2, 3, 4, 5, 6, 7, 8]),
    (⟨(some 23), none, .iad 1 (.t 13) (.c (.int .i64 0))⟩, [0, 1, 2, 3, 4, 5, 6, 7, 8, 9]),
    (⟨none, none, .st 1 (.t 23) (.t 22)⟩, [0, 1, 2, 3, 4, 5, 6, 7, 8, 9, 10])] (some [4]))
   (.seq (.rg [⟨(some 24), none, .mov (.t 4)⟩,
    ⟨(some 2), none, .mov (.t 24)⟩,
    ⟨(some 3), none, .mov (.c (.int .i64 0))⟩] (some [2, 3]))
   (.ret))))))
def F11 : F := ⟨i11, [(2, none), (3, none)], false⟩
/-- stratagem/octet.Take -/
def i12_b0 : IR := .seq (.rg [⟨(some 35), none, .bin .lss (.t 34) (.t 33)⟩] (some [5, 6, 7, 32, 33, 34, 35]))
   (.seq (.cond (.t 35) (.skip) (.ext 0))
   (.seq (.blk 1 (.seq (.rg [⟨(some 36), none, .iad 1 (.t 32) (.t 34)⟩,
    ⟨(some 37), none, .ld false 1 (.t 36)⟩,
    ⟨(some 9), none, .mov (.t 37)⟩] (some [5, 6, 7, 9, 32, 33, 34]))
   (.rg [⟨(some 38), none, .mov (.t 7)⟩,
    ⟨(some 39), none, .bin .shl (.t 38) (.c (.int .u64 8))⟩,
    ⟨(some 40), none, .mov (.t 9)⟩,
    ⟨(some 41), none, .conv .u64 (.t 40)⟩,
    ⟨(some 42), none, .bin .or (.t 39) (.t 41)⟩,
    ⟨(some 7), none, .mov (.t 42)⟩] (some [5, 6, 7, 32, 33, 34]))))
   (.rg [⟨(some 43), none, .bin .add (.t 34) (.c (.int .i64 1))⟩,
    ⟨(some 34), none, .mov (.t 43)⟩] (some [5, 6, 7, 32, 33, 34]))))
def i12_l0 : IR := .loop i12_b0
theorem r12_l0 {C : Cx} {n : Nat} {fr : Fr} {h : List Ob} : ev C (n + 1) i12_l0 fr h = nxt (ev C (n + 1) i12_b0 fr h) fun fr h => ev C n i12_l0 fr h := ev_loop
def i12 : IR := .seq (.rg [⟨(some 2), none, .mov (.c (.int .u64 0))⟩,
    ⟨(some 3), none, .mov (.c (.int .i64 0))⟩,
    ⟨(some 4), none, .mov (.c (.int .i64 0))⟩] (some [0]))
   (.seq (.seq (.rg [⟨(some 10), none, .mov (.t 0)⟩,
    ⟨(some 11), none, .len (.t 10)⟩,
    ⟨(some 12), none, .bin .eql (.t 11) (.c (.int .i64 0))⟩] (some [0, 12]))
   (.cond (.t 12) (.seq (.rg [⟨(some 2), none, .mov (.c (.int .u64 0))⟩,
    ⟨(some 3), none, .mov (.c (.int .i64 0))⟩,
    ⟨(some 4), none, .mov (.c (.int .i64 3))⟩] (some [2, 3, 4]))
   (.ret)) (.skip)))
   (.seq (.rg [⟨(some 13), none, .mov (.t 0)⟩,
    ⟨(some 14), none, .iad 1 (.t 13) (.c (.int .i64 0))⟩,
    ⟨(some 15), none, .ld false 1 (.t 14)⟩,
    ⟨(some 16), none, .bin .shr (.t 15) (.c (.int .u64 6))⟩,
    ⟨(some 17), none, .conv .i64 (.t 16)⟩,
    ⟨(some 5), none, .mov (.t 17)⟩] (some [0, 5]))
   (.seq (.rg [⟨(some 18), none, .mov (.t 5)⟩,
    ⟨(some 19), none, .bin .shl (.c (.int .i64 1)) (.t 18)⟩,
    ⟨(some 6), none, .mov (.t 19)⟩] (some [0, 5, 6]))
   (.seq (.seq (.rg [⟨(some 20), none, .mov (.t 0)⟩,
    ⟨(some 21), none, .len (.t 20)⟩,
    ⟨(some 22), none, .mov (.t 6)⟩,
    ⟨(some 23), none, .bin .lss (.t 21) (.t 22)⟩] (some [0, 5, 6, 23]))
   (.cond (.t 23) (.seq (.rg [⟨(some 2), none, .mov (.c (.int .u64 0))⟩,
    ⟨(some 3), none, .mov (.c (.int .i64 0))⟩,
    ⟨(some 4), none, .mov (.c (.int .i64 3))⟩] (some [2, 3, 4]))
   (.ret)) (.skip)))
   (.seq (.rg [⟨(some 24), none, .mov (.t 0)⟩,
    ⟨(some 25), none, .iad 1 (.t 24) (.c (.int .i64 0))⟩,
    ⟨(some 26), none, .ld false 1 (.t 25)⟩,
    ⟨(some 27), none, .bin .and (.t 26) (.c (.int .u8 63))⟩,
    ⟨(some 28), none, .conv .u64 (.t 27)⟩,
    ⟨(some 7), none, .mov (.t 28)⟩] (some [0, 5, 6, 7]))
   (.seq (.seq (.rg [⟨(some 29), none, .mov (.t 0)⟩,
    ⟨(some 30), none, .mov (.t 6)⟩,
    ⟨(some 31), none, .mov (.t 6)⟩,
    ⟨(some 32), none, .sll 1 (.t 29) (some (.c (.int .i64 1))) (some (.t 30)) (some (.t 31))⟩,
    ⟨(some 33), none, .len (.t 32)⟩,
    ⟨(some 34), none, .mov (.c (.int .i64 0))⟩] (some [5, 6, 7, 32, 33, 34]))
   (.blk 0 (i12_l0)))
   (.seq (.seq (.rg [⟨(some 44), none, .mov (.t 7)⟩,
    ⟨(some 45), none, .call 33 [(.t 44)]⟩,
    ⟨(some 46), none, .mov (.t 5)⟩,
    ⟨(some 47), none, .bin .neq (.t 45) (.t 46)⟩] (some [6, 7, 47]))
   (.cond (.t 47) (.seq (.rg [⟨(some 2), none, .mov (.c (.int .u64 0))⟩,
    ⟨(some 3), none, .mov (.c (.int .i64 0))⟩,
    ⟨(some 4), none, .mov (.c (.int .i64 2))⟩] (some [2, 3, 4]))
   (.ret)) (.skip)))
   (.seq (.rg [⟨(some 48), none, .mov (.t 7)⟩,
    ⟨(some 49), none, .mov (.t 6)⟩,
    ⟨(some 2), none, .mov (.t 48)⟩,
    ⟨(some 3), none, .mov (.t 49)⟩,
    ⟨(some 4), none, .mov (.c (.int .i64 0))⟩] (some [2, 3, 4]))
   (.ret)))))))))
def F12 : F := ⟨i12, [(2, none), (3, none), (4, none)], false⟩
/-- stratagem/stratagemref06.Take -/
def i13_b0 : IR := .seq (.seq (.rg [⟨(some 27), none, .mov (.t 7)⟩,
    ⟨(some 28), none, .mov (.t 5)⟩,
    ⟨(some 29), none, .bin .lss (.t 27) (.t 28)⟩] (some [0, 5, 6, 7, 29]))
   (.cond (.t 29) (.skip) (.ext 0)))
   (.seq (.blk 1 (.rg [⟨(some 32), none, .mov (.t 6)⟩,
    ⟨(some 33), none, .bin .mul (.c (.int .u64 256)) (.t 32)⟩,
    ⟨(some 34), none, .mov (.t 0)⟩,
    ⟨(some 35), none, .mov (.t 7)⟩,
    ⟨(some 36), none, .iad 1 (.t 34) (.t 35)⟩,
    ⟨(some 37), none, .ld false 1 (.t 36)⟩,
    ⟨(some 38), none, .conv .u64 (.t 37)⟩,
    ⟨(some 39), none, .bin .add (.t 33) (.t 38)⟩,
    ⟨(some 6), none, .mov (.t 39)⟩] (some [0, 5, 6, 7])))
   (.rg [⟨(some 30), none, .mov (.t 7)⟩,
    ⟨(some 31), none, .bin .add (.t 30) (.c (.int .i64 1))⟩,
    ⟨(some 7), none, .mov (.t 31)⟩] (some [0, 5, 6, 7])))
def i13_l0 : IR := .loop i13_b0
theorem r13_l0 {C : Cx} {n : Nat} {fr : Fr} {h : List Ob} : ev C (n + 1) i13_l0 fr h = nxt (ev C (n + 1) i13_b0 fr h) fun fr h => ev C n i13_l0 fr h := ev_loop
def i13 : IR := .seq (.rg [⟨(some 2), none, .mov (.c (.int .u64 0))⟩,
    ⟨(some 3), none, .mov (.c (.int .i64 0))⟩,
    ⟨(some 4), none, .mov (.c (.int .i64 0))⟩] (some [0]))
   (.seq (.seq (.rg [⟨(some 8), none, .mov (.t 0)⟩,
    ⟨(some 9), none, .len (.t 8)⟩,
    ⟨(some 10), none, .bin .eql (.t 9) (.c (.int .i64 0))⟩] (some [0, 10]))
   (.cond (.t 10) (.seq (.rg [⟨(some 2), none, .mov (.c (.int .u64 0))⟩,
    ⟨(some 3), none, .mov (.c (.int .i64 0))⟩,
    ⟨(some 4), none, .mov (.c (.int .i64 3))⟩] (some [2, 3, 4]))
   (.ret)) (.skip)))
   (.seq (.rg [⟨(some 11), none, .bsl (.int .i64 0) 4 [(0, (.c (.int .i64 1))), (1, (.c (.int .i64 2))), (2, (.c (.int .i64 4))), (3, (.c (.int .i64 8)))]⟩,
    ⟨(some 12), none, .mov (.t 0)⟩,
    ⟨(some 13), none, .iad 1 (.t 12) (.c (.int .i64 0))⟩,
    ⟨(some 14), none, .ld false 1 (.t 13)⟩,
    ⟨(some 15), none, .bin .quo (.t 14) (.c (.int .u8 64))⟩,
    ⟨(some 16), none, .iad 1 (.t 11) (.t 15)⟩,
    ⟨(some 17), none, .ld false 1 (.t 16)⟩,
    ⟨(some 5), none, .mov (.t 17)⟩] (some [0, 5]))
   (.seq (.seq (.rg [⟨(some 18), none, .mov (.t 0)⟩,
    ⟨(some 19), none, .len (.t 18)⟩,
    ⟨(some 20), none, .mov (.t 5)⟩,
    ⟨(some 21), none, .bin .lss (.t 19) (.t 20)⟩] (some [0, 5, 21]))
   (.cond (.t 21) (.seq (.rg [⟨(some 2), none, .mov (.c (.int .u64 0))⟩,
    ⟨(some 3), none, .mov (.c (.int .i64 0))⟩,
    ⟨(some 4), none, .mov (.c (.int .i64 3))⟩] (some [2, 3, 4]))
   (.ret)) (.skip)))
   (.seq (.rg [⟨(some 22), none, .mov (.t 0)⟩,
    ⟨(some 23), none, .iad 1 (.t 22) (.c (.int .i64 0))⟩,
    ⟨(some 24), none, .ld false 1 (.t 23)⟩,
    ⟨(some 25), none, .bin .rem (.t 24) (.c (.int .u8 64))⟩,
    ⟨(some 26), none, .conv .u64 (.t 25)⟩,
    ⟨(some 6), none, .mov (.t 26)⟩] (some [0, 5, 6]))
   (.seq (.seq (.rg [⟨(some 7), none, .mov (.c (.int .i64 1))⟩] (some [0, 5, 6, 7]))
   (.blk 0 (i13_l0)))
   (.seq (.seq (.rg [⟨(some 40), none, .mov (.t 6)⟩,
    ⟨(some 41), none, .call 35 [(.t 40)]⟩,
    ⟨(some 42), none, .mov (.t 5)⟩,
    ⟨(some 43), none, .bin .neq (.t 41) (.t 42)⟩] (some [5, 6, 43]))
   (.cond (.t 43) (.seq (.rg [⟨(some 2), none, .mov (.c (.int .u64 0))⟩,
    ⟨(some 3), none, .mov (.c (.int .i64 0))⟩,
    ⟨(some 4), none, .mov (.c (.int .i64 2))⟩] (some [2, 3, 4]))
   (.ret)) (.skip)))
   (.seq (.rg [⟨(some 44), none, .mov (.t 6)⟩,
    ⟨(some 45), none, .mov (.t 5)⟩,
    ⟨(some 2), none, .mov (.t 44)⟩,
    ⟨(some 3), none, .mov (.t 45)⟩,
    ⟨(some 4), none, .mov (.c (.int .i64 0))⟩] (some [2, 3, 4]))
   (.ret))))))))
def F13 : F := ⟨i13, [(2, none), (3, none), (4, none)], false⟩
/-- stratagem/stratagemref06.Same -/
def i14_b0 : IR := .seq (.seq (.rg [⟨(some 11), none, .mov (.t 5)⟩,
    ⟨(some 12), none, .mov (.t 0)⟩,
    ⟨(some 13), none, .len (.t 12)⟩,
    ⟨(some 14), none, .bin .lss (.t 11) (.t 13)⟩] (some [0, 1, 5, 14]))
   (.cond (.t 14) (.skip) (.ext 0)))
   (.seq (.blk 1 (.seq (.dr [(⟨(some 17), none, .mov (.t 0)⟩, []),
    (⟨(some 18), none, .mov (.t 5)⟩, []),
    (⟨(some 19), none, .iad 1 (.t 17) (.t 18)⟩, [0, 1]),
    (⟨(some 20), none, .ld false 1 (.t 19)⟩, [0, 1, 2]),
    (⟨(some 21), none, .mov (.t 1)⟩, []),
    (⟨(some 22), none, .mov (.t 5)⟩, []),
    (⟨(some 23), none, .iad 1 (.t 21) (.t 22)⟩, [4, 5]),
    (⟨(some 24), none, .ld false 1 (.t 23)⟩, [4, 5, 6]),
    (⟨(some 25), none, .bin .neq (.t 20) (.t 24)⟩, [0, 1, 2, 3, 4, 5, 6, 7])] (some [0, 1, 5, 25]))
   (.cond (.t 25) (.seq (.rg [⟨(some 4), none, .mov (.c (.bool false))⟩] (some [4]))
   (.ret)) (.skip))))
   (.rg [⟨(some 15), none, .mov (.t 5)⟩,
    ⟨(some 16), none, .bin .add (.t 15) (.c (.int .i64 1))⟩,
    ⟨(some 5), none, .mov (.t 16)⟩] (some [0, 1, 5])))
def i14_l0 : IR := .loop i14_b0
theorem r14_l0 {C : Cx} {n : Nat} {fr : Fr} {h : List Ob} : ev C (n + 1) i14_l0 fr h = nxt (ev C (n + 1) i14_b0 fr h) fun fr h => ev C n i14_l0 fr h := ev_loop
def i14 : IR := .seq (.rg [⟨(some 4), none, .mov (.c (.bool false))⟩] (some [0, 1]))
   (.seq (.seq (.rg [⟨(some 6), none, .mov (.t 0)⟩,
    ⟨(some 7), none, .len (.t 6)⟩,
    ⟨(some 8), none, .mov (.t 1)⟩,
    ⟨(some 9), none, .len (.t 8)⟩,
    ⟨(some 10), none, .bin .neq (.t 7) (.t 9)⟩] (some [0, 1, 10]))
   (.cond (.t 10) (.seq (.rg [⟨(some 4), none, .mov (.c (.bool false))⟩] (some [4]))
   (.ret)) (.skip)))
   (.seq (.seq (.rg [⟨(some 5), none, .mov (.c (.int .i64 0))⟩] (some [0, 1, 5]))
   (.blk 0 (i14_l0)))
   (.seq (.rg [⟨(some 4), none, .mov (.c (.bool true))⟩] (some [4]))
   (.ret))))
def F14 : F := ⟨i14, [(4, none)], false⟩
/-- stratagem/octet.Mark -/
def i15_b0 : IR := .seq (.rg [⟨(some 9), none, .bin .lss (.t 8) (.t 7)⟩] (some [3, 6, 7, 8, 9]))
   (.seq (.cond (.t 9) (.skip) (.ext 0))
   (.seq (.blk 1 (.seq (.rg [⟨(some 10), none, .iad 1 (.t 6) (.t 8)⟩,
    ⟨(some 11), none, .ld false 1 (.t 10)⟩,
    ⟨(some 5), none, .mov (.t 11)⟩] (some [3, 5, 6, 7, 8]))
   (.rg [⟨(some 12), none, .mov (.t 3)⟩,
    ⟨(some 13), none, .mov (.t 5)⟩,
    ⟨(some 14), none, .conv .u64 (.t 13)⟩,
    ⟨(some 15), none, .bin .xor (.t 12) (.t 14)⟩,
    ⟨(some 16), none, .bin .mul (.t 15) (.c (.int .u64 1099511628211))⟩,
    ⟨(some 3), none, .mov (.t 16)⟩] (some [3, 6, 7, 8]))))
   (.rg [⟨(some 17), none, .bin .add (.t 8) (.c (.int .i64 1))⟩,
    ⟨(some 8), none, .mov (.t 17)⟩] (some [3, 6, 7, 8]))))
def i15_l0 : IR := .loop i15_b0
theorem r15_l0 {C : Cx} {n : Nat} {fr : Fr} {h : List Ob} : ev C (n + 1) i15_l0 fr h = nxt (ev C (n + 1) i15_b0 fr h) fun fr h => ev C n i15_l0 fr h := ev_loop
def i15 : IR := .seq (.rg [⟨(some 2), none, .mov (.c (.int .u64 0))⟩] (some [0]))
   (.seq (.rg [⟨(some 3), none, .mov (.c (.int .u64 14695981039346656037))⟩] (some [0, 3]))
   (.seq (.seq (.rg [⟨(some 6), none, .mov (.t 0)⟩,
    ⟨(some 7), none, .len (.t 6)⟩,
    ⟨(some 8), none, .mov (.c (.int .i64 0))⟩] (some [3, 6, 7, 8]))
   (.blk 0 (i15_l0)))
   (.seq (.rg [⟨(some 18), none, .mov (.t 3)⟩,
    ⟨(some 2), none, .mov (.t 18)⟩] (some [2]))
   (.ret))))
def F15 : F := ⟨i15, [(2, none)], false⟩
/-- stratagem/stratagemref06.Mark -/
def i16_b0 : IR := .seq (.seq (.rg [⟨(some 5), none, .mov (.t 4)⟩,
    ⟨(some 6), none, .mov (.t 0)⟩,
    ⟨(some 7), none, .len (.t 6)⟩,
    ⟨(some 8), none, .bin .lss (.t 5) (.t 7)⟩] (some [0, 3, 4, 8]))
   (.cond (.t 8) (.skip) (.ext 0)))
   (.seq (.blk 1 (.rg [⟨(some 11), none, .mov (.t 3)⟩,
    ⟨(some 12), none, .mov (.t 3)⟩,
    ⟨(some 13), none, .bin .rem (.t 12) (.c (.int .u64 256))⟩,
    ⟨(some 14), none, .bin .sub (.t 11) (.t 13)⟩,
    ⟨(some 15), none, .mov (.t 3)⟩,
    ⟨(some 16), none, .bin .rem (.t 15) (.c (.int .u64 256))⟩,
    ⟨(some 17), none, .mov (.t 0)⟩,
    ⟨(some 18), none, .mov (.t 4)⟩,
    ⟨(some 19), none, .iad 1 (.t 17) (.t 18)⟩,
    ⟨(some 20), none, .ld false 1 (.t 19)⟩,
    ⟨(some 21), none, .conv .u64 (.t 20)⟩,
    ⟨(some 22), none, .call 36 [(.t 16), (.t 21)]⟩,
    ⟨(some 23), none, .bin .add (.t 14) (.t 22)⟩,
    ⟨(some 24), none, .bin .mul (.t 23) (.c (.int .u64 1099511628211))⟩,
    ⟨(some 3), none, .mov (.t 24)⟩] (some [0, 3, 4])))
   (.rg [⟨(some 9), none, .mov (.t 4)⟩,
    ⟨(some 10), none, .bin .add (.t 9) (.c (.int .i64 1))⟩,
    ⟨(some 4), none, .mov (.t 10)⟩] (some [0, 3, 4])))
def i16_l0 : IR := .loop i16_b0
theorem r16_l0 {C : Cx} {n : Nat} {fr : Fr} {h : List Ob} : ev C (n + 1) i16_l0 fr h = nxt (ev C (n + 1) i16_b0 fr h) fun fr h => ev C n i16_l0 fr h := ev_loop
def i16 : IR := .seq (.rg [⟨(some 2), none, .mov (.c (.int .u64 0))⟩] (some [0]))
   (.seq (.rg [⟨(some 3), none, .mov (.c (.int .u64 14695981039346656037))⟩] (some [0, 3]))
   (.seq (.seq (.rg [⟨(some 4), none, .mov (.c (.int .i64 0))⟩] (some [0, 3, 4]))
   (.blk 0 (i16_l0)))
   (.seq (.rg [⟨(some 25), none, .mov (.t 3)⟩,
    ⟨(some 2), none, .mov (.t 25)⟩] (some [2]))
   (.ret))))
def F16 : F := ⟨i16, [(2, none)], false⟩
/-- stratagem/octet.Eight -/
def i17_b0 : IR := .seq (.seq (.rg [⟨(some 6), none, .mov (.t 4)⟩,
    ⟨(some 7), none, .bin .geq (.t 6) (.c (.int .i64 0))⟩] (some [0, 3, 4, 7]))
   (.cond (.t 7) (.skip) (.ext 0)))
   (.seq (.blk 1 (.rg [⟨(some 10), none, .mov (.t 3)⟩,
    ⟨(some 11), none, .mov (.t 0)⟩,
    ⟨(some 12), none, .mov (.t 4)⟩,
    ⟨(some 13), none, .bin .shr (.t 11) (.t 12)⟩,
    ⟨(some 14), none, .conv .u8 (.t 13)⟩,
    ⟨(some 15), none, .bsl (.int .u8 0) 1 [(0, (.t 14))]⟩,
    ⟨(some 16), none, .app 1 1 (.t 10) (.t 15)⟩,
    ⟨(some 3), none, .mov (.t 16)⟩] (some [0, 3, 4])))
   (.rg [⟨(some 8), none, .mov (.t 4)⟩,
    ⟨(some 9), none, .bin .sub (.t 8) (.c (.int .i64 8))⟩,
    ⟨(some 4), none, .mov (.t 9)⟩] (some [0, 3, 4])))
def i17_l0 : IR := .loop i17_b0
theorem r17_l0 {C : Cx} {n : Nat} {fr : Fr} {h : List Ob} : ev C (n + 1) i17_l0 fr h = nxt (ev C (n + 1) i17_b0 fr h) fun fr h => ev C n i17_l0 fr h := ev_loop
def i17 : IR := .seq (.rg [⟨(some 2), none, .mov (.c (.nsl 1))⟩] (some [0]))
   (.seq (.rg [⟨(some 5), none, .mks 1 (.int .u8 0) (.c (.int .i64 0)) (.c (.int .i64 8))⟩,
    ⟨(some 3), none, .mov (.t 5)⟩] (some [0, 3]))
   (.seq (.seq (.rg [⟨(some 4), none, .mov (.c (.int .i64 56))⟩] (some [0, 3, 4]))
   (.blk 0 (i17_l0)))
   (.seq (.rg [⟨(some 17), none, .mov (.t 3)⟩,
    ⟨(some 2), none, .mov (.t 17)⟩] (some [2]))
   (.ret))))
def F17 : F := ⟨i17, [(2, none)], false⟩
/-- stratagem/stratagemref06.Eight -/
def i18 : IR := .seq (.rg [⟨(some 2), none, .mov (.c (.nsl 1))⟩] (some [0]))
   (.seq (.rg [⟨(some 3), none, .mov (.t 0)⟩,
    ⟨(some 4), none, .call 34 [(.t 3), (.c (.int .i64 8))]⟩,
    ⟨(some 2), none, .mov (.t 4)⟩] (some [2]))
   (.ret))
def F18 : F := ⟨i18, [(2, none)], false⟩
/-- stratagem/octet.New -/
def i19 : IR := .seq (.rg [⟨(some 2), none, .mov (.c (.nilp))⟩] (some [0]))
   (.seq (.rg [⟨(some 3), none, .mov (.t 0)⟩,
    ⟨(some 4), none, .call 37 [(.t 3)]⟩,
    ⟨(some 5), none, .bld [.nsl 1, .int .i64 0] [(0, 1, (.t 4))]⟩,
    ⟨(some 6), none, .box (.t 5)⟩,
    ⟨(some 2), none, .mov (.t 6)⟩] (some [2]))
   (.ret))
def F19 : F := ⟨i19, [(2, none)], false⟩
/-- (*stratagem/octet.Reader).Eight -/
def i20_b0 : IR := .seq (.rg [⟨(some 21), none, .bin .lss (.t 20) (.t 19)⟩] (some [0, 3, 18, 19, 20, 21]))
   (.seq (.cond (.t 21) (.skip) (.ext 0))
   (.seq (.blk 1 (.seq (.rg [⟨(some 22), none, .iad 1 (.t 18) (.t 20)⟩,
    ⟨(some 23), none, .ld false 1 (.t 22)⟩,
    ⟨(some 5), none, .mov (.t 23)⟩] (some [0, 3, 5, 18, 19, 20]))
   (.rg [⟨(some 24), none, .mov (.t 3)⟩,
    ⟨(some 25), none, .bin .shl (.t 24) (.c (.int .u64 8))⟩,
    ⟨(some 26), none, .mov (.t 5)⟩,
    ⟨(some 27), none, .conv .u64 (.t 26)⟩,
    ⟨(some 28), none, .bin .or (.t 25) (.t 27)⟩,
    ⟨(some 3), none, .mov (.t 28)⟩] (some [0, 3, 18, 19, 20]))))
   (.rg [⟨(some 29), none, .bin .add (.t 20) (.c (.int .i64 1))⟩,
    ⟨(some 20), none, .mov (.t 29)⟩] (some [0, 3, 18, 19, 20]))))
def i20_l0 : IR := .loop i20_b0
theorem r20_l0 {C : Cx} {n : Nat} {fr : Fr} {h : List Ob} : ev C (n + 1) i20_l0 fr h = nxt (ev C (n + 1) i20_b0 fr h) fun fr h => ev C n i20_l0 fr h := ev_loop
def i20 : IR := .seq (.rg [⟨(some 2), none, .mov (.c (.int .u64 0))⟩] (some [0]))
   (.seq (.seq (.rg [⟨(some 6), none, .mov (.t 0)⟩,
    ⟨(some 7), none, .nck (.t 6)⟩,
    ⟨(some 8), none, .fad 0 (.t 7)⟩,
    ⟨(some 9), none, .ld false 1 (.t 8)⟩,
    ⟨(some 10), none, .len (.t 9)⟩,
    ⟨(some 11), none, .bin .lss (.t 10) (.c (.int .i64 8))⟩] (some [0, 11]))
   (.cond (.t 11) (.seq (.rg [⟨(some 12), none, .mov (.t 0)⟩,
    ⟨(some 13), none, .call 38 [(.t 12), (.c (.int .i64 3))]⟩] (some []))
   (.seq (.rg [⟨(some 2), none, .mov (.c (.int .u64 0))⟩] (some [2]))
   (.ret))) (.skip)))
   (.seq (.rg [⟨(some 3), none, .mov (.c (.int .u64 0))⟩] (some [0, 3]))
   (.seq (.seq (.rg [⟨(some 14), none, .mov (.t 0)⟩,
    ⟨(some 15), none, .nck (.t 14)⟩,
    ⟨(some 16), none, .fad 0 (.t 15)⟩,
    ⟨(some 17), none, .ld false 1 (.t 16)⟩,
    ⟨(some 18), none, .sll 1 (.t 17) none (some (.c (.int .i64 8))) none⟩,
    ⟨(some 19), none, .len (.t 18)⟩,
    ⟨(some 20), none, .mov (.c (.int .i64 0))⟩] (some [0, 3, 18, 19, 20]))
   (.blk 0 (i20_l0)))
   (.seq (.rg [⟨(some 30), none, .mov (.t 0)⟩,
    ⟨(some 31), none, .mov (.t 0)⟩,
    ⟨(some 32), none, .nck (.t 31)⟩,
    ⟨(some 33), none, .fad 0 (.t 32)⟩,
    ⟨(some 34), none, .ld false 1 (.t 33)⟩,
    ⟨(some 35), none, .sll 1 (.t 34) (some (.c (.int .i64 8))) none none⟩,
    ⟨(some 36), none, .nck (.t 30)⟩,
    ⟨(some 37), none, .fad 0 (.t 36)⟩,
    ⟨none, none, .st 1 (.t 37) (.t 35)⟩] (some [3]))
   (.seq (.rg [⟨(some 38), none, .mov (.t 3)⟩,
    ⟨(some 2), none, .mov (.t 38)⟩] (some [2]))
   (.ret))))))
def F20 : F := ⟨i20, [(2, none)], false⟩
/-- (*stratagem/stratagemref06.Reader).Eight -/
def i21_b0 : IR := .seq (.seq (.rg [⟨(some 19), none, .mov (.t 4)⟩,
    ⟨(some 20), none, .bin .lss (.t 19) (.c (.int .i64 8))⟩] (some [0, 3, 4, 20]))
   (.cond (.t 20) (.skip) (.ext 0)))
   (.seq (.blk 1 (.rg [⟨(some 23), none, .mov (.t 3)⟩,
    ⟨(some 24), none, .bin .mul (.c (.int .u64 256)) (.t 23)⟩,
    ⟨(some 25), none, .mov (.t 0)⟩,
    ⟨(some 26), none, .nck (.t 25)⟩,
    ⟨(some 27), none, .fad 0 (.t 26)⟩,
    ⟨(some 28), none, .ld false 1 (.t 27)⟩,
    ⟨(some 29), none, .mov (.t 4)⟩,
    ⟨(some 30), none, .iad 1 (.t 28) (.t 29)⟩,
    ⟨(some 31), none, .ld false 1 (.t 30)⟩,
    ⟨(some 32), none, .conv .u64 (.t 31)⟩,
    ⟨(some 33), none, .bin .add (.t 24) (.t 32)⟩,
    ⟨(some 3), none, .mov (.t 33)⟩] (some [0, 3, 4])))
   (.rg [⟨(some 21), none, .mov (.t 4)⟩,
    ⟨(some 22), none, .bin .add (.t 21) (.c (.int .i64 1))⟩,
    ⟨(some 4), none, .mov (.t 22)⟩] (some [0, 3, 4])))
def i21_l0 : IR := .loop i21_b0
theorem r21_l0 {C : Cx} {n : Nat} {fr : Fr} {h : List Ob} : ev C (n + 1) i21_l0 fr h = nxt (ev C (n + 1) i21_b0 fr h) fun fr h => ev C n i21_l0 fr h := ev_loop
def i21 : IR := .seq (.rg [⟨(some 2), none, .mov (.c (.int .u64 0))⟩] (some [0]))
   (.seq (.seq (.rg [⟨(some 5), none, .mov (.t 0)⟩,
    ⟨(some 6), none, .nck (.t 5)⟩,
    ⟨(some 7), none, .fad 1 (.t 6)⟩,
    ⟨(some 8), none, .ld false 1 (.t 7)⟩,
    ⟨(some 9), none, .bin .neq (.t 8) (.c (.int .i64 0))⟩] (some [0, 9]))
   (.cond (.t 9) (.seq (.rg [⟨(some 2), none, .mov (.c (.int .u64 0))⟩] (some [2]))
   (.ret)) (.skip)))
   (.seq (.seq (.rg [⟨(some 10), none, .mov (.t 0)⟩,
    ⟨(some 11), none, .nck (.t 10)⟩,
    ⟨(some 12), none, .fad 0 (.t 11)⟩,
    ⟨(some 13), none, .ld false 1 (.t 12)⟩,
    ⟨(some 14), none, .len (.t 13)⟩,
    ⟨(some 15), none, .bin .lss (.t 14) (.c (.int .i64 8))⟩] (some [0, 15]))
   (.cond (.t 15) (.seq (.rg [⟨(some 16), none, .mov (.t 0)⟩,
    ⟨(some 17), none, .nck (.t 16)⟩,
    ⟨(some 18), none, .fad 1 (.t 17)⟩,
    ⟨none, none, .st 1 (.t 18) (.c (.int .i64 3))⟩] (some []))
   (.seq (.rg [⟨(some 2), none, .mov (.c (.int .u64 0))⟩] (some [2]))
   (.ret))) (.skip)))
   (.seq (.rg [⟨(some 3), none, .mov (.c (.int .u64 0))⟩] (some [0, 3]))
   (.seq (.seq (.rg [⟨(some 4), none, .mov (.c (.int .i64 0))⟩] (some [0, 3, 4]))
   (.blk 0 (i21_l0)))
   (.seq (.rg [⟨(some 34), none, .mov (.t 0)⟩,
    ⟨(some 35), none, .mov (.t 0)⟩,
    ⟨(some 36), none, .nck (.t 35)⟩,
    ⟨(some 37), none, .fad 0 (.t 36)⟩,
    ⟨(some 38), none, .ld false 1 (.t 37)⟩,
    ⟨(some 39), none, .sll 1 (.t 38) (some (.c (.int .i64 8))) none none⟩,
    ⟨(some 40), none, .nck (.t 34)⟩,
    ⟨(some 41), none, .fad 0 (.t 40)⟩,
    ⟨none, none, .st 1 (.t 41) (.t 39)⟩] (some [3]))
   (.seq (.rg [⟨(some 42), none, .mov (.t 3)⟩,
    ⟨(some 2), none, .mov (.t 42)⟩] (some [2]))
   (.ret)))))))
def F21 : F := ⟨i21, [(2, none)], false⟩
/-- (*stratagem/octet.Reader).Num -/
def i22 : IR := .seq (.rg [⟨(some 4), none, .mov (.c (.int .u64 0))⟩] (some [0, 1]))
   (.seq (.rg [⟨(some 9), none, .mov (.t 0)⟩,
    ⟨(some 10), none, .nck (.t 9)⟩,
    ⟨(some 11), none, .fad 0 (.t 10)⟩,
    ⟨(some 12), none, .ld false 1 (.t 11)⟩,
    ⟨(some 13), none, .call 12 [(.t 12)]⟩,
    ⟨(some 8), none, .mov (.t 13)⟩,
    ⟨(some 14), none, .ext (.t 8) 0⟩,
    ⟨(some 15), none, .ext (.t 8) 1⟩,
    ⟨(some 16), none, .ext (.t 8) 2⟩,
    ⟨(some 5), none, .mov (.t 14)⟩,
    ⟨(some 6), none, .mov (.t 15)⟩,
    ⟨(some 7), none, .mov (.t 16)⟩] (some [0, 1, 5, 6, 7]))
   (.seq (.seq (.rg [⟨(some 17), none, .mov (.t 7)⟩,
    ⟨(some 18), none, .bin .eql (.t 17) (.c (.int .i64 0))⟩,
    ⟨(some 19), none, .mov (.t 18)⟩,
    ⟨(some 20), (some (19, true)), .mov (.t 5)⟩,
    ⟨(some 21), (some (19, true)), .mov (.t 1)⟩,
    ⟨(some 22), (some (19, true)), .bin .gtr (.t 20) (.t 21)⟩,
    ⟨(some 23), none, .pick (.t 19) (.t 22) (.c (.bool false))⟩] (some [0, 5, 6, 7, 23]))
   (.cond (.t 23) (.rg [⟨(some 7), none, .mov (.c (.int .i64 5))⟩] (some [0, 5, 6, 7])) (.skip)))
   (.seq (.seq (.rg [⟨(some 24), none, .mov (.t 7)⟩,
    ⟨(some 25), none, .bin .neq (.t 24) (.c (.int .i64 0))⟩] (some [0, 5, 6, 7, 25]))
   (.cond (.t 25) (.seq (.rg [⟨(some 26), none, .mov (.t 0)⟩,
    ⟨(some 27), none, .mov (.t 7)⟩,
    ⟨(some 28), none, .call 38 [(.t 26), (.t 27)]⟩] (some []))
   (.seq (.rg [⟨(some 4), none, .mov (.c (.int .u64 0))⟩] (some [4]))
   (.ret))) (.skip)))
   (.seq (.rg [⟨(some 29), none, .mov (.t 0)⟩,
    ⟨(some 30), none, .mov (.t 0)⟩,
    ⟨(some 31), none, .nck (.t 30)⟩,
    ⟨(some 32), none, .fad 0 (.t 31)⟩,
    ⟨(some 33), none, .ld false 1 (.t 32)⟩,
    ⟨(some 34), none, .mov (.t 6)⟩,
    ⟨(some 35), none, .sll 1 (.t 33) (some (.t 34)) none none⟩,
    ⟨(some 36), none, .nck (.t 29)⟩,
    ⟨(some 37), none, .fad 0 (.t 36)⟩,
    ⟨none, none, .st 1 (.t 37) (.t 35)⟩] (some [5]))
   (.seq (.rg [⟨(some 38), none, .mov (.t 5)⟩,
    ⟨(some 4), none, .mov (.t 38)⟩] (some [4]))
   (.ret))))))
def F22 : F := ⟨i22, [(4, none)], false⟩
/-- (*stratagem/stratagemref06.Reader).Num -/
def i23 : IR := .seq (.rg [⟨(some 4), none, .mov (.c (.int .u64 0))⟩] (some [0, 1]))
   (.seq (.seq (.rg [⟨(some 8), none, .mov (.t 0)⟩,
    ⟨(some 9), none, .nck (.t 8)⟩,
    ⟨(some 10), none, .fad 1 (.t 9)⟩,
    ⟨(some 11), none, .ld false 1 (.t 10)⟩,
    ⟨(some 12), none, .bin .neq (.t 11) (.c (.int .i64 0))⟩] (some [0, 1, 12]))
   (.cond (.t 12) (.seq (.rg [⟨(some 4), none, .mov (.c (.int .u64 0))⟩] (some [4]))
   (.ret)) (.skip)))
   (.seq (.rg [⟨(some 14), none, .mov (.t 0)⟩,
    ⟨(some 15), none, .nck (.t 14)⟩,
    ⟨(some 16), none, .fad 0 (.t 15)⟩,
    ⟨(some 17), none, .ld false 1 (.t 16)⟩,
    ⟨(some 18), none, .call 13 [(.t 17)]⟩,
    ⟨(some 13), none, .mov (.t 18)⟩,
    ⟨(some 19), none, .ext (.t 13) 0⟩,
    ⟨(some 20), none, .ext (.t 13) 1⟩,
    ⟨(some 21), none, .ext (.t 13) 2⟩,
    ⟨(some 5), none, .mov (.t 19)⟩,
    ⟨(some 6), none, .mov (.t 20)⟩,
    ⟨(some 7), none, .mov (.t 21)⟩] (some [0, 1, 5, 6, 7]))
   (.seq (.seq (.rg [⟨(some 22), none, .mov (.t 7)⟩,
    ⟨(some 23), none, .bin .eql (.t 22) (.c (.int .i64 0))⟩,
    ⟨(some 24), none, .mov (.t 23)⟩,
    ⟨(some 25), (some (24, true)), .mov (.t 5)⟩,
    ⟨(some 26), (some (24, true)), .mov (.t 1)⟩,
    ⟨(some 27), (some (24, true)), .bin .gtr (.t 25) (.t 26)⟩,
    ⟨(some 28), none, .pick (.t 24) (.t 27) (.c (.bool false))⟩] (some [0, 5, 6, 7, 28]))
   (.cond (.t 28) (.rg [⟨(some 7), none, .mov (.c (.int .i64 5))⟩] (some [0, 5, 6, 7])) (.skip)))
   (.seq (.seq (.rg [⟨(some 29), none, .mov (.t 7)⟩,
    ⟨(some 30), none, .bin .neq (.t 29) (.c (.int .i64 0))⟩] (some [0, 5, 6, 7, 30]))
   (.cond (.t 30) (.seq (.rg [⟨(some 31), none, .mov (.t 0)⟩,
    ⟨(some 32), none, .mov (.t 7)⟩,
    ⟨(some 33), none, .nck (.t 31)⟩,
    ⟨(some 34), none, .fad 1 (.t 33)⟩,
    ⟨none, none, .st 1 (.t 34) (.t 32)⟩] (some []))
   (.seq (.rg [⟨(some 4), none, .mov (.c (.int .u64 0))⟩] (some [4]))
   (.ret))) (.skip)))
   (.seq (.rg [⟨(some 35), none, .mov (.t 0)⟩,
    ⟨(some 36), none, .mov (.t 0)⟩,
    ⟨(some 37), none, .nck (.t 36)⟩,
    ⟨(some 38), none, .fad 0 (.t 37)⟩,
    ⟨(some 39), none, .ld false 1 (.t 38)⟩,
    ⟨(some 40), none, .mov (.t 6)⟩,
    ⟨(some 41), none, .sll 1 (.t 39) (some (.t 40)) none none⟩,
    ⟨(some 42), none, .nck (.t 35)⟩,
    ⟨(some 43), none, .fad 0 (.t 42)⟩,
    ⟨none, none, .st 1 (.t 43) (.t 41)⟩] (some [5]))
   (.seq (.rg [⟨(some 44), none, .mov (.t 5)⟩,
    ⟨(some 4), none, .mov (.t 44)⟩] (some [4]))
   (.ret)))))))
def F23 : F := ⟨i23, [(4, none)], false⟩
/-- (*stratagem/octet.Reader).Left -/
def i24 : IR := .seq (.rg [⟨(some 2), none, .mov (.c (.int .i64 0))⟩] (some [0]))
   (.seq (.rg [⟨(some 3), none, .mov (.t 0)⟩,
    ⟨(some 4), none, .nck (.t 3)⟩,
    ⟨(some 5), none, .fad 0 (.t 4)⟩,
    ⟨(some 6), none, .ld false 1 (.t 5)⟩,
    ⟨(some 7), none, .len (.t 6)⟩,
    ⟨(some 2), none, .mov (.t 7)⟩] (some [2]))
   (.ret))
def F24 : F := ⟨i24, [(2, none)], false⟩
/-- (*stratagem/stratagemref06.Reader).Left -/
def i25 : IR := .seq (.rg [⟨(some 2), none, .mov (.c (.int .i64 0))⟩] (some [0]))
   (.seq (.seq (.rg [⟨(some 3), none, .mov (.t 0)⟩,
    ⟨(some 4), none, .nck (.t 3)⟩,
    ⟨(some 5), none, .fad 1 (.t 4)⟩,
    ⟨(some 6), none, .ld false 1 (.t 5)⟩,
    ⟨(some 7), none, .bin .neq (.t 6) (.c (.int .i64 0))⟩] (some [0, 7]))
   (.cond (.t 7) (.seq (.rg [⟨(some 2), none, .mov (.c (.int .i64 0))⟩] (some [2]))
   (.ret)) (.skip)))
   (.seq (.rg [⟨(some 8), none, .mov (.t 0)⟩,
    ⟨(some 9), none, .nck (.t 8)⟩,
    ⟨(some 10), none, .fad 0 (.t 9)⟩,
    ⟨(some 11), none, .ld false 1 (.t 10)⟩,
    ⟨(some 12), none, .len (.t 11)⟩,
    ⟨(some 2), none, .mov (.t 12)⟩] (some [2]))
   (.ret)))
def F25 : F := ⟨i25, [(2, none)], false⟩
/-- (*stratagem/octet.Reader).End -/
def i26 : IR := .seq (.rg [⟨(some 2), none, .mov (.c (.int .i64 0))⟩] (some [0]))
   (.seq (.seq (.rg [⟨(some 3), none, .mov (.t 0)⟩,
    ⟨(some 4), none, .nck (.t 3)⟩,
    ⟨(some 5), none, .fad 1 (.t 4)⟩,
    ⟨(some 6), none, .ld false 1 (.t 5)⟩,
    ⟨(some 7), none, .bin .eql (.t 6) (.c (.int .i64 0))⟩,
    ⟨(some 8), none, .mov (.t 7)⟩,
    ⟨(some 9), (some (8, true)), .mov (.t 0)⟩,
    ⟨(some 10), (some (8, true)), .nck (.t 9)⟩,
    ⟨(some 11), (some (8, true)), .fad 0 (.t 10)⟩,
    ⟨(some 12), (some (8, true)), .ld false 1 (.t 11)⟩,
    ⟨(some 13), (some (8, true)), .len (.t 12)⟩,
    ⟨(some 14), (some (8, true)), .bin .gtr (.t 13) (.c (.int .i64 0))⟩,
    ⟨(some 15), none, .pick (.t 8) (.t 14) (.c (.bool false))⟩] (some [0, 15]))
   (.cond (.t 15) (.seq (.rg [⟨(some 2), none, .mov (.c (.int .i64 4))⟩] (some [2]))
   (.ret)) (.skip)))
   (.seq (.rg [⟨(some 16), none, .mov (.t 0)⟩,
    ⟨(some 17), none, .nck (.t 16)⟩,
    ⟨(some 18), none, .fad 1 (.t 17)⟩,
    ⟨(some 19), none, .ld false 1 (.t 18)⟩,
    ⟨(some 2), none, .mov (.t 19)⟩] (some [2]))
   (.ret)))
def F26 : F := ⟨i26, [(2, none)], false⟩
/-- (*stratagem/stratagemref06.Reader).End -/
def i27 : IR := .seq (.rg [⟨(some 2), none, .mov (.c (.int .i64 0))⟩] (some [0]))
   (.seq (.seq (.rg [⟨(some 3), none, .mov (.t 0)⟩,
    ⟨(some 4), none, .nck (.t 3)⟩,
    ⟨(some 5), none, .fad 1 (.t 4)⟩,
    ⟨(some 6), none, .ld false 1 (.t 5)⟩,
    ⟨(some 7), none, .bin .eql (.t 6) (.c (.int .i64 0))⟩,
    ⟨(some 8), none, .mov (.t 7)⟩,
    ⟨(some 9), (some (8, true)), .mov (.t 0)⟩,
    ⟨(some 10), (some (8, true)), .nck (.t 9)⟩,
    ⟨(some 11), (some (8, true)), .fad 0 (.t 10)⟩,
    ⟨(some 12), (some (8, true)), .ld false 1 (.t 11)⟩,
    ⟨(some 13), (some (8, true)), .len (.t 12)⟩,
    ⟨(some 14), (some (8, true)), .bin .gtr (.t 13) (.c (.int .i64 0))⟩,
    ⟨(some 15), none, .pick (.t 8) (.t 14) (.c (.bool false))⟩] (some [0, 15]))
   (.cond (.t 15) (.seq (.rg [⟨(some 2), none, .mov (.c (.int .i64 4))⟩] (some [2]))
   (.ret)) (.skip)))
   (.seq (.rg [⟨(some 16), none, .mov (.t 0)⟩,
    ⟨(some 17), none, .nck (.t 16)⟩,
    ⟨(some 18), none, .fad 1 (.t 17)⟩,
    ⟨(some 19), none, .ld false 1 (.t 18)⟩,
    ⟨(some 2), none, .mov (.t 19)⟩] (some [2]))
   (.ret)))
def F27 : F := ⟨i27, [(2, none)], false⟩
/-- stratagem/stratagemlaw07.awake -/
def i28 : IR := .seq (.rg [⟨(some 0), none, .mov (.c (.bool false))⟩] (some []))
   (.seq (.rg [⟨(some 11), none, .call 29 [(.c (.str [120, 60, 61, 45, 49, 50, 46, 46, 121]))]⟩,
    ⟨(some 10), none, .mov (.t 11)⟩,
    ⟨(some 12), none, .ext (.t 10) 0⟩,
    ⟨(some 13), none, .ext (.t 10) 1⟩,
    ⟨(some 14), none, .ext (.t 10) 2⟩,
    ⟨(some 1), none, .mov (.t 12)⟩,
    ⟨(some 2), none, .mov (.t 13)⟩,
    ⟨(some 3), none, .mov (.t 14)⟩] (some [1, 2, 3]))
   (.seq (.rg [⟨(some 16), none, .call 29 [(.c (.str [120, 32, 46]))]⟩,
    ⟨(some 15), none, .mov (.t 16)⟩,
    ⟨(some 17), none, .ext (.t 15) 0⟩,
    ⟨(some 18), none, .ext (.t 15) 1⟩,
    ⟨(some 19), none, .ext (.t 15) 2⟩,
    ⟨(some 4), none, .mov (.t 17)⟩,
    ⟨(some 5), none, .mov (.t 18)⟩,
    ⟨(some 6), none, .mov (.t 19)⟩] (some [1, 2, 3, 5, 6]))
   (.seq (.rg [⟨(some 21), none, .call 29 [(.c (.str [32, 32, 49, 48, 57, 57, 53, 49, 49, 54, 50, 55, 55, 55, 55]))]⟩,
    ⟨(some 20), none, .mov (.t 21)⟩,
    ⟨(some 22), none, .ext (.t 20) 0⟩,
    ⟨(some 23), none, .ext (.t 20) 1⟩,
    ⟨(some 24), none, .ext (.t 20) 2⟩,
    ⟨(some 7), none, .mov (.t 22)⟩,
    ⟨(some 8), none, .mov (.t 23)⟩,
    ⟨(some 9), none, .mov (.t 24)⟩] (some [1, 2, 3, 5, 6, 8, 9]))
   (.seq (.rg [⟨(some 25), none, .mov (.t 1)⟩,
    ⟨(some 26), none, .call 32 [(.t 25)]⟩,
    ⟨(some 27), none, .bld [.int .i64 0, .str [], .int .i64 0, .int .i64 0] [(0, 1, (.c (.int .i64 1))), (1, 1, (.c (.str [120])))]⟩,
    ⟨(some 28), none, .bld [.int .i64 0, .str [], .int .i64 0, .int .i64 0] [(0, 1, (.c (.int .i64 3))), (1, 1, (.c (.str [60, 61]))), (3, 1, (.c (.int .i64 1)))]⟩,
    ⟨(some 29), none, .bld [.int .i64 0, .str [], .int .i64 0, .int .i64 0] [(0, 1, (.c (.int .i64 3))), (1, 1, (.c (.str [45]))), (3, 1, (.c (.int .i64 3)))]⟩,
    ⟨(some 30), none, .bld [.int .i64 0, .str [], .int .i64 0, .int .i64 0] [(0, 1, (.c (.int .i64 2))), (1, 1, (.c (.str [49, 50]))), (2, 1, (.c (.int .i64 12))), (3, 1, (.c (.int .i64 4)))]⟩,
    ⟨(some 31), none, .bld [.int .i64 0, .str [], .int .i64 0, .int .i64 0] [(0, 1, (.c (.int .i64 3))), (1, 1, (.c (.str [46, 46]))), (3, 1, (.c (.int .i64 6)))]⟩,
    ⟨(some 32), none, .bld [.int .i64 0, .str [], .int .i64 0, .int .i64 0] [(0, 1, (.c (.int .i64 1))), (1, 1, (.c (.str [121]))), (3, 1, (.c (.int .i64 8)))]⟩,
    ⟨(some 33), none, .bsl (.agg [.int .i64 0, .str [], .int .i64 0, .int .i64 0]) 6 [(0, (.t 27)), (1, (.t 28)), (2, (.t 29)), (3, (.t 30)), (4, (.t 31)), (5, (.t 32))]⟩,
    ⟨(some 34), none, .call 31 [(.t 26), (.t 33)]⟩,
    ⟨(some 35), none, .mov (.t 34)⟩,
    ⟨(some 36), (some (35, true)), .mov (.t 2)⟩,
    ⟨(some 37), (some (35, true)), .bin .eql (.t 36) (.c (.int .i64 0))⟩,
    ⟨(some 38), none, .pick (.t 35) (.t 37) (.c (.bool false))⟩,
    ⟨(some 39), none, .mov (.t 38)⟩,
    ⟨(some 40), (some (39, true)), .mov (.t 3)⟩,
    ⟨(some 41), (some (39, true)), .bin .eql (.t 40) (.c (.int .i64 0))⟩,
    ⟨(some 42), none, .pick (.t 39) (.t 41) (.c (.bool false))⟩,
    ⟨(some 43), none, .mov (.t 42)⟩,
    ⟨(some 44), (some (43, true)), .mov (.t 5)⟩,
    ⟨(some 45), (some (43, true)), .bin .eql (.t 44) (.c (.int .i64 2))⟩,
    ⟨(some 46), none, .pick (.t 43) (.t 45) (.c (.bool false))⟩,
    ⟨(some 47), none, .mov (.t 46)⟩,
    ⟨(some 48), (some (47, true)), .mov (.t 6)⟩,
    ⟨(some 49), (some (47, true)), .bin .eql (.t 48) (.c (.int .i64 2))⟩,
    ⟨(some 50), none, .pick (.t 47) (.t 49) (.c (.bool false))⟩,
    ⟨(some 51), none, .mov (.t 50)⟩,
    ⟨(some 52), (some (51, true)), .mov (.t 8)⟩,
    ⟨(some 53), (some (51, true)), .bin .eql (.t 52) (.c (.int .i64 2))⟩,
    ⟨(some 54), none, .pick (.t 51) (.t 53) (.c (.bool false))⟩,
    ⟨(some 55), none, .mov (.t 54)⟩,
    ⟨(some 56), (some (55, true)), .mov (.t 9)⟩,
    ⟨(some 57), (some (55, true)), .bin .eql (.t 56) (.c (.int .i64 5))⟩,
    ⟨(some 58), none, .pick (.t 55) (.t 57) (.c (.bool false))⟩,
    ⟨(some 0), none, .mov (.t 58)⟩] (some [0]))
   (.ret)))))
def F28 : F := ⟨i28, [(0, none)], false⟩
/-- stratagem/scan.Scan -/
def i29_b0 : IR := .seq (.seq (.rg [⟨(some 11), none, .mov (.t 6)⟩,
    ⟨(some 12), none, .mov (.t 0)⟩,
    ⟨(some 13), none, .slen (.t 12)⟩,
    ⟨(some 14), none, .bin .lss (.t 11) (.t 13)⟩] (some [0, 5, 6, 14]))
   (.cond (.t 14) (.skip) (.ext 0)))
   (.blk 1 (.seq (.seq (.rg [⟨(some 15), none, .mov (.t 0)⟩,
    ⟨(some 16), none, .mov (.t 6)⟩,
    ⟨(some 17), none, .ixs (.t 15) (.t 16)⟩,
    ⟨(some 18), none, .bin .eql (.t 17) (.c (.int .u8 32))⟩,
    ⟨(some 19), none, .mov (.t 18)⟩,
    ⟨(some 20), (some (19, false)), .mov (.t 0)⟩,
    ⟨(some 21), (some (19, false)), .mov (.t 6)⟩,
    ⟨(some 22), (some (19, false)), .ixs (.t 20) (.t 21)⟩,
    ⟨(some 23), (some (19, false)), .bin .eql (.t 22) (.c (.int .u8 10))⟩,
    ⟨(some 24), none, .pick (.t 19) (.c (.bool true)) (.t 23)⟩] (some [0, 5, 6, 24]))
   (.cond (.t 24) (.seq (.rg [⟨(some 25), none, .mov (.t 6)⟩,
    ⟨(some 26), none, .bin .add (.t 25) (.c (.int .i64 1))⟩,
    ⟨(some 6), none, .mov (.t 26)⟩] (some [0, 5, 6]))
   (.ext 1)) (.skip)))
   (.seq (.rg [⟨(some 27), none, .mov (.t 0)⟩,
    ⟨(some 28), none, .mov (.t 6)⟩,
    ⟨(some 29), none, .sls (.t 27) (some (.t 28)) none⟩,
    ⟨(some 30), none, .call 39 [(.t 29)]⟩,
    ⟨(some 7), none, .new (.agg [.int .i64 0, .str [], .int .i64 0, .int .i64 0])⟩,
    ⟨none, none, .st 4 (.t 7) (.t 30)⟩] (some [0, 5, 6, 7]))
   (.seq (.blk 2 (.seq (.rg [⟨(some 32), none, .fad 0 (.t 7)⟩,
    ⟨(some 33), none, .ld false 1 (.t 32)⟩,
    ⟨(some 34), none, .bin .eql (.t 33) (.c (.int .i64 0))⟩,
    ⟨(some 31), none, .mov (.t 34)⟩] (some [0, 5, 6, 7, 31]))
   (.cond (.t 31) (.seq (.rg [⟨(some 35), none, .mov (.t 6)⟩,
    ⟨(some 2), none, .mov (.c (.nsl 4))⟩,
    ⟨(some 3), none, .mov (.t 35)⟩,
    ⟨(some 4), none, .mov (.c (.int .i64 2))⟩] (some [2, 3, 4]))
   (.ret)) (.seq (.rg [⟨(some 37), none, .fad 2 (.t 7)⟩,
    ⟨(some 38), none, .ld false 1 (.t 37)⟩,
    ⟨(some 39), none, .bin .gtr (.t 38) (.c (.int .i64 1099511627776))⟩,
    ⟨(some 36), none, .mov (.t 39)⟩] (some [0, 5, 6, 7, 36]))
   (.cond (.t 36) (.seq (.rg [⟨(some 40), none, .mov (.t 6)⟩,
    ⟨(some 2), none, .mov (.c (.nsl 4))⟩,
    ⟨(some 3), none, .mov (.t 40)⟩,
    ⟨(some 4), none, .mov (.c (.int .i64 5))⟩] (some [2, 3, 4]))
   (.ret)) (.skip))))))
   (.seq (.rg [⟨(some 41), none, .mov (.t 6)⟩,
    ⟨(some 42), none, .fad 3 (.t 7)⟩,
    ⟨none, none, .st 1 (.t 42) (.t 41)⟩] (some [0, 5, 6, 7]))
   (.seq (.rg [⟨(some 43), none, .mov (.t 5)⟩,
    ⟨(some 44), none, .ld true 4 (.t 7)⟩,
    ⟨(some 45), none, .bsl (.agg [.int .i64 0, .str [], .int .i64 0, .int .i64 0]) 1 [(0, (.t 44))]⟩,
    ⟨(some 46), none, .app 4 40 (.t 43) (.t 45)⟩,
    ⟨(some 5), none, .mov (.t 46)⟩] (some [0, 5, 6, 7]))
   (.rg [⟨(some 47), none, .mov (.t 6)⟩,
    ⟨(some 48), none, .fad 1 (.t 7)⟩,
    ⟨(some 49), none, .ld false 1 (.t 48)⟩,
    ⟨(some 50), none, .slen (.t 49)⟩,
    ⟨(some 51), none, .bin .add (.t 47) (.t 50)⟩,
    ⟨(some 6), none, .mov (.t 51)⟩] (some [0, 5, 6]))))))))
def i29_l0 : IR := .loop i29_b0
theorem r29_l0 {C : Cx} {n : Nat} {fr : Fr} {h : List Ob} : ev C (n + 1) i29_l0 fr h = nxt (ev C (n + 1) i29_b0 fr h) fun fr h => ev C n i29_l0 fr h := ev_loop
def i29 : IR := .seq (.rg [⟨(some 2), none, .mov (.c (.nsl 4))⟩,
    ⟨(some 3), none, .mov (.c (.int .i64 0))⟩,
    ⟨(some 4), none, .mov (.c (.int .i64 0))⟩] (some [0]))
   (.seq (.seq (.rg [⟨(some 8), none, .mov (.t 0)⟩,
    ⟨(some 9), none, .slen (.t 8)⟩,
    ⟨(some 10), none, .bin .gtr (.t 9) (.c (.int .i64 4000))⟩] (some [0, 10]))
   (.cond (.t 10) (.seq (.rg [⟨(some 2), none, .mov (.c (.nsl 4))⟩,
    ⟨(some 3), none, .mov (.c (.int .i64 0))⟩,
    ⟨(some 4), none, .mov (.c (.int .i64 5))⟩] (some [2, 3, 4]))
   (.ret)) (.skip)))
   (.seq (.rg [⟨(some 5), none, .mov (.c (.nsl 4))⟩] (some [0, 5]))
   (.seq (.seq (.rg [⟨(some 6), none, .mov (.c (.int .i64 0))⟩] (some [0, 5, 6]))
   (.blk 0 (i29_l0)))
   (.seq (.rg [⟨(some 52), none, .mov (.t 5)⟩,
    ⟨(some 2), none, .mov (.t 52)⟩,
    ⟨(some 3), none, .mov (.c (.int .i64 0))⟩,
    ⟨(some 4), none, .mov (.c (.int .i64 0))⟩] (some [2, 3, 4]))
   (.ret)))))
def F29 : F := ⟨i29, [(2, none), (3, none), (4, none)], false⟩
/-- stratagem/stratagemref07.Scan -/
def i30_b0 : IR := .seq (.seq (.rg [⟨(some 40), none, .mov (.t 6)⟩,
    ⟨(some 41), none, .mov (.t 0)⟩,
    ⟨(some 42), none, .slen (.t 41)⟩,
    ⟨(some 43), none, .bin .lss (.t 40) (.t 42)⟩,
    ⟨(some 44), none, .mov (.t 43)⟩,
    ⟨(some 45), (some (44, true)), .mov (.t 0)⟩,
    ⟨(some 46), (some (44, true)), .mov (.t 6)⟩,
    ⟨(some 47), (some (44, true)), .ixs (.t 45) (.t 46)⟩,
    ⟨(some 48), (some (44, true)), .call 40 [(.t 47)]⟩,
    ⟨(some 49), (some (44, true)), .mov (.t 48)⟩,
    ⟨(some 50), (some (49, false)), .mov (.t 0)⟩,
    ⟨(some 51), (some (49, false)), .mov (.t 6)⟩,
    ⟨(some 52), (some (49, false)), .ixs (.t 50) (.t 51)⟩,
    ⟨(some 53), (some (49, false)), .call 41 [(.t 52)]⟩,
    ⟨(some 54), (some (44, true)), .pick (.t 49) (.c (.bool true)) (.t 53)⟩,
    ⟨(some 55), (some (44, true)), .mov (.t 54)⟩,
    ⟨(some 56), (some (55, false)), .mov (.t 0)⟩,
    ⟨(some 57), (some (55, false)), .mov (.t 6)⟩,
    ⟨(some 58), (some (55, false)), .ixs (.t 56) (.t 57)⟩,
    ⟨(some 59), (some (55, false)), .bin .eql (.t 58) (.c (.int .u8 95))⟩,
    ⟨(some 60), (some (44, true)), .pick (.t 55) (.c (.bool true)) (.t 59)⟩,
    ⟨(some 61), none, .pick (.t 44) (.t 60) (.c (.bool false))⟩] (some [0, 5, 6, 7, 8, 61]))
   (.cond (.t 61) (.skip) (.ext 3)))
   (.blk 4 (.rg [⟨(some 62), none, .mov (.t 6)⟩,
    ⟨(some 63), none, .bin .add (.t 62) (.c (.int .i64 1))⟩,
    ⟨(some 6), none, .mov (.t 63)⟩] (some [0, 5, 6, 7, 8])))
def i30_l0 : IR := .loop i30_b0
theorem r30_l0 {C : Cx} {n : Nat} {fr : Fr} {h : List Ob} : ev C (n + 1) i30_l0 fr h = nxt (ev C (n + 1) i30_b0 fr h) fun fr h => ev C n i30_l0 fr h := ev_loop
def i30_b1 : IR := .seq (.seq (.rg [⟨(some 70), none, .mov (.t 6)⟩,
    ⟨(some 71), none, .mov (.t 0)⟩,
    ⟨(some 72), none, .slen (.t 71)⟩,
    ⟨(some 73), none, .bin .lss (.t 70) (.t 72)⟩,
    ⟨(some 74), none, .mov (.t 73)⟩,
    ⟨(some 75), (some (74, true)), .mov (.t 0)⟩,
    ⟨(some 76), (some (74, true)), .mov (.t 6)⟩,
    ⟨(some 77), (some (74, true)), .ixs (.t 75) (.t 76)⟩,
    ⟨(some 78), (some (74, true)), .call 41 [(.t 77)]⟩,
    ⟨(some 79), none, .pick (.t 74) (.t 78) (.c (.bool false))⟩] (some [0, 5, 6, 7, 8, 79]))
   (.cond (.t 79) (.skip) (.ext 5)))
   (.blk 6 (.rg [⟨(some 80), none, .mov (.t 6)⟩,
    ⟨(some 81), none, .bin .add (.t 80) (.c (.int .i64 1))⟩,
    ⟨(some 6), none, .mov (.t 81)⟩] (some [0, 5, 6, 7, 8])))
def i30_l1 : IR := .loop i30_b1
theorem r30_l1 {C : Cx} {n : Nat} {fr : Fr} {h : List Ob} : ev C (n + 1) i30_l1 fr h = nxt (ev C (n + 1) i30_b1 fr h) fun fr h => ev C n i30_l1 fr h := ev_loop
def i30_b2 : IR := .seq (.seq (.rg [⟨(some 83), none, .mov (.t 9)⟩,
    ⟨(some 84), none, .mov (.t 6)⟩,
    ⟨(some 85), none, .bin .lss (.t 83) (.t 84)⟩] (some [0, 5, 6, 7, 8, 9, 85]))
   (.cond (.t 85) (.skip) (.ext 7)))
   (.seq (.blk 8 (.seq (.dr [(⟨(some 88), none, .fad 2 (.t 8)⟩, []),
    (⟨(some 89), none, .ld false 1 (.t 88)⟩, [0]),
    (⟨(some 90), none, .bin .mul (.c (.int .i64 10)) (.t 89)⟩, [0, 1]),
    (⟨(some 91), none, .mov (.t 0)⟩, []),
    (⟨(some 92), none, .mov (.t 9)⟩, []),
    (⟨(some 93), none, .ixs (.t 91) (.t 92)⟩, [3, 4]),
    (⟨(some 94), none, .conv .i64 (.t 93)⟩, [3, 4, 5]),
    (⟨(some 95), none, .bin .add (.t 90) (.t 94)⟩, [0, 1, 2, 3, 4, 5, 6]),
    (⟨(some 96), none, .bin .sub (.t 95) (.c (.int .i64 48))⟩, [0, 1, 2, 3, 4, 5, 6, 7]),
    (⟨(some 97), none, .fad 2 (.t 8)⟩, [0, 1, 2, 3, 4, 5, 6, 7, 8]),
    (⟨none, none, .st 1 (.t 97) (.t 96)⟩, [0, 1, 2, 3, 4, 5, 6, 7, 8, 9])] (some [0, 5, 6, 7, 8, 9]))
   (.seq (.rg [⟨(some 98), none, .fad 2 (.t 8)⟩,
    ⟨(some 99), none, .ld false 1 (.t 98)⟩,
    ⟨(some 100), none, .bin .gtr (.t 99) (.c (.int .i64 1099511627776))⟩] (some [0, 5, 6, 7, 8, 9, 100]))
   (.cond (.t 100) (.seq (.rg [⟨(some 101), none, .mov (.t 7)⟩,
    ⟨(some 2), none, .mov (.c (.nsl 4))⟩,
    ⟨(some 3), none, .mov (.t 101)⟩,
    ⟨(some 4), none, .mov (.c (.int .i64 5))⟩] (some [2, 3, 4]))
   (.ret)) (.skip)))))
   (.rg [⟨(some 86), none, .mov (.t 9)⟩,
    ⟨(some 87), none, .bin .add (.t 86) (.c (.int .i64 1))⟩,
    ⟨(some 9), none, .mov (.t 87)⟩] (some [0, 5, 6, 7, 8, 9])))
def i30_l2 : IR := .loop i30_b2
theorem r30_l2 {C : Cx} {n : Nat} {fr : Fr} {h : List Ob} : ev C (n + 1) i30_l2 fr h = nxt (ev C (n + 1) i30_b2 fr h) fun fr h => ev C n i30_l2 fr h := ev_loop
def i30_b3 : IR := .seq (.seq (.rg [⟨(some 14), none, .mov (.t 6)⟩,
    ⟨(some 15), none, .mov (.t 0)⟩,
    ⟨(some 16), none, .slen (.t 15)⟩,
    ⟨(some 17), none, .bin .lss (.t 14) (.t 16)⟩] (some [0, 5, 6, 17]))
   (.cond (.t 17) (.skip) (.ext 0)))
   (.blk 1 (.seq (.rg [⟨(some 18), none, .mov (.t 6)⟩,
    ⟨(some 7), none, .mov (.t 18)⟩] (some [0, 5, 6, 7]))
   (.seq (.rg [⟨(some 19), none, .mov (.t 7)⟩,
    ⟨(some 20), none, .bld [.int .i64 0, .str [], .int .i64 0, .int .i64 0] [(0, 1, (.c (.int .i64 3))), (3, 1, (.t 19))]⟩,
    ⟨(some 8), none, .new (.agg [.int .i64 0, .str [], .int .i64 0, .int .i64 0])⟩,
    ⟨none, none, .st 4 (.t 8) (.t 20)⟩] (some [0, 5, 6, 7, 8]))
   (.seq (.rg [⟨(some 21), none, .mov (.t 6)⟩,
    ⟨(some 22), none, .bin .add (.t 21) (.c (.int .i64 1))⟩,
    ⟨(some 6), none, .mov (.t 22)⟩] (some [0, 5, 6, 7, 8]))
   (.seq (.blk 2 (.seq (.rg [⟨(some 24), none, .mov (.t 0)⟩,
    ⟨(some 25), none, .mov (.t 7)⟩,
    ⟨(some 26), none, .ixs (.t 24) (.t 25)⟩,
    ⟨(some 27), none, .bin .eql (.t 26) (.c (.int .u8 32))⟩,
    ⟨(some 28), none, .mov (.t 27)⟩,
    ⟨(some 29), (some (28, false)), .mov (.t 0)⟩,
    ⟨(some 30), (some (28, false)), .mov (.t 7)⟩,
    ⟨(some 31), (some (28, false)), .ixs (.t 29) (.t 30)⟩,
    ⟨(some 32), (some (28, false)), .bin .eql (.t 31) (.c (.int .u8 10))⟩,
    ⟨(some 33), none, .pick (.t 28) (.c (.bool true)) (.t 32)⟩,
    ⟨(some 23), none, .mov (.t 33)⟩] (some [0, 5, 6, 7, 8, 23]))
   (.cond (.t 23) (.ext 1) (.seq (.rg [⟨(some 35), none, .mov (.t 0)⟩,
    ⟨(some 36), none, .mov (.t 7)⟩,
    ⟨(some 37), none, .ixs (.t 35) (.t 36)⟩,
    ⟨(some 38), none, .call 40 [(.t 37)]⟩,
    ⟨(some 34), none, .mov (.t 38)⟩] (some [0, 5, 6, 7, 8, 34]))
   (.cond (.t 34) (.seq (.rg [⟨(some 39), none, .fad 0 (.t 8)⟩,
    ⟨none, none, .st 1 (.t 39) (.c (.int .i64 1))⟩] (some [0, 5, 6, 7, 8]))
   (.blk 3 (i30_l0))) (.seq (.rg [⟨(some 65), none, .mov (.t 0)⟩,
    ⟨(some 66), none, .mov (.t 7)⟩,
    ⟨(some 67), none, .ixs (.t 65) (.t 66)⟩,
    ⟨(some 68), none, .call 41 [(.t 67)]⟩,
    ⟨(some 64), none, .mov (.t 68)⟩] (some [0, 5, 6, 7, 8, 64]))
   (.cond (.t 64) (.seq (.rg [⟨(some 69), none, .fad 0 (.t 8)⟩,
    ⟨none, none, .st 1 (.t 69) (.c (.int .i64 2))⟩] (some [0, 5, 6, 7, 8]))
   (.seq (.blk 5 (i30_l1))
   (.seq (.rg [⟨(some 82), none, .mov (.t 7)⟩,
    ⟨(some 9), none, .mov (.t 82)⟩] (some [0, 5, 6, 7, 8, 9]))
   (.blk 7 (i30_l2))))) (.seq (.dr [(⟨(some 103), none, .mov (.t 6)⟩, []),
    (⟨(some 104), none, .mov (.t 0)⟩, []),
    (⟨(some 105), none, .slen (.t 104)⟩, [1]),
    (⟨(some 106), none, .bin .lss (.t 103) (.t 105)⟩, [0, 1, 2]),
    (⟨(some 107), none, .mov (.t 106)⟩, [0, 1, 2, 3]),
    (⟨(some 108), (some (107, true)), .mov (.t 0)⟩, [0, 1, 2, 3, 4]),
    (⟨(some 109), (some (107, true)), .mov (.t 7)⟩, [0, 1, 2, 3, 4]),
    (⟨(some 110), (some (107, true)), .ixs (.t 108) (.t 109)⟩, [0, 1, 2, 3, 4, 5, 6]),
    (⟨(some 111), (some (107, true)), .mov (.t 0)⟩, [0, 1, 2, 3, 4]),
    (⟨(some 112), (some (107, true)), .mov (.t 6)⟩, [0, 1, 2, 3, 4]),
    (⟨(some 113), (some (107, true)), .ixs (.t 111) (.t 112)⟩, [0, 1, 2, 3, 4, 8, 9]),
    (⟨(some 114), (some (107, true)), .call 42 [(.t 110), (.t 113)]⟩, [0, 1, 2, 3, 4, 5, 6, 7, 8, 9, 10]),
    (⟨(some 115), none, .pick (.t 107) (.t 114) (.c (.bool false))⟩, [0, 1, 2, 3, 4, 5, 6, 7, 8, 9, 10, 11]),
    (⟨(some 102), none, .mov (.t 115)⟩, [0, 1, 2, 3, 4, 5, 6, 7, 8, 9, 10, 11, 12])] (some [0, 5, 6, 7, 8, 102]))
   (.cond (.t 102) (.rg [⟨(some 116), none, .mov (.t 6)⟩,
    ⟨(some 117), none, .bin .add (.t 116) (.c (.int .i64 1))⟩,
    ⟨(some 6), none, .mov (.t 117)⟩] (some [0, 5, 6, 7, 8])) (.seq (.rg [⟨(some 119), none, .mov (.t 0)⟩,
    ⟨(some 120), none, .mov (.t 7)⟩,
    ⟨(some 121), none, .ixs (.t 119) (.t 120)⟩,
    ⟨(some 122), none, .call 43 [(.t 121)]⟩,
    ⟨(some 123), none, .un .not (.t 122)⟩,
    ⟨(some 118), none, .mov (.t 123)⟩] (some [0, 5, 6, 7, 8, 118]))
   (.cond (.t 118) (.seq (.rg [⟨(some 124), none, .mov (.t 7)⟩,
    ⟨(some 2), none, .mov (.c (.nsl 4))⟩,
    ⟨(some 3), none, .mov (.t 124)⟩,
    ⟨(some 4), none, .mov (.c (.int .i64 2))⟩] (some [2, 3, 4]))
   (.ret)) (.skip))))))))))))
   (.seq (.rg [⟨(some 125), none, .mov (.t 0)⟩,
    ⟨(some 126), none, .mov (.t 7)⟩,
    ⟨(some 127), none, .mov (.t 6)⟩,
    ⟨(some 128), none, .sls (.t 125) (some (.t 126)) (some (.t 127))⟩,
    ⟨(some 129), none, .fad 1 (.t 8)⟩,
    ⟨none, none, .st 1 (.t 129) (.t 128)⟩] (some [0, 5, 6, 8]))
   (.rg [⟨(some 130), none, .mov (.t 5)⟩,
    ⟨(some 131), none, .ld true 4 (.t 8)⟩,
    ⟨(some 132), none, .bsl (.agg [.int .i64 0, .str [], .int .i64 0, .int .i64 0]) 1 [(0, (.t 131))]⟩,
    ⟨(some 133), none, .app 4 40 (.t 130) (.t 132)⟩,
    ⟨(some 5), none, .mov (.t 133)⟩] (some [0, 5, 6]))))))))
def i30_l3 : IR := .loop i30_b3
theorem r30_l3 {C : Cx} {n : Nat} {fr : Fr} {h : List Ob} : ev C (n + 1) i30_l3 fr h = nxt (ev C (n + 1) i30_b3 fr h) fun fr h => ev C n i30_l3 fr h := ev_loop
def i30 : IR := .seq (.rg [⟨(some 2), none, .mov (.c (.nsl 4))⟩,
    ⟨(some 3), none, .mov (.c (.int .i64 0))⟩,
    ⟨(some 4), none, .mov (.c (.int .i64 0))⟩] (some [0]))
   (.seq (.seq (.rg [⟨(some 10), none, .mov (.t 0)⟩,
    ⟨(some 11), none, .slen (.t 10)⟩,
    ⟨(some 12), none, .bin .gtr (.t 11) (.c (.int .i64 4000))⟩] (some [0, 12]))
   (.cond (.t 12) (.seq (.rg [⟨(some 2), none, .mov (.c (.nsl 4))⟩,
    ⟨(some 3), none, .mov (.c (.int .i64 0))⟩,
    ⟨(some 4), none, .mov (.c (.int .i64 5))⟩] (some [2, 3, 4]))
   (.ret)) (.skip)))
   (.seq (.rg [⟨(some 13), none, .bsl (.agg [.int .i64 0, .str [], .int .i64 0, .int .i64 0]) 0 []⟩,
    ⟨(some 5), none, .mov (.t 13)⟩] (some [0, 5]))
   (.seq (.rg [⟨(some 6), none, .mov (.c (.int .i64 0))⟩] (some [0, 5, 6]))
   (.seq (.blk 0 (i30_l3))
   (.seq (.rg [⟨(some 134), none, .mov (.t 5)⟩,
    ⟨(some 2), none, .mov (.t 134)⟩,
    ⟨(some 3), none, .mov (.c (.int .i64 0))⟩,
    ⟨(some 4), none, .mov (.c (.int .i64 0))⟩] (some [2, 3, 4]))
   (.ret))))))
def F30 : F := ⟨i30, [(2, none), (3, none), (4, none)], false⟩
/-- stratagem/stratagemref07.Same -/
def i31_b0 : IR := .seq (.seq (.rg [⟨(some 11), none, .mov (.t 5)⟩,
    ⟨(some 12), none, .mov (.t 0)⟩,
    ⟨(some 13), none, .len (.t 12)⟩,
    ⟨(some 14), none, .bin .lss (.t 11) (.t 13)⟩] (some [0, 1, 5, 14]))
   (.cond (.t 14) (.skip) (.ext 0)))
   (.seq (.blk 1 (.seq (.dr [(⟨(some 17), none, .mov (.t 0)⟩, []),
    (⟨(some 18), none, .mov (.t 5)⟩, []),
    (⟨(some 19), none, .iad 4 (.t 17) (.t 18)⟩, [0, 1]),
    (⟨(some 20), none, .ld true 4 (.t 19)⟩, [0, 1, 2]),
    (⟨(some 21), none, .mov (.t 1)⟩, []),
    (⟨(some 22), none, .mov (.t 5)⟩, []),
    (⟨(some 23), none, .iad 4 (.t 21) (.t 22)⟩, [4, 5]),
    (⟨(some 24), none, .ld true 4 (.t 23)⟩, [4, 5, 6]),
    (⟨(some 25), none, .eq true (.agg [(0, 1, .int), (1, 1, .str), (2, 1, .int), (3, 1, .int)]) (.t 20) (.t 24)⟩, [0, 1, 2, 3, 4, 5, 6, 7])] (some [0, 1, 5, 25]))
   (.cond (.t 25) (.seq (.rg [⟨(some 4), none, .mov (.c (.bool false))⟩] (some [4]))
   (.ret)) (.skip))))
   (.rg [⟨(some 15), none, .mov (.t 5)⟩,
    ⟨(some 16), none, .bin .add (.t 15) (.c (.int .i64 1))⟩,
    ⟨(some 5), none, .mov (.t 16)⟩] (some [0, 1, 5])))
def i31_l0 : IR := .loop i31_b0
theorem r31_l0 {C : Cx} {n : Nat} {fr : Fr} {h : List Ob} : ev C (n + 1) i31_l0 fr h = nxt (ev C (n + 1) i31_b0 fr h) fun fr h => ev C n i31_l0 fr h := ev_loop
def i31 : IR := .seq (.rg [⟨(some 4), none, .mov (.c (.bool false))⟩] (some [0, 1]))
   (.seq (.seq (.rg [⟨(some 6), none, .mov (.t 0)⟩,
    ⟨(some 7), none, .len (.t 6)⟩,
    ⟨(some 8), none, .mov (.t 1)⟩,
    ⟨(some 9), none, .len (.t 8)⟩,
    ⟨(some 10), none, .bin .neq (.t 7) (.t 9)⟩] (some [0, 1, 10]))
   (.cond (.t 10) (.seq (.rg [⟨(some 4), none, .mov (.c (.bool false))⟩] (some [4]))
   (.ret)) (.skip)))
   (.seq (.seq (.rg [⟨(some 5), none, .mov (.c (.int .i64 0))⟩] (some [0, 1, 5]))
   (.blk 0 (i31_l0)))
   (.seq (.rg [⟨(some 4), none, .mov (.c (.bool true))⟩] (some [4]))
   (.ret))))
def F31 : F := ⟨i31, [(4, none)], false⟩
/-- stratagem/stratagemlaw07.own -/
def i32_b0 : IR := .seq (.rg [⟨(some 10), none, .bin .lss (.t 9) (.t 8)⟩] (some [3, 7, 8, 9, 10]))
   (.seq (.cond (.t 10) (.skip) (.ext 0))
   (.seq (.blk 1 (.seq (.rg [⟨(some 11), none, .iad 4 (.t 7) (.t 9)⟩,
    ⟨(some 12), none, .ld true 4 (.t 11)⟩,
    ⟨(some 5), none, .new (.agg [.int .i64 0, .str [], .int .i64 0, .int .i64 0])⟩,
    ⟨none, none, .st 4 (.t 5) (.t 12)⟩] (some [3, 5, 7, 8, 9]))
   (.rg [⟨(some 13), none, .mov (.t 3)⟩,
    ⟨(some 14), none, .ld true 4 (.t 5)⟩,
    ⟨(some 15), none, .bsl (.agg [.int .i64 0, .str [], .int .i64 0, .int .i64 0]) 1 [(0, (.t 14))]⟩,
    ⟨(some 16), none, .app 4 40 (.t 13) (.t 15)⟩,
    ⟨(some 3), none, .mov (.t 16)⟩] (some [3, 7, 8, 9]))))
   (.rg [⟨(some 17), none, .bin .add (.t 9) (.c (.int .i64 1))⟩,
    ⟨(some 9), none, .mov (.t 17)⟩] (some [3, 7, 8, 9]))))
def i32_l0 : IR := .loop i32_b0
theorem r32_l0 {C : Cx} {n : Nat} {fr : Fr} {h : List Ob} : ev C (n + 1) i32_l0 fr h = nxt (ev C (n + 1) i32_b0 fr h) fun fr h => ev C n i32_l0 fr h := ev_loop
def i32 : IR := .seq (.rg [⟨(some 2), none, .mov (.c (.nsl 4))⟩] (some [0]))
   (.seq (.rg [⟨(some 6), none, .bsl (.agg [.int .i64 0, .str [], .int .i64 0, .int .i64 0]) 0 []⟩,
    ⟨(some 3), none, .mov (.t 6)⟩] (some [0, 3]))
   (.seq (.seq (.rg [⟨(some 7), none, .mov (.t 0)⟩,
    ⟨(some 8), none, .len (.t 7)⟩,
    ⟨(some 9), none, .mov (.c (.int .i64 0))⟩] (some [3, 7, 8, 9]))
   (.blk 0 (i32_l0)))
   (.seq (.rg [⟨(some 18), none, .mov (.t 3)⟩,
    ⟨(some 2), none, .mov (.t 18)⟩] (some [2]))
   (.ret))))
def F32 : F := ⟨i32, [(2, none)], false⟩
/-- stratagem/octet.kind -/
def i33 : IR := .seq (.rg [⟨(some 2), none, .mov (.c (.int .i64 0))⟩] (some [0]))
   (.seq (.rg [⟨(some 3), none, .mov (.c (.int .i64 0))⟩] (some [0, 3]))
   (.seq (.blk 0 (.seq (.blk 3 (.seq (.blk 2 (.seq (.blk 1 (.seq (.seq (.seq (.rg [⟨(some 5), none, .mov (.t 0)⟩,
    ⟨(some 6), none, .bin .geq (.t 5) (.c (.int .u64 1073741824))⟩,
    ⟨(some 4), none, .mov (.t 6)⟩] (some [0, 3, 4]))
   (.cond (.t 4) (.ext 1) (.skip)))
   (.seq (.seq (.rg [⟨(some 8), none, .mov (.t 0)⟩,
    ⟨(some 9), none, .bin .geq (.t 8) (.c (.int .u64 16384))⟩,
    ⟨(some 7), none, .mov (.t 9)⟩] (some [0, 3, 7]))
   (.cond (.t 7) (.ext 2) (.skip)))
   (.seq (.rg [⟨(some 11), none, .mov (.t 0)⟩,
    ⟨(some 12), none, .bin .geq (.t 11) (.c (.int .u64 64))⟩,
    ⟨(some 10), none, .mov (.t 12)⟩] (some [3, 10]))
   (.cond (.t 10) (.ext 3) (.skip)))))
   (.ext 0)))
   (.rg [⟨(some 13), none, .mov (.t 3)⟩,
    ⟨(some 14), none, .bin .add (.t 13) (.c (.int .i64 1))⟩,
    ⟨(some 3), none, .mov (.t 14)⟩] (some [3]))))
   (.rg [⟨(some 15), none, .mov (.t 3)⟩,
    ⟨(some 16), none, .bin .add (.t 15) (.c (.int .i64 1))⟩,
    ⟨(some 3), none, .mov (.t 16)⟩] (some [3]))))
   (.seq (.rg [⟨(some 17), none, .mov (.t 3)⟩,
    ⟨(some 18), none, .bin .add (.t 17) (.c (.int .i64 1))⟩,
    ⟨(some 3), none, .mov (.t 18)⟩] (some [3]))
   (.ext 0))))
   (.seq (.rg [⟨(some 19), none, .mov (.t 3)⟩,
    ⟨(some 2), none, .mov (.t 19)⟩] (some [2]))
   (.ret))))
def F33 : F := ⟨i33, [(2, none)], false⟩
/-- stratagem/stratagemref06.bytes -/
def i34_b0 : IR := .seq (.seq (.rg [⟨(some 11), none, .mov (.t 6)⟩,
    ⟨(some 12), none, .bin .geq (.t 11) (.c (.int .i64 0))⟩] (some [0, 5, 6, 12]))
   (.cond (.t 12) (.skip) (.ext 0)))
   (.seq (.blk 1 (.seq (.rg [⟨(some 15), none, .mov (.t 5)⟩,
    ⟨(some 16), none, .mov (.t 6)⟩,
    ⟨(some 17), none, .mov (.t 0)⟩,
    ⟨(some 18), none, .bin .rem (.t 17) (.c (.int .u64 256))⟩,
    ⟨(some 19), none, .conv .u8 (.t 18)⟩,
    ⟨(some 20), none, .iad 1 (.t 15) (.t 16)⟩,
    ⟨none, none, .st 1 (.t 20) (.t 19)⟩] (some [0, 5, 6]))
   (.rg [⟨(some 21), none, .mov (.t 0)⟩,
    ⟨(some 22), none, .bin .quo (.t 21) (.c (.int .u64 256))⟩,
    ⟨(some 0), none, .mov (.t 22)⟩] (some [0, 5, 6]))))
   (.rg [⟨(some 13), none, .mov (.t 6)⟩,
    ⟨(some 14), none, .bin .sub (.t 13) (.c (.int .i64 1))⟩,
    ⟨(some 6), none, .mov (.t 14)⟩] (some [0, 5, 6])))
def i34_l0 : IR := .loop i34_b0
theorem r34_l0 {C : Cx} {n : Nat} {fr : Fr} {h : List Ob} : ev C (n + 1) i34_l0 fr h = nxt (ev C (n + 1) i34_b0 fr h) fun fr h => ev C n i34_l0 fr h := ev_loop
def i34 : IR := .seq (.rg [⟨(some 4), none, .mov (.c (.nsl 1))⟩] (some [0, 1]))
   (.seq (.rg [⟨(some 7), none, .mov (.t 1)⟩,
    ⟨(some 8), none, .mks 1 (.int .u8 0) (.t 7) (.t 7)⟩,
    ⟨(some 5), none, .mov (.t 8)⟩] (some [0, 1, 5]))
   (.seq (.seq (.rg [⟨(some 9), none, .mov (.t 1)⟩,
    ⟨(some 10), none, .bin .sub (.t 9) (.c (.int .i64 1))⟩,
    ⟨(some 6), none, .mov (.t 10)⟩] (some [0, 5, 6]))
   (.blk 0 (i34_l0)))
   (.seq (.rg [⟨(some 23), none, .mov (.t 5)⟩,
    ⟨(some 4), none, .mov (.t 23)⟩] (some [4]))
   (.ret))))
def F34 : F := ⟨i34, [(4, none)], false⟩
/-- stratagem/stratagemref06.size -/
def i35 : IR := .seq (.rg [⟨(some 2), none, .mov (.c (.int .i64 0))⟩] (some [0]))
   (.seq (.seq (.rg [⟨(some 3), none, .mov (.t 0)⟩,
    ⟨(some 4), none, .bin .lss (.t 3) (.c (.int .u64 64))⟩] (some [0, 4]))
   (.cond (.t 4) (.seq (.rg [⟨(some 2), none, .mov (.c (.int .i64 1))⟩] (some [2]))
   (.ret)) (.skip)))
   (.seq (.seq (.rg [⟨(some 5), none, .mov (.t 0)⟩,
    ⟨(some 6), none, .bin .lss (.t 5) (.c (.int .u64 16384))⟩] (some [0, 6]))
   (.cond (.t 6) (.seq (.rg [⟨(some 2), none, .mov (.c (.int .i64 2))⟩] (some [2]))
   (.ret)) (.skip)))
   (.seq (.seq (.rg [⟨(some 7), none, .mov (.t 0)⟩,
    ⟨(some 8), none, .bin .lss (.t 7) (.c (.int .u64 1073741824))⟩] (some [8]))
   (.cond (.t 8) (.seq (.rg [⟨(some 2), none, .mov (.c (.int .i64 4))⟩] (some [2]))
   (.ret)) (.skip)))
   (.seq (.rg [⟨(some 2), none, .mov (.c (.int .i64 8))⟩] (some [2]))
   (.ret)))))
def F35 : F := ⟨i35, [(2, none)], false⟩
/-- stratagem/stratagemref06.turn -/
def i36_b0 : IR := .seq (.seq (.rg [⟨(some 8), none, .mov (.t 7)⟩,
    ⟨(some 9), none, .bin .lss (.t 8) (.c (.int .i64 8))⟩] (some [0, 1, 5, 6, 7, 9]))
   (.cond (.t 9) (.skip) (.ext 0)))
   (.seq (.blk 1 (.seq (.seq (.rg [⟨(some 12), none, .mov (.t 0)⟩,
    ⟨(some 13), none, .bin .rem (.t 12) (.c (.int .u64 2))⟩,
    ⟨(some 14), none, .mov (.t 1)⟩,
    ⟨(some 15), none, .bin .rem (.t 14) (.c (.int .u64 2))⟩,
    ⟨(some 16), none, .bin .neq (.t 13) (.t 15)⟩] (some [0, 1, 5, 6, 7, 16]))
   (.cond (.t 16) (.rg [⟨(some 17), none, .mov (.t 5)⟩,
    ⟨(some 18), none, .mov (.t 6)⟩,
    ⟨(some 19), none, .bin .add (.t 17) (.t 18)⟩,
    ⟨(some 5), none, .mov (.t 19)⟩] (some [0, 1, 5, 6, 7])) (.skip)))
   (.seq (.rg [⟨(some 20), none, .mov (.t 0)⟩,
    ⟨(some 21), none, .bin .quo (.t 20) (.c (.int .u64 2))⟩,
    ⟨(some 0), none, .mov (.t 21)⟩] (some [0, 1, 5, 6, 7]))
   (.seq (.rg [⟨(some 22), none, .mov (.t 1)⟩,
    ⟨(some 23), none, .bin .quo (.t 22) (.c (.int .u64 2))⟩,
    ⟨(some 1), none, .mov (.t 23)⟩] (some [0, 1, 5, 6, 7]))
   (.rg [⟨(some 24), none, .mov (.t 6)⟩,
    ⟨(some 25), none, .bin .mul (.c (.int .u64 2)) (.t 24)⟩,
    ⟨(some 6), none, .mov (.t 25)⟩] (some [0, 1, 5, 6, 7]))))))
   (.rg [⟨(some 10), none, .mov (.t 7)⟩,
    ⟨(some 11), none, .bin .add (.t 10) (.c (.int .i64 1))⟩,
    ⟨(some 7), none, .mov (.t 11)⟩] (some [0, 1, 5, 6, 7])))
def i36_l0 : IR := .loop i36_b0
theorem r36_l0 {C : Cx} {n : Nat} {fr : Fr} {h : List Ob} : ev C (n + 1) i36_l0 fr h = nxt (ev C (n + 1) i36_b0 fr h) fun fr h => ev C n i36_l0 fr h := ev_loop
def i36 : IR := .seq (.rg [⟨(some 4), none, .mov (.c (.int .u64 0))⟩] (some [0, 1]))
   (.seq (.rg [⟨(some 5), none, .mov (.c (.int .u64 0))⟩] (some [0, 1, 5]))
   (.seq (.rg [⟨(some 6), none, .mov (.c (.int .u64 1))⟩] (some [0, 1, 5, 6]))
   (.seq (.seq (.rg [⟨(some 7), none, .mov (.c (.int .i64 0))⟩] (some [0, 1, 5, 6, 7]))
   (.blk 0 (i36_l0)))
   (.seq (.rg [⟨(some 26), none, .mov (.t 5)⟩,
    ⟨(some 4), none, .mov (.t 26)⟩] (some [4]))
   (.ret)))))
def F36 : F := ⟨i36, [(4, none)], false⟩
/-- (*stratagem/octet.Reader).wrong -/
def i38 : IR := .seq (.rg [⟨(some 4), none, .mov (.t 0)⟩,
    ⟨(some 5), none, .nck (.t 4)⟩,
    ⟨(some 6), none, .fad 1 (.t 5)⟩,
    ⟨(some 7), none, .ld false 1 (.t 6)⟩,
    ⟨(some 8), none, .bin .eql (.t 7) (.c (.int .i64 0))⟩] (some [0, 1, 8]))
   (.cond (.t 8) (.rg [⟨(some 9), none, .mov (.t 0)⟩,
    ⟨(some 10), none, .mov (.t 0)⟩,
    ⟨(some 11), none, .mov (.t 1)⟩,
    ⟨(some 12), none, .nck (.t 9)⟩,
    ⟨(some 13), none, .fad 0 (.t 12)⟩,
    ⟨none, none, .st 1 (.t 13) (.c (.nsl 1))⟩,
    ⟨(some 14), none, .nck (.t 10)⟩,
    ⟨(some 15), none, .fad 1 (.t 14)⟩,
    ⟨none, none, .st 1 (.t 15) (.t 11)⟩] (some [])) (.skip))
def F38 : F := ⟨i38, [], false⟩
/-- stratagem/scan.first -/
def i39 : IR := .seq (.rg [⟨(some 2), none, .new (.agg [.int .i64 0, .str [], .int .i64 0, .int .i64 0])⟩] (some [0, 2]))
   (.seq (.seq (.rg [⟨(some 5), none, .mov (.t 0)⟩,
    ⟨(some 6), none, .ixs (.t 5) (.c (.int .i64 0))⟩,
    ⟨(some 3), none, .mov (.t 6)⟩] (some [0, 2, 3]))
   (.blk 0 (.seq (.rg [⟨(some 8), none, .mov (.t 3)⟩,
    ⟨(some 9), none, .call 44 [(.t 8)]⟩,
    ⟨(some 7), none, .mov (.t 9)⟩] (some [0, 2, 3, 7]))
   (.cond (.t 7) (.seq (.rg [⟨(some 10), none, .mov (.t 0)⟩,
    ⟨(some 11), none, .call 45 [(.t 10), (.c (.fn (.func 46) [] []))]⟩,
    ⟨(some 12), none, .bld [.int .i64 0, .str [], .int .i64 0, .int .i64 0] [(0, 1, (.c (.int .i64 1))), (1, 1, (.t 11))]⟩,
    ⟨none, none, .st 4 (.t 2) (.t 12)⟩] (some [2]))
   (.ret)) (.seq (.rg [⟨(some 14), none, .mov (.t 3)⟩,
    ⟨(some 15), none, .call 47 [(.t 14)]⟩,
    ⟨(some 13), none, .mov (.t 15)⟩] (some [0, 2, 3, 13]))
   (.cond (.t 13) (.seq (.rg [⟨(some 16), none, .mov (.t 0)⟩,
    ⟨(some 17), none, .call 45 [(.t 16), (.c (.fn (.func 47) [] []))]⟩,
    ⟨(some 4), none, .mov (.t 17)⟩] (some [2, 4]))
   (.seq (.rg [⟨(some 18), none, .mov (.t 4)⟩,
    ⟨(some 19), none, .mov (.t 4)⟩,
    ⟨(some 20), none, .call 48 [(.t 19)]⟩,
    ⟨(some 21), none, .bld [.int .i64 0, .str [], .int .i64 0, .int .i64 0] [(0, 1, (.c (.int .i64 2))), (1, 1, (.t 18)), (2, 1, (.t 20))]⟩,
    ⟨none, none, .st 4 (.t 2) (.t 21)⟩] (some [2]))
   (.ret))) (.seq (.rg [⟨(some 23), none, .mov (.t 0)⟩,
    ⟨(some 24), none, .slen (.t 23)⟩,
    ⟨(some 25), none, .bin .gtr (.t 24) (.c (.int .i64 1))⟩,
    ⟨(some 26), none, .mov (.t 25)⟩,
    ⟨(some 27), (some (26, true)), .mov (.t 0)⟩,
    ⟨(some 28), (some (26, true)), .sls (.t 27) none (some (.c (.int .i64 2)))⟩,
    ⟨(some 29), (some (26, true)), .bin .add (.c (.str [32])) (.t 28)⟩,
    ⟨(some 30), (some (26, true)), .bin .add (.t 29) (.c (.str [32]))⟩,
    ⟨(some 31), (some (26, true)), .call 49 [(.c (.str [32, 46, 46, 32, 33, 61, 32, 60, 61, 32, 62, 61, 32])), (.t 30)]⟩,
    ⟨(some 32), none, .pick (.t 26) (.t 31) (.c (.bool false))⟩,
    ⟨(some 22), none, .mov (.t 32)⟩] (some [0, 2, 3, 22]))
   (.cond (.t 22) (.seq (.rg [⟨(some 33), none, .mov (.t 0)⟩,
    ⟨(some 34), none, .sls (.t 33) none (some (.c (.int .i64 2)))⟩,
    ⟨(some 35), none, .bld [.int .i64 0, .str [], .int .i64 0, .int .i64 0] [(0, 1, (.c (.int .i64 3))), (1, 1, (.t 34))]⟩,
    ⟨none, none, .st 4 (.t 2) (.t 35)⟩] (some [2]))
   (.ret)) (.seq (.rg [⟨(some 37), none, .mov (.t 3)⟩,
    ⟨(some 38), none, .call 50 [(.c (.str [44, 59, 58, 91, 93, 61, 60, 62, 43, 45, 42])), (.t 37)]⟩,
    ⟨(some 39), none, .bin .geq (.t 38) (.c (.int .i64 0))⟩,
    ⟨(some 36), none, .mov (.t 39)⟩] (some [0, 2, 36]))
   (.cond (.t 36) (.seq (.rg [⟨(some 40), none, .mov (.t 0)⟩,
    ⟨(some 41), none, .sls (.t 40) none (some (.c (.int .i64 1)))⟩,
    ⟨(some 42), none, .bld [.int .i64 0, .str [], .int .i64 0, .int .i64 0] [(0, 1, (.c (.int .i64 3))), (1, 1, (.t 41))]⟩,
    ⟨none, none, .st 4 (.t 2) (.t 42)⟩] (some [2]))
   (.ret)) (.skip)))))))))))
   (.seq (.rg [⟨(some 43), none, .bld [.int .i64 0, .str [], .int .i64 0, .int .i64 0] []⟩,
    ⟨none, none, .st 4 (.t 2) (.t 43)⟩] (some [2]))
   (.ret)))
def F39 : F := ⟨i39, [(2, some (true, 4))], false⟩
/-- stratagem/stratagemref07.word -/
def i40 : IR := .seq (.rg [⟨(some 2), none, .mov (.c (.bool false))⟩] (some [0]))
   (.seq (.rg [⟨(some 3), none, .mov (.t 0)⟩,
    ⟨(some 4), none, .bin .geq (.t 3) (.c (.int .u8 97))⟩,
    ⟨(some 5), none, .mov (.t 4)⟩,
    ⟨(some 6), (some (5, true)), .mov (.t 0)⟩,
    ⟨(some 7), (some (5, true)), .bin .leq (.t 6) (.c (.int .u8 122))⟩,
    ⟨(some 8), none, .pick (.t 5) (.t 7) (.c (.bool false))⟩,
    ⟨(some 2), none, .mov (.t 8)⟩] (some [2]))
   (.ret))
def F40 : F := ⟨i40, [(2, none)], false⟩
/-- stratagem/stratagemref07.digit -/
def i41 : IR := .seq (.rg [⟨(some 2), none, .mov (.c (.bool false))⟩] (some [0]))
   (.seq (.rg [⟨(some 3), none, .mov (.t 0)⟩,
    ⟨(some 4), none, .bin .geq (.t 3) (.c (.int .u8 48))⟩,
    ⟨(some 5), none, .mov (.t 4)⟩,
    ⟨(some 6), (some (5, true)), .mov (.t 0)⟩,
    ⟨(some 7), (some (5, true)), .bin .leq (.t 6) (.c (.int .u8 57))⟩,
    ⟨(some 8), none, .pick (.t 5) (.t 7) (.c (.bool false))⟩,
    ⟨(some 2), none, .mov (.t 8)⟩] (some [2]))
   (.ret))
def F41 : F := ⟨i41, [(2, none)], false⟩
/-- stratagem/stratagemref07.pair -/
def i42 : IR := .seq (.rg [⟨(some 4), none, .mov (.c (.bool false))⟩] (some [0, 1]))
   (.seq (.rg [⟨(some 5), none, .mov (.t 0)⟩,
    ⟨(some 6), none, .bin .eql (.t 5) (.c (.int .u8 46))⟩,
    ⟨(some 7), none, .mov (.t 6)⟩,
    ⟨(some 8), (some (7, true)), .mov (.t 1)⟩,
    ⟨(some 9), (some (7, true)), .bin .eql (.t 8) (.c (.int .u8 46))⟩,
    ⟨(some 10), none, .pick (.t 7) (.t 9) (.c (.bool false))⟩,
    ⟨(some 11), none, .mov (.t 10)⟩,
    ⟨(some 12), (some (11, false)), .mov (.t 0)⟩,
    ⟨(some 13), (some (11, false)), .bin .eql (.t 12) (.c (.int .u8 33))⟩,
    ⟨(some 14), (some (11, false)), .mov (.t 13)⟩,
    ⟨(some 15), (some (14, false)), .mov (.t 0)⟩,
    ⟨(some 16), (some (14, false)), .bin .eql (.t 15) (.c (.int .u8 60))⟩,
    ⟨(some 17), (some (11, false)), .pick (.t 14) (.c (.bool true)) (.t 16)⟩,
    ⟨(some 18), (some (11, false)), .mov (.t 17)⟩,
    ⟨(some 19), (some (18, false)), .mov (.t 0)⟩,
    ⟨(some 20), (some (18, false)), .bin .eql (.t 19) (.c (.int .u8 62))⟩,
    ⟨(some 21), (some (11, false)), .pick (.t 18) (.c (.bool true)) (.t 20)⟩,
    ⟨(some 22), (some (11, false)), .mov (.t 21)⟩,
    ⟨(some 23), (some (22, true)), .mov (.t 1)⟩,
    ⟨(some 24), (some (22, true)), .bin .eql (.t 23) (.c (.int .u8 61))⟩,
    ⟨(some 25), (some (11, false)), .pick (.t 22) (.t 24) (.c (.bool false))⟩,
    ⟨(some 26), none, .pick (.t 11) (.c (.bool true)) (.t 25)⟩,
    ⟨(some 4), none, .mov (.t 26)⟩] (some [4]))
   (.ret))
def F42 : F := ⟨i42, [(4, none)], false⟩
/-- stratagem/stratagemref07.one -/
def i43_b0 : IR := .seq (.seq (.rg [⟨(some 6), none, .mov (.t 4)⟩,
    ⟨(some 7), none, .mov (.t 3)⟩,
    ⟨(some 8), none, .len (.t 7)⟩,
    ⟨(some 9), none, .bin .lss (.t 6) (.t 8)⟩] (some [0, 3, 4, 9]))
   (.cond (.t 9) (.skip) (.ext 0)))
   (.seq (.blk 1 (.seq (.rg [⟨(some 12), none, .mov (.t 3)⟩,
    ⟨(some 13), none, .mov (.t 4)⟩,
    ⟨(some 14), none, .iad 1 (.t 12) (.t 13)⟩,
    ⟨(some 15), none, .ld false 1 (.t 14)⟩,
    ⟨(some 16), none, .mov (.t 0)⟩,
    ⟨(some 17), none, .bin .eql (.t 15) (.t 16)⟩] (some [0, 3, 4, 17]))
   (.cond (.t 17) (.seq (.rg [⟨(some 2), none, .mov (.c (.bool true))⟩] (some [2]))
   (.ret)) (.skip))))
   (.rg [⟨(some 10), none, .mov (.t 4)⟩,
    ⟨(some 11), none, .bin .add (.t 10) (.c (.int .i64 1))⟩,
    ⟨(some 4), none, .mov (.t 11)⟩] (some [0, 3, 4])))
def i43_l0 : IR := .loop i43_b0
theorem r43_l0 {C : Cx} {n : Nat} {fr : Fr} {h : List Ob} : ev C (n + 1) i43_l0 fr h = nxt (ev C (n + 1) i43_b0 fr h) fun fr h => ev C n i43_l0 fr h := ev_loop
def i43 : IR := .seq (.rg [⟨(some 2), none, .mov (.c (.bool false))⟩] (some [0]))
   (.seq (.rg [⟨(some 5), none, .bsl (.int .u8 0) 11 [(0, (.c (.int .u8 44))), (1, (.c (.int .u8 59))), (2, (.c (.int .u8 58))), (3, (.c (.int .u8 91))), (4, (.c (.int .u8 93))), (5, (.c (.int .u8 61))), (6, (.c (.int .u8 60))), (7, (.c (.int .u8 62))), (8, (.c (.int .u8 43))), (9, (.c (.int .u8 45))), (10, (.c (.int .u8 42)))]⟩,
    ⟨(some 3), none, .mov (.t 5)⟩] (some [0, 3]))
   (.seq (.seq (.rg [⟨(some 4), none, .mov (.c (.int .i64 0))⟩] (some [0, 3, 4]))
   (.blk 0 (i43_l0)))
   (.seq (.rg [⟨(some 2), none, .mov (.c (.bool false))⟩] (some [2]))
   (.ret))))
def F43 : F := ⟨i43, [(2, none)], false⟩
/-- stratagem/scan.letter -/
def i44 : IR := .seq (.rg [⟨(some 2), none, .mov (.c (.bool false))⟩] (some [0]))
   (.seq (.rg [⟨(some 3), none, .mov (.t 0)⟩,
    ⟨(some 4), none, .bin .geq (.t 3) (.c (.int .u8 97))⟩,
    ⟨(some 5), none, .mov (.t 4)⟩,
    ⟨(some 6), (some (5, true)), .mov (.t 0)⟩,
    ⟨(some 7), (some (5, true)), .bin .leq (.t 6) (.c (.int .u8 122))⟩,
    ⟨(some 8), none, .pick (.t 5) (.t 7) (.c (.bool false))⟩,
    ⟨(some 2), none, .mov (.t 8)⟩] (some [2]))
   (.ret))
def F44 : F := ⟨i44, [(2, none)], false⟩
/-- stratagem/scan.run -/
def i45_b0 : IR := .seq (.seq (.rg [⟨(some 6), none, .mov (.t 5)⟩,
    ⟨(some 7), none, .mov (.t 0)⟩,
    ⟨(some 8), none, .slen (.t 7)⟩,
    ⟨(some 9), none, .bin .lss (.t 6) (.t 8)⟩,
    ⟨(some 10), none, .mov (.t 9)⟩,
    ⟨(some 11), (some (10, true)), .mov (.t 1)⟩,
    ⟨(some 12), (some (10, true)), .mov (.t 0)⟩,
    ⟨(some 13), (some (10, true)), .mov (.t 5)⟩,
    ⟨(some 14), (some (10, true)), .ixs (.t 12) (.t 13)⟩,
    ⟨(some 15), (some (10, true)), .callv (.t 11) [(.t 14)]⟩,
    ⟨(some 16), none, .pick (.t 10) (.t 15) (.c (.bool false))⟩] (some [0, 1, 5, 16]))
   (.cond (.t 16) (.skip) (.ext 0)))
   (.blk 1 (.rg [⟨(some 17), none, .mov (.t 5)⟩,
    ⟨(some 18), none, .bin .add (.t 17) (.c (.int .i64 1))⟩,
    ⟨(some 5), none, .mov (.t 18)⟩] (some [0, 1, 5])))
def i45_l0 : IR := .loop i45_b0
theorem r45_l0 {C : Cx} {n : Nat} {fr : Fr} {h : List Ob} : ev C (n + 1) i45_l0 fr h = nxt (ev C (n + 1) i45_b0 fr h) fun fr h => ev C n i45_l0 fr h := ev_loop
def i45 : IR := .seq (.rg [⟨(some 4), none, .mov (.c (.str []))⟩] (some [0, 1]))
   (.seq (.rg [⟨(some 5), none, .mov (.c (.int .i64 0))⟩] (some [0, 1, 5]))
   (.seq (.blk 0 (i45_l0))
   (.seq (.rg [⟨(some 19), none, .mov (.t 0)⟩,
    ⟨(some 20), none, .mov (.t 5)⟩,
    ⟨(some 21), none, .sls (.t 19) none (some (.t 20))⟩,
    ⟨(some 4), none, .mov (.t 21)⟩] (some [4]))
   (.ret))))
def F45 : F := ⟨i45, [(4, none)], false⟩
/-- stratagem/scan.part -/
def i46 : IR := .seq (.rg [⟨(some 2), none, .mov (.c (.bool false))⟩] (some [0]))
   (.seq (.rg [⟨(some 3), none, .mov (.t 0)⟩,
    ⟨(some 4), none, .call 44 [(.t 3)]⟩,
    ⟨(some 5), none, .mov (.t 4)⟩,
    ⟨(some 6), (some (5, false)), .mov (.t 0)⟩,
    ⟨(some 7), (some (5, false)), .call 47 [(.t 6)]⟩,
    ⟨(some 8), none, .pick (.t 5) (.c (.bool true)) (.t 7)⟩,
    ⟨(some 9), none, .mov (.t 8)⟩,
    ⟨(some 10), (some (9, false)), .mov (.t 0)⟩,
    ⟨(some 11), (some (9, false)), .bin .eql (.t 10) (.c (.int .u8 95))⟩,
    ⟨(some 12), none, .pick (.t 9) (.c (.bool true)) (.t 11)⟩,
    ⟨(some 2), none, .mov (.t 12)⟩] (some [2]))
   (.ret))
def F46 : F := ⟨i46, [(2, none)], false⟩
/-- stratagem/scan.digit -/
def i47 : IR := .seq (.rg [⟨(some 2), none, .mov (.c (.bool false))⟩] (some [0]))
   (.seq (.rg [⟨(some 3), none, .mov (.t 0)⟩,
    ⟨(some 4), none, .bin .geq (.t 3) (.c (.int .u8 48))⟩,
    ⟨(some 5), none, .mov (.t 4)⟩,
    ⟨(some 6), (some (5, true)), .mov (.t 0)⟩,
    ⟨(some 7), (some (5, true)), .bin .leq (.t 6) (.c (.int .u8 57))⟩,
    ⟨(some 8), none, .pick (.t 5) (.t 7) (.c (.bool false))⟩,
    ⟨(some 2), none, .mov (.t 8)⟩] (some [2]))
   (.ret))
def F47 : F := ⟨i47, [(2, none)], false⟩
/-- stratagem/scan.value -/
def i48_b0 : IR := .seq (.rg [⟨(some 8), none, .bin .lss (.t 7) (.t 6)⟩] (some [0, 3, 6, 7, 8]))
   (.seq (.cond (.t 8) (.skip) (.ext 0))
   (.seq (.blk 1 (.seq (.rg [⟨(some 9), none, .mov (.t 7)⟩,
    ⟨(some 4), none, .mov (.t 9)⟩] (some [0, 3, 4, 6, 7]))
   (.seq (.rg [⟨(some 10), none, .mov (.t 3)⟩,
    ⟨(some 11), none, .bin .mul (.c (.int .i64 10)) (.t 10)⟩,
    ⟨(some 12), none, .mov (.t 0)⟩,
    ⟨(some 13), none, .mov (.t 4)⟩,
    ⟨(some 14), none, .ixs (.t 12) (.t 13)⟩,
    ⟨(some 15), none, .bin .sub (.t 14) (.c (.int .u8 48))⟩,
    ⟨(some 16), none, .conv .i64 (.t 15)⟩,
    ⟨(some 17), none, .bin .add (.t 11) (.t 16)⟩,
    ⟨(some 3), none, .mov (.t 17)⟩] (some [0, 3, 6, 7]))
   (.seq (.rg [⟨(some 18), none, .mov (.t 3)⟩,
    ⟨(some 19), none, .bin .gtr (.t 18) (.c (.int .i64 1099511627776))⟩] (some [0, 3, 6, 7, 19]))
   (.cond (.t 19) (.ext 0) (.skip))))))
   (.rg [⟨(some 20), none, .bin .add (.t 7) (.c (.int .i64 1))⟩,
    ⟨(some 7), none, .mov (.t 20)⟩] (some [0, 3, 6, 7]))))
def i48_l0 : IR := .loop i48_b0
theorem r48_l0 {C : Cx} {n : Nat} {fr : Fr} {h : List Ob} : ev C (n + 1) i48_l0 fr h = nxt (ev C (n + 1) i48_b0 fr h) fun fr h => ev C n i48_l0 fr h := ev_loop
def i48 : IR := .seq (.rg [⟨(some 2), none, .mov (.c (.int .i64 0))⟩] (some [0]))
   (.sc (.seq (.rg [⟨(some 3), none, .mov (.c (.int .i64 0))⟩] (some [0, 3]))
   (.seq (.skip)
   (.seq (.seq (.rg [⟨(some 5), none, .mov (.t 0)⟩,
    ⟨(some 6), none, .slen (.t 5)⟩,
    ⟨(some 7), none, .mov (.c (.int .i64 0))⟩] (some [0, 3, 6, 7]))
   (.blk 0 (i48_l0)))
   (.seq (.rg [⟨(some 21), none, .mov (.t 3)⟩,
    ⟨(some 2), none, .mov (.t 21)⟩] (some [2]))
   (.ret))))))
def F48 : F := ⟨i48, [(2, none)], false⟩
/-- strings.Contains -/
def i49 : IR := .seq (.rg [⟨(some 4), none, .mov (.c (.bool false))⟩] (some [0, 1]))
   (.seq (.rg [⟨(some 5), none, .mov (.t 0)⟩,
    ⟨(some 6), none, .mov (.t 1)⟩,
    ⟨(some 7), none, .call 51 [(.t 5), (.t 6)]⟩,
    ⟨(some 8), none, .bin .geq (.t 7) (.c (.int .i64 0))⟩,
    ⟨(some 4), none, .mov (.t 8)⟩] (some [4]))
   (.ret))
def F49 : F := ⟨i49, [(4, none)], false⟩
/-- strings.IndexByte -/
def i50 : IR := .seq (.rg [⟨(some 4), none, .mov (.c (.int .i64 0))⟩] (some [0, 1]))
   (.seq (.rg [⟨(some 5), none, .mov (.t 0)⟩,
    ⟨(some 6), none, .mov (.t 1)⟩,
    ⟨(some 7), none, .call 52 [(.t 5), (.t 6)]⟩,
    ⟨(some 4), none, .mov (.t 7)⟩] (some [4]))
   (.ret))
def F50 : F := ⟨i50, [(4, none)], false⟩
/-- strings.Index -/
def i51 : IR := .seq (.rg [⟨(some 4), none, .mov (.c (.int .i64 0))⟩] (some [0, 1]))
   (.seq (.rg [⟨(some 5), none, .mov (.t 0)⟩,
    ⟨(some 6), none, .mov (.t 1)⟩,
    ⟨(some 7), none, .call 53 [(.t 5), (.t 6)]⟩,
    ⟨(some 4), none, .mov (.t 7)⟩] (some [4]))
   (.ret))
def F51 : F := ⟨i51, [(4, none)], false⟩
/-- internal/stringslite.IndexByte -/
def i52 : IR := .seq (.rg [⟨(some 4), none, .mov (.c (.int .i64 0))⟩] (some [0, 1]))
   (.seq (.rg [⟨(some 5), none, .mov (.t 0)⟩,
    ⟨(some 6), none, .mov (.t 1)⟩,
    ⟨(some 7), none, .call 54 [(.t 5), (.t 6)]⟩,
    ⟨(some 4), none, .mov (.t 7)⟩] (some [4]))
   (.ret))
def F52 : F := ⟨i52, [(4, none)], false⟩
/-- internal/bytealg.Cutover -/
def i56 : IR := .seq (.rg [⟨(some 2), none, .mov (.c (.int .i64 0))⟩] (some [0]))
   (.seq (.rg [⟨(some 3), none, .mov (.t 0)⟩,
    ⟨(some 4), none, .bin .add (.t 3) (.c (.int .i64 16))⟩,
    ⟨(some 5), none, .bin .quo (.t 4) (.c (.int .i64 8))⟩,
    ⟨(some 2), none, .mov (.t 5)⟩] (some [2]))
   (.ret))
def F56 : F := ⟨i56, [(2, none)], false⟩
/-- internal/bytealg.IndexRabinKarp[string] -/
def i57_b0 : IR := .seq (.seq (.rg [⟨(some 18), none, .mov (.t 9)⟩,
    ⟨(some 19), none, .mov (.t 7)⟩,
    ⟨(some 20), none, .bin .lss (.t 18) (.t 19)⟩] (some [0, 1, 5, 6, 7, 8, 9, 20]))
   (.cond (.t 20) (.skip) (.ext 0)))
   (.seq (.blk 1 (.rg [⟨(some 23), none, .mov (.t 8)⟩,
    ⟨(some 24), none, .bin .mul (.t 23) (.c (.int .u32 16777619))⟩,
    ⟨(some 25), none, .mov (.t 0)⟩,
    ⟨(some 26), none, .mov (.t 9)⟩,
    ⟨(some 27), none, .ixs (.t 25) (.t 26)⟩,
    ⟨(some 28), none, .conv .u32 (.t 27)⟩,
    ⟨(some 29), none, .bin .add (.t 24) (.t 28)⟩,
    ⟨(some 8), none, .mov (.t 29)⟩] (some [0, 1, 5, 6, 7, 8, 9])))
   (.rg [⟨(some 21), none, .mov (.t 9)⟩,
    ⟨(some 22), none, .bin .add (.t 21) (.c (.int .i64 1))⟩,
    ⟨(some 9), none, .mov (.t 22)⟩] (some [0, 1, 5, 6, 7, 8, 9])))
def i57_l0 : IR := .loop i57_b0
theorem r57_l0 {C : Cx} {n : Nat} {fr : Fr} {h : List Ob} : ev C (n + 1) i57_l0 fr h = nxt (ev C (n + 1) i57_b0 fr h) fun fr h => ev C n i57_l0 fr h := ev_loop
def i57_b1 : IR := .seq (.seq (.rg [⟨(some 41), none, .mov (.t 10)⟩,
    ⟨(some 42), none, .mov (.t 0)⟩,
    ⟨(some 43), none, .slen (.t 42)⟩,
    ⟨(some 44), none, .bin .lss (.t 41) (.t 43)⟩] (some [0, 1, 5, 6, 7, 8, 10, 44]))
   (.cond (.t 44) (.skip) (.ext 2)))
   (.blk 3 (.seq (.rg [⟨(some 45), none, .mov (.t 8)⟩,
    ⟨(some 46), none, .bin .mul (.t 45) (.c (.int .u32 16777619))⟩,
    ⟨(some 8), none, .mov (.t 46)⟩] (some [0, 1, 5, 6, 7, 8, 10]))
   (.seq (.rg [⟨(some 47), none, .mov (.t 8)⟩,
    ⟨(some 48), none, .mov (.t 0)⟩,
    ⟨(some 49), none, .mov (.t 10)⟩,
    ⟨(some 50), none, .ixs (.t 48) (.t 49)⟩,
    ⟨(some 51), none, .conv .u32 (.t 50)⟩,
    ⟨(some 52), none, .bin .add (.t 47) (.t 51)⟩,
    ⟨(some 8), none, .mov (.t 52)⟩] (some [0, 1, 5, 6, 7, 8, 10]))
   (.seq (.rg [⟨(some 53), none, .mov (.t 8)⟩,
    ⟨(some 54), none, .mov (.t 6)⟩,
    ⟨(some 55), none, .mov (.t 0)⟩,
    ⟨(some 56), none, .mov (.t 10)⟩,
    ⟨(some 57), none, .mov (.t 7)⟩,
    ⟨(some 58), none, .bin .sub (.t 56) (.t 57)⟩,
    ⟨(some 59), none, .ixs (.t 55) (.t 58)⟩,
    ⟨(some 60), none, .conv .u32 (.t 59)⟩,
    ⟨(some 61), none, .bin .mul (.t 54) (.t 60)⟩,
    ⟨(some 62), none, .bin .sub (.t 53) (.t 61)⟩,
    ⟨(some 8), none, .mov (.t 62)⟩] (some [0, 1, 5, 6, 7, 8, 10]))
   (.seq (.rg [⟨(some 63), none, .mov (.t 10)⟩,
    ⟨(some 64), none, .bin .add (.t 63) (.c (.int .i64 1))⟩,
    ⟨(some 10), none, .mov (.t 64)⟩] (some [0, 1, 5, 6, 7, 8, 10]))
   (.seq (.rg [⟨(some 65), none, .mov (.t 8)⟩,
    ⟨(some 66), none, .mov (.t 5)⟩,
    ⟨(some 67), none, .bin .eql (.t 65) (.t 66)⟩,
    ⟨(some 68), none, .mov (.t 67)⟩,
    ⟨(some 69), (some (68, true)), .mov (.t 0)⟩,
    ⟨(some 70), (some (68, true)), .mov (.t 10)⟩,
    ⟨(some 71), (some (68, true)), .mov (.t 7)⟩,
    ⟨(some 72), (some (68, true)), .bin .sub (.t 70) (.t 71)⟩,
    ⟨(some 73), (some (68, true)), .mov (.t 10)⟩,
    ⟨(some 74), (some (68, true)), .sls (.t 69) (some (.t 72)) (some (.t 73))⟩,
    ⟨(some 75), (some (68, true)), .mov (.t 1)⟩,
    ⟨(some 76), (some (68, true)), .bin .eql (.t 74) (.t 75)⟩,
    ⟨(some 77), none, .pick (.t 68) (.t 76) (.c (.bool false))⟩] (some [0, 1, 5, 6, 7, 8, 10, 77]))
   (.cond (.t 77) (.seq (.rg [⟨(some 78), none, .mov (.t 10)⟩,
    ⟨(some 79), none, .mov (.t 7)⟩,
    ⟨(some 80), none, .bin .sub (.t 78) (.t 79)⟩,
    ⟨(some 4), none, .mov (.t 80)⟩] (some [4]))
   (.ret)) (.skip))))))))
def i57_l1 : IR := .loop i57_b1
theorem r57_l1 {C : Cx} {n : Nat} {fr : Fr} {h : List Ob} : ev C (n + 1) i57_l1 fr h = nxt (ev C (n + 1) i57_b1 fr h) fun fr h => ev C n i57_l1 fr h := ev_loop
def i57 : IR := .seq (.rg [⟨(some 4), none, .mov (.c (.int .i64 0))⟩] (some [0, 1]))
   (.seq (.rg [⟨(some 12), none, .mov (.t 1)⟩,
    ⟨(some 13), none, .call 58 [(.t 12)]⟩,
    ⟨(some 11), none, .mov (.t 13)⟩,
    ⟨(some 14), none, .ext (.t 11) 0⟩,
    ⟨(some 15), none, .ext (.t 11) 1⟩,
    ⟨(some 5), none, .mov (.t 14)⟩,
    ⟨(some 6), none, .mov (.t 15)⟩] (some [0, 1, 5, 6]))
   (.seq (.rg [⟨(some 16), none, .mov (.t 1)⟩,
    ⟨(some 17), none, .slen (.t 16)⟩,
    ⟨(some 7), none, .mov (.t 17)⟩] (some [0, 1, 5, 6, 7]))
   (.seq (.rg [⟨(some 8), none, .mov (.c (.int .u32 0))⟩] (some [0, 1, 5, 6, 7, 8]))
   (.seq (.seq (.rg [⟨(some 9), none, .mov (.c (.int .i64 0))⟩] (some [0, 1, 5, 6, 7, 8, 9]))
   (.blk 0 (i57_l0)))
   (.seq (.seq (.rg [⟨(some 30), none, .mov (.t 8)⟩,
    ⟨(some 31), none, .mov (.t 5)⟩,
    ⟨(some 32), none, .bin .eql (.t 30) (.t 31)⟩,
    ⟨(some 33), none, .mov (.t 32)⟩,
    ⟨(some 34), (some (33, true)), .mov (.t 0)⟩,
    ⟨(some 35), (some (33, true)), .mov (.t 7)⟩,
    ⟨(some 36), (some (33, true)), .sls (.t 34) none (some (.t 35))⟩,
    ⟨(some 37), (some (33, true)), .mov (.t 1)⟩,
    ⟨(some 38), (some (33, true)), .bin .eql (.t 36) (.t 37)⟩,
    ⟨(some 39), none, .pick (.t 33) (.t 38) (.c (.bool false))⟩] (some [0, 1, 5, 6, 7, 8, 39]))
   (.cond (.t 39) (.seq (.rg [⟨(some 4), none, .mov (.c (.int .i64 0))⟩] (some [4]))
   (.ret)) (.skip)))
   (.seq (.seq (.rg [⟨(some 40), none, .mov (.t 7)⟩,
    ⟨(some 10), none, .mov (.t 40)⟩] (some [0, 1, 5, 6, 7, 8, 10]))
   (.blk 2 (i57_l1)))
   (.seq (.rg [⟨(some 4), none, .mov (.c (.int .i64 (-1)))⟩] (some [4]))
   (.ret))))))))
def F57 : F := ⟨i57, [(4, none)], false⟩
/-- internal/bytealg.hashStr[string] -/
def i58_b0 : IR := .seq (.seq (.rg [⟨(some 9), none, .mov (.t 5)⟩,
    ⟨(some 10), none, .mov (.t 0)⟩,
    ⟨(some 11), none, .slen (.t 10)⟩,
    ⟨(some 12), none, .bin .lss (.t 9) (.t 11)⟩] (some [0, 4, 5, 12]))
   (.cond (.t 12) (.skip) (.ext 0)))
   (.seq (.blk 1 (.rg [⟨(some 15), none, .mov (.t 4)⟩,
    ⟨(some 16), none, .bin .mul (.t 15) (.c (.int .u32 16777619))⟩,
    ⟨(some 17), none, .mov (.t 0)⟩,
    ⟨(some 18), none, .mov (.t 5)⟩,
    ⟨(some 19), none, .ixs (.t 17) (.t 18)⟩,
    ⟨(some 20), none, .conv .u32 (.t 19)⟩,
    ⟨(some 21), none, .bin .add (.t 16) (.t 20)⟩,
    ⟨(some 4), none, .mov (.t 21)⟩] (some [0, 4, 5])))
   (.rg [⟨(some 13), none, .mov (.t 5)⟩,
    ⟨(some 14), none, .bin .add (.t 13) (.c (.int .i64 1))⟩,
    ⟨(some 5), none, .mov (.t 14)⟩] (some [0, 4, 5])))
def i58_l0 : IR := .loop i58_b0
theorem r58_l0 {C : Cx} {n : Nat} {fr : Fr} {h : List Ob} : ev C (n + 1) i58_l0 fr h = nxt (ev C (n + 1) i58_b0 fr h) fun fr h => ev C n i58_l0 fr h := ev_loop
def i58_b1 : IR := .seq (.seq (.rg [⟨(some 24), none, .mov (.t 8)⟩,
    ⟨(some 25), none, .bin .gtr (.t 24) (.c (.int .i64 0))⟩] (some [4, 6, 7, 8, 25]))
   (.cond (.t 25) (.skip) (.ext 2)))
   (.seq (.blk 3 (.seq (.seq (.rg [⟨(some 28), none, .mov (.t 8)⟩,
    ⟨(some 29), none, .bin .and (.t 28) (.c (.int .i64 1))⟩,
    ⟨(some 30), none, .bin .neq (.t 29) (.c (.int .i64 0))⟩] (some [4, 6, 7, 8, 30]))
   (.cond (.t 30) (.rg [⟨(some 31), none, .mov (.t 6)⟩,
    ⟨(some 32), none, .mov (.t 7)⟩,
    ⟨(some 33), none, .bin .mul (.t 31) (.t 32)⟩,
    ⟨(some 6), none, .mov (.t 33)⟩] (some [4, 6, 7, 8])) (.skip)))
   (.rg [⟨(some 34), none, .mov (.t 7)⟩,
    ⟨(some 35), none, .mov (.t 7)⟩,
    ⟨(some 36), none, .bin .mul (.t 34) (.t 35)⟩,
    ⟨(some 7), none, .mov (.t 36)⟩] (some [4, 6, 7, 8]))))
   (.rg [⟨(some 26), none, .mov (.t 8)⟩,
    ⟨(some 27), none, .bin .shr (.t 26) (.c (.int .u64 1))⟩,
    ⟨(some 8), none, .mov (.t 27)⟩] (some [4, 6, 7, 8])))
def i58_l1 : IR := .loop i58_b1
theorem r58_l1 {C : Cx} {n : Nat} {fr : Fr} {h : List Ob} : ev C (n + 1) i58_l1 fr h = nxt (ev C (n + 1) i58_b1 fr h) fun fr h => ev C n i58_l1 fr h := ev_loop
def i58 : IR := .seq (.rg [⟨(some 2), none, .mov (.c (.int .u32 0))⟩,
    ⟨(some 3), none, .mov (.c (.int .u32 0))⟩] (some [0]))
   (.seq (.rg [⟨(some 4), none, .mov (.c (.int .u32 0))⟩] (some [0, 4]))
   (.seq (.seq (.rg [⟨(some 5), none, .mov (.c (.int .i64 0))⟩] (some [0, 4, 5]))
   (.blk 0 (i58_l0)))
   (.seq (.rg [⟨(some 6), none, .mov (.c (.int .u32 1))⟩,
    ⟨(some 7), none, .mov (.c (.int .u32 16777619))⟩] (some [0, 4, 6, 7]))
   (.seq (.seq (.rg [⟨(some 22), none, .mov (.t 0)⟩,
    ⟨(some 23), none, .slen (.t 22)⟩,
    ⟨(some 8), none, .mov (.t 23)⟩] (some [4, 6, 7, 8]))
   (.blk 2 (i58_l1)))
   (.seq (.rg [⟨(some 37), none, .mov (.t 4)⟩,
    ⟨(some 38), none, .mov (.t 6)⟩,
    ⟨(some 2), none, .mov (.t 37)⟩,
    ⟨(some 3), none, .mov (.t 38)⟩] (some [2, 3]))
   (.ret))))))
def F58 : F := ⟨i58, [(2, none), (3, none)], false⟩

theorem ok2 : mF Go.Proofs.Try.prog 2 F2 = true := by kernel_rfl
theorem ok3 : mF Go.Proofs.Try.prog 3 F3 = true := by kernel_rfl
theorem ok4 : mF Go.Proofs.Try.prog 4 F4 = true := by kernel_rfl
theorem ok5 : mF Go.Proofs.Try.prog 5 F5 = true := by kernel_rfl
theorem ok6 : mF Go.Proofs.Try.prog 6 F6 = true := by kernel_rfl
theorem ok7 : mF Go.Proofs.Try.prog 7 F7 = true := by kernel_rfl
theorem ok8 : mF Go.Proofs.Try.prog 8 F8 = true := by kernel_rfl
theorem ok9 : mF Go.Proofs.Try.prog 9 F9 = true := by kernel_rfl
theorem ok10 : mF Go.Proofs.Try.prog 10 F10 = true := by kernel_rfl
theorem ok11 : mF Go.Proofs.Try.prog 11 F11 = true := by kernel_rfl
theorem ok12 : mF Go.Proofs.Try.prog 12 F12 = true := by kernel_rfl
theorem ok13 : mF Go.Proofs.Try.prog 13 F13 = true := by kernel_rfl
theorem ok14 : mF Go.Proofs.Try.prog 14 F14 = true := by kernel_rfl
theorem ok15 : mF Go.Proofs.Try.prog 15 F15 = true := by kernel_rfl
theorem ok16 : mF Go.Proofs.Try.prog 16 F16 = true := by kernel_rfl
theorem ok17 : mF Go.Proofs.Try.prog 17 F17 = true := by kernel_rfl
theorem ok18 : mF Go.Proofs.Try.prog 18 F18 = true := by kernel_rfl
theorem ok19 : mF Go.Proofs.Try.prog 19 F19 = true := by kernel_rfl
theorem ok20 : mF Go.Proofs.Try.prog 20 F20 = true := by kernel_rfl
theorem ok21 : mF Go.Proofs.Try.prog 21 F21 = true := by kernel_rfl
theorem ok22 : mF Go.Proofs.Try.prog 22 F22 = true := by kernel_rfl
theorem ok23 : mF Go.Proofs.Try.prog 23 F23 = true := by kernel_rfl
theorem ok24 : mF Go.Proofs.Try.prog 24 F24 = true := by kernel_rfl
theorem ok25 : mF Go.Proofs.Try.prog 25 F25 = true := by kernel_rfl
theorem ok26 : mF Go.Proofs.Try.prog 26 F26 = true := by kernel_rfl
theorem ok27 : mF Go.Proofs.Try.prog 27 F27 = true := by kernel_rfl
theorem ok28 : mF Go.Proofs.Try.prog 28 F28 = true := by kernel_rfl
theorem ok29 : mF Go.Proofs.Try.prog 29 F29 = true := by kernel_rfl
theorem ok30 : mF Go.Proofs.Try.prog 30 F30 = true := by kernel_rfl
theorem ok31 : mF Go.Proofs.Try.prog 31 F31 = true := by kernel_rfl
theorem ok32 : mF Go.Proofs.Try.prog 32 F32 = true := by kernel_rfl
theorem ok33 : mF Go.Proofs.Try.prog 33 F33 = true := by kernel_rfl
theorem ok34 : mF Go.Proofs.Try.prog 34 F34 = true := by kernel_rfl
theorem ok35 : mF Go.Proofs.Try.prog 35 F35 = true := by kernel_rfl
theorem ok36 : mF Go.Proofs.Try.prog 36 F36 = true := by kernel_rfl
theorem ok38 : mF Go.Proofs.Try.prog 38 F38 = true := by kernel_rfl
theorem ok39 : mF Go.Proofs.Try.prog 39 F39 = true := by kernel_rfl
theorem ok40 : mF Go.Proofs.Try.prog 40 F40 = true := by kernel_rfl
theorem ok41 : mF Go.Proofs.Try.prog 41 F41 = true := by kernel_rfl
theorem ok42 : mF Go.Proofs.Try.prog 42 F42 = true := by kernel_rfl
theorem ok43 : mF Go.Proofs.Try.prog 43 F43 = true := by kernel_rfl
theorem ok44 : mF Go.Proofs.Try.prog 44 F44 = true := by kernel_rfl
theorem ok45 : mF Go.Proofs.Try.prog 45 F45 = true := by kernel_rfl
theorem ok46 : mF Go.Proofs.Try.prog 46 F46 = true := by kernel_rfl
theorem ok47 : mF Go.Proofs.Try.prog 47 F47 = true := by kernel_rfl
theorem ok48 : mF Go.Proofs.Try.prog 48 F48 = true := by kernel_rfl
theorem ok49 : mF Go.Proofs.Try.prog 49 F49 = true := by kernel_rfl
theorem ok50 : mF Go.Proofs.Try.prog 50 F50 = true := by kernel_rfl
theorem ok51 : mF Go.Proofs.Try.prog 51 F51 = true := by kernel_rfl
theorem ok52 : mF Go.Proofs.Try.prog 52 F52 = true := by kernel_rfl
theorem ok56 : mF Go.Proofs.Try.prog 56 F56 = true := by kernel_rfl
theorem ok57 : mF Go.Proofs.Try.prog 57 F57 = true := by kernel_rfl
theorem ok58 : mF Go.Proofs.Try.prog 58 F58 = true := by kernel_rfl
end Go.RR.A
