/- The functions of this seat, as the abstract machine's. -/
import Derived.Test.YtcldjplopgmjgaaDoorProg
import Derived.Test.YtcldjplopgmjgaaDoorPxG
namespace Go.Proofs.YtcldjplopgmjgaaDoor
open Go Go.Px

/-- berthing/berthinglaw06.KnobsRise -/
def x3 : XF := ⟨28, [(.t 4)], (.seq (.reg [⟨(some 4), (.asg (.c (.b false))), none⟩])
 (.kp [0, 1] [] (.seq (.seq (.reg [⟨(some 7), (.call (.f 5) []), none⟩, ⟨(some 8), (.un .not (.t 7)), none⟩])
 (.kp [0, 1, 8] [] (.cond (.t 8) (.seq (.reg [⟨(some 4), (.asg (.c (.b false))), none⟩])
 .ret)
  .skip)))
 (.kp [0, 1] [] (.seq (.reg [⟨(some 9), (.mv (.t 0)), none⟩, ⟨(some 10), (.mv (.t 1)), none⟩, ⟨(some 11), (.mn [(.t 9), (.t 10)]), none⟩, ⟨(some 12), (.call (.f 6) [(.t 11)]), none⟩, ⟨(some 13), (.mv (.t 0)), none⟩, ⟨(some 14), (.mv (.t 1)), none⟩, ⟨(some 15), (.mx [(.t 13), (.t 14)]), none⟩, ⟨(some 16), (.call (.f 6) [(.t 15)]), none⟩, ⟨(some 5), (.asg (.t 12)), none⟩, ⟨(some 6), (.asg (.t 16)), none⟩])
 (.kp [5, 6] [] (.seq (.reg [⟨(some 17), (.mv (.t 5)), none⟩, ⟨(some 18), (.bin .geq (.t 17) (.c (.i .i64 1))), none⟩, ⟨(some 19), (.mv (.t 18)), none⟩, ⟨(some 20), (.mv (.t 5)), (some (19, true))⟩, ⟨(some 21), (.mv (.t 6)), (some (19, true))⟩, ⟨(some 22), (.bin .leq (.t 20) (.t 21)), (some (19, true))⟩, ⟨(some 23), (.pick (.t 19) (.t 22) (.c (.b false))), none⟩, ⟨(some 24), (.mv (.t 23)), none⟩, ⟨(some 25), (.mv (.t 6)), (some (24, true))⟩, ⟨(some 26), (.bin .leq (.t 25) (.c (.i .i64 10000))), (some (24, true))⟩, ⟨(some 27), (.pick (.t 24) (.t 26) (.c (.b false))), none⟩, ⟨(some 4), (.asg (.t 27)), none⟩])
 .ret)))))))⟩
theorem x3_ok : isF Tryd.prog (fun _ => false) Tryd.f3 x3 := ⟨by kernel_rfl, by kernel_rfl⟩

def x4_0 : XC := (.kp [3, 7, 8, 9, 10, 11, 31] [3, 11] (.cond (.t 31) (.seq (.reg [⟨(some 32), (.load true 5 (.t 11)), none⟩, ⟨(some 33), (.load true 5 (.t 3)), none⟩, ⟨(some 34), (.eq false (.ag [1, 1, 1, 1, 1]) (.t 32) (.t 33)), none⟩, ⟨(some 35), (.mv (.t 34)), none⟩, ⟨(some 36), (.load true 5 (.t 3)), (some (35, true))⟩, ⟨(some 37), (.mv (.t 7)), (some (35, true))⟩, ⟨(some 38), (.call (.f 8) [(.t 36), (.t 37)]), (some (35, true))⟩, ⟨(some 39), (.bin .eql (.t 38) (.c (.i .i64 0))), (some (35, true))⟩, ⟨(some 40), (.pick (.t 35) (.t 39) (.c (.b false))), none⟩, ⟨(some 6), (.asg (.t 40)), none⟩])
 .ret)
  .skip))
def x4_1 : XC := (.kp [3, 7, 8, 9, 10, 11] [3, 11] (.seq (.draw [[], [0], [], [], [], [4], [], [4, 5, 6], [4, 5, 6, 7], [], [], [], [], [12], [12, 13], [], [12, 13, 14, 15], [12, 13, 14, 15, 16], [12, 13, 14, 15, 16, 17], [], [12, 13, 14, 15, 16, 17, 18, 19], [12, 13, 14, 15, 16, 17, 18, 19, 20], [], [], [], [], []] [⟨(some 56), (.mv (.t 7)), none⟩, ⟨(some 57), (.mv (.t 8)), none⟩, ⟨(some 58), (.bin .eql (.t 56) (.t 57)), none⟩, ⟨(some 59), (.mv (.t 58)), none⟩, ⟨(some 60), (.load true 5 (.t 11)), (some (59, false))⟩, ⟨(some 61), (.mv (.t 8)), (some (59, false))⟩, ⟨(some 62), (.call (.f 8) [(.t 60), (.t 61)]), (some (59, false))⟩, ⟨(some 63), (.load true 5 (.t 3)), (some (59, false))⟩, ⟨(some 64), (.mv (.t 8)), (some (59, false))⟩, ⟨(some 65), (.call (.f 8) [(.t 63), (.t 64)]), (some (59, false))⟩, ⟨(some 66), (.bin .eql (.t 62) (.t 65)), (some (59, false))⟩, ⟨(some 67), (.mv (.t 66)), (some (59, false))⟩, ⟨(some 68), (.load true 5 (.t 11)), (some (67, true))⟩, ⟨(some 69), (.mv (.t 8)), (some (67, true))⟩, ⟨(some 70), (.mv (.t 10)), (some (67, true))⟩, ⟨(some 71), (.call (.f 7) [(.t 68), (.t 69), (.t 70)]), (some (67, true))⟩, ⟨(some 72), (.load true 5 (.t 3)), (some (67, true))⟩, ⟨(some 73), (.mv (.t 8)), (some (67, true))⟩, ⟨(some 74), (.mv (.t 10)), (some (67, true))⟩, ⟨(some 75), (.call (.f 7) [(.t 72), (.t 73), (.t 74)]), (some (67, true))⟩, ⟨(some 76), (.mv (.t 7)), (some (67, true))⟩, ⟨(some 77), (.mv (.t 9)), (some (67, true))⟩, ⟨(some 78), (.call (.f 7) [(.t 75), (.t 76), (.t 77)]), (some (67, true))⟩, ⟨(some 79), (.eq false (.ag [1, 1, 1, 1, 1]) (.t 71) (.t 78)), (some (67, true))⟩, ⟨(some 80), (.pick (.t 67) (.t 79) (.c (.b false))), (some (59, false))⟩, ⟨(some 81), (.pick (.t 59) (.c (.b true)) (.t 80)), none⟩, ⟨(some 6), (.asg (.t 81)), none⟩])
 .ret))
def x4_2 : XC := (.kp [3, 7, 8, 9, 10, 11] [3, 11] (.seq (.seq (.draw [[], [0], [], [0, 1, 2], [], [], [], [6], [6, 7], [6, 7, 8], [6, 7], [], [6, 7, 8, 9, 10, 11], [], []] [⟨(some 41), (.load true 5 (.t 11)), none⟩, ⟨(some 42), (.mv (.t 7)), none⟩, ⟨(some 43), (.call (.f 8) [(.t 41), (.t 42)]), none⟩, ⟨(some 44), (.mv (.t 9)), none⟩, ⟨(some 45), (.bin .neq (.t 43) (.t 44)), none⟩, ⟨(some 46), (.mv (.t 45)), none⟩, ⟨(some 47), (.load true 5 (.t 11)), (some (46, false))⟩, ⟨(some 48), (.mv (.t 7)), (some (46, false))⟩, ⟨(some 49), (.load true 5 (.t 3)), (some (46, false))⟩, ⟨(some 50), (.mv (.t 7)), (some (46, false))⟩, ⟨(some 51), (.call (.f 8) [(.t 49), (.t 50)]), (some (46, false))⟩, ⟨(some 52), (.call (.f 7) [(.t 47), (.t 48), (.t 51)]), (some (46, false))⟩, ⟨(some 53), (.load true 5 (.t 3)), (some (46, false))⟩, ⟨(some 54), (.eq true (.ag [1, 1, 1, 1, 1]) (.t 52) (.t 53)), (some (46, false))⟩, ⟨(some 55), (.pick (.t 46) (.c (.b true)) (.t 54)), none⟩])
 (.kp [3, 7, 8, 9, 10, 11, 55] [3, 11] (.cond (.t 55) (.seq (.reg [⟨(some 6), (.asg (.c (.b false))), none⟩])
 .ret)
  .skip)))
 x4_1))
def x4_3 : XC := (.kp [3, 7, 8, 9, 10, 11] [3, 11] (.seq (.seq (.reg [⟨(some 26), (.mv (.t 7)), none⟩, ⟨(some 27), (.bin .lss (.t 26) (.c (.i .i64 0))), none⟩, ⟨(some 28), (.mv (.t 27)), none⟩, ⟨(some 29), (.mv (.t 7)), (some (28, false))⟩, ⟨(some 30), (.bin .gtr (.t 29) (.c (.i .i64 4))), (some (28, false))⟩, ⟨(some 31), (.pick (.t 28) (.c (.b true)) (.t 30)), none⟩])
 x4_0)
 x4_2))
def x4_4 : XC := (.kp [3, 7, 8, 9, 10] [3] (.seq (.reg [⟨(some 22), (.load true 5 (.t 3)), none⟩, ⟨(some 23), (.mv (.t 7)), none⟩, ⟨(some 24), (.mv (.t 9)), none⟩, ⟨(some 25), (.call (.f 7) [(.t 22), (.t 23), (.t 24)]), none⟩, ⟨(some 11), (.alloc [(.i .i64 0), (.i .i64 0), (.i .i64 0), (.i .i64 0), (.i .i64 0)] false), none⟩, ⟨none, (.store 5 (.t 11) (.t 25)), none⟩])
 x4_3))
def x4_5 : XC := (.kp [3, 4, 5] [3, 4, 5] (.seq (.draw [[], [], [0, 1], [0, 1], [0, 1, 2, 3], [0, 1, 2, 3], [0, 1, 2, 3, 4, 5], [0, 1, 2, 3, 4, 5], [2, 3, 4, 5, 6, 7], [4, 5, 6, 7], [6, 7], []] [⟨(some 14), (.iad (some 2) 1 (.t 4) (.c (.i .i64 0))), none⟩, ⟨(some 15), (.load false 1 (.t 14)), none⟩, ⟨(some 16), (.iad (some 2) 1 (.t 4) (.c (.i .i64 1))), none⟩, ⟨(some 17), (.load false 1 (.t 16)), none⟩, ⟨(some 18), (.iad (some 2) 1 (.t 5) (.c (.i .i64 0))), none⟩, ⟨(some 19), (.load false 1 (.t 18)), none⟩, ⟨(some 20), (.iad (some 2) 1 (.t 5) (.c (.i .i64 1))), none⟩, ⟨(some 21), (.load false 1 (.t 20)), none⟩, ⟨(some 7), (.asg (.t 15)), none⟩, ⟨(some 8), (.asg (.t 17)), none⟩, ⟨(some 9), (.asg (.t 19)), none⟩, ⟨(some 10), (.asg (.t 21)), none⟩])
 x4_4))
def x4_6 : XC := (.kp [3, 4, 5] [3, 4, 5] (.seq (.seq (.reg [⟨(some 12), (.call (.f 5) []), none⟩, ⟨(some 13), (.un .not (.t 12)), none⟩])
 (.kp [3, 4, 5, 13] [3, 4, 5] (.cond (.t 13) (.seq (.reg [⟨(some 6), (.asg (.c (.b false))), none⟩])
 .ret)
  .skip)))
 x4_5))
/-- berthing/berthinglaw06.KnobsFiles -/
def x4 : XF := ⟨82, [(.t 6)], (.seq (.reg [⟨(some 3), (.box 5 (.t 0) false), none⟩, ⟨(some 4), (.box 2 (.t 1) false), none⟩, ⟨(some 5), (.box 2 (.t 2) false), none⟩, ⟨(some 6), (.asg (.c (.b false))), none⟩])
 x4_6)⟩
theorem x4_ok : isF Tryd.prog (fun _ => false) Tryd.f4 x4 := ⟨by kernel_rfl, by kernel_rfl⟩

def x5_0 : XC := (.kp [3, 4] [3, 4] (.seq (.draw [[], [], [], [], [], [4], [4], [], [], [], [], [], [], [], [], [], [], [], [], [], [], [], [], [], [], [], [], [], [], [], [], [], [], []] [⟨(some 18), (.load true 5 (.t 3)), none⟩, ⟨(some 19), (.call (.f 11) [(.t 18)]), none⟩, ⟨(some 20), (.bin .eql (.t 19) (.c (.s (bs [109, 97, 120, 32, 51, 57, 32, 49, 48, 52, 56, 53, 55, 54, 32, 50, 48, 57, 55, 49, 53, 50, 32, 48])))), none⟩, ⟨(some 21), (.mv (.t 20)), none⟩, ⟨(some 22), (.load true 5 (.t 4)), (some (21, true))⟩, ⟨(some 23), (.call (.f 6) [(.c (.i .i64 2000))]), (some (21, true))⟩, ⟨(some 24), (.build [(.i .i64 0), (.i .i64 0), (.i .i64 0), (.i .i64 0), (.i .i64 0)] [(0, (1, (.c (.i .i64 4611686018427387904)))), (1, (1, (.t 23))), (2, (1, (.c (.i .i64 2097152)))), (3, (1, (.c (.i .i64 3145728))))]), (some (21, true))⟩, ⟨(some 25), (.eq false (.ag [1, 1, 1, 1, 1]) (.t 22) (.t 24)), (some (21, true))⟩, ⟨(some 26), (.pick (.t 21) (.t 25) (.c (.b false))), none⟩, ⟨(some 27), (.mv (.t 26)), none⟩, ⟨(some 28), (.call (.f 6) [(.c (.i .i64 0))]), (some (27, true))⟩, ⟨(some 29), (.bin .eql (.t 28) (.c (.i .i64 1))), (some (27, true))⟩, ⟨(some 30), (.pick (.t 27) (.t 29) (.c (.b false))), none⟩, ⟨(some 31), (.mv (.t 30)), none⟩, ⟨(some 32), (.load true 5 (.t 3)), (some (31, true))⟩, ⟨(some 33), (.call (.f 12) [(.t 32)]), (some (31, true))⟩, ⟨(some 34), (.pick (.t 31) (.t 33) (.c (.b false))), none⟩, ⟨(some 35), (.mv (.t 34)), none⟩, ⟨(some 36), (.call (.f 13) []), (some (35, true))⟩, ⟨(some 37), (.call (.f 12) [(.t 36)]), (some (35, true))⟩, ⟨(some 38), (.un .not (.t 37)), (some (35, true))⟩, ⟨(some 39), (.pick (.t 35) (.t 38) (.c (.b false))), none⟩, ⟨(some 40), (.mv (.t 39)), none⟩, ⟨(some 41), (.load true 5 (.t 3)), (some (40, true))⟩, ⟨(some 42), (.call (.f 8) [(.t 41), (.c (.i .i64 2))]), (some (40, true))⟩, ⟨(some 43), (.bin .eql (.t 42) (.c (.i .i64 1048576))), (some (40, true))⟩, ⟨(some 44), (.pick (.t 40) (.t 43) (.c (.b false))), none⟩, ⟨(some 45), (.mv (.t 44)), none⟩, ⟨(some 46), (.load true 5 (.t 3)), (some (45, true))⟩, ⟨(some 47), (.call (.f 7) [(.t 46), (.c (.i .i64 4)), (.c (.i .i64 7))]), (some (45, true))⟩, ⟨(some 48), (.fld false 4 1 (.t 47)), (some (45, true))⟩, ⟨(some 49), (.bin .eql (.t 48) (.c (.i .i64 7))), (some (45, true))⟩, ⟨(some 50), (.pick (.t 45) (.t 49) (.c (.b false))), none⟩, ⟨(some 0), (.asg (.t 50)), none⟩])
 .ret))
def x5_1 : XC := (.kp [1, 2, 3] [1, 2, 3] (.seq (.reg [⟨(some 11), (.load true 10 (.t 2)), none⟩, ⟨(some 12), (.load true 3 (.t 1)), none⟩, ⟨(some 13), (.load true 3 (.t 1)), none⟩, ⟨(some 14), (.build [(.s (bs [])), (.i .i64 0), (.i .i64 0), (.i .i64 0), (.i .i64 0), (.i .i64 0), (.i .i64 0), (.b false), (.b false), (.b false)] [(0, (1, (.c (.s (bs [98]))))), (1, (3, (.t 12))), (4, (3, (.t 13)))]), none⟩, ⟨(some 15), (.bsl (.agg [(.s (bs [])), (.i .i64 0), (.i .i64 0), (.i .i64 0), (.i .i64 0), (.i .i64 0), (.i .i64 0), (.b false), (.b false), (.b false)]) 2 [(0, (.t 11)), (1, (.t 14))]), none⟩, ⟨(some 16), (.build [(.s (bs [])), (.i .i64 0), (.i .i64 0), .nsl] [(0, (1, (.c (.s (bs [112]))))), (3, (1, (.t 15)))]), none⟩, ⟨(some 17), (.call (.f 10) [(.t 16)]), none⟩, ⟨(some 4), (.alloc [(.i .i64 0), (.i .i64 0), (.i .i64 0), (.i .i64 0), (.i .i64 0)] false), none⟩, ⟨none, (.store 5 (.t 4) (.t 17)), none⟩])
 x5_0))
def x5_2 : XC := (.kp [1, 2] [1, 2] (.seq (.reg [⟨(some 9), (.load true 10 (.t 2)), none⟩, ⟨(some 10), (.call (.f 9) [(.t 9)]), none⟩, ⟨(some 3), (.alloc [(.i .i64 0), (.i .i64 0), (.i .i64 0), (.i .i64 0), (.i .i64 0)] false), none⟩, ⟨none, (.store 5 (.t 3) (.t 10)), none⟩])
 x5_1))
def x5_3 : XC := (.kp [1] [1] (.seq (.reg [⟨(some 6), (.load true 3 (.t 1)), none⟩, ⟨(some 7), (.build [(.i .i64 0), (.i .i64 0), (.i .i64 0)] [(1, (1, (.c (.i .i64 2097152))))]), none⟩, ⟨(some 8), (.build [(.s (bs [])), (.i .i64 0), (.i .i64 0), (.i .i64 0), (.i .i64 0), (.i .i64 0), (.i .i64 0), (.b false), (.b false), (.b false)] [(0, (1, (.c (.s (bs [97]))))), (1, (3, (.t 6))), (4, (3, (.t 7)))]), none⟩, ⟨(some 2), (.alloc [(.s (bs [])), (.i .i64 0), (.i .i64 0), (.i .i64 0), (.i .i64 0), (.i .i64 0), (.i .i64 0), (.b false), (.b false), (.b false)] false), none⟩, ⟨none, (.store 10 (.t 2) (.t 8)), none⟩])
 x5_2))
def x5_4 : XC := (.kp [] [] (.seq (.reg [⟨(some 5), (.build [(.i .i64 0), (.i .i64 0), (.i .i64 0)] [(0, (1, (.c (.i .i64 1000)))), (1, (1, (.c (.i .i64 1048576))))]), none⟩, ⟨(some 1), (.alloc [(.i .i64 0), (.i .i64 0), (.i .i64 0)] false), none⟩, ⟨none, (.store 3 (.t 1) (.t 5)), none⟩])
 x5_3))
/-- berthing/berthinglaw06.first -/
def x5 : XF := ⟨51, [(.t 0)], (.seq (.reg [⟨(some 0), (.asg (.c (.b false))), none⟩])
 x5_4)⟩
theorem x5_ok : isF Tryd.prog (fun _ => false) Tryd.f5 x5 := ⟨by kernel_rfl, by kernel_rfl⟩

/-- berthing/knobs.Weight -/
def x6 : XF := ⟨18, [(.t 2)], (.seq (.reg [⟨(some 2), (.asg (.c (.i .i64 0))), none⟩])
 (.kp [0] [] (.seq (.reg [⟨(some 3), (.asg (.c (.i .i64 262144))), none⟩])
 (.kp [0, 3] [] (.seq (.seq (.reg [⟨(some 4), (.mv (.t 0)), none⟩, ⟨(some 5), (.bin .lss (.t 4) (.c (.i .i64 262144))), none⟩])
 (.kp [0, 3, 5] [] (.cond (.t 5) (.reg [⟨(some 6), (.mv (.t 0)), none⟩, ⟨(some 7), (.mx [(.t 6), (.c (.i .i64 0))]), none⟩, ⟨(some 8), (.bin .mul (.t 7) (.c (.i .i64 1024))), none⟩, ⟨(some 9), (.bin .quo (.t 8) (.c (.i .i64 1000))), none⟩, ⟨(some 3), (.asg (.t 9)), none⟩])
  .skip)))
 (.kp [3] [] (.seq (.reg [⟨(some 10), (.mv (.t 3)), none⟩, ⟨(some 11), (.mx [(.t 10), (.c (.i .i64 2))]), none⟩, ⟨(some 12), (.mn [(.t 11), (.c (.i .i64 262144))]), none⟩, ⟨(some 3), (.asg (.t 12)), none⟩])
 (.kp [3] [] (.seq (.reg [⟨(some 13), (.mv (.t 3)), none⟩, ⟨(some 14), (.bin .sub (.t 13) (.c (.i .i64 2))), none⟩, ⟨(some 15), (.bin .mul (.t 14) (.c (.i .i64 9999))), none⟩, ⟨(some 16), (.bin .quo (.t 15) (.c (.i .i64 262142))), none⟩, ⟨(some 17), (.bin .add (.c (.i .i64 1)) (.t 16)), none⟩, ⟨(some 2), (.asg (.t 17)), none⟩])
 .ret)))))))))⟩
theorem x6_ok : isF Tryd.prog (fun _ => false) Tryd.f6 x6 := ⟨by kernel_rfl, by kernel_rfl⟩

/-- berthing/knobs.With -/
def x7 : XF := ⟨31, [(.c 6 true 5)], (.seq (.reg [⟨(some 3), (.box 5 (.t 0) false), none⟩, ⟨(some 6), (.alloc [(.i .i64 0), (.i .i64 0), (.i .i64 0), (.i .i64 0), (.i .i64 0)] false), none⟩])
 (.kp [1, 2, 3, 6] [3, 6] (.seq (.seq (.reg [⟨(some 8), (.mv (.t 1)), none⟩, ⟨(some 9), (.bin .lss (.t 8) (.c (.i .i64 0))), none⟩, ⟨(some 10), (.mv (.t 9)), none⟩, ⟨(some 11), (.mv (.t 1)), (some (10, false))⟩, ⟨(some 12), (.bin .gtr (.t 11) (.c (.i .i64 4))), (some (10, false))⟩, ⟨(some 13), (.pick (.t 10) (.c (.b true)) (.t 12)), none⟩])
 (.kp [1, 2, 3, 6, 13] [3, 6] (.cond (.t 13) (.seq (.reg [⟨(some 14), (.load true 5 (.t 3)), none⟩, ⟨none, (.store 5 (.t 6) (.t 14)), none⟩])
 .ret)
  .skip)))
 (.kp [1, 2, 3, 6] [3, 6] (.seq (.reg [⟨(some 15), (.load true 5 (.t 3)), none⟩, ⟨(some 16), (.call (.f 14) [(.t 15)]), none⟩, ⟨(some 7), (.alloc [(.i .i64 0), (.i .i64 0), (.i .i64 0), (.i .i64 0), (.i .i64 0)] false), none⟩, ⟨none, (.store 5 (.t 7) (.t 16)), none⟩])
 (.kp [1, 2, 6, 7] [6, 7] (.seq (.reg [⟨(some 17), (.mv (.t 1)), none⟩, ⟨(some 18), (.mv (.t 2)), none⟩, ⟨(some 19), (.iad (some 5) 1 (.t 7) (.t 17)), none⟩, ⟨none, (.store 1 (.t 19) (.t 18)), none⟩])
 (.kp [6, 7] [6, 7] (.seq (.reg [⟨(some 20), (.iad (some 5) 1 (.t 7) (.c (.i .i64 0))), none⟩, ⟨(some 21), (.load false 1 (.t 20)), none⟩, ⟨(some 22), (.iad (some 5) 1 (.t 7) (.c (.i .i64 1))), none⟩, ⟨(some 23), (.load false 1 (.t 22)), none⟩, ⟨(some 24), (.iad (some 5) 1 (.t 7) (.c (.i .i64 2))), none⟩, ⟨(some 25), (.load false 1 (.t 24)), none⟩, ⟨(some 26), (.iad (some 5) 1 (.t 7) (.c (.i .i64 3))), none⟩, ⟨(some 27), (.load false 1 (.t 26)), none⟩, ⟨(some 28), (.iad (some 5) 1 (.t 7) (.c (.i .i64 4))), none⟩, ⟨(some 29), (.load false 1 (.t 28)), none⟩, ⟨(some 30), (.build [(.i .i64 0), (.i .i64 0), (.i .i64 0), (.i .i64 0), (.i .i64 0)] [(0, (1, (.t 21))), (1, (1, (.t 23))), (2, (1, (.t 25))), (3, (1, (.t 27))), (4, (1, (.t 29)))]), none⟩, ⟨none, (.store 5 (.t 6) (.t 30)), none⟩])
 .ret)))))))))⟩
theorem x7_ok : isF Tryd.prog (fun _ => false) Tryd.f7 x7 := ⟨by kernel_rfl, by kernel_rfl⟩

/-- berthing/knobs.At -/
def x8 : XF := ⟨15, [(.t 4)], (.seq (.reg [⟨(some 2), (.box 5 (.t 0) false), none⟩, ⟨(some 4), (.asg (.c (.i .i64 0))), none⟩])
 (.kp [1, 2] [2] (.seq (.seq (.reg [⟨(some 5), (.mv (.t 1)), none⟩, ⟨(some 6), (.bin .lss (.t 5) (.c (.i .i64 0))), none⟩, ⟨(some 7), (.mv (.t 6)), none⟩, ⟨(some 8), (.mv (.t 1)), (some (7, false))⟩, ⟨(some 9), (.bin .gtr (.t 8) (.c (.i .i64 4))), (some (7, false))⟩, ⟨(some 10), (.pick (.t 7) (.c (.b true)) (.t 9)), none⟩])
 (.kp [1, 2, 10] [2] (.cond (.t 10) (.seq (.reg [⟨(some 4), (.asg (.c (.i .i64 0))), none⟩])
 .ret)
  .skip)))
 (.kp [1, 2] [2] (.seq (.reg [⟨(some 11), (.load true 5 (.t 2)), none⟩, ⟨(some 12), (.call (.f 14) [(.t 11)]), none⟩, ⟨(some 13), (.mv (.t 1)), none⟩, ⟨(some 14), (.idx false 5 1 (.t 12) (.t 13)), none⟩, ⟨(some 4), (.asg (.t 14)), none⟩])
 .ret)))))⟩
theorem x8_ok : isF Tryd.prog (fun _ => false) Tryd.f8 x8 := ⟨by kernel_rfl, by kernel_rfl⟩

/-- berthing/knobs.Container -/
def x9 : XF := ⟨26, [(.c 2 true 5)], (.seq (.reg [⟨(some 1), (.box 10 (.t 0) false), none⟩, ⟨(some 2), (.alloc [(.i .i64 0), (.i .i64 0), (.i .i64 0), (.i .i64 0), (.i .i64 0)] false), none⟩])
 (.kp [1, 2] [1, 2] (.seq (.seq (.reg [⟨(some 3), (.load true 10 (.t 1)), none⟩, ⟨(some 4), (.call (.f 15) [(.t 3)]), none⟩, ⟨(some 5), (.un .not (.t 4)), none⟩])
 (.kp [1, 2, 5] [1, 2] (.cond (.t 5) (.seq (.reg [⟨(some 6), (.build [(.i .i64 0), (.i .i64 0), (.i .i64 0), (.i .i64 0), (.i .i64 0)] []), none⟩, ⟨none, (.store 5 (.t 2) (.t 6)), none⟩])
 .ret)
  .skip)))
 (.kp [1, 2] [1, 2] (.seq (.draw [[], [], [], [], [0, 1, 2, 3], [0, 1, 2, 3], [0, 1, 2, 3], [], [0, 1, 2, 3, 4, 5, 6, 7], [0, 1, 2, 3, 4, 5, 6, 7], [0, 1, 2, 3, 4, 5, 6, 7], [0, 1, 2, 3, 4, 5, 6, 7, 8, 9, 10], [0, 1, 2, 3, 4, 5, 6, 7, 8, 9, 10], [0, 1, 2, 3, 4, 5, 6, 7, 8, 9, 10], [8, 9, 10], [0, 1, 2, 3, 4, 5, 6, 7, 8, 9, 10, 11, 12, 13, 14], [0, 1, 2, 3, 4, 5, 6, 7, 8, 9, 10, 11, 12, 13, 14], [0, 1, 2, 3, 4, 5, 6, 7, 8, 9, 10, 11, 12, 13, 14], [], []] [⟨(some 7), (.fad 4 (.t 1)), none⟩, ⟨(some 8), (.fad 0 (.t 7)), none⟩, ⟨(some 9), (.load false 1 (.t 8)), none⟩, ⟨(some 10), (.call (.f 16) [(.t 9)]), none⟩, ⟨(some 11), (.fad 1 (.t 1)), none⟩, ⟨(some 12), (.fad 0 (.t 11)), none⟩, ⟨(some 13), (.load false 1 (.t 12)), none⟩, ⟨(some 14), (.call (.f 6) [(.t 13)]), none⟩, ⟨(some 15), (.fad 1 (.t 1)), none⟩, ⟨(some 16), (.fad 1 (.t 15)), none⟩, ⟨(some 17), (.load false 1 (.t 16)), none⟩, ⟨(some 18), (.fad 4 (.t 1)), none⟩, ⟨(some 19), (.fad 1 (.t 18)), none⟩, ⟨(some 20), (.load false 1 (.t 19)), none⟩, ⟨(some 21), (.call (.f 16) [(.t 20)]), none⟩, ⟨(some 22), (.fad 4 (.t 1)), none⟩, ⟨(some 23), (.fad 2 (.t 22)), none⟩, ⟨(some 24), (.load false 1 (.t 23)), none⟩, ⟨(some 25), (.build [(.i .i64 0), (.i .i64 0), (.i .i64 0), (.i .i64 0), (.i .i64 0)] [(0, (1, (.t 10))), (1, (1, (.t 14))), (2, (1, (.t 17))), (3, (1, (.t 21))), (4, (1, (.t 24)))]), none⟩, ⟨none, (.store 5 (.t 2) (.t 25)), none⟩])
 .ret)))))⟩
theorem x9_ok : isF Tryd.prog (fun _ => false) Tryd.f9 x9 := ⟨by kernel_rfl, by kernel_rfl⟩

def x10_0 : XC := (.kp [1, 2, 9] [1, 2] (.cond (.t 9) (.seq (.reg [⟨(some 10), (.build [(.i .i64 0), (.i .i64 0), (.i .i64 0), (.i .i64 0), (.i .i64 0)] []), none⟩, ⟨none, (.store 5 (.t 2) (.t 10)), none⟩])
 .ret)
  .skip))
def x10_1 : XC := (.kp [1, 2, 3, 6, 12, 13, 14] [1, 2, 3, 6] (.reg [⟨(some 38), (.fad 4 (.t 3)), none⟩, ⟨(some 39), (.load false 1 (.t 38)), none⟩, ⟨(some 40), (.fad 4 (.t 6)), none⟩, ⟨(some 41), (.load false 1 (.t 40)), none⟩, ⟨(some 42), (.bin .add (.t 39) (.t 41)), none⟩, ⟨(some 43), (.fad 4 (.t 3)), none⟩, ⟨none, (.store 1 (.t 43) (.t 42)), none⟩]))
def x10_2 : XC := (.kp [1, 2, 3, 6, 12, 13, 14] [1, 2, 3, 6] (.seq (.reg [⟨(some 32), (.fad 2 (.t 3)), none⟩, ⟨(some 33), (.load false 1 (.t 32)), none⟩, ⟨(some 34), (.fad 2 (.t 6)), none⟩, ⟨(some 35), (.load false 1 (.t 34)), none⟩, ⟨(some 36), (.bin .add (.t 33) (.t 35)), none⟩, ⟨(some 37), (.fad 2 (.t 3)), none⟩, ⟨none, (.store 1 (.t 37) (.t 36)), none⟩])
 x10_1))
def x10_3 : XC := (.kp [1, 2, 3, 6, 12, 13, 14] [1, 2, 3, 6] (.seq (.draw [[], [], [0, 1], [0, 1], [], [0, 1, 2, 3, 4], [0, 1, 2, 3, 4], [0, 1, 2, 3, 4, 5, 6], [0, 1, 2, 3, 4, 5, 6], [], [7, 8, 9], [], [], []] [⟨(some 20), (.fad 0 (.t 3)), none⟩, ⟨(some 21), (.load false 1 (.t 20)), none⟩, ⟨(some 22), (.fad 0 (.t 6)), none⟩, ⟨(some 23), (.load false 1 (.t 22)), none⟩, ⟨(some 24), (.call (.f 18) [(.t 21), (.t 23)]), none⟩, ⟨(some 25), (.fad 3 (.t 3)), none⟩, ⟨(some 26), (.load false 1 (.t 25)), none⟩, ⟨(some 27), (.fad 3 (.t 6)), none⟩, ⟨(some 28), (.load false 1 (.t 27)), none⟩, ⟨(some 29), (.call (.f 18) [(.t 26), (.t 28)]), none⟩, ⟨(some 30), (.fad 0 (.t 3)), none⟩, ⟨none, (.store 1 (.t 30) (.t 24)), none⟩, ⟨(some 31), (.fad 3 (.t 3)), none⟩, ⟨none, (.store 1 (.t 31) (.t 29)), none⟩])
 x10_2))
def x10_4 : XC := (.kp [1, 2, 3, 5, 12, 13, 14] [1, 2, 3, 5] (.seq (.reg [⟨(some 18), (.load true 10 (.t 5)), none⟩, ⟨(some 19), (.call (.f 9) [(.t 18)]), none⟩, ⟨(some 6), (.alloc [(.i .i64 0), (.i .i64 0), (.i .i64 0), (.i .i64 0), (.i .i64 0)] false), none⟩, ⟨none, (.store 5 (.t 6) (.t 19)), none⟩])
 x10_3))
def x10_5 : XC := (.kp [1, 2, 3, 12, 13, 14] [1, 2, 3] (.seq (.block 1 (.seq (.reg [⟨(some 16), (.iad none 10 (.t 12) (.t 14)), none⟩, ⟨(some 17), (.load true 10 (.t 16)), none⟩, ⟨(some 5), (.alloc [(.s (bs [])), (.i .i64 0), (.i .i64 0), (.i .i64 0), (.i .i64 0), (.i .i64 0), (.i .i64 0), (.b false), (.b false), (.b false)] false), none⟩, ⟨none, (.store 10 (.t 5) (.t 17)), none⟩])
 x10_4))
 (.kp [1, 2, 3, 12, 13, 14] [1, 2, 3] (.reg [⟨(some 44), (.bin .add (.t 14) (.c (.i .i64 1))), none⟩, ⟨(some 14), (.mv (.t 44)), none⟩]))))
def x10_6 : XC := (.kp [1, 2, 3, 12, 13, 14] [1, 2, 3] (.block 0 (.loop [1, 2, 3, 12, 13, 14] [1, 2, 3] (.seq (.reg [⟨(some 15), (.bin .lss (.t 14) (.t 13)), none⟩])
 (.kp [1, 2, 3, 12, 13, 14, 15] [1, 2, 3] (.seq (.cond (.t 15) .skip
  (.exit 0))
 x10_5))))))
def x10_7 : XC := (.kp [1, 2, 3] [1, 2, 3] (.seq (.reg [⟨(some 45), (.load true 4 (.t 1)), none⟩, ⟨(some 46), (.call (.f 19) [(.t 45)]), none⟩, ⟨(some 47), (.fld false 0 1 (.t 46)), none⟩, ⟨(some 48), (.call (.f 6) [(.t 47)]), none⟩, ⟨(some 49), (.fad 1 (.t 3)), none⟩, ⟨none, (.store 1 (.t 49) (.t 48)), none⟩])
 (.kp [2, 3] [2, 3] (.seq (.reg [⟨(some 50), (.load true 5 (.t 3)), none⟩, ⟨none, (.store 5 (.t 2) (.t 50)), none⟩])
 .ret))))
def x10_8 : XC := (.kp [1, 2, 3] [1, 2, 3] (.seq (.seq (.reg [⟨(some 11), (.fad 3 (.t 1)), none⟩, ⟨(some 12), (.load false 1 (.t 11)), none⟩, ⟨(some 13), (.len 1 (.t 12)), none⟩, ⟨(some 14), (.mv (.c (.i .i64 0))), none⟩])
 x10_6)
 x10_7))
def x10_9 : XC := (.kp [1, 2] [1, 2] (.seq (.seq (.reg [⟨(some 7), (.load true 4 (.t 1)), none⟩, ⟨(some 8), (.call (.f 17) [(.t 7)]), none⟩, ⟨(some 9), (.un .not (.t 8)), none⟩])
 x10_0)
 (.kp [1, 2] [1, 2] (.seq (.reg [⟨(some 3), (.alloc [(.i .i64 0), (.i .i64 0), (.i .i64 0), (.i .i64 0), (.i .i64 0)] false), none⟩])
 x10_8))))
/-- berthing/knobs.Pod -/
def x10 : XF := ⟨51, [(.c 2 true 5)], (.seq (.reg [⟨(some 1), (.box 4 (.t 0) false), none⟩, ⟨(some 2), (.alloc [(.i .i64 0), (.i .i64 0), (.i .i64 0), (.i .i64 0), (.i .i64 0)] false), none⟩])
 x10_9)⟩
theorem x10_ok : isF Tryd.prog (fun _ => false) Tryd.f10 x10 := ⟨by kernel_rfl, by kernel_rfl⟩

/-- berthing/knobs.Text -/
def x11 : XF := ⟨24, [(.t 2)], (.seq (.reg [⟨(some 1), (.box 5 (.t 0) false), none⟩, ⟨(some 2), (.asg (.c (.s (bs [])))), none⟩])
 (.kp [1] [1] (.seq (.reg [⟨(some 3), (.asg (.c .nsl)), none⟩])
 (.kp [1, 3] [1] (.seq (.seq (.reg [⟨(some 6), (.load true 5 (.t 1)), none⟩, ⟨(some 7), (.call (.f 14) [(.t 6)]), none⟩, ⟨(some 8), (.mv (.c (.i .i64 0))), none⟩])
 (.kp [3, 7, 8] [] (.block 0 (.loop [3, 7, 8] [] (.seq (.reg [⟨(some 9), (.bin .lss (.t 8) (.c (.i .i64 5))), none⟩])
 (.kp [3, 7, 8, 9] [] (.seq (.cond (.t 9) .skip
  (.exit 0))
 (.kp [3, 7, 8] [] (.seq (.block 1 (.seq (.reg [⟨(some 10), (.idx false 5 1 (.t 7) (.t 8)), none⟩, ⟨(some 5), (.asg (.t 10)), none⟩])
 (.kp [3, 5, 7, 8] [] (.seq (.seq (.reg [⟨(some 11), (.mv (.t 5)), none⟩, ⟨(some 12), (.bin .eql (.t 11) (.c (.i .i64 4611686018427387904))), none⟩])
 (.kp [3, 5, 7, 8, 12] [] (.cond (.t 12) (.seq (.reg [⟨(some 13), (.mv (.t 3)), none⟩, ⟨(some 14), (.bsl (.s (bs [])) 1 [(0, (.c (.s (bs [109, 97, 120]))))]), none⟩, ⟨(some 15), (.app 1 16 (.t 13) (.t 14)), none⟩, ⟨(some 3), (.asg (.t 15)), none⟩])
 (.exit 1))
  .skip)))
 (.kp [3, 5, 7, 8] [] (.reg [⟨(some 16), (.mv (.t 3)), none⟩, ⟨(some 17), (.mv (.t 5)), none⟩, ⟨(some 18), (.call (.f 20) [(.t 17)]), none⟩, ⟨(some 19), (.bsl (.s (bs [])) 1 [(0, (.t 18))]), none⟩, ⟨(some 20), (.app 1 16 (.t 16) (.t 19)), none⟩, ⟨(some 3), (.asg (.t 20)), none⟩]))))))
 (.kp [3, 7, 8] [] (.reg [⟨(some 21), (.bin .add (.t 8) (.c (.i .i64 1))), none⟩, ⟨(some 8), (.mv (.t 21)), none⟩])))))))))))
 (.kp [3] [] (.seq (.reg [⟨(some 22), (.mv (.t 3)), none⟩, ⟨(some 23), (.call (.f 21) [(.t 22), (.c (.s (bs [32])))]), none⟩, ⟨(some 2), (.asg (.t 23)), none⟩])
 .ret)))))))⟩
theorem x11_ok : isF Tryd.prog (fun _ => false) Tryd.f11 x11 := ⟨by kernel_rfl, by kernel_rfl⟩

/-- berthing/knobs.Right -/
def x12 : XF := ⟨48, [(.t 2)], (.seq (.reg [⟨(some 1), (.box 5 (.t 0) false), none⟩, ⟨(some 2), (.asg (.c (.b false))), none⟩])
 (.kp [1] [1] (.seq (.reg [⟨(some 3), (.fad 0 (.t 1)), none⟩, ⟨(some 4), (.load false 1 (.t 3)), none⟩, ⟨(some 5), (.call (.f 22) [(.t 4)]), none⟩, ⟨(some 6), (.mv (.t 5)), none⟩, ⟨(some 7), (.fad 0 (.t 1)), (some (6, false))⟩, ⟨(some 8), (.load false 1 (.t 7)), (some (6, false))⟩, ⟨(some 9), (.bin .eql (.t 8) (.c (.i .i64 4611686018427387904))), (some (6, false))⟩, ⟨(some 10), (.pick (.t 6) (.c (.b true)) (.t 9)), none⟩, ⟨(some 11), (.mv (.t 10)), none⟩, ⟨(some 12), (.fad 3 (.t 1)), (some (11, true))⟩, ⟨(some 13), (.load false 1 (.t 12)), (some (11, true))⟩, ⟨(some 14), (.call (.f 22) [(.t 13)]), (some (11, true))⟩, ⟨(some 15), (.mv (.t 14)), (some (11, true))⟩, ⟨(some 16), (.fad 3 (.t 1)), (some (15, false))⟩, ⟨(some 17), (.load false 1 (.t 16)), (some (15, false))⟩, ⟨(some 18), (.bin .eql (.t 17) (.c (.i .i64 4611686018427387904))), (some (15, false))⟩, ⟨(some 19), (.pick (.t 15) (.c (.b true)) (.t 18)), (some (11, true))⟩, ⟨(some 20), (.pick (.t 11) (.t 19) (.c (.b false))), none⟩, ⟨(some 21), (.mv (.t 20)), none⟩, ⟨(some 22), (.fad 1 (.t 1)), (some (21, true))⟩, ⟨(some 23), (.load false 1 (.t 22)), (some (21, true))⟩, ⟨(some 24), (.bin .geq (.t 23) (.c (.i .i64 1))), (some (21, true))⟩, ⟨(some 25), (.pick (.t 21) (.t 24) (.c (.b false))), none⟩, ⟨(some 26), (.mv (.t 25)), none⟩, ⟨(some 27), (.fad 1 (.t 1)), (some (26, true))⟩, ⟨(some 28), (.load false 1 (.t 27)), (some (26, true))⟩, ⟨(some 29), (.bin .leq (.t 28) (.c (.i .i64 10000))), (some (26, true))⟩, ⟨(some 30), (.pick (.t 26) (.t 29) (.c (.b false))), none⟩, ⟨(some 31), (.mv (.t 30)), none⟩, ⟨(some 32), (.fad 2 (.t 1)), (some (31, true))⟩, ⟨(some 33), (.load false 1 (.t 32)), (some (31, true))⟩, ⟨(some 34), (.call (.f 22) [(.t 33)]), (some (31, true))⟩, ⟨(some 35), (.pick (.t 31) (.t 34) (.c (.b false))), none⟩, ⟨(some 36), (.mv (.t 35)), none⟩, ⟨(some 37), (.fad 4 (.t 1)), (some (36, true))⟩, ⟨(some 38), (.load false 1 (.t 37)), (some (36, true))⟩, ⟨(some 39), (.call (.f 22) [(.t 38)]), (some (36, true))⟩, ⟨(some 40), (.pick (.t 36) (.t 39) (.c (.b false))), none⟩, ⟨(some 41), (.mv (.t 40)), none⟩, ⟨(some 42), (.fad 2 (.t 1)), (some (41, true))⟩, ⟨(some 43), (.load false 1 (.t 42)), (some (41, true))⟩, ⟨(some 44), (.fad 3 (.t 1)), (some (41, true))⟩, ⟨(some 45), (.load false 1 (.t 44)), (some (41, true))⟩, ⟨(some 46), (.bin .leq (.t 43) (.t 45)), (some (41, true))⟩, ⟨(some 47), (.pick (.t 41) (.t 46) (.c (.b false))), none⟩, ⟨(some 2), (.asg (.t 47)), none⟩])
 .ret)))⟩
theorem x12_ok : isF Tryd.prog (fun _ => false) Tryd.f12 x12 := ⟨by kernel_rfl, by kernel_rfl⟩

/-- berthing/knobs.Root -/
def x13 : XF := ⟨2, [(.c 0 true 5)], (.seq (.reg [⟨(some 0), (.alloc [(.i .i64 0), (.i .i64 0), (.i .i64 0), (.i .i64 0), (.i .i64 0)] false), none⟩])
 (.kp [0] [0] (.seq (.reg [⟨(some 1), (.build [(.i .i64 0), (.i .i64 0), (.i .i64 0), (.i .i64 0), (.i .i64 0)] [(0, (1, (.c (.i .i64 4611686018427387904)))), (1, (1, (.c (.i .i64 100)))), (2, (1, (.c (.i .i64 4611686018427387904)))), (3, (1, (.c (.i .i64 4611686018427387904)))), (4, (1, (.c (.i .i64 4611686018427387904))))]), none⟩, ⟨none, (.store 5 (.t 0) (.t 1)), none⟩])
 .ret)))⟩
theorem x13_ok : isF Tryd.prog (fun _ => false) Tryd.f13 x13 := ⟨by kernel_rfl, by kernel_rfl⟩

/-- berthing/knobs.parts -/
def x14 : XF := ⟨14, [(.c 2 true 5)], (.seq (.reg [⟨(some 1), (.box 5 (.t 0) false), none⟩, ⟨(some 2), (.alloc [(.i .i64 0), (.i .i64 0), (.i .i64 0), (.i .i64 0), (.i .i64 0)] false), none⟩])
 (.kp [1, 2] [1, 2] (.seq (.reg [⟨(some 3), (.fad 0 (.t 1)), none⟩, ⟨(some 4), (.load false 1 (.t 3)), none⟩, ⟨(some 5), (.fad 1 (.t 1)), none⟩, ⟨(some 6), (.load false 1 (.t 5)), none⟩, ⟨(some 7), (.fad 2 (.t 1)), none⟩, ⟨(some 8), (.load false 1 (.t 7)), none⟩, ⟨(some 9), (.fad 3 (.t 1)), none⟩, ⟨(some 10), (.load false 1 (.t 9)), none⟩, ⟨(some 11), (.fad 4 (.t 1)), none⟩, ⟨(some 12), (.load false 1 (.t 11)), none⟩, ⟨(some 13), (.build [(.i .i64 0), (.i .i64 0), (.i .i64 0), (.i .i64 0), (.i .i64 0)] [(0, (1, (.t 4))), (1, (1, (.t 6))), (2, (1, (.t 8))), (3, (1, (.t 10))), (4, (1, (.t 12)))]), none⟩, ⟨none, (.store 5 (.t 2) (.t 13)), none⟩])
 .ret)))⟩
theorem x14_ok : isF Tryd.prog (fun _ => false) Tryd.f14 x14 := ⟨by kernel_rfl, by kernel_rfl⟩

/-- berthing/spec.Container -/
def x15 : XF := ⟨48, [(.t 2)], (.seq (.reg [⟨(some 1), (.box 10 (.t 0) false), none⟩, ⟨(some 2), (.asg (.c (.b false))), none⟩])
 (.kp [1] [1] (.seq (.seq (.reg [⟨(some 5), (.fad 0 (.t 1)), none⟩, ⟨(some 6), (.load false 1 (.t 5)), none⟩, ⟨(some 7), (.call (.f 23) [(.t 6)]), none⟩, ⟨(some 8), (.un .not (.t 7)), none⟩, ⟨(some 9), (.mv (.t 8)), none⟩, ⟨(some 10), (.fad 1 (.t 1)), (some (9, false))⟩, ⟨(some 11), (.load true 3 (.t 10)), (some (9, false))⟩, ⟨(some 12), (.call (.f 24) [(.t 11)]), (some (9, false))⟩, ⟨(some 13), (.un .not (.t 12)), (some (9, false))⟩, ⟨(some 14), (.pick (.t 9) (.c (.b true)) (.t 13)), none⟩, ⟨(some 15), (.mv (.t 14)), none⟩, ⟨(some 16), (.fad 4 (.t 1)), (some (15, false))⟩, ⟨(some 17), (.load true 3 (.t 16)), (some (15, false))⟩, ⟨(some 18), (.call (.f 24) [(.t 17)]), (some (15, false))⟩, ⟨(some 19), (.un .not (.t 18)), (some (15, false))⟩, ⟨(some 20), (.pick (.t 15) (.c (.b true)) (.t 19)), none⟩, ⟨(some 21), (.mv (.t 20)), none⟩, ⟨(some 22), (.fad 1 (.t 1)), (some (21, false))⟩, ⟨(some 23), (.fad 2 (.t 22)), (some (21, false))⟩, ⟨(some 24), (.load false 1 (.t 23)), (some (21, false))⟩, ⟨(some 25), (.fad 4 (.t 1)), (some (21, false))⟩, ⟨(some 26), (.fad 2 (.t 25)), (some (21, false))⟩, ⟨(some 27), (.load false 1 (.t 26)), (some (21, false))⟩, ⟨(some 28), (.bin .neq (.t 24) (.t 27)), (some (21, false))⟩, ⟨(some 29), (.pick (.t 21) (.c (.b true)) (.t 28)), none⟩])
 (.kp [1, 29] [1] (.cond (.t 29) (.seq (.reg [⟨(some 2), (.asg (.c (.b false))), none⟩])
 .ret)
  .skip)))
 (.kp [1] [1] (.seq (.seq (.reg [⟨(some 3), (.asg (.c (.i .i64 0))), none⟩])
 (.kp [1, 3] [1] (.block 0 (.loop [1, 3] [1] (.seq (.seq (.reg [⟨(some 30), (.mv (.t 3)), none⟩, ⟨(some 31), (.bin .leq (.t 30) (.c (.i .i64 1))), none⟩])
 (.kp [1, 3, 31] [1] (.cond (.t 31) .skip
  (.exit 0))))
 (.kp [1, 3] [1] (.seq (.block 1 (.seq (.reg [⟨(some 34), (.fad 4 (.t 1)), none⟩, ⟨(some 35), (.load true 3 (.t 34)), none⟩, ⟨(some 36), (.mv (.t 3)), none⟩, ⟨(some 37), (.call (.f 25) [(.t 35), (.t 36)]), none⟩, ⟨(some 4), (.asg (.t 37)), none⟩])
 (.kp [1, 3, 4] [1] (.seq (.reg [⟨(some 38), (.mv (.t 4)), none⟩, ⟨(some 39), (.bin .gtr (.t 38) (.c (.i .i64 0))), none⟩, ⟨(some 40), (.mv (.t 39)), none⟩, ⟨(some 41), (.mv (.t 4)), (some (40, true))⟩, ⟨(some 42), (.fad 1 (.t 1)), (some (40, true))⟩, ⟨(some 43), (.load true 3 (.t 42)), (some (40, true))⟩, ⟨(some 44), (.mv (.t 3)), (some (40, true))⟩, ⟨(some 45), (.call (.f 25) [(.t 43), (.t 44)]), (some (40, true))⟩, ⟨(some 46), (.bin .lss (.t 41) (.t 45)), (some (40, true))⟩, ⟨(some 47), (.pick (.t 40) (.t 46) (.c (.b false))), none⟩])
 (.kp [1, 3, 47] [1] (.cond (.t 47) (.seq (.reg [⟨(some 2), (.asg (.c (.b false))), none⟩])
 .ret)
  .skip))))))
 (.kp [1, 3] [1] (.reg [⟨(some 32), (.mv (.t 3)), none⟩, ⟨(some 33), (.bin .add (.t 32) (.c (.i .i64 1))), none⟩, ⟨(some 3), (.asg (.t 33)), none⟩])))))))))
 (.kp [] [] (.seq (.reg [⟨(some 2), (.asg (.c (.b true))), none⟩])
 .ret)))))))⟩
theorem x15_ok : isF Tryd.prog (fun _ => false) Tryd.f15 x15 := ⟨by kernel_rfl, by kernel_rfl⟩

/-- berthing/knobs.limit -/
def x16 : XF := ⟨6, [(.t 2)], (.seq (.reg [⟨(some 2), (.asg (.c (.i .i64 0))), none⟩])
 (.kp [0] [] (.seq (.seq (.reg [⟨(some 3), (.mv (.t 0)), none⟩, ⟨(some 4), (.bin .eql (.t 3) (.c (.i .i64 0))), none⟩])
 (.kp [0, 4] [] (.cond (.t 4) (.seq (.reg [⟨(some 2), (.asg (.c (.i .i64 4611686018427387904))), none⟩])
 .ret)
  .skip)))
 (.kp [0] [] (.seq (.reg [⟨(some 5), (.mv (.t 0)), none⟩, ⟨(some 2), (.asg (.t 5)), none⟩])
 .ret)))))⟩
theorem x16_ok : isF Tryd.prog (fun _ => false) Tryd.f16 x16 := ⟨by kernel_rfl, by kernel_rfl⟩

def x17_0 : XC := (.kp [1, 4, 5, 6, 47, 48, 49] [1, 5] (.seq (.reg [⟨(some 61), (.mv (.t 6)), none⟩, ⟨(some 62), (.mv (.t 4)), none⟩, ⟨(some 63), (.bin .neq (.t 61) (.t 62)), none⟩, ⟨(some 64), (.mv (.t 63)), none⟩, ⟨(some 65), (.load true 10 (.t 5)), (some (64, false))⟩, ⟨(some 66), (.call (.f 15) [(.t 65)]), (some (64, false))⟩, ⟨(some 67), (.un .not (.t 66)), (some (64, false))⟩, ⟨(some 68), (.pick (.t 64) (.c (.b true)) (.t 67)), none⟩])
 (.kp [1, 47, 48, 49, 68] [1] (.cond (.t 68) (.seq (.reg [⟨(some 2), (.asg (.c (.b false))), none⟩])
 .ret)
  .skip))))
def x17_1 : XC := (.kp [1, 4, 5, 47, 48, 49] [1, 5] (.seq (.reg [⟨(some 55), (.load true 4 (.t 1)), none⟩, ⟨(some 56), (.fad 0 (.t 5)), none⟩, ⟨(some 57), (.load false 1 (.t 56)), none⟩, ⟨(some 58), (.call (.f 26) [(.t 55), (.t 57)]), none⟩, ⟨(some 54), (.mv (.t 58)), none⟩, ⟨(some 59), (.ext (.t 54) 0), none⟩, ⟨(some 60), (.ext (.t 54) 1), none⟩, ⟨(some 6), (.asg (.t 59)), none⟩, ⟨(some 7), (.asg (.t 60)), none⟩])
 x17_0))
def x17_2 : XC := (.kp [1, 47, 48, 49] [1] (.seq (.block 1 (.seq (.reg [⟨(some 51), (.mv (.t 49)), none⟩, ⟨(some 52), (.iad none 10 (.t 47) (.t 49)), none⟩, ⟨(some 53), (.load true 10 (.t 52)), none⟩, ⟨(some 5), (.alloc [(.s (bs [])), (.i .i64 0), (.i .i64 0), (.i .i64 0), (.i .i64 0), (.i .i64 0), (.i .i64 0), (.b false), (.b false), (.b false)] false), none⟩, ⟨(some 4), (.asg (.t 51)), none⟩, ⟨none, (.store 10 (.t 5) (.t 53)), none⟩])
 x17_1))
 (.kp [1, 47, 48, 49] [1] (.reg [⟨(some 69), (.bin .add (.t 49) (.c (.i .i64 1))), none⟩, ⟨(some 49), (.mv (.t 69)), none⟩]))))
def x17_3 : XC := (.kp [1, 47, 48, 49] [1] (.block 0 (.loop [1, 47, 48, 49] [1] (.seq (.reg [⟨(some 50), (.bin .lss (.t 49) (.t 48)), none⟩])
 (.kp [1, 47, 48, 49, 50] [1] (.seq (.cond (.t 50) .skip
  (.exit 0))
 x17_2))))))
def x17_4 : XC := (.kp [1] [1] (.seq (.reg [⟨(some 71), (.load true 4 (.t 1)), none⟩, ⟨(some 72), (.call (.f 27) [(.t 71)]), none⟩, ⟨(some 70), (.mv (.t 72)), none⟩, ⟨(some 73), (.ext (.t 70) 0), none⟩, ⟨(some 74), (.ext (.t 70) 1), none⟩, ⟨(some 75), (.ext (.t 70) 2), none⟩, ⟨(some 8), (.alloc [(.i .i64 0), (.i .i64 0), (.i .i64 0)] false), none⟩, ⟨(some 9), (.alloc [(.i .i64 0), (.i .i64 0), (.i .i64 0)] false), none⟩, ⟨none, (.store 3 (.t 8) (.t 73)), none⟩, ⟨none, (.store 3 (.t 9) (.t 74)), none⟩, ⟨(some 10), (.asg (.t 75)), none⟩])
 (.kp [10] [] (.seq (.reg [⟨(some 76), (.mv (.t 10)), none⟩, ⟨(some 2), (.asg (.t 76)), none⟩])
 .ret))))
def x17_5 : XC := (.kp [1] [1] (.seq (.seq (.reg [⟨(some 46), (.fad 3 (.t 1)), none⟩, ⟨(some 47), (.load false 1 (.t 46)), none⟩, ⟨(some 48), (.len 1 (.t 47)), none⟩, ⟨(some 49), (.mv (.c (.i .i64 0))), none⟩])
 x17_3)
 x17_4))
def x17_6 : XC := (.kp [1, 3] [1] (.seq (.seq (.reg [⟨(some 14), (.fad 0 (.t 1)), none⟩, ⟨(some 15), (.load false 1 (.t 14)), none⟩, ⟨(some 16), (.call (.f 23) [(.t 15)]), none⟩, ⟨(some 17), (.un .not (.t 16)), none⟩, ⟨(some 18), (.mv (.t 17)), none⟩, ⟨(some 19), (.fad 1 (.t 1)), (some (18, false))⟩, ⟨(some 20), (.load false 1 (.t 19)), (some (18, false))⟩, ⟨(some 21), (.bin .lss (.t 20) (.c (.i .i64 (-1000)))), (some (18, false))⟩, ⟨(some 22), (.pick (.t 18) (.c (.b true)) (.t 21)), none⟩, ⟨(some 23), (.mv (.t 22)), none⟩, ⟨(some 24), (.fad 1 (.t 1)), (some (23, false))⟩, ⟨(some 25), (.load false 1 (.t 24)), (some (23, false))⟩, ⟨(some 26), (.bin .gtr (.t 25) (.c (.i .i64 1000))), (some (23, false))⟩, ⟨(some 27), (.pick (.t 23) (.c (.b true)) (.t 26)), none⟩, ⟨(some 28), (.mv (.t 27)), none⟩, ⟨(some 29), (.fad 2 (.t 1)), (some (28, false))⟩, ⟨(some 30), (.load false 1 (.t 29)), (some (28, false))⟩, ⟨(some 31), (.bin .lss (.t 30) (.c (.i .i64 0))), (some (28, false))⟩, ⟨(some 32), (.pick (.t 28) (.c (.b true)) (.t 31)), none⟩, ⟨(some 33), (.mv (.t 32)), none⟩, ⟨(some 34), (.fad 2 (.t 1)), (some (33, false))⟩, ⟨(some 35), (.load false 1 (.t 34)), (some (33, false))⟩, ⟨(some 36), (.bin .gtr (.t 35) (.c (.i .i64 2))), (some (33, false))⟩, ⟨(some 37), (.pick (.t 33) (.c (.b true)) (.t 36)), none⟩, ⟨(some 38), (.mv (.t 37)), none⟩, ⟨(some 39), (.mv (.t 3)), (some (38, false))⟩, ⟨(some 40), (.bin .lss (.t 39) (.c (.i .i64 1))), (some (38, false))⟩, ⟨(some 41), (.pick (.t 38) (.c (.b true)) (.t 40)), none⟩, ⟨(some 42), (.mv (.t 41)), none⟩, ⟨(some 43), (.mv (.t 3)), (some (42, false))⟩, ⟨(some 44), (.bin .gtr (.t 43) (.c (.i .i64 6))), (some (42, false))⟩, ⟨(some 45), (.pick (.t 42) (.c (.b true)) (.t 44)), none⟩])
 (.kp [1, 45] [1] (.cond (.t 45) (.seq (.reg [⟨(some 2), (.asg (.c (.b false))), none⟩])
 .ret)
  .skip)))
 x17_5))
/-- berthing/spec.Pod -/
def x17 : XF := ⟨77, [(.t 2)], (.seq (.reg [⟨(some 1), (.box 4 (.t 0) false), none⟩, ⟨(some 2), (.asg (.c (.b false))), none⟩])
 (.kp [1] [1] (.seq (.reg [⟨(some 11), (.fad 3 (.t 1)), none⟩, ⟨(some 12), (.load false 1 (.t 11)), none⟩, ⟨(some 13), (.len 1 (.t 12)), none⟩, ⟨(some 3), (.asg (.t 13)), none⟩])
 x17_6)))⟩
theorem x17_ok : isF Tryd.prog (fun _ => false) Tryd.f17 x17 := ⟨by kernel_rfl, by kernel_rfl⟩

/-- berthing/knobs.both -/
def x18 : XF := ⟨14, [(.t 4)], (.seq (.reg [⟨(some 4), (.asg (.c (.i .i64 0))), none⟩])
 (.kp [0, 1] [] (.seq (.seq (.reg [⟨(some 5), (.mv (.t 0)), none⟩, ⟨(some 6), (.bin .eql (.t 5) (.c (.i .i64 4611686018427387904))), none⟩, ⟨(some 7), (.mv (.t 6)), none⟩, ⟨(some 8), (.mv (.t 1)), (some (7, false))⟩, ⟨(some 9), (.bin .eql (.t 8) (.c (.i .i64 4611686018427387904))), (some (7, false))⟩, ⟨(some 10), (.pick (.t 7) (.c (.b true)) (.t 9)), none⟩])
 (.kp [0, 1, 10] [] (.cond (.t 10) (.seq (.reg [⟨(some 4), (.asg (.c (.i .i64 4611686018427387904))), none⟩])
 .ret)
  .skip)))
 (.kp [0, 1] [] (.seq (.reg [⟨(some 11), (.mv (.t 0)), none⟩, ⟨(some 12), (.mv (.t 1)), none⟩, ⟨(some 13), (.bin .add (.t 11) (.t 12)), none⟩, ⟨(some 4), (.asg (.t 13)), none⟩])
 .ret)))))⟩
theorem x18_ok : isF Tryd.prog (fun _ => false) Tryd.f18 x18 := ⟨by kernel_rfl, by kernel_rfl⟩

/-- berthing/spec.Requests -/
def x19 : XF := ⟨27, [(.c 2 true 3)], (.seq (.reg [⟨(some 1), (.box 4 (.t 0) false), none⟩, ⟨(some 2), (.alloc [(.i .i64 0), (.i .i64 0), (.i .i64 0)] false), none⟩])
 (.kp [1, 2] [1, 2] (.seq (.reg [⟨(some 3), (.asg (.c .nsl)), none⟩])
 (.kp [1, 2, 3] [1, 2] (.seq (.seq (.reg [⟨(some 8), (.fad 3 (.t 1)), none⟩, ⟨(some 9), (.load false 1 (.t 8)), none⟩, ⟨(some 10), (.len 1 (.t 9)), none⟩, ⟨(some 11), (.mv (.c (.i .i64 0))), none⟩])
 (.kp [2, 3, 9, 10, 11] [2] (.block 0 (.loop [2, 3, 9, 10, 11] [2] (.seq (.reg [⟨(some 12), (.bin .lss (.t 11) (.t 10)), none⟩])
 (.kp [2, 3, 9, 10, 11, 12] [2] (.seq (.cond (.t 12) .skip
  (.exit 0))
 (.kp [2, 3, 9, 10, 11] [2] (.seq (.block 1 (.seq (.reg [⟨(some 13), (.iad none 10 (.t 9) (.t 11)), none⟩, ⟨(some 14), (.load true 10 (.t 13)), none⟩, ⟨(some 5), (.alloc [(.s (bs [])), (.i .i64 0), (.i .i64 0), (.i .i64 0), (.i .i64 0), (.i .i64 0), (.i .i64 0), (.b false), (.b false), (.b false)] false), none⟩, ⟨none, (.store 10 (.t 5) (.t 14)), none⟩])
 (.kp [2, 3, 5, 9, 10, 11] [2, 5] (.reg [⟨(some 15), (.mv (.t 3)), none⟩, ⟨(some 16), (.fad 1 (.t 5)), none⟩, ⟨(some 17), (.load true 3 (.t 16)), none⟩, ⟨(some 18), (.bsl (.agg [(.i .i64 0), (.i .i64 0), (.i .i64 0)]) 1 [(0, (.t 17))]), none⟩, ⟨(some 19), (.app 3 24 (.t 15) (.t 18)), none⟩, ⟨(some 3), (.asg (.t 19)), none⟩]))))
 (.kp [2, 3, 9, 10, 11] [2] (.reg [⟨(some 20), (.bin .add (.t 11) (.c (.i .i64 1))), none⟩, ⟨(some 11), (.mv (.t 20)), none⟩])))))))))))
 (.kp [2, 3] [2] (.seq (.reg [⟨(some 22), (.mv (.t 3)), none⟩, ⟨(some 23), (.call (.f 28) [(.t 22)]), none⟩, ⟨(some 21), (.mv (.t 23)), none⟩, ⟨(some 24), (.ext (.t 21) 0), none⟩, ⟨(some 25), (.ext (.t 21) 1), none⟩, ⟨(some 6), (.alloc [(.i .i64 0), (.i .i64 0), (.i .i64 0)] false), none⟩, ⟨none, (.store 3 (.t 6) (.t 24)), none⟩, ⟨(some 7), (.asg (.t 25)), none⟩])
 (.kp [2, 6] [2, 6] (.seq (.reg [⟨(some 26), (.load true 3 (.t 6)), none⟩, ⟨none, (.store 3 (.t 2) (.t 26)), none⟩])
 .ret)))))))))⟩
theorem x19_ok : isF Tryd.prog (fun _ => false) Tryd.f19 x19 := ⟨by kernel_rfl, by kernel_rfl⟩

/-- berthing/knobs.sum -/
def x22 : XF := ⟨9, [(.t 2)], (.seq (.reg [⟨(some 2), (.asg (.c (.b false))), none⟩])
 (.kp [0] [] (.seq (.reg [⟨(some 3), (.mv (.t 0)), none⟩, ⟨(some 4), (.bin .geq (.t 3) (.c (.i .i64 0))), none⟩, ⟨(some 5), (.mv (.t 4)), none⟩, ⟨(some 6), (.mv (.t 0)), (some (5, true))⟩, ⟨(some 7), (.bin .leq (.t 6) (.c (.i .i64 9007199254740992))), (some (5, true))⟩, ⟨(some 8), (.pick (.t 5) (.t 7) (.c (.b false))), none⟩, ⟨(some 2), (.asg (.t 8)), none⟩])
 .ret)))⟩
theorem x22_ok : isF Tryd.prog (fun _ => false) Tryd.f22 x22 := ⟨by kernel_rfl, by kernel_rfl⟩

def x23_0 : XC := (.kp [0, 4, 27, 28] [] (.seq (.reg [⟨(some 34), (.mv (.t 4)), none⟩, ⟨(some 35), (.bin .lss (.t 34) (.c (.i .u8 97))), none⟩, ⟨(some 36), (.mv (.t 35)), none⟩, ⟨(some 37), (.mv (.t 4)), (some (36, false))⟩, ⟨(some 38), (.bin .gtr (.t 37) (.c (.i .u8 122))), (some (36, false))⟩, ⟨(some 39), (.pick (.t 36) (.c (.b true)) (.t 38)), none⟩, ⟨(some 40), (.mv (.t 39)), none⟩, ⟨(some 41), (.mv (.t 4)), (some (40, true))⟩, ⟨(some 42), (.bin .lss (.t 41) (.c (.i .u8 48))), (some (40, true))⟩, ⟨(some 43), (.mv (.t 42)), (some (40, true))⟩, ⟨(some 44), (.mv (.t 4)), (some (43, false))⟩, ⟨(some 45), (.bin .gtr (.t 44) (.c (.i .u8 57))), (some (43, false))⟩, ⟨(some 46), (.pick (.t 43) (.c (.b true)) (.t 45)), (some (40, true))⟩, ⟨(some 47), (.pick (.t 40) (.t 46) (.c (.b false))), none⟩, ⟨(some 48), (.mv (.t 47)), none⟩, ⟨(some 49), (.mv (.t 4)), (some (48, true))⟩, ⟨(some 50), (.bin .neq (.t 49) (.c (.i .u8 45))), (some (48, true))⟩, ⟨(some 51), (.pick (.t 48) (.t 50) (.c (.b false))), none⟩])
 (.kp [0, 27, 28, 51] [] (.cond (.t 51) (.seq (.reg [⟨(some 2), (.asg (.c (.b false))), none⟩])
 .ret)
  .skip))))
def x23_1 : XC := (.kp [0, 27, 28] [] (.seq (.block 1 (.seq (.reg [⟨(some 30), (.mv (.t 28)), none⟩, ⟨(some 3), (.asg (.t 30)), none⟩])
 (.kp [0, 3, 27, 28] [] (.seq (.reg [⟨(some 31), (.mv (.t 0)), none⟩, ⟨(some 32), (.mv (.t 3)), none⟩, ⟨(some 33), (.idxs (.t 31) (.t 32)), none⟩, ⟨(some 4), (.asg (.t 33)), none⟩])
 x23_0))))
 (.kp [0, 27, 28] [] (.reg [⟨(some 52), (.bin .add (.t 28) (.c (.i .i64 1))), none⟩, ⟨(some 28), (.mv (.t 52)), none⟩]))))
def x23_2 : XC := (.kp [0] [] (.seq (.seq (.reg [⟨(some 26), (.mv (.t 0)), none⟩, ⟨(some 27), (.len 0 (.t 26)), none⟩, ⟨(some 28), (.mv (.c (.i .i64 0))), none⟩])
 (.kp [0, 27, 28] [] (.block 0 (.loop [0, 27, 28] [] (.seq (.reg [⟨(some 29), (.bin .lss (.t 28) (.t 27)), none⟩])
 (.kp [0, 27, 28, 29] [] (.seq (.cond (.t 29) .skip
  (.exit 0))
 x23_1)))))))
 (.kp [] [] (.seq (.reg [⟨(some 2), (.asg (.c (.b true))), none⟩])
 .ret))))
def x23_3 : XC := (.kp [0] [] (.seq (.seq (.reg [⟨(some 5), (.mv (.t 0)), none⟩, ⟨(some 6), (.len 0 (.t 5)), none⟩, ⟨(some 7), (.bin .lss (.t 6) (.c (.i .i64 1))), none⟩, ⟨(some 8), (.mv (.t 7)), none⟩, ⟨(some 9), (.mv (.t 0)), (some (8, false))⟩, ⟨(some 10), (.len 0 (.t 9)), (some (8, false))⟩, ⟨(some 11), (.bin .gtr (.t 10) (.c (.i .i64 16))), (some (8, false))⟩, ⟨(some 12), (.pick (.t 8) (.c (.b true)) (.t 11)), none⟩, ⟨(some 13), (.mv (.t 12)), none⟩, ⟨(some 14), (.mv (.t 0)), (some (13, false))⟩, ⟨(some 15), (.idxs (.t 14) (.c (.i .i64 0))), (some (13, false))⟩, ⟨(some 16), (.bin .eql (.t 15) (.c (.i .u8 45))), (some (13, false))⟩, ⟨(some 17), (.pick (.t 13) (.c (.b true)) (.t 16)), none⟩, ⟨(some 18), (.mv (.t 17)), none⟩, ⟨(some 19), (.mv (.t 0)), (some (18, false))⟩, ⟨(some 20), (.mv (.t 0)), (some (18, false))⟩, ⟨(some 21), (.len 0 (.t 20)), (some (18, false))⟩, ⟨(some 22), (.bin .sub (.t 21) (.c (.i .i64 1))), (some (18, false))⟩, ⟨(some 23), (.idxs (.t 19) (.t 22)), (some (18, false))⟩, ⟨(some 24), (.bin .eql (.t 23) (.c (.i .u8 45))), (some (18, false))⟩, ⟨(some 25), (.pick (.t 18) (.c (.b true)) (.t 24)), none⟩])
 (.kp [0, 25] [] (.cond (.t 25) (.seq (.reg [⟨(some 2), (.asg (.c (.b false))), none⟩])
 .ret)
  .skip)))
 x23_2))
/-- berthing/spec.Name -/
def x23 : XF := ⟨53, [(.t 2)], (.seq (.reg [⟨(some 2), (.asg (.c (.b false))), none⟩])
 x23_3)⟩
theorem x23_ok : isF Tryd.prog (fun _ => false) Tryd.f23 x23 := ⟨by kernel_rfl, by kernel_rfl⟩

/-- berthing/vector.Right -/
def x24 : XF := ⟨20, [(.t 2)], (.seq (.reg [⟨(some 1), (.box 3 (.t 0) false), none⟩, ⟨(some 2), (.asg (.c (.b false))), none⟩])
 (.kp [1] [1] (.seq (.seq (.reg [⟨(some 5), (.load true 3 (.t 1)), none⟩, ⟨(some 6), (.call (.f 33) [(.t 5)]), none⟩, ⟨(some 7), (.mv (.c (.i .i64 0))), none⟩])
 (.kp [1, 6, 7] [1] (.block 0 (.loop [1, 6, 7] [1] (.seq (.reg [⟨(some 8), (.bin .lss (.t 7) (.c (.i .i64 3))), none⟩])
 (.kp [1, 6, 7, 8] [1] (.seq (.cond (.t 8) .skip
  (.exit 0))
 (.kp [1, 6, 7] [1] (.seq (.block 1 (.seq (.reg [⟨(some 9), (.mv (.t 7)), none⟩, ⟨(some 10), (.idx false 3 1 (.t 6) (.t 7)), none⟩, ⟨(some 3), (.asg (.t 9)), none⟩, ⟨(some 4), (.asg (.t 10)), none⟩])
 (.kp [1, 3, 4, 6, 7] [1] (.seq (.reg [⟨(some 11), (.mv (.t 3)), none⟩, ⟨(some 12), (.mv (.t 4)), none⟩, ⟨(some 13), (.call (.f 34) [(.t 11), (.t 12)]), none⟩, ⟨(some 14), (.un .not (.t 13)), none⟩])
 (.kp [1, 6, 7, 14] [1] (.cond (.t 14) (.seq (.reg [⟨(some 2), (.asg (.c (.b false))), none⟩])
 .ret)
  .skip))))))
 (.kp [1, 6, 7] [1] (.reg [⟨(some 15), (.bin .add (.t 7) (.c (.i .i64 1))), none⟩, ⟨(some 7), (.mv (.t 15)), none⟩])))))))))))
 (.kp [1] [1] (.seq (.reg [⟨(some 16), (.fad 2 (.t 1)), none⟩, ⟨(some 17), (.load false 1 (.t 16)), none⟩, ⟨(some 18), (.bin .and (.t 17) (.c (.i .i64 2097151))), none⟩, ⟨(some 19), (.bin .eql (.t 18) (.c (.i .i64 0))), none⟩, ⟨(some 2), (.asg (.t 19)), none⟩])
 .ret)))))⟩
theorem x24_ok : isF Tryd.prog (fun _ => false) Tryd.f24 x24 := ⟨by kernel_rfl, by kernel_rfl⟩

/-- berthing/vector.At -/
def x25 : XF := ⟨15, [(.t 4)], (.seq (.reg [⟨(some 2), (.box 3 (.t 0) false), none⟩, ⟨(some 4), (.asg (.c (.i .i64 0))), none⟩])
 (.kp [1, 2] [2] (.seq (.seq (.reg [⟨(some 5), (.mv (.t 1)), none⟩, ⟨(some 6), (.bin .lss (.t 5) (.c (.i .i64 0))), none⟩, ⟨(some 7), (.mv (.t 6)), none⟩, ⟨(some 8), (.mv (.t 1)), (some (7, false))⟩, ⟨(some 9), (.bin .gtr (.t 8) (.c (.i .i64 2))), (some (7, false))⟩, ⟨(some 10), (.pick (.t 7) (.c (.b true)) (.t 9)), none⟩])
 (.kp [1, 2, 10] [2] (.cond (.t 10) (.seq (.reg [⟨(some 4), (.asg (.c (.i .i64 0))), none⟩])
 .ret)
  .skip)))
 (.kp [1, 2] [2] (.seq (.reg [⟨(some 11), (.load true 3 (.t 2)), none⟩, ⟨(some 12), (.call (.f 33) [(.t 11)]), none⟩, ⟨(some 13), (.mv (.t 1)), none⟩, ⟨(some 14), (.idx false 3 1 (.t 12) (.t 13)), none⟩, ⟨(some 4), (.asg (.t 14)), none⟩])
 .ret)))))⟩
theorem x25_ok : isF Tryd.prog (fun _ => false) Tryd.f25 x25 := ⟨by kernel_rfl, by kernel_rfl⟩

/-- berthing/spec.Find -/
def x26 : XF := ⟨15, [(.t 4), (.t 5)], (.seq (.reg [⟨(some 2), (.box 4 (.t 0) false), none⟩, ⟨(some 3), (.box 1 (.t 1) false), none⟩, ⟨(some 4), (.asg (.c (.i .i64 0))), none⟩, ⟨(some 5), (.asg (.c (.b false))), none⟩])
 (.kp [2, 3] [2, 3] (.seq (.reg [⟨(some 7), (.fad 3 (.t 2)), none⟩, ⟨(some 8), (.load false 1 (.t 7)), none⟩, ⟨(some 9), (.mkf 36 [(.t 3)]), none⟩, ⟨(some 10), (.call (.f 35) [(.t 8), (.t 9)]), none⟩, ⟨(some 6), (.asg (.t 10)), none⟩])
 (.kp [6] [] (.seq (.reg [⟨(some 11), (.mv (.t 6)), none⟩, ⟨(some 12), (.mx [(.t 11), (.c (.i .i64 0))]), none⟩, ⟨(some 13), (.mv (.t 6)), none⟩, ⟨(some 14), (.bin .geq (.t 13) (.c (.i .i64 0))), none⟩, ⟨(some 4), (.asg (.t 12)), none⟩, ⟨(some 5), (.asg (.t 14)), none⟩])
 .ret)))))⟩
theorem x26_ok : isF Tryd.prog (fun _ => false) Tryd.f26 x26 := ⟨by kernel_rfl, by kernel_rfl⟩

def x27_0 : XC := (.kp [2, 3, 5, 6, 8, 14, 15, 16] [2, 3, 8] (.draw [[], [0], [0], [0], [], [0, 1, 2, 3, 4], [0, 1, 2, 3, 4, 5], [0, 1, 2, 3, 4, 5], [0, 1, 2, 3, 4, 5], [], [], []] [⟨(some 20), (.mv (.t 5)), none⟩, ⟨(some 21), (.fad 1 (.t 8)), none⟩, ⟨(some 22), (.load true 3 (.t 21)), none⟩, ⟨(some 23), (.bsl (.agg [(.i .i64 0), (.i .i64 0), (.i .i64 0)]) 1 [(0, (.t 22))]), none⟩, ⟨(some 24), (.app 3 24 (.t 20) (.t 23)), none⟩, ⟨(some 25), (.mv (.t 6)), none⟩, ⟨(some 26), (.fad 4 (.t 8)), none⟩, ⟨(some 27), (.load true 3 (.t 26)), none⟩, ⟨(some 28), (.bsl (.agg [(.i .i64 0), (.i .i64 0), (.i .i64 0)]) 1 [(0, (.t 27))]), none⟩, ⟨(some 29), (.app 3 24 (.t 25) (.t 28)), none⟩, ⟨(some 5), (.asg (.t 24)), none⟩, ⟨(some 6), (.asg (.t 29)), none⟩]))
def x27_1 : XC := (.kp [2, 3, 5, 6, 14, 15, 16] [2, 3] (.seq (.block 1 (.seq (.reg [⟨(some 18), (.iad none 10 (.t 14) (.t 16)), none⟩, ⟨(some 19), (.load true 10 (.t 18)), none⟩, ⟨(some 8), (.alloc [(.s (bs [])), (.i .i64 0), (.i .i64 0), (.i .i64 0), (.i .i64 0), (.i .i64 0), (.i .i64 0), (.b false), (.b false), (.b false)] false), none⟩, ⟨none, (.store 10 (.t 8) (.t 19)), none⟩])
 x27_0))
 (.kp [2, 3, 5, 6, 14, 15, 16] [2, 3] (.reg [⟨(some 30), (.bin .add (.t 16) (.c (.i .i64 1))), none⟩, ⟨(some 16), (.mv (.t 30)), none⟩]))))
def x27_2 : XC := (.kp [2, 3, 5, 6, 14, 15, 16] [2, 3] (.block 0 (.loop [2, 3, 5, 6, 14, 15, 16] [2, 3] (.seq (.reg [⟨(some 17), (.bin .lss (.t 16) (.t 15)), none⟩])
 (.kp [2, 3, 5, 6, 14, 15, 16, 17] [2, 3] (.seq (.cond (.t 17) .skip
  (.exit 0))
 x27_1))))))
def x27_3 : XC := (.kp [2, 3, 9, 10, 11, 12] [2, 3, 9, 11] (.seq (.draw [[], [0], [0, 1], [0, 1], [0, 1], [0, 1], [1, 4, 5], [4, 5], []] [⟨(some 41), (.load true 3 (.t 9)), none⟩, ⟨(some 42), (.load true 3 (.t 11)), none⟩, ⟨(some 43), (.mv (.t 10)), none⟩, ⟨(some 44), (.mv (.t 43)), none⟩, ⟨(some 45), (.mv (.t 12)), (some (44, true))⟩, ⟨(some 46), (.pick (.t 44) (.t 45) (.c (.b false))), none⟩, ⟨none, (.store 3 (.t 2) (.t 41)), none⟩, ⟨none, (.store 3 (.t 3) (.t 42)), none⟩, ⟨(some 4), (.asg (.t 46)), none⟩])
 .ret))
def x27_4 : XC := (.kp [2, 3, 6, 9, 10] [2, 3, 9] (.seq (.reg [⟨(some 37), (.mv (.t 6)), none⟩, ⟨(some 38), (.call (.f 28) [(.t 37)]), none⟩, ⟨(some 36), (.mv (.t 38)), none⟩, ⟨(some 39), (.ext (.t 36) 0), none⟩, ⟨(some 40), (.ext (.t 36) 1), none⟩, ⟨(some 11), (.alloc [(.i .i64 0), (.i .i64 0), (.i .i64 0)] false), none⟩, ⟨none, (.store 3 (.t 11) (.t 39)), none⟩, ⟨(some 12), (.asg (.t 40)), none⟩])
 x27_3))
def x27_5 : XC := (.kp [2, 3, 5, 6] [2, 3] (.seq (.reg [⟨(some 32), (.mv (.t 5)), none⟩, ⟨(some 33), (.call (.f 28) [(.t 32)]), none⟩, ⟨(some 31), (.mv (.t 33)), none⟩, ⟨(some 34), (.ext (.t 31) 0), none⟩, ⟨(some 35), (.ext (.t 31) 1), none⟩, ⟨(some 9), (.alloc [(.i .i64 0), (.i .i64 0), (.i .i64 0)] false), none⟩, ⟨none, (.store 3 (.t 9) (.t 34)), none⟩, ⟨(some 10), (.asg (.t 35)), none⟩])
 x27_4))
def x27_6 : XC := (.kp [1, 2, 3, 5, 6] [1, 2, 3] (.seq (.seq (.reg [⟨(some 13), (.fad 3 (.t 1)), none⟩, ⟨(some 14), (.load false 1 (.t 13)), none⟩, ⟨(some 15), (.len 1 (.t 14)), none⟩, ⟨(some 16), (.mv (.c (.i .i64 0))), none⟩])
 x27_2)
 x27_5))
/-- berthing/spec.sums -/
def x27 : XF := ⟨47, [(.c 2 true 3), (.c 3 true 3), (.t 4)], (.seq (.reg [⟨(some 1), (.box 4 (.t 0) false), none⟩, ⟨(some 2), (.alloc [(.i .i64 0), (.i .i64 0), (.i .i64 0)] false), none⟩, ⟨(some 3), (.alloc [(.i .i64 0), (.i .i64 0), (.i .i64 0)] false), none⟩, ⟨(some 4), (.asg (.c (.b false))), none⟩])
 (.kp [1, 2, 3] [1, 2, 3] (.seq (.reg [⟨(some 5), (.asg (.c .nsl)), none⟩, ⟨(some 6), (.asg (.c .nsl)), none⟩])
 x27_6)))⟩
theorem x27_ok : isF Tryd.prog (fun _ => false) Tryd.f27 x27 := ⟨by kernel_rfl, by kernel_rfl⟩

/-- berthing/vector.Sum -/
def x28 : XF := ⟨27, [(.c 2 true 3), (.t 3)], (.seq (.reg [⟨(some 2), (.alloc [(.i .i64 0), (.i .i64 0), (.i .i64 0)] false), none⟩, ⟨(some 3), (.asg (.c (.b false))), none⟩])
 (.kp [0, 2] [2] (.seq (.reg [⟨(some 4), (.alloc [(.i .i64 0), (.i .i64 0), (.i .i64 0)] false), none⟩])
 (.kp [0, 2, 4] [2, 4] (.seq (.seq (.reg [⟨(some 9), (.mv (.t 0)), none⟩, ⟨(some 10), (.len 1 (.t 9)), none⟩, ⟨(some 11), (.mv (.c (.i .i64 0))), none⟩])
 (.kp [2, 4, 9, 10, 11] [2, 4] (.block 0 (.loop [2, 4, 9, 10, 11] [2, 4] (.seq (.reg [⟨(some 12), (.bin .lss (.t 11) (.t 10)), none⟩])
 (.kp [2, 4, 9, 10, 11, 12] [2, 4] (.seq (.cond (.t 12) .skip
  (.exit 0))
 (.kp [2, 4, 9, 10, 11] [2, 4] (.seq (.block 1 (.seq (.reg [⟨(some 13), (.iad none 3 (.t 9) (.t 11)), none⟩, ⟨(some 14), (.load true 3 (.t 13)), none⟩, ⟨(some 6), (.alloc [(.i .i64 0), (.i .i64 0), (.i .i64 0)] false), none⟩, ⟨none, (.store 3 (.t 6) (.t 14)), none⟩])
 (.kp [2, 4, 6, 9, 10, 11] [2, 4, 6] (.seq (.reg [⟨(some 16), (.load true 3 (.t 4)), none⟩, ⟨(some 17), (.load true 3 (.t 6)), none⟩, ⟨(some 18), (.call (.f 37) [(.t 16), (.t 17)]), none⟩, ⟨(some 15), (.mv (.t 18)), none⟩, ⟨(some 19), (.ext (.t 15) 0), none⟩, ⟨(some 20), (.ext (.t 15) 1), none⟩, ⟨(some 7), (.alloc [(.i .i64 0), (.i .i64 0), (.i .i64 0)] false), none⟩, ⟨none, (.store 3 (.t 7) (.t 19)), none⟩, ⟨(some 8), (.asg (.t 20)), none⟩])
 (.kp [2, 4, 7, 8, 9, 10, 11] [2, 4, 7] (.seq (.seq (.reg [⟨(some 21), (.mv (.t 8)), none⟩, ⟨(some 22), (.un .not (.t 21)), none⟩])
 (.kp [2, 4, 7, 9, 10, 11, 22] [2, 4, 7] (.cond (.t 22) (.seq (.reg [⟨(some 23), (.build [(.i .i64 0), (.i .i64 0), (.i .i64 0)] []), none⟩, ⟨none, (.store 3 (.t 2) (.t 23)), none⟩, ⟨(some 3), (.asg (.c (.b false))), none⟩])
 .ret)
  .skip)))
 (.kp [2, 4, 7, 9, 10, 11] [2, 4, 7] (.reg [⟨(some 24), (.load true 3 (.t 7)), none⟩, ⟨none, (.store 3 (.t 4) (.t 24)), none⟩]))))))))
 (.kp [2, 4, 9, 10, 11] [2, 4] (.reg [⟨(some 25), (.bin .add (.t 11) (.c (.i .i64 1))), none⟩, ⟨(some 11), (.mv (.t 25)), none⟩])))))))))))
 (.kp [2, 4] [2, 4] (.seq (.reg [⟨(some 26), (.load true 3 (.t 4)), none⟩, ⟨none, (.store 3 (.t 2) (.t 26)), none⟩, ⟨(some 3), (.asg (.c (.b true))), none⟩])
 .ret)))))))⟩
theorem x28_ok : isF Tryd.prog (fun _ => false) Tryd.f28 x28 := ⟨by kernel_rfl, by kernel_rfl⟩

/-- berthing/vector.parts -/
def x33 : XF := ⟨10, [(.c 2 true 3)], (.seq (.reg [⟨(some 1), (.box 3 (.t 0) false), none⟩, ⟨(some 2), (.alloc [(.i .i64 0), (.i .i64 0), (.i .i64 0)] false), none⟩])
 (.kp [1, 2] [1, 2] (.seq (.reg [⟨(some 3), (.fad 0 (.t 1)), none⟩, ⟨(some 4), (.load false 1 (.t 3)), none⟩, ⟨(some 5), (.fad 1 (.t 1)), none⟩, ⟨(some 6), (.load false 1 (.t 5)), none⟩, ⟨(some 7), (.fad 2 (.t 1)), none⟩, ⟨(some 8), (.load false 1 (.t 7)), none⟩, ⟨(some 9), (.build [(.i .i64 0), (.i .i64 0), (.i .i64 0)] [(0, (1, (.t 4))), (1, (1, (.t 6))), (2, (1, (.t 8)))]), none⟩, ⟨none, (.store 3 (.t 2) (.t 9)), none⟩])
 .ret)))⟩
theorem x33_ok : isF Tryd.prog (fun _ => false) Tryd.f33 x33 := ⟨by kernel_rfl, by kernel_rfl⟩

/-- berthing/vector.fits -/
def x34 : XF := ⟨19, [(.t 4)], (.seq (.reg [⟨(some 4), (.asg (.c (.b false))), none⟩])
 (.kp [0, 1] [] (.seq (.seq (.reg [⟨(some 5), (.mv (.t 0)), none⟩, ⟨(some 6), (.bin .eql (.t 5) (.c (.i .i64 0))), none⟩])
 (.kp [1, 6] [] (.cond (.t 6) (.seq (.reg [⟨(some 7), (.mv (.t 1)), none⟩, ⟨(some 8), (.bin .geq (.t 7) (.c (.i .i64 0))), none⟩, ⟨(some 9), (.mv (.t 8)), none⟩, ⟨(some 10), (.mv (.t 1)), (some (9, true))⟩, ⟨(some 11), (.bin .leq (.t 10) (.c (.i .i64 1099511627776))), (some (9, true))⟩, ⟨(some 12), (.pick (.t 9) (.t 11) (.c (.b false))), none⟩, ⟨(some 4), (.asg (.t 12)), none⟩])
 .ret)
  .skip)))
 (.kp [1] [] (.seq (.reg [⟨(some 13), (.mv (.t 1)), none⟩, ⟨(some 14), (.bin .geq (.t 13) (.c (.i .i64 0))), none⟩, ⟨(some 15), (.mv (.t 14)), none⟩, ⟨(some 16), (.mv (.t 1)), (some (15, true))⟩, ⟨(some 17), (.bin .leq (.t 16) (.c (.i .i64 1125899906842624))), (some (15, true))⟩, ⟨(some 18), (.pick (.t 15) (.t 17) (.c (.b false))), none⟩, ⟨(some 4), (.asg (.t 18)), none⟩])
 .ret)))))⟩
theorem x34_ok : isF Tryd.prog (fun _ => false) Tryd.f34 x34 := ⟨by kernel_rfl, by kernel_rfl⟩

/-- slices.IndexFunc[[]berthing/api.Container,berthing/api.Container] -/
def x35 : XF := ⟨19, [(.t 4)], (.seq (.reg [⟨(some 4), (.asg (.c (.i .i64 0))), none⟩])
 (.kp [0, 1] [] (.seq (.seq (.reg [⟨(some 6), (.mv (.t 0)), none⟩, ⟨(some 7), (.len 1 (.t 6)), none⟩, ⟨(some 8), (.mv (.c (.i .i64 0))), none⟩])
 (.kp [0, 1, 7, 8] [] (.block 0 (.loop [0, 1, 7, 8] [] (.seq (.reg [⟨(some 9), (.bin .lss (.t 8) (.t 7)), none⟩])
 (.kp [0, 1, 7, 8, 9] [] (.seq (.cond (.t 9) .skip
  (.exit 0))
 (.kp [0, 1, 7, 8] [] (.seq (.block 1 (.seq (.reg [⟨(some 10), (.mv (.t 8)), none⟩, ⟨(some 5), (.asg (.t 10)), none⟩])
 (.kp [0, 1, 5, 7, 8] [] (.seq (.reg [⟨(some 11), (.mv (.t 1)), none⟩, ⟨(some 12), (.mv (.t 0)), none⟩, ⟨(some 13), (.mv (.t 5)), none⟩, ⟨(some 14), (.iad none 10 (.t 12) (.t 13)), none⟩, ⟨(some 15), (.load true 10 (.t 14)), none⟩, ⟨(some 16), (.call (.t 11) [(.t 15)]), none⟩])
 (.kp [0, 1, 5, 7, 8, 16] [] (.cond (.t 16) (.seq (.reg [⟨(some 17), (.mv (.t 5)), none⟩, ⟨(some 4), (.asg (.t 17)), none⟩])
 .ret)
  .skip))))))
 (.kp [0, 1, 7, 8] [] (.reg [⟨(some 18), (.bin .add (.t 8) (.c (.i .i64 1))), none⟩, ⟨(some 8), (.mv (.t 18)), none⟩])))))))))))
 (.kp [] [] (.seq (.reg [⟨(some 4), (.asg (.c (.i .i64 (-1)))), none⟩])
 .ret)))))⟩
theorem x35_ok : isF Tryd.prog (fun _ => false) Tryd.f35 x35 := ⟨by kernel_rfl, by kernel_rfl⟩

/-- berthing/spec.Find$1 -/
def x36 : XF := ⟨8, [(.t 3)], (.seq (.reg [⟨(some 2), (.box 10 (.t 0) false), none⟩, ⟨(some 3), (.asg (.c (.b false))), none⟩])
 (.kp [1, 2] [2] (.seq (.reg [⟨(some 4), (.fad 0 (.t 2)), none⟩, ⟨(some 5), (.load false 1 (.t 4)), none⟩, ⟨(some 6), (.load false 1 (.t 1)), none⟩, ⟨(some 7), (.bin .eql (.t 5) (.t 6)), none⟩, ⟨(some 3), (.asg (.t 7)), none⟩])
 .ret)))⟩
theorem x36_ok : isF Tryd.prog (fun _ => false) Tryd.f36 x36 := ⟨by kernel_rfl, by kernel_rfl⟩

/-- berthing/vector.Add -/
def x37 : XF := ⟨11, [(.c 4 true 3), (.t 5)], (.seq (.reg [⟨(some 2), (.box 3 (.t 0) false), none⟩, ⟨(some 3), (.box 3 (.t 1) false), none⟩, ⟨(some 4), (.alloc [(.i .i64 0), (.i .i64 0), (.i .i64 0)] false), none⟩, ⟨(some 5), (.asg (.c (.b false))), none⟩])
 (.kp [2, 3, 4] [2, 3, 4] (.seq (.reg [⟨(some 6), (.load true 3 (.t 2)), none⟩, ⟨(some 7), (.load true 3 (.t 3)), none⟩, ⟨(some 8), (.call (.f 41) [(.t 6), (.t 7), (.f 42)]), none⟩, ⟨(some 9), (.ext (.t 8) 0), none⟩, ⟨(some 10), (.ext (.t 8) 1), none⟩, ⟨none, (.store 3 (.t 4) (.t 9)), none⟩, ⟨(some 5), (.asg (.t 10)), none⟩])
 .ret)))⟩
theorem x37_ok : isF Tryd.prog (fun _ => false) Tryd.f37 x37 := ⟨by kernel_rfl, by kernel_rfl⟩

def x41_0 : XC := (.kp [2, 3, 4, 6, 19] [3, 4, 6] (.cond (.t 19) (.seq (.reg [⟨(some 20), (.build [(.i .i64 0), (.i .i64 0), (.i .i64 0)] []), none⟩, ⟨none, (.store 3 (.t 6) (.t 20)), none⟩, ⟨(some 7), (.asg (.c (.b false))), none⟩])
 .ret)
  .skip))
def x41_1 : XC := (.kp [2, 6, 8, 9, 10, 25] [6, 8, 9] (.draw [[], [0], [0, 1], [0, 1], [0, 1], [0, 1, 2, 3, 4], [0, 1, 2, 3, 4], [0, 1, 2, 3, 4], [0], [0], [0], [0, 10], [11], [11]] [⟨(some 29), (.mv (.t 10)), none⟩, ⟨(some 30), (.mv (.t 2)), none⟩, ⟨(some 31), (.mv (.t 10)), none⟩, ⟨(some 32), (.iad (some 3) 1 (.t 8) (.t 31)), none⟩, ⟨(some 33), (.load false 1 (.t 32)), none⟩, ⟨(some 34), (.mv (.t 10)), none⟩, ⟨(some 35), (.iad (some 3) 1 (.t 9) (.t 34)), none⟩, ⟨(some 36), (.load false 1 (.t 35)), none⟩, ⟨(some 37), (.call (.t 30) [(.t 33), (.t 36)]), none⟩, ⟨(some 28), (.mv (.t 37)), none⟩, ⟨(some 38), (.ext (.t 28) 0), none⟩, ⟨(some 39), (.ext (.t 28) 1), none⟩, ⟨(some 40), (.iad (some 3) 1 (.t 8) (.t 29)), none⟩, ⟨none, (.store 1 (.t 40) (.t 38)), none⟩]))
def x41_2 : XC := (.kp [2, 6, 8, 9, 25] [6, 8, 9] (.seq (.block 1 (.seq (.reg [⟨(some 27), (.mv (.t 25)), none⟩, ⟨(some 10), (.asg (.t 27)), none⟩])
 x41_1))
 (.kp [2, 6, 8, 9, 25] [6, 8, 9] (.reg [⟨(some 41), (.bin .add (.t 25) (.c (.i .i64 1))), none⟩, ⟨(some 25), (.mv (.t 41)), none⟩]))))
def x41_3 : XC := (.kp [2, 6, 8, 9, 25] [6, 8, 9] (.block 0 (.loop [2, 6, 8, 9, 25] [6, 8, 9] (.seq (.reg [⟨(some 26), (.bin .lss (.t 25) (.c (.i .i64 3))), none⟩])
 (.kp [2, 6, 8, 9, 25, 26] [6, 8, 9] (.seq (.cond (.t 26) .skip
  (.exit 0))
 x41_2))))))
def x41_4 : XC := (.kp [6, 11] [6, 11] (.seq (.reg [⟨(some 44), (.load true 3 (.t 11)), none⟩, ⟨(some 45), (.call (.f 24) [(.t 44)]), none⟩])
 (.kp [6, 11, 45] [6, 11] (.cond (.t 45) (.seq (.reg [⟨(some 46), (.load true 3 (.t 11)), none⟩, ⟨none, (.store 3 (.t 6) (.t 46)), none⟩, ⟨(some 7), (.asg (.c (.b true))), none⟩])
 .ret)
  .skip))))
def x41_5 : XC := (.kp [6, 8] [6, 8] (.seq (.seq (.reg [⟨(some 42), (.load true 3 (.t 8)), none⟩, ⟨(some 43), (.call (.f 49) [(.t 42)]), none⟩, ⟨(some 11), (.alloc [(.i .i64 0), (.i .i64 0), (.i .i64 0)] false), none⟩, ⟨none, (.store 3 (.t 11) (.t 43)), none⟩])
 x41_4)
 (.kp [6] [6] (.seq (.reg [⟨(some 47), (.build [(.i .i64 0), (.i .i64 0), (.i .i64 0)] []), none⟩, ⟨none, (.store 3 (.t 6) (.t 47)), none⟩, ⟨(some 7), (.asg (.c (.b false))), none⟩])
 .ret))))
def x41_6 : XC := (.kp [2, 3, 4, 6] [3, 4, 6] (.seq (.draw [[], [], [0, 1], [], [0, 1, 2, 3], [0, 1, 2, 3, 4], [], []] [⟨(some 21), (.load true 3 (.t 3)), none⟩, ⟨(some 22), (.call (.f 33) [(.t 21)]), none⟩, ⟨(some 23), (.load true 3 (.t 4)), none⟩, ⟨(some 24), (.call (.f 33) [(.t 23)]), none⟩, ⟨(some 8), (.alloc [(.i .i64 0), (.i .i64 0), (.i .i64 0)] false), none⟩, ⟨(some 9), (.alloc [(.i .i64 0), (.i .i64 0), (.i .i64 0)] false), none⟩, ⟨none, (.store 3 (.t 8) (.t 22)), none⟩, ⟨none, (.store 3 (.t 9) (.t 24)), none⟩])
 (.kp [2, 6, 8, 9] [6, 8, 9] (.seq (.seq (.reg [⟨(some 25), (.mv (.c (.i .i64 0))), none⟩])
 x41_3)
 x41_5))))
def x41_7 : XC := (.kp [2, 3, 4, 6] [3, 4, 6] (.seq (.seq (.reg [⟨(some 12), (.load true 3 (.t 3)), none⟩, ⟨(some 13), (.call (.f 24) [(.t 12)]), none⟩, ⟨(some 14), (.un .not (.t 13)), none⟩, ⟨(some 15), (.mv (.t 14)), none⟩, ⟨(some 16), (.load true 3 (.t 4)), (some (15, false))⟩, ⟨(some 17), (.call (.f 24) [(.t 16)]), (some (15, false))⟩, ⟨(some 18), (.un .not (.t 17)), (some (15, false))⟩, ⟨(some 19), (.pick (.t 15) (.c (.b true)) (.t 18)), none⟩])
 x41_0)
 x41_6))
/-- berthing/vector.both -/
def x41 : XF := ⟨48, [(.c 6 true 3), (.t 7)], (.seq (.reg [⟨(some 3), (.box 3 (.t 0) false), none⟩, ⟨(some 4), (.box 3 (.t 1) false), none⟩, ⟨(some 6), (.alloc [(.i .i64 0), (.i .i64 0), (.i .i64 0)] false), none⟩, ⟨(some 7), (.asg (.c (.b false))), none⟩])
 x41_7)⟩
theorem x41_ok : isF Tryd.prog (fun _ => false) Tryd.f41 x41 := ⟨by kernel_rfl, by kernel_rfl⟩

/-- berthing/checked.Add -/
def x42 : XF := ⟨22, [(.t 4), (.t 5)], (.seq (.reg [⟨(some 4), (.asg (.c (.i .i64 0))), none⟩, ⟨(some 5), (.asg (.c (.b false))), none⟩])
 (.kp [0, 1] [] (.seq (.reg [⟨(some 7), (.mv (.t 0)), none⟩, ⟨(some 8), (.conv (.int .u64) (.t 7)), none⟩, ⟨(some 9), (.mv (.t 1)), none⟩, ⟨(some 10), (.conv (.int .u64) (.t 9)), none⟩, ⟨(some 11), (.bin .add (.t 8) (.t 10)), none⟩, ⟨(some 12), (.conv (.int .i64) (.t 11)), none⟩, ⟨(some 6), (.asg (.t 12)), none⟩])
 (.kp [0, 1, 6] [] (.seq (.seq (.reg [⟨(some 13), (.mv (.t 0)), none⟩, ⟨(some 14), (.mv (.t 6)), none⟩, ⟨(some 15), (.bin .xor (.t 13) (.t 14)), none⟩, ⟨(some 16), (.mv (.t 1)), none⟩, ⟨(some 17), (.mv (.t 6)), none⟩, ⟨(some 18), (.bin .xor (.t 16) (.t 17)), none⟩, ⟨(some 19), (.bin .and (.t 15) (.t 18)), none⟩, ⟨(some 20), (.bin .lss (.t 19) (.c (.i .i64 0))), none⟩])
 (.kp [6, 20] [] (.cond (.t 20) (.seq (.reg [⟨(some 4), (.asg (.c (.i .i64 0))), none⟩, ⟨(some 5), (.asg (.c (.b false))), none⟩])
 .ret)
  .skip)))
 (.kp [6] [] (.seq (.reg [⟨(some 21), (.mv (.t 6)), none⟩, ⟨(some 4), (.asg (.t 21)), none⟩, ⟨(some 5), (.asg (.c (.b true))), none⟩])
 .ret)))))))⟩
theorem x42_ok : isF Tryd.prog (fun _ => false) Tryd.f42 x42 := ⟨by kernel_rfl, by kernel_rfl⟩

/-- berthing/vector.of -/
def x49 : XF := ⟨10, [(.c 2 true 3)], (.seq (.reg [⟨(some 1), (.box 3 (.t 0) false), none⟩, ⟨(some 2), (.alloc [(.i .i64 0), (.i .i64 0), (.i .i64 0)] false), none⟩])
 (.kp [1, 2] [1, 2] (.seq (.reg [⟨(some 3), (.iad (some 3) 1 (.t 1) (.c (.i .i64 0))), none⟩, ⟨(some 4), (.load false 1 (.t 3)), none⟩, ⟨(some 5), (.iad (some 3) 1 (.t 1) (.c (.i .i64 1))), none⟩, ⟨(some 6), (.load false 1 (.t 5)), none⟩, ⟨(some 7), (.iad (some 3) 1 (.t 1) (.c (.i .i64 2))), none⟩, ⟨(some 8), (.load false 1 (.t 7)), none⟩, ⟨(some 9), (.build [(.i .i64 0), (.i .i64 0), (.i .i64 0)] [(0, (1, (.t 4))), (1, (1, (.t 6))), (2, (1, (.t 8)))]), none⟩, ⟨none, (.store 3 (.t 2) (.t 9)), none⟩])
 .ret)))⟩
theorem x49_ok : isF Tryd.prog (fun _ => false) Tryd.f49 x49 := ⟨by kernel_rfl, by kernel_rfl⟩

def tab : List (Nat × XF) := [(3, x3), (4, x4), (5, x5), (6, x6), (7, x7), (8, x8), (9, x9), (10, x10), (11, x11), (12, x12), (13, x13), (14, x14), (15, x15), (16, x16), (17, x17), (18, x18), (19, x19), (22, x22), (23, x23), (24, x24), (25, x25), (26, x26), (27, x27), (28, x28), (33, x33), (34, x34), (35, x35), (36, x36), (37, x37), (41, x41), (42, x42), (49, x49)]
theorem tabOk (W : World) : TabOk ⟨Tryd.prog, W⟩ tab := by
  intro p hp
  simp only [tab, List.mem_cons, List.not_mem_nil, or_false] at hp
  rcases hp with rfl | rfl | rfl | rfl | rfl | rfl | rfl | rfl | rfl | rfl | rfl | rfl | rfl | rfl | rfl | rfl | rfl | rfl | rfl | rfl | rfl | rfl | rfl | rfl | rfl | rfl | rfl | rfl | rfl | rfl | rfl | rfl
  · exact ⟨_, _, Tryd.func3, by kernel_rfl, x3_ok⟩
  · exact ⟨_, _, Tryd.func4, by kernel_rfl, x4_ok⟩
  · exact ⟨_, _, Tryd.func5, by kernel_rfl, x5_ok⟩
  · exact ⟨_, _, Tryd.func6, by kernel_rfl, x6_ok⟩
  · exact ⟨_, _, Tryd.func7, by kernel_rfl, x7_ok⟩
  · exact ⟨_, _, Tryd.func8, by kernel_rfl, x8_ok⟩
  · exact ⟨_, _, Tryd.func9, by kernel_rfl, x9_ok⟩
  · exact ⟨_, _, Tryd.func10, by kernel_rfl, x10_ok⟩
  · exact ⟨_, _, Tryd.func11, by kernel_rfl, x11_ok⟩
  · exact ⟨_, _, Tryd.func12, by kernel_rfl, x12_ok⟩
  · exact ⟨_, _, Tryd.func13, by kernel_rfl, x13_ok⟩
  · exact ⟨_, _, Tryd.func14, by kernel_rfl, x14_ok⟩
  · exact ⟨_, _, Tryd.func15, by kernel_rfl, x15_ok⟩
  · exact ⟨_, _, Tryd.func16, by kernel_rfl, x16_ok⟩
  · exact ⟨_, _, Tryd.func17, by kernel_rfl, x17_ok⟩
  · exact ⟨_, _, Tryd.func18, by kernel_rfl, x18_ok⟩
  · exact ⟨_, _, Tryd.func19, by kernel_rfl, x19_ok⟩
  · exact ⟨_, _, Tryd.func22, by kernel_rfl, x22_ok⟩
  · exact ⟨_, _, Tryd.func23, by kernel_rfl, x23_ok⟩
  · exact ⟨_, _, Tryd.func24, by kernel_rfl, x24_ok⟩
  · exact ⟨_, _, Tryd.func25, by kernel_rfl, x25_ok⟩
  · exact ⟨_, _, Tryd.func26, by kernel_rfl, x26_ok⟩
  · exact ⟨_, _, Tryd.func27, by kernel_rfl, x27_ok⟩
  · exact ⟨_, _, Tryd.func28, by kernel_rfl, x28_ok⟩
  · exact ⟨_, _, Tryd.func33, by kernel_rfl, x33_ok⟩
  · exact ⟨_, _, Tryd.func34, by kernel_rfl, x34_ok⟩
  · exact ⟨_, _, Tryd.func35, by kernel_rfl, x35_ok⟩
  · exact ⟨_, _, Tryd.func36, by kernel_rfl, x36_ok⟩
  · exact ⟨_, _, Tryd.func37, by kernel_rfl, x37_ok⟩
  · exact ⟨_, _, Tryd.func41, by kernel_rfl, x41_ok⟩
  · exact ⟨_, _, Tryd.func42, by kernel_rfl, x42_ok⟩
  · exact ⟨_, _, Tryd.func49, by kernel_rfl, x49_ok⟩

end Go.Proofs.YtcldjplopgmjgaaDoor
