/- Part of the proof: the evaluation of the program's code and its tie to the machine, or what functions of the program compute over it. -/
import Derived.Test.YtnecdcaaknhgpaaGreatEng6
set_option maxRecDepth 100000
set_option maxHeartbeats 4000000
set_option linter.unusedSimpArgs false
set_option linter.unusedVariables false
namespace Go.Proofs.YtnecdcaaknhgpaaGreat
open Go Go.Zv
def A2 : AFn := .code [] (
r_ [
s_ 0 (.call 1 [])] [] [])
def A3 : AFn := .code [.t 10] (
(.seq (
r_ [
s_ 5 (.box (.t 0)),
s_ 6 (.box (.t 1)),
s_ 7 (.box (.t 2)),
s_ 9 (.box (.t 4)),
s_ 10 (.as (.c (.bool false)))] [3,5,6,7,9] []) (
(.seq (
r_ [
s_ 17 (.call 4 []),
s_ 11 (.as (.t 17))] [3,5,6,7,9,11] []) (
(.seq (
r_ [
s_ 18 (.iaa 3 1 (.t 9) (.c (i0_))),
l_ 19 false 1 18,
s_ 20 (.conv .i64 (.t 19)),
s_ 21 (.bin .rem (.t 20) (.c (.int .i64 205))),
s_ 22 (.bin .add (.t 21) (.c (.int .i64 6))),
s_ 23 (.iaa 3 1 (.t 9) (.c (.int .i64 1))),
l_ 24 false 1 23,
s_ 25 (.conv .i64 (.t 24)),
s_ 26 (.bin .rem (.t 25) (.c (.int .i64 205))),
s_ 27 (.bin .add (.t 26) (.c (.int .i64 6))),
s_ 28 (.iaa 3 1 (.t 9) (.c (.int .i64 2))),
l_ 29 false 1 28,
s_ 30 (.conv .i64 (.t 29)),
s_ 31 (.bin .rem (.t 30) (.c (.int .i64 205))),
s_ 32 (.bin .add (.t 31) (.c (.int .i64 6))),
s_ 33 (.build [i0_, i0_, i0_] [(0, 1, .t 22), (1, 1, .t 27), (2, 1, .t 32)]),
s_ 12 (.alloc [i0_, i0_, i0_]),
n_ (.store 3 (.t 12) (.t 33))] [3,5,6,7,11,12] [9]) (
(.seq (
r_ [
l_ 35 true 3 12,
s_ 36 (.call 5 [.t 35]),
m_ 34 36,
s_ 37 (.ext (.t 34) 0),
s_ 38 (.ext (.t 34) 1),
s_ 13 (.alloc [i0_, i0_, i0_]),
s_ 14 (.alloc [i0_, i0_, i0_]),
n_ (.store 3 (.t 13) (.t 37)),
n_ (.store 3 (.t 14) (.t 38))] [3,5,6,7,11,12,13,14] []) (
(.seq (
r_ [
l_ 40 true 3 12,
s_ 41 (.call 6 [.t 40]),
m_ 39 41,
s_ 42 (.ext (.t 39) 0),
s_ 43 (.ext (.t 39) 1),
s_ 15 (.alloc [i0_, i0_, i0_]),
s_ 16 (.alloc [i0_, i0_, i0_]),
n_ (.store 3 (.t 15) (.t 42)),
n_ (.store 3 (.t 16) (.t 43))] [3,5,6,7,11,13,14,15,16] [12]) (
(.seq (
(.seq (
r_ [
l_ 44 true 3 13,
l_ 45 true 3 15,
s_ 46 (.eqa true [0, 0, 0] (.t 44) (.t 45)),
m_ 47 46,
⟨some 48, .load true 3 (.t 14), some (47, false), true⟩,
⟨some 49, .load true 3 (.t 16), some (47, false), true⟩,
⟨some 50, .eqa true [0, 0, 0] (.t 48) (.t 49), some (47, false), true⟩,
s_ 51 (.pick (.t 47) (.c (.bool true)) (.t 50))] [3,5,6,7,11,51] [13,14,15,16]) (
(.cond (.t 51) (
(.seq (
r_ [
s_ 10 (.as (.c (.bool false)))] [10] []) (
.ret))) (
.skip))))) (
(.seq (
(.seq (
r_ [
l_ 52 true 44 5,
l_ 53 true 6 6,
m_ 54 3,
s_ 55 (.call 7 [.t 52, .t 53, .t 54]),
s_ 56 (.un .not (.t 55)),
m_ 57 56,
⟨some 58, .load true 44 (.t 5), some (57, false), true⟩,
⟨some 59, .load true 6 (.t 7), some (57, false), true⟩,
⟨some 60, .mv (.t 3), some (57, false), true⟩,
⟨some 61, .call 7 [.t 58, .t 59, .t 60], some (57, false), true⟩,
⟨some 62, .un .not (.t 61), some (57, false), true⟩,
s_ 63 (.pick (.t 57) (.c (.bool true)) (.t 62))] [3,5,6,7,11,63] []) (
(.cond (.t 63) (
(.seq (
r_ [
m_ 64 11,
s_ 10 (.as (.t 64))] [10] []) (
.ret))) (
.skip))))) (
(.seq (
.reg (some [.free, .free, .dr [68, 70, 71] [], .dr [67, 70, 71] [], .dr [70, 71] [], .dr [67, 68, 69, 71] [], .dr [67, 68, 69, 70] [], .free, .free, .free, .free, .dr [77, 78, 81, 82, 83] [], .dr [76, 78, 81, 82, 83] [], .dr [76, 77, 81, 82, 83] [], .dr [76, 77, 78, 81, 82, 83] [], .dr [81, 82, 83] [], .dr [76, 77, 78, 80, 82, 83] [], .dr [76, 77, 78, 80, 81, 83] [], .dr [76, 77, 78, 80, 81, 82] [], .dr [76, 77, 78, 80, 81, 82, 83] [], .free, .free, .free, .free]) [
m_ 65 11,
m_ 66 65,
⟨some 67, .load true 44 (.t 5), some (66, true), true⟩,
⟨some 68, .load true 6 (.t 7), some (66, true), true⟩,
⟨some 69, .call 8 [.t 67, .t 68], some (66, true), true⟩,
⟨some 70, .load true 44 (.t 5), some (66, true), true⟩,
⟨some 71, .load true 6 (.t 7), some (66, true), true⟩,
⟨some 72, .call 9 [.t 70, .t 71], some (66, true), true⟩,
⟨some 73, .bib false (.t 69) (.t 72), some (66, true), true⟩,
s_ 74 (.pick (.t 66) (.t 73) (.c (.bool false))),
m_ 75 74,
⟨some 76, .load true 44 (.t 5), some (75, true), true⟩,
⟨some 77, .load true 6 (.t 6), some (75, true), true⟩,
⟨some 78, .load true 6 (.t 7), some (75, true), true⟩,
⟨some 79, .mv (.t 3), some (75, true), true⟩,
⟨some 80, .call 11 [.t 76, .t 77, .t 78, .t 79], some (75, true), true⟩,
⟨some 81, .load true 44 (.t 5), some (75, true), true⟩,
⟨some 82, .load true 6 (.t 6), some (75, true), true⟩,
⟨some 83, .load true 6 (.t 7), some (75, true), true⟩,
⟨some 84, .mv (.t 3), some (75, true), true⟩,
⟨some 85, .call 12 [.t 81, .t 82, .t 83, .t 84], some (75, true), true⟩,
⟨some 86, .call 10 [.t 80, .t 85], some (75, true), true⟩,
s_ 87 (.pick (.t 75) (.t 86) (.c (.bool false))),
s_ 10 (.as (.t 87))] (some [10]) [5,6,7]) (
.ret)))))))))))))))))
def A4 : AFn := .code [.t 0] (
(.seq (
r_ [
s_ 0 (.as (.c (.bool false)))] [] []) (
(.seq (
r_ [
s_ 11 (.call 13 []),
s_ 1 (.alloc [i0_, i0_, i0_, i0_, i0_, i0_, i0_, i0_, i0_, i0_, i0_, i0_, i0_, i0_, i0_, i0_, i0_, i0_, i0_, i0_, i0_, i0_, i0_, i0_, i0_, i0_, i0_, i0_, i0_, i0_, .nils 1, .nils 6, .nils 3, .nils 1, i0_, i0_, i0_, i0_, i0_, i0_, i0_, .nils 1, i0_, i0_]),
n_ (.store 44 (.t 1) (.t 11))] [1] []) (
(.seq (
r_ [
s_ 12 (.build [i0_, i0_, i0_] []),
s_ 13 (.build [i0_, i0_, i0_] [(0, 1, .c (.int .i64 108)), (1, 1, .c (i0_)), (2, 1, .c (i0_))]),
s_ 14 (.build [i0_, i0_, i0_, i0_, i0_, i0_] [(0, 3, .t 12), (3, 3, .t 13)]),
s_ 2 (.alloc [i0_, i0_, i0_, i0_, i0_, i0_]),
n_ (.store 6 (.t 2) (.t 14))] [1,2] []) (
(.seq (
r_ [
l_ 15 true 6 2,
s_ 3 (.alloc [i0_, i0_, i0_, i0_, i0_, i0_]),
n_ (.store 6 (.t 3) (.t 15))] [1,2,3] []) (
(.seq (
r_ [
s_ 16 (.iaa 2 3 (.t 3) (.c (i0_))),
s_ 17 (.iaa 3 1 (.t 16) (.c (.int .i64 2))),
n_ (.store 1 (.t 17) (.c (.int .i64 9)))] [1,2,3] []) (
(.seq (
r_ [
s_ 18 (.iaa 2 3 (.t 3) (.c (.int .i64 1))),
s_ 19 (.iaa 3 1 (.t 18) (.c (i0_))),
n_ (.store 1 (.t 19) (.c (.int .i64 105)))] [1,2,3] []) (
(.seq (
r_ [
s_ 21 (.build [i0_, i0_, i0_] [(0, 1, .c (.int .i64 (-1))), (1, 1, .c (.int .i64 12)), (2, 1, .c (.int .i64 13))]),
s_ 22 (.call 5 [.t 21]),
m_ 20 22,
s_ 23 (.ext (.t 20) 0),
s_ 24 (.ext (.t 20) 1),
s_ 4 (.alloc [i0_, i0_, i0_]),
s_ 5 (.alloc [i0_, i0_, i0_]),
n_ (.store 3 (.t 4) (.t 23)),
n_ (.store 3 (.t 5) (.t 24))] [1,2,3,4,5] []) (
(.seq (
r_ [
l_ 25 true 44 1,
l_ 26 true 6 2,
l_ 27 true 6 2,
s_ 28 (.bsl 1 1 [.bool false] [(0, .c (.bool false))]),
s_ 29 (.call 11 [.t 25, .t 26, .t 27, .t 28]),
s_ 6 (.as (.t 29))] [1,2,3,4,5,6] []) (
(.seq (
r_ [
l_ 30 true 44 1,
l_ 31 true 6 2,
l_ 32 true 6 2,
s_ 33 (.bsl 1 1 [.bool false] [(0, .c (.bool true))]),
s_ 34 (.call 11 [.t 30, .t 31, .t 32, .t 33]),
s_ 7 (.as (.t 34))] [1,2,3,4,5,6,7] []) (
(.seq (
r_ [
l_ 35 true 44 1,
l_ 36 true 6 2,
l_ 37 true 6 3,
s_ 38 (.bsl 1 1 [.bool false] [(0, .c (.bool false))]),
s_ 39 (.call 11 [.t 35, .t 36, .t 37, .t 38]),
s_ 8 (.as (.t 39))] [1,2,3,4,5,6,7,8] []) (
(.seq (
r_ [
l_ 40 true 44 1,
l_ 41 true 6 2,
l_ 42 true 6 3,
s_ 43 (.bsl 1 1 [.bool false] [(0, .c (.bool true))]),
s_ 44 (.call 11 [.t 40, .t 41, .t 42, .t 43]),
s_ 9 (.as (.t 44))] [1,2,4,5,6,7,8,9] [3]) (
(.seq (
r_ [
s_ 45 (.fad 42 (.t 1)),
n_ (.store 1 (.t 45) (.c (.int .i64 16)))] [1,2,4,5,6,7,8,9] []) (
(.seq (
r_ [
l_ 46 true 44 1,
l_ 47 true 6 2,
l_ 48 true 6 2,
s_ 49 (.bsl 1 1 [.bool false] [(0, .c (.bool false))]),
s_ 50 (.call 11 [.t 46, .t 47, .t 48, .t 49]),
s_ 10 (.as (.t 50))] [1,2,4,5,6,7,8,9,10] []) (
(.seq (
r_ [
l_ 51 true 3 4,
s_ 52 (.build [i0_, i0_, i0_] [(0, 1, .c (.int .i64 (-1))), (1, 1, .c (.int .i64 1)), (2, 1, .c (.int .i64 1))]),
s_ 53 (.eqa false [0, 0, 0] (.t 51) (.t 52)),
m_ 54 53,
⟨some 55, .load true 3 (.t 5), some (54, true), true⟩,
⟨some 56, .build [i0_, i0_, i0_] [(0, 1, .c (i0_)), (1, 1, .c (.int .i64 1)), (2, 1, .c (.int .i64 2))], some (54, true), true⟩,
⟨some 57, .eqa false [0, 0, 0] (.t 55) (.t 56), some (54, true), true⟩,
s_ 58 (.pick (.t 54) (.t 57) (.c (.bool false))),
m_ 59 58,
⟨some 60, .mv (.t 6), some (59, true), true⟩,
⟨some 61, .len 0 (.t 60), some (59, true), true⟩,
⟨some 62, .bin .eql (.t 61) (.c (i0_)), some (59, true), true⟩,
s_ 63 (.pick (.t 59) (.t 62) (.c (.bool false))),
m_ 64 63,
⟨some 65, .mv (.t 7), some (64, true), true⟩,
⟨some 66, .build [i0_, i0_, i0_, i0_] [(0, 1, .c (.int .i64 3))], some (64, true), true⟩,
⟨some 67, .build [i0_, i0_, i0_, i0_] [(0, 1, .c (.int .i64 4))], some (64, true), true⟩,
⟨some 68, .bsl 4 2 [i0_, i0_, i0_, i0_] [(0, .t 66), (1, .t 67)], some (64, true), true⟩,
⟨some 69, .call 10 [.t 65, .t 68], some (64, true), true⟩,
s_ 70 (.pick (.t 64) (.t 69) (.c (.bool false))),
m_ 71 70,
⟨some 72, .mv (.t 8), some (71, true), true⟩,
⟨some 73, .build [i0_, i0_, i0_, i0_] [(0, 1, .c (.int .i64 1)), (2, 1, .c (.int .i64 2))], some (71, true), true⟩,
⟨some 74, .bsl 4 1 [i0_, i0_, i0_, i0_] [(0, .t 73)], some (71, true), true⟩,
⟨some 75, .call 10 [.t 72, .t 74], some (71, true), true⟩,
s_ 76 (.pick (.t 71) (.t 75) (.c (.bool false))),
m_ 77 76,
⟨some 78, .mv (.t 9), some (77, true), true⟩,
⟨some 79, .build [i0_, i0_, i0_, i0_] [(0, 1, .c (.int .i64 1)), (2, 1, .c (.int .i64 2))], some (77, true), true⟩,
⟨some 80, .build [i0_, i0_, i0_, i0_] [(0, 1, .c (.int .i64 1)), (1, 1, .c (.int .i64 1))], some (77, true), true⟩,
⟨some 81, .build [i0_, i0_, i0_, i0_] [(0, 1, .c (.int .i64 3))], some (77, true), true⟩,
⟨some 82, .build [i0_, i0_, i0_, i0_] [(0, 1, .c (.int .i64 4))], some (77, true), true⟩,
⟨some 83, .bsl 4 4 [i0_, i0_, i0_, i0_] [(0, .t 79), (1, .t 80), (2, .t 81), (3, .t 82)], some (77, true), true⟩,
⟨some 84, .call 10 [.t 78, .t 83], some (77, true), true⟩,
s_ 85 (.pick (.t 77) (.t 84) (.c (.bool false))),
m_ 86 85,
⟨some 87, .load true 44 (.t 1), some (86, true), true⟩,
⟨some 88, .load true 6 (.t 2), some (86, true), true⟩,
⟨some 89, .call 8 [.t 87, .t 88], some (86, true), true⟩,
⟨some 90, .un .not (.t 89), some (86, true), true⟩,
s_ 91 (.pick (.t 86) (.t 90) (.c (.bool false))),
m_ 92 91,
⟨some 93, .mv (.t 10), some (92, true), true⟩,
⟨some 94, .build [i0_, i0_, i0_, i0_] [(0, 1, .c (.int .i64 2))], some (92, true), true⟩,
⟨some 95, .bsl 4 1 [i0_, i0_, i0_, i0_] [(0, .t 94)], some (92, true), true⟩,
⟨some 96, .call 10 [.t 93, .t 95], some (92, true), true⟩,
s_ 97 (.pick (.t 92) (.t 96) (.c (.bool false))),
s_ 0 (.as (.t 97))] [0] [1,2,4,5]) (
.ret)))))))))))))))))))))))))))))
def A5_L0b : ACode :=
(.seq (
r_ [
s_ 10 (.bin .lss (.t 9) (.c (.int .i64 3)))] [2,3,4,5,8,9,10] []) (
(.seq (
(.cond (.t 10) (
.skip) (
.exit 0))) (
(.seq (
(.block 1 (
(.seq (
r_ [
m_ 11 9,
s_ 12 (.ixa false 3 1 (.t 8) (.t 9)),
s_ 6 (.as (.t 11)),
s_ 7 (.as (.t 12))] [2,3,4,5,6,7,8,9] []) (
.reg (some [.dr [16, 19] [], .dr [16, 19] [], .dr [] [], .dr [] [], .dr [16] [], .dr [16] [], .dr [] [], .dr [] [], .dr [19] [], .dr [] [], .free, .free]) [
m_ 13 6,
m_ 14 6,
m_ 15 7,
s_ 16 (.call 14 [.t 15, .c (.int .i64 12)]),
m_ 17 7,
s_ 18 (.un .neg (.t 17)),
s_ 19 (.call 14 [.t 18, .c (.int .i64 12)]),
s_ 20 (.un .neg (.t 19)),
s_ 21 (.iaa 3 1 (.t 4) (.t 13)),
n_ (.store 1 (.t 21) (.t 16)),
s_ 22 (.iaa 3 1 (.t 5) (.t 14)),
n_ (.store 1 (.t 22) (.t 20))] (some [2,3,4,5,8,9]) []))) (some [2,3,4,5,8,9]) [6,7,16,19])) (
r_ [
s_ 23 (.bin .add (.t 9) (.c (.int .i64 1))),
m_ 9 23] [2,3,4,5,8,9] []))))))
def A5_L0 : ACode := .loop A5_L0b (some [2,3,4,5,8,9]) [6,7,16,19]
def A5 : AFn := .code [.cell true 3 2, .cell true 3 3] (
(.seq (
r_ [
s_ 1 (.box (.t 0)),
s_ 2 (.alloc [i0_, i0_, i0_]),
s_ 3 (.alloc [i0_, i0_, i0_])] [1,2,3] []) (
(.seq (
r_ [
s_ 4 (.alloc [i0_, i0_, i0_]),
s_ 5 (.alloc [i0_, i0_, i0_])] [1,2,3,4,5] []) (
(.seq (
(.seq (
r_ [
l_ 8 true 3 1,
s_ 9 (.mv (.c (i0_)))] [2,3,4,5,8,9] [1]) (
(.block 0 (
A5_L0) (some [2,3,4,5]) [6,7,16,19])))) (
(.seq (
.reg (some [.dr [25] [], .dr [24] [2], .dr [25] [], .free]) [
l_ 24 true 3 4,
l_ 25 true 3 5,
n_ (.store 3 (.t 2) (.t 24)),
n_ (.store 3 (.t 3) (.t 25))] (some [2,3]) [4,5]) (
.ret)))))))))
def A6 : AFn := .code [.cell true 3 2, .cell true 3 3] (
(.seq (
r_ [
s_ 1 (.box (.t 0)),
s_ 2 (.alloc [i0_, i0_, i0_]),
s_ 3 (.alloc [i0_, i0_, i0_])] [1,2,3] []) (
(.seq (
.reg (some [.dr [10, 13, 4] [], .dr [10, 13, 4] [], .dr [10, 13, 4] [], .dr [7, 8, 13, 4] [], .dr [7, 8, 13, 4] [], .dr [13, 4] [], .dr [7, 8, 10, 11, 4] [], .dr [7, 8, 10, 11, 4] [], .dr [4] [], .dr [4] [], .dr [7, 8, 10, 11, 13, 14] [], .free]) [
s_ 6 (.iaa 3 1 (.t 1) (.c (i0_))),
l_ 7 false 1 6,
s_ 8 (.call 15 [.t 7]),
s_ 9 (.iaa 3 1 (.t 1) (.c (.int .i64 1))),
l_ 10 false 1 9,
s_ 11 (.call 15 [.t 10]),
s_ 12 (.iaa 3 1 (.t 1) (.c (.int .i64 2))),
l_ 13 false 1 12,
s_ 14 (.call 15 [.t 13]),
s_ 15 (.build [i0_, i0_, i0_] [(0, 1, .t 8), (1, 1, .t 11), (2, 1, .t 14)]),
s_ 4 (.alloc [i0_, i0_, i0_]),
n_ (.store 3 (.t 4) (.t 15))] (some [1,2,3,4]) []) (
(.seq (
.reg (some [.dr [21, 25, 5] [], .dr [21, 25, 5] [], .dr [21, 25, 5] [], .dr [21, 25, 5] [], .dr [17, 19, 25, 5] [], .dr [17, 19, 25, 5] [], .dr [17, 19, 25, 5] [], .dr [25, 5] [], .dr [17, 19, 21, 23, 5] [], .dr [17, 19, 21, 23, 5] [], .dr [17, 19, 21, 23, 5] [], .dr [5] [], .dr [5] [], .dr [17, 19, 21, 23, 25, 27] [], .free]) [
s_ 16 (.iaa 3 1 (.t 1) (.c (i0_))),
l_ 17 false 1 16,
s_ 18 (.bin .add (.t 17) (.c (.int .i64 11))),
s_ 19 (.call 15 [.t 18]),
s_ 20 (.iaa 3 1 (.t 1) (.c (.int .i64 1))),
l_ 21 false 1 20,
s_ 22 (.bin .add (.t 21) (.c (.int .i64 11))),
s_ 23 (.call 15 [.t 22]),
s_ 24 (.iaa 3 1 (.t 1) (.c (.int .i64 2))),
l_ 25 false 1 24,
s_ 26 (.bin .add (.t 25) (.c (.int .i64 11))),
s_ 27 (.call 15 [.t 26]),
s_ 28 (.build [i0_, i0_, i0_] [(0, 1, .t 19), (1, 1, .t 23), (2, 1, .t 27)]),
s_ 5 (.alloc [i0_, i0_, i0_]),
n_ (.store 3 (.t 5) (.t 28))] (some [2,3,4,5]) [1]) (
(.seq (
.reg (some [.dr [30] [], .dr [29] [2], .dr [30] [], .free]) [
l_ 29 true 3 4,
l_ 30 true 3 5,
n_ (.store 3 (.t 2) (.t 29)),
n_ (.store 3 (.t 3) (.t 30))] (some [2,3]) [4,5]) (
.ret)))))))))
def A7 : AFn := .code [.t 6] (
(.seq (
r_ [
s_ 3 (.box (.t 0)),
s_ 4 (.box (.t 1)),
s_ 6 (.as (.c (.bool false)))] [2,3,4] []) (
(.seq (
(.seq (
r_ [
s_ 7 (.fad 30 (.t 3)),
l_ 8 false 1 7,
s_ 9 (.len 0 (.t 8)),
s_ 10 (.bin .gtr (.t 9) (.c (.int .i64 16))),
m_ 11 10,
⟨some 12, .fad 41 (.t 3), some (11, false), true⟩,
⟨some 13, .load false 1 (.t 12), some (11, false), true⟩,
⟨some 14, .len 0 (.t 13), some (11, false), true⟩,
⟨some 15, .bin .gtr (.t 14) (.c (.int .i64 16)), some (11, false), true⟩,
s_ 16 (.pick (.t 11) (.c (.bool true)) (.t 15)),
m_ 17 16,
⟨some 18, .fad 31 (.t 3), some (17, false), true⟩,
⟨some 19, .load false 1 (.t 18), some (17, false), true⟩,
⟨some 20, .len 0 (.t 19), some (17, false), true⟩,
⟨some 21, .bin .gtr (.t 20) (.c (.int .i64 16)), some (17, false), true⟩,
s_ 22 (.pick (.t 17) (.c (.bool true)) (.t 21)),
m_ 23 22,
⟨some 24, .fad 32 (.t 3), some (23, false), true⟩,
⟨some 25, .load false 1 (.t 24), some (23, false), true⟩,
⟨some 26, .len 0 (.t 25), some (23, false), true⟩,
⟨some 27, .bin .gtr (.t 26) (.c (.int .i64 8)), some (23, false), true⟩,
s_ 28 (.pick (.t 23) (.c (.bool true)) (.t 27)),
m_ 29 28,
⟨some 30, .fad 33 (.t 3), some (29, false), true⟩,
⟨some 31, .load false 1 (.t 30), some (29, false), true⟩,
⟨some 32, .len 0 (.t 31), some (29, false), true⟩,
⟨some 33, .bin .gtr (.t 32) (.c (.int .i64 16)), some (29, false), true⟩,
s_ 34 (.pick (.t 29) (.c (.bool true)) (.t 33))] [2,3,4,34] []) (
(.cond (.t 34) (
(.seq (
r_ [
s_ 6 (.as (.c (.bool false)))] [6] []) (
.ret))) (
.skip))))) (
(.seq (
r_ [
l_ 35 true 44 3,
s_ 36 (.call 16 [.t 35]),
m_ 37 36,
⟨some 38, .mv (.t 2), some (37, true), true⟩,
⟨some 39, .len 0 (.t 38), some (37, true), true⟩,
⟨some 40, .fad 41 (.t 3), some (37, true), true⟩,
⟨some 41, .load false 1 (.t 40), some (37, true), true⟩,
⟨some 42, .len 0 (.t 41), some (37, true), true⟩,
⟨some 43, .bin .eql (.t 39) (.t 42), some (37, true), true⟩,
s_ 44 (.pick (.t 37) (.t 43) (.c (.bool false))),
m_ 45 44,
⟨some 46, .fad 0 (.t 3), some (45, true), true⟩,
⟨some 47, .iaa 2 12 (.t 46) (.c (i0_)), some (45, true), true⟩,
⟨some 48, .load true 12 (.t 47), some (45, true), true⟩,
⟨some 49, .iaa 2 3 (.t 4) (.c (i0_)), some (45, true), true⟩,
⟨some 50, .load true 3 (.t 49), some (45, true), true⟩,
⟨some 51, .call 17 [.t 48, .t 50], some (45, true), true⟩,
s_ 52 (.pick (.t 45) (.t 51) (.c (.bool false))),
m_ 53 52,
⟨some 54, .fad 0 (.t 3), some (53, true), true⟩,
⟨some 55, .iaa 2 12 (.t 54) (.c (.int .i64 1)), some (53, true), true⟩,
⟨some 56, .load true 12 (.t 55), some (53, true), true⟩,
⟨some 57, .iaa 2 3 (.t 4) (.c (.int .i64 1)), some (53, true), true⟩,
⟨some 58, .load true 3 (.t 57), some (53, true), true⟩,
⟨some 59, .call 17 [.t 56, .t 58], some (53, true), true⟩,
s_ 60 (.pick (.t 53) (.t 59) (.c (.bool false))),
s_ 6 (.as (.t 60))] [6] [3,4]) (
.ret)))))))
def A8_R0a : ACode :=
r_ [
s_ 6 (.as (.t 20))] [2, 4, 5, 6] []
def A8_R0b : ACode :=
(.block 3 (
(.seq (
.reg (some [.dr [25] [], .dr [21, 25] [], .dr [25] [], .dr [21, 23] [], .dr [21, 23] [], .dr [21, 23] [], .free]) [
l_ 21 false 1 5,
m_ 22 6,
s_ 23 (.call 19 [.t 21, .t 22]),
s_ 24 (.fad 42 (.t 2)),
l_ 25 false 1 24,
s_ 26 (.bin .mul (.t 25) (.c (.int .i64 4394000))),
b_ 27 .lss 23 26] (some [4,27]) [2,5]) (
(.cond (.t 27) (
(.seq (
r_ [
n_ (.store 1 (.t 4) (.c (.bool false)))] [] []) (
.ret))) (
.skip))))) (some []) [23])
def A8_R0 : ACode := .rf 1 (.t 19) [20]  A8_R0a A8_R0b
def A8_R1a : ACode :=
r_ [
s_ 5 (.alloc [.nils 2]),
n_ (.store 1 (.t 5) (.t 13))] [2, 3, 4, 5] []
def A8_R1b : ACode :=
(.block 1 (
(.seq (
r_ [
s_ 14 (.fad 0 (.t 2)),
s_ 15 (.iaa 2 12 (.t 14) (.c (.int .i64 1))),
l_ 16 true 12 15,
s_ 17 (.iaa 2 3 (.t 3) (.c (.int .i64 1))),
l_ 18 true 3 17,
s_ 19 (.call 18 [.t 16, .t 18])] [2,4,5,19] [3]) (
(.block 2 (
A8_R0) (some []) [6,23])))) (some []) [6,19,23])
def A8_R1 : ACode := .rf 0 (.t 12) [13]  A8_R1a A8_R1b
def A8 : AFn := .code [.cell false 1 4] (
(.seq (
r_ [
s_ 2 (.box (.t 0)),
s_ 3 (.box (.t 1)),
s_ 4 (.alloc [.bool false])] [2,3,4] []) (
(.seq (
(.seq (
r_ [
s_ 7 (.fad 0 (.t 2)),
s_ 8 (.iaa 2 12 (.t 7) (.c (i0_))),
l_ 9 true 12 8,
s_ 10 (.iaa 2 3 (.t 3) (.c (i0_))),
l_ 11 true 3 10,
s_ 12 (.call 18 [.t 9, .t 11])] [2,3,4,12] []) (
(.block 0 (
A8_R1) (some [4]) [5,6,19,23])))) (
(.seq (
r_ [
n_ (.store 1 (.t 4) (.c (.bool true)))] [4] []) (
.ret)))))))
def A9_L0b : ACode :=
(.seq (
(.seq (
r_ [
m_ 25 8,
s_ 26 (.bin .lss (.t 25) (.c (.int .i64 6)))] [2,5,6,7,8,26] []) (
(.cond (.t 26) (
.skip) (
.exit 2))))) (
(.seq (
(.block 3 (
(.seq (
.reg (some [.dr [35, 36, 39] [], .dr [35, 36, 39] [], .dr [35, 36, 39] [], .dr [35, 36, 39] [], .dr [31, 32, 39] [], .dr [31, 32, 39] [], .dr [31, 32, 39] [], .dr [31, 32, 39] [], .dr [39] [], .dr [31, 32, 35, 36, 37] [], .dr [31, 32, 35, 36, 37] [], .dr [31, 32, 35, 36, 37] [], .free]) [
m_ 29 5,
m_ 30 7,
s_ 31 (.ias 1 (.t 29) (.t 30)),
l_ 32 false 1 31,
m_ 33 6,
m_ 34 8,
s_ 35 (.ias 1 (.t 33) (.t 34)),
l_ 36 false 1 35,
s_ 37 (.call 21 [.t 32, .t 36]),
s_ 38 (.fad 42 (.t 2)),
l_ 39 false 1 38,
s_ 40 (.bin .mul (.t 39) (.c (.int .i64 4394000))),
b_ 41 .lss 37 40] (some [2,5,6,7,8,41]) []) (
(.cond (.t 41) (
(.seq (
r_ [
s_ 4 (.as (.c (.bool false)))] [4] []) (
.ret))) (
.skip))))) (some [2,5,6,7,8]) [4,37])) (
r_ [
m_ 27 8,
s_ 28 (.bin .add (.t 27) (.c (.int .i64 1))),
s_ 8 (.as (.t 28))] [2,5,6,7,8] []))))
def A9_L0 : ACode := .loop A9_L0b (some [2,5,6,7,8]) [4,37]
def A9_L1b : ACode :=
(.seq (
(.seq (
r_ [
m_ 21 7,
s_ 22 (.bin .lss (.t 21) (.c (.int .i64 6)))] [2,5,6,7,22] []) (
(.cond (.t 22) (
.skip) (
.exit 0))))) (
(.seq (
(.block 1 (
(.seq (
r_ [
s_ 8 (.as (.c (i0_)))] [2,5,6,7,8] []) (
(.block 2 (
A9_L0) (some [2,5,6,7]) [4,8,37])))) (some [2,5,6,7]) [4,8,37])) (
r_ [
m_ 23 7,
s_ 24 (.bin .add (.t 23) (.c (.int .i64 1))),
s_ 7 (.as (.t 24))] [2,5,6,7] []))))
def A9_L1 : ACode := .loop A9_L1b (some [2,5,6,7]) [4,8,37]
def A9 : AFn := .code [.t 4] (
(.seq (
r_ [
s_ 2 (.box (.t 0)),
s_ 3 (.box (.t 1)),
s_ 4 (.as (.c (.bool false)))] [2,3] []) (
(.seq (
r_ [
s_ 9 (.fad 0 (.t 2)),
s_ 10 (.iaa 2 12 (.t 9) (.c (i0_))),
l_ 11 true 12 10,
s_ 12 (.iaa 2 3 (.t 3) (.c (i0_))),
l_ 13 true 3 12,
s_ 14 (.call 20 [.t 11, .t 13]),
s_ 5 (.as (.t 14))] [2,3,5] []) (
(.seq (
r_ [
s_ 15 (.fad 0 (.t 2)),
s_ 16 (.iaa 2 12 (.t 15) (.c (.int .i64 1))),
l_ 17 true 12 16,
s_ 18 (.iaa 2 3 (.t 3) (.c (.int .i64 1))),
l_ 19 true 3 18,
s_ 20 (.call 20 [.t 17, .t 19]),
s_ 6 (.as (.t 20))] [2,5,6] [3]) (
(.seq (
(.seq (
r_ [
s_ 7 (.as (.c (i0_)))] [2,5,6,7] []) (
(.block 0 (
A9_L1) (some []) [4,7,8,37])))) (
(.seq (
r_ [
s_ 4 (.as (.c (.bool true)))] [4] []) (
.ret)))))))))))
def A10_L0b : ACode :=
(.seq (
(.seq (
r_ [
m_ 11 5,
m_ 12 0,
s_ 13 (.len 0 (.t 12)),
b_ 14 .lss 11 13] [0,1,5,14] []) (
(.cond (.t 14) (
.skip) (
.exit 0))))) (
(.seq (
(.block 1 (
(.seq (
.reg (some [.dr [23, 24] [], .dr [23, 24] [], .dr [23, 24] [], .dr [23, 24] [], .dr [19, 20] [], .dr [19, 20] [], .dr [19, 20] [], .dr [19, 20] [], .free]) [
m_ 17 0,
m_ 18 5,
s_ 19 (.ias 4 (.t 17) (.t 18)),
l_ 20 true 4 19,
m_ 21 1,
m_ 22 5,
s_ 23 (.ias 4 (.t 21) (.t 22)),
l_ 24 true 4 23,
s_ 25 (.eqa true [0, 0, 0, 0] (.t 20) (.t 24))] (some [0,1,5,25]) []) (
(.cond (.t 25) (
(.seq (
r_ [
s_ 4 (.as (.c (.bool false)))] [4] []) (
.ret))) (
.skip))))) (some [0,1,5]) [4])) (
r_ [
m_ 15 5,
s_ 16 (.bin .add (.t 15) (.c (.int .i64 1))),
s_ 5 (.as (.t 16))] [0,1,5] []))))
def A10_L0 : ACode := .loop A10_L0b (some [0,1,5]) [4]
def A10 : AFn := .code [.t 4] (
(.seq (
r_ [
s_ 4 (.as (.c (.bool false)))] [0,1] []) (
(.seq (
(.seq (
r_ [
m_ 6 0,
s_ 7 (.len 0 (.t 6)),
m_ 8 1,
s_ 9 (.len 0 (.t 8)),
b_ 10 .neq 7 9] [0,1,10] []) (
(.cond (.t 10) (
(.seq (
r_ [
s_ 4 (.as (.c (.bool false)))] [4] []) (
.ret))) (
.skip))))) (
(.seq (
(.seq (
r_ [
s_ 5 (.as (.c (i0_)))] [0,1,5] []) (
(.block 0 (
A10_L0) (some []) [4,5])))) (
(.seq (
r_ [
s_ 4 (.as (.c (.bool true)))] [4] []) (
.ret)))))))))
def A11_L0b : ACode :=
(.seq (
r_ [
b_ 15 .lss 14 13] [3,4,5,6,9,12,13,14,15] []) (
(.seq (
(.cond (.t 15) (
.skip) (
.exit 0))) (
(.seq (
(.block 1 (
(.seq (
r_ [
s_ 16 (.ias 1 (.t 12) (.t 14)),
l_ 17 false 1 16,
s_ 11 (.as (.t 17))] [3,4,5,6,9,11,12,13,14] []) (
r_ [
m_ 18 9,
m_ 19 11,
l_ 20 true 44 4,
l_ 21 true 6 5,
l_ 22 true 6 6,
m_ 23 3,
s_ 24 (.build [i0_, i0_, i0_, i0_, i0_, i0_, i0_, i0_, i0_, i0_, i0_, i0_, i0_, i0_, i0_, i0_, i0_, i0_, i0_, i0_, i0_, i0_, i0_, i0_, i0_, i0_, i0_, i0_, i0_, i0_, .nils 1, .nils 6, .nils 3, .nils 1, i0_, i0_, i0_, i0_, i0_, i0_, i0_, .nils 1, i0_, i0_, i0_, i0_, i0_, i0_, i0_, i0_, i0_, i0_, i0_, i0_, i0_, i0_, .nils 1] [(0, 44, .t 20), (44, 6, .t 21), (50, 6, .t 22), (56, 1, .t 23)]),
s_ 25 (.cal (.t 19) [.t 24]),
s_ 26 (.app 4 (.t 18) (.t 25)),
s_ 9 (.as (.t 26))] [3,4,5,6,9,12,13,14] []))) (some [3,4,5,6,9,12,13,14]) [11,25])) (
r_ [
s_ 27 (.bin .add (.t 14) (.c (.int .i64 1))),
m_ 14 27] [3,4,5,6,9,12,13,14] []))))))
def A11_L0 : ACode := .loop A11_L0b (some [3,4,5,6,9,12,13,14]) [11,25]
def A11 : AFn := .code [.t 8] (
(.seq (
r_ [
s_ 4 (.box (.t 0)),
s_ 5 (.box (.t 1)),
s_ 6 (.box (.t 2)),
s_ 8 (.as (.c (.nils 4)))] [3,4,5,6] []) (
(.seq (
r_ [
s_ 9 (.as (.c (.nils 4)))] [3,4,5,6,9] []) (
(.seq (
(.seq (
r_ [
s_ 12 (.bsl 1 4 [.nilf] [(0, .fu 22), (1, .fu 23), (2, .fu 24), (3, .fu 25)]),
s_ 13 (.len 0 (.t 12)),
s_ 14 (.mv (.c (i0_)))] [3,4,5,6,9,12,13,14] []) (
(.block 0 (
A11_L0) (some [9]) [11,25])))) (
(.seq (
r_ [
m_ 28 9,
s_ 8 (.as (.t 28))] [8] []) (
.ret)))))))))
def A12_L0b : ACode :=
(.seq (
(.seq (
r_ [
m_ 94 15,
m_ 95 3,
s_ 96 (.len 0 (.t 95)),
b_ 97 .lss 94 96] [3,9,15,97] []) (
(.cond (.t 97) (
.skip) (
.exit 8))))) (
(.seq (
(.block 9 (
(.seq (
r_ [
m_ 100 3,
m_ 101 15,
s_ 102 (.ias 1 (.t 100) (.t 101)),
l_ 103 false 1 102] [3,9,15,103] []) (
(.cond (.t 103) (
r_ [
m_ 104 9,
m_ 105 15,
s_ 106 (.build [i0_, i0_, i0_, i0_] [(0, 1, .c (.int .i64 4)), (3, 1, .t 105)]),
s_ 107 (.bsl 4 1 [i0_, i0_, i0_, i0_] [(0, .t 106)]),
s_ 108 (.app 4 (.t 104) (.t 107)),
s_ 9 (.as (.t 108))] [3,9,15] []) (
.skip))))) (some [3,9,15]) [107])) (
r_ [
m_ 98 15,
s_ 99 (.bin .add (.t 98) (.c (.int .i64 1))),
s_ 15 (.as (.t 99))] [3,9,15] []))))
def A12_L0 : ACode := .loop A12_L0b (some [3,9,15]) [107]
def A12_L1b : ACode :=
(.seq (
(.seq (
r_ [
m_ 69 14,
m_ 70 3,
s_ 71 (.len 0 (.t 70)),
b_ 72 .lss 69 71] [3,4,6,9,13,14,72] []) (
(.cond (.t 72) (
.skip) (
.exit 6))))) (
(.seq (
(.block 7 (
(.seq (
.reg (some [.dr [] [], .dr [] [], .free, .free, .free, .dr [84] [], .dr [80, 84] [], .dr [80] [], .dr [80] [], .dr [80] [], .dr [80, 84] [], .free, .free]) [
m_ 75 3,
m_ 76 14,
s_ 77 (.ias 1 (.t 75) (.t 76)),
l_ 78 false 1 77,
m_ 79 78,
⟨some 80, .load true 44 (.t 4), some (79, true), true⟩,
⟨some 81, .mv (.t 13), some (79, true), true⟩,
⟨some 82, .mv (.t 13), some (79, true), true⟩,
⟨some 83, .iaa 2 3 (.t 6) (.t 82), some (79, true), true⟩,
⟨some 84, .load true 3 (.t 83), some (79, true), true⟩,
⟨some 85, .mv (.t 14), some (79, true), true⟩,
⟨some 86, .call 28 [.t 80, .t 81, .t 84, .t 85], some (79, true), true⟩,
s_ 87 (.pick (.t 79) (.t 86) (.c (.bool false)))] (some [3,4,6,9,13,14,87]) []) (
(.cond (.t 87) (
r_ [
m_ 88 9,
m_ 89 13,
m_ 90 14,
s_ 91 (.build [i0_, i0_, i0_, i0_] [(0, 1, .c (.int .i64 3)), (1, 1, .t 89), (3, 1, .t 90)]),
s_ 92 (.bsl 4 1 [i0_, i0_, i0_, i0_] [(0, .t 91)]),
s_ 93 (.app 4 (.t 88) (.t 92)),
s_ 9 (.as (.t 93))] [3,4,6,9,13,14] []) (
.skip))))) (some [3,4,6,9,13,14]) [86,92])) (
r_ [
m_ 73 14,
s_ 74 (.bin .add (.t 73) (.c (.int .i64 1))),
s_ 14 (.as (.t 74))] [3,4,6,9,13,14] []))))
def A12_L1 : ACode := .loop A12_L1b (some [3,4,6,9,13,14]) [86,92]
def A12_L2b : ACode :=
(.seq (
(.seq (
r_ [
m_ 65 13,
s_ 66 (.bin .lss (.t 65) (.c (.int .i64 2)))] [3,4,6,9,13,66] []) (
(.cond (.t 66) (
.skip) (
.exit 4))))) (
(.seq (
(.block 5 (
(.seq (
r_ [
s_ 14 (.as (.c (i0_)))] [3,4,6,9,13,14] []) (
(.block 6 (
A12_L1) (some [3,4,6,9,13]) [14,86,92])))) (some [3,4,6,9,13]) [14,86,92])) (
r_ [
m_ 67 13,
s_ 68 (.bin .add (.t 67) (.c (.int .i64 1))),
s_ 13 (.as (.t 68))] [3,4,6,9,13] []))))
def A12_L2 : ACode := .loop A12_L2b (some [3,4,6,9,13]) [14,86,92]
def A12_L3b : ACode :=
(.seq (
(.seq (
r_ [
m_ 21 11,
s_ 22 (.bin .lss (.t 21) (.c (.int .i64 3)))] [3,4,5,6,9,10,11,22] []) (
(.cond (.t 22) (
.skip) (
.exit 2))))) (
(.seq (
(.block 3 (
(.seq (
.reg (some [.dr [34] [], .dr [34] [], .dr [34] [], .dr [34] [], .dr [34] [], .dr [29] [], .dr [29] [], .dr [29] [], .dr [29] [], .dr [29] [], .free, .free]) [
m_ 25 10,
m_ 26 11,
s_ 27 (.iaa 2 3 (.t 6) (.t 25)),
s_ 28 (.iaa 3 1 (.t 27) (.t 26)),
l_ 29 false 1 28,
m_ 30 10,
m_ 31 11,
s_ 32 (.iaa 2 3 (.t 5) (.t 30)),
s_ 33 (.iaa 3 1 (.t 32) (.t 31)),
l_ 34 false 1 33,
s_ 35 (.call 26 [.t 29, .t 34]),
s_ 12 (.as (.t 35))] (some [3,4,5,6,9,10,11,12]) []) (
(.seq (
r_ [
m_ 36 12,
s_ 37 (.fad 35 (.t 4)),
s_ 38 (.fad 0 (.t 37)),
l_ 39 false 1 38,
b_ 40 .gtr 36 39,
m_ 41 40,
⟨some 42, .mv (.t 3), some (41, false), true⟩,
⟨some 43, .call 27 [.t 42], some (41, false), true⟩,
⟨some 44, .mv (.t 43), some (41, false), true⟩,
⟨some 45, .mv (.t 12), some (44, true), true⟩,
⟨some 46, .fad 43 (.t 4), some (44, true), true⟩,
⟨some 47, .load false 1 (.t 46), some (44, true), true⟩,
⟨some 48, .bin .gtr (.t 45) (.t 47), some (44, true), true⟩,
⟨some 49, .pick (.t 44) (.t 48) (.c (.bool false)), some (41, false), true⟩,
s_ 50 (.pick (.t 41) (.c (.bool true)) (.t 49))] [3,4,5,6,9,10,11,50] []) (
(.cond (.t 50) (
r_ [
m_ 51 9,
m_ 52 10,
m_ 53 11,
s_ 54 (.build [i0_, i0_, i0_, i0_] [(0, 1, .c (.int .i64 1)), (1, 1, .t 52), (2, 1, .t 53)]),
s_ 55 (.bsl 4 1 [i0_, i0_, i0_, i0_] [(0, .t 54)]),
s_ 56 (.app 4 (.t 51) (.t 55)),
s_ 9 (.as (.t 56))] [3,4,5,6,9,10,11] []) (
.skip))))))) (some [3,4,5,6,9,10,11]) [12,35,43,55])) (
r_ [
m_ 23 11,
s_ 24 (.bin .add (.t 23) (.c (.int .i64 1))),
s_ 11 (.as (.t 24))] [3,4,5,6,9,10,11] []))))
def A12_L3 : ACode := .loop A12_L3b (some [3,4,5,6,9,10,11]) [12,35,43,55]
def A12_L4b : ACode :=
(.seq (
(.seq (
r_ [
m_ 17 10,
s_ 18 (.bin .lss (.t 17) (.c (.int .i64 2)))] [3,4,5,6,9,10,18] []) (
(.cond (.t 18) (
.skip) (
.exit 0))))) (
(.seq (
(.block 1 (
(.seq (
r_ [
s_ 11 (.as (.c (i0_)))] [3,4,5,6,9,10,11] []) (
(.block 2 (
A12_L3) (some [3,4,5,6,9,10]) [11,12,35,43,55])))) (some [3,4,5,6,9,10]) [11,12,35,43,55])) (
r_ [
m_ 19 10,
s_ 20 (.bin .add (.t 19) (.c (.int .i64 1))),
s_ 10 (.as (.t 20))] [3,4,5,6,9,10] []))))
def A12_L4 : ACode := .loop A12_L4b (some [3,4,5,6,9,10]) [11,12,35,43,55]
def A12 : AFn := .code [.t 8] (
(.seq (
r_ [
s_ 4 (.box (.t 0)),
s_ 5 (.box (.t 1)),
s_ 6 (.box (.t 2)),
s_ 8 (.as (.c (.nils 4)))] [3,4,5,6] []) (
(.seq (
r_ [
s_ 16 (.bsl 4 0 [i0_, i0_, i0_, i0_] []),
s_ 9 (.as (.t 16))] [3,4,5,6,9] []) (
(.seq (
(.seq (
r_ [
s_ 10 (.as (.c (i0_)))] [3,4,5,6,9,10] []) (
(.block 0 (
A12_L4) (some [3,4,6,9]) [10,11,12,35,43,55])))) (
(.seq (
(.seq (
r_ [
l_ 57 true 44 4,
l_ 58 true 6 6,
s_ 59 (.call 9 [.t 57, .t 58]),
s_ 60 (.un .not (.t 59))] [3,4,6,9,60] []) (
(.cond (.t 60) (
r_ [
m_ 61 9,
s_ 62 (.build [i0_, i0_, i0_, i0_] [(0, 1, .c (.int .i64 2))]),
s_ 63 (.bsl 4 1 [i0_, i0_, i0_, i0_] [(0, .t 62)]),
s_ 64 (.app 4 (.t 61) (.t 63)),
s_ 9 (.as (.t 64))] [3,4,6,9] []) (
.skip))))) (
(.seq (
(.seq (
r_ [
s_ 13 (.as (.c (i0_)))] [3,4,6,9,13] []) (
(.block 4 (
A12_L2) (some [3,9]) [13,14,86,92])))) (
(.seq (
(.seq (
r_ [
s_ 15 (.as (.c (i0_)))] [3,9,15] []) (
(.block 8 (
A12_L0) (some [9]) [15,107])))) (
(.seq (
r_ [
m_ 109 9,
s_ 8 (.as (.t 109))] [8] []) (
.ret)))))))))))))))
def A13 : AFn := .code [.cell true 44 0] (
(.seq (
r_ [
s_ 0 (.alloc [i0_, i0_, i0_, i0_, i0_, i0_, i0_, i0_, i0_, i0_, i0_, i0_, i0_, i0_, i0_, i0_, i0_, i0_, i0_, i0_, i0_, i0_, i0_, i0_, i0_, i0_, i0_, i0_, i0_, i0_, .nils 1, .nils 6, .nils 3, .nils 1, i0_, i0_, i0_, i0_, i0_, i0_, i0_, .nils 1, i0_, i0_])] [0] []) (
(.seq (
r_ [
s_ 3 (.call 29 []),
s_ 1 (.alloc [i0_, i0_, i0_, i0_, i0_, i0_, i0_, i0_, i0_, i0_, i0_, i0_, i0_, i0_, i0_, i0_, i0_, i0_, i0_, i0_, i0_, i0_, i0_, i0_, i0_, i0_, i0_, i0_, i0_, i0_, .nils 1, .nils 6, .nils 3, .nils 1, i0_, i0_, i0_, i0_, i0_, i0_, i0_, .nils 1, i0_, i0_]),
n_ (.store 44 (.t 1) (.t 3))] [0,1] []) (
(.seq (
r_ [
s_ 2 (.as (.c (.int .i64 4394000)))] [0,1,2] []) (
(.seq (
r_ [
m_ 4 2,
s_ 5 (.bin .mul (.c (.int .i64 8)) (.t 4)),
m_ 6 2,
s_ 7 (.bin .mul (.c (.int .i64 (-4))) (.t 6)),
s_ 8 (.build [i0_, i0_] [(0, 1, .t 5), (1, 1, .t 7)]),
m_ 9 2,
s_ 10 (.bin .mul (.c (.int .i64 12)) (.t 9)),
m_ 11 2,
s_ 12 (.bin .mul (.c (.int .i64 (-4))) (.t 11)),
s_ 13 (.build [i0_, i0_] [(0, 1, .t 10), (1, 1, .t 12)]),
m_ 14 2,
s_ 15 (.bin .mul (.c (.int .i64 12)) (.t 14)),
s_ 16 (.build [i0_, i0_] [(0, 1, .t 15), (1, 1, .c (i0_))]),
m_ 17 2,
s_ 18 (.bin .mul (.c (.int .i64 8)) (.t 17)),
s_ 19 (.build [i0_, i0_] [(0, 1, .t 18), (1, 1, .c (i0_))]),
s_ 20 (.bsl 2 4 [i0_, i0_] [(0, .t 8), (1, .t 13), (2, .t 16), (3, .t 19)]),
s_ 21 (.build [.nils 2] [(0, 1, .t 20)]),
s_ 22 (.bsl 1 1 [.nils 2] [(0, .t 21)]),
s_ 23 (.fad 41 (.t 1)),
n_ (.store 1 (.t 23) (.t 22))] [0,1,2] []) (
(.seq (
r_ [
m_ 24 2,
s_ 25 (.bin .mul (.c (.int .i64 25)) (.t 24)),
s_ 26 (.fad 0 (.t 1)),
s_ 27 (.iaa 2 12 (.t 26) (.c (.int .i64 1))),
s_ 28 (.fad 0 (.t 27)),
s_ 29 (.fad 0 (.t 28)),
n_ (.store 1 (.t 29) (.t 25))] [0,1] []) (
(.seq (
r_ [
s_ 30 (.fad 42 (.t 1)),
n_ (.store 1 (.t 30) (.c (.int .i64 10)))] [0,1] []) (
(.seq (
r_ [
l_ 31 true 44 1,
n_ (.store 44 (.t 0) (.t 31))] [0] [1]) (
.ret)))))))))))))))
def A14 : AFn := .code [.t 4] (
(.seq (
r_ [
s_ 4 (.as (.c (i0_)))] [0,1] []) (
(.seq (
r_ [
m_ 6 0,
m_ 7 1,
s_ 8 (.bin .quo (.t 6) (.t 7)),
s_ 5 (.as (.t 8))] [0,1,5] []) (
(.seq (
(.seq (
r_ [
m_ 9 0,
m_ 10 1,
s_ 11 (.bin .rem (.t 9) (.t 10)),
s_ 12 (.bin .lss (.t 11) (.c (i0_)))] [5,12] []) (
(.cond (.t 12) (
r_ [
m_ 13 5,
s_ 14 (.bin .sub (.t 13) (.c (.int .i64 1))),
s_ 5 (.as (.t 14))] [5] []) (
.skip))))) (
(.seq (
r_ [
m_ 15 5,
s_ 4 (.as (.t 15))] [4] []) (
.ret)))))))))
def A15_L0b : ACode :=
(.seq (
(.seq (
r_ [
m_ 4 3,
s_ 5 (.bin .add (.t 4) (.c (.int .i64 1))),
s_ 6 (.bin .mul (.c (.int .i64 12)) (.t 5)),
m_ 7 0,
b_ 8 .leq 6 7,
m_ 9 8,
⟨some 10, .mv (.t 3), some (9, true), true⟩,
⟨some 11, .bin .lss (.t 10) (.c (.int .i64 100)), some (9, true), true⟩,
s_ 12 (.pick (.t 9) (.t 11) (.c (.bool false)))] [0,3,12] []) (
(.cond (.t 12) (
.skip) (
.exit 0))))) (
(.block 1 (
r_ [
m_ 13 3,
s_ 14 (.bin .add (.t 13) (.c (.int .i64 1))),
s_ 3 (.as (.t 14))] [0,3] []) (some [0,3]) [])))
def A15_L0 : ACode := .loop A15_L0b (some [0,3]) []
def A15 : AFn := .code [.t 2] (
(.seq (
r_ [
s_ 2 (.as (.c (i0_)))] [0] []) (
(.seq (
r_ [
s_ 3 (.as (.c (.int .i64 (-100))))] [0,3] []) (
(.seq (
(.block 0 (
A15_L0) (some [3]) [])) (
(.seq (
r_ [
m_ 15 3,
s_ 2 (.as (.t 15))] [2] []) (
.ret)))))))))
def A16_L0b : ACode :=
(.seq (
(.seq (
r_ [
m_ 7 3,
s_ 8 (.bin .lss (.t 7) (.c (.int .i64 2)))] [1,3,8] []) (
(.cond (.t 8) (
.skip) (
.exit 0))))) (
(.seq (
(.block 1 (
(.seq (
r_ [
m_ 11 3,
s_ 12 (.fad 0 (.t 1)),
s_ 13 (.iaa 2 12 (.t 12) (.t 11)),
l_ 14 true 12 13,
s_ 4 (.alloc [i0_, i0_, i0_, i0_, i0_, i0_, i0_, i0_, i0_, i0_, i0_, i0_]),
n_ (.store 12 (.t 4) (.t 14))] [1,3,4] []) (
(.seq (
(.seq (
.reg (some [.free, .free, .free, .free, .dr [23] [], .dr [19] [], .dr [19] [], .dr [19] [], .dr [19] [], .free, .free, .free]) [
l_ 15 true 12 4,
s_ 16 (.call 30 [.t 15]),
s_ 17 (.un .not (.t 16)),
m_ 18 17,
⟨some 19, .load true 12 (.t 4), some (18, false), true⟩,
⟨some 20, .mv (.t 3), some (18, false), true⟩,
⟨some 21, .fad 24 (.t 1), some (18, false), true⟩,
⟨some 22, .iaa 2 3 (.t 21) (.t 20), some (18, false), true⟩,
⟨some 23, .load true 3 (.t 22), some (18, false), true⟩,
⟨some 24, .call 31 [.t 19, .t 23], some (18, false), true⟩,
⟨some 25, .un .not (.t 24), some (18, false), true⟩,
s_ 26 (.pick (.t 18) (.c (.bool true)) (.t 25))] (some [1,3,4,26]) []) (
(.cond (.t 26) (
(.seq (
r_ [
s_ 2 (.as (.c (.bool false)))] [2] []) (
.ret))) (
.skip))))) (
(.seq (
r_ [
s_ 27 (.fad 2 (.t 4)),
s_ 28 (.iaa 3 1 (.t 27) (.c (i0_))),
l_ 29 false 1 28,
s_ 30 (.fad 2 (.t 4)),
s_ 31 (.iaa 3 1 (.t 30) (.c (.int .i64 1))),
l_ 32 false 1 31,
b_ 33 .add 29 32,
s_ 34 (.fad 2 (.t 4)),
s_ 35 (.iaa 3 1 (.t 34) (.c (.int .i64 2))),
l_ 36 false 1 35,
b_ 37 .add 33 36,
s_ 38 (.bin .add (.t 37) (.c (.int .i64 15))),
s_ 39 (.bin .mul (.c (.int .i64 39546000)) (.t 38)),
s_ 5 (.as (.t 39))] [1,3,4,5] []) (
(.seq (
r_ [
s_ 40 (.fad 0 (.t 4)),
s_ 41 (.fad 0 (.t 40)),
l_ 42 false 1 41,
s_ 43 (.fad 0 (.t 4)),
s_ 44 (.fad 0 (.t 43)),
l_ 45 false 1 44,
s_ 46 (.un .neg (.t 45)),
s_ 47 (.mx [.t 42, .t 46]),
s_ 48 (.bin .mul (.c (.int .i64 8)) (.t 47)),
m_ 49 5,
b_ 50 .add 48 49,
s_ 51 (.bin .gtr (.t 50) (.c (.int .i64 3515200000))),
m_ 52 51,
⟨some 53, .fad 0 (.t 4), some (52, false), true⟩,
⟨some 54, .fad 1 (.t 53), some (52, false), true⟩,
⟨some 55, .load false 1 (.t 54), some (52, false), true⟩,
⟨some 56, .fad 0 (.t 4), some (52, false), true⟩,
⟨some 57, .fad 1 (.t 56), some (52, false), true⟩,
⟨some 58, .load false 1 (.t 57), some (52, false), true⟩,
⟨some 59, .un .neg (.t 58), some (52, false), true⟩,
⟨some 60, .mx [.t 55, .t 59], some (52, false), true⟩,
⟨some 61, .bin .mul (.c (.int .i64 8)) (.t 60), some (52, false), true⟩,
⟨some 62, .mv (.t 5), some (52, false), true⟩,
⟨some 63, .bin .add (.t 61) (.t 62), some (52, false), true⟩,
⟨some 64, .bin .gtr (.t 63) (.c (.int .i64 3515200000)), some (52, false), true⟩,
s_ 65 (.pick (.t 52) (.c (.bool true)) (.t 64))] [1,3,65] [4]) (
(.cond (.t 65) (
(.seq (
r_ [
s_ 2 (.as (.c (.bool false)))] [2] []) (
.ret))) (
.skip))))))))))) (some [1,3]) [2,4,5,16,24])) (
r_ [
m_ 9 3,
s_ 10 (.bin .add (.t 9) (.c (.int .i64 1))),
s_ 3 (.as (.t 10))] [1,3] []))))
def A16_L0 : ACode := .loop A16_L0b (some [1,3]) [2,4,5,16,24]
def A16 : AFn := .code [.t 2] (
(.seq (
r_ [
s_ 1 (.box (.t 0)),
s_ 2 (.as (.c (.bool false)))] [1] []) (
(.seq (
(.seq (
r_ [
s_ 3 (.as (.c (i0_)))] [1,3] []) (
(.block 0 (
A16_L0) (some [1]) [2,3,4,5,16,24])))) (
(.seq (
(.seq (
r_ [
s_ 66 (.fad 31 (.t 1)),
l_ 67 false 1 66,
s_ 68 (.len 0 (.t 67)),
s_ 69 (.bin .gtr (.t 68) (.c (.int .i64 16))),
m_ 70 69,
⟨some 71, .fad 32 (.t 1), some (70, false), true⟩,
⟨some 72, .load false 1 (.t 71), some (70, false), true⟩,
⟨some 73, .len 0 (.t 72), some (70, false), true⟩,
⟨some 74, .bin .gtr (.t 73) (.c (.int .i64 8)), some (70, false), true⟩,
s_ 75 (.pick (.t 70) (.c (.bool true)) (.t 74)),
m_ 76 75,
⟨some 77, .fad 33 (.t 1), some (76, false), true⟩,
⟨some 78, .load false 1 (.t 77), some (76, false), true⟩,
⟨some 79, .len 0 (.t 78), some (76, false), true⟩,
⟨some 80, .bin .gtr (.t 79) (.c (.int .i64 16)), some (76, false), true⟩,
s_ 81 (.pick (.t 76) (.c (.bool true)) (.t 80))] [1,81] []) (
(.cond (.t 81) (
(.seq (
r_ [
s_ 2 (.as (.c (.bool false)))] [2] []) (
.ret))) (
.skip))))) (
(.seq (
r_ [
s_ 82 (.fad 35 (.t 1)),
l_ 83 true 3 82,
s_ 84 (.call 32 [.t 83]),
m_ 85 84,
⟨some 86, .fad 38 (.t 1), some (85, true), true⟩,
⟨some 87, .load true 3 (.t 86), some (85, true), true⟩,
⟨some 88, .call 32 [.t 87], some (85, true), true⟩,
s_ 89 (.pick (.t 85) (.t 88) (.c (.bool false))),
m_ 90 89,
⟨some 91, .fad 38 (.t 1), some (90, true), true⟩,
⟨some 92, .fad 0 (.t 91), some (90, true), true⟩,
⟨some 93, .load false 1 (.t 92), some (90, true), true⟩,
⟨some 94, .fad 35 (.t 1), some (90, true), true⟩,
⟨some 95, .fad 0 (.t 94), some (90, true), true⟩,
⟨some 96, .load false 1 (.t 95), some (90, true), true⟩,
⟨some 97, .bin .leq (.t 93) (.t 96), some (90, true), true⟩,
s_ 98 (.pick (.t 90) (.t 97) (.c (.bool false))),
m_ 99 98,
⟨some 100, .fad 38 (.t 1), some (99, true), true⟩,
⟨some 101, .fad 1 (.t 100), some (99, true), true⟩,
⟨some 102, .load false 1 (.t 101), some (99, true), true⟩,
⟨some 103, .fad 35 (.t 1), some (99, true), true⟩,
⟨some 104, .fad 1 (.t 103), some (99, true), true⟩,
⟨some 105, .load false 1 (.t 104), some (99, true), true⟩,
⟨some 106, .bin .leq (.t 102) (.t 105), some (99, true), true⟩,
s_ 107 (.pick (.t 99) (.t 106) (.c (.bool false))),
m_ 108 107,
⟨some 109, .fad 38 (.t 1), some (108, true), true⟩,
⟨some 110, .fad 2 (.t 109), some (108, true), true⟩,
⟨some 111, .load false 1 (.t 110), some (108, true), true⟩,
⟨some 112, .fad 35 (.t 1), some (108, true), true⟩,
⟨some 113, .fad 2 (.t 112), some (108, true), true⟩,
⟨some 114, .load false 1 (.t 113), some (108, true), true⟩,
⟨some 115, .bin .leq (.t 111) (.t 114), some (108, true), true⟩,
s_ 116 (.pick (.t 108) (.t 115) (.c (.bool false))),
s_ 6 (.as (.t 116))] [1,6] []) (
(.seq (
r_ [
s_ 117 (.fad 30 (.t 1)),
l_ 118 false 1 117,
s_ 119 (.call 33 [.t 118]),
m_ 120 119,
⟨some 121, .load true 44 (.t 1), some (120, true), true⟩,
⟨some 122, .call 34 [.t 121], some (120, true), true⟩,
⟨some 123, .call 33 [.t 122], some (120, true), true⟩,
s_ 124 (.pick (.t 120) (.t 123) (.c (.bool false))),
m_ 125 124,
⟨some 126, .fad 31 (.t 1), some (125, true), true⟩,
⟨some 127, .load false 1 (.t 126), some (125, true), true⟩,
⟨some 128, .call 35 [.t 127], some (125, true), true⟩,
s_ 129 (.pick (.t 125) (.t 128) (.c (.bool false))),
m_ 130 129,
⟨some 131, .fad 32 (.t 1), some (130, true), true⟩,
⟨some 132, .load false 1 (.t 131), some (130, true), true⟩,
⟨some 133, .fad 31 (.t 1), some (130, true), true⟩,
⟨some 134, .load false 1 (.t 133), some (130, true), true⟩,
⟨some 135, .len 0 (.t 134), some (130, true), true⟩,
⟨some 136, .call 36 [.t 132, .t 135], some (130, true), true⟩,
s_ 137 (.pick (.t 130) (.t 136) (.c (.bool false))),
m_ 138 137,
⟨some 139, .fad 33 (.t 1), some (138, true), true⟩,
⟨some 140, .load false 1 (.t 139), some (138, true), true⟩,
⟨some 141, .fad 31 (.t 1), some (138, true), true⟩,
⟨some 142, .load false 1 (.t 141), some (138, true), true⟩,
⟨some 143, .len 0 (.t 142), some (138, true), true⟩,
⟨some 144, .call 37 [.t 140, .t 143], some (138, true), true⟩,
s_ 145 (.pick (.t 138) (.t 144) (.c (.bool false))),
m_ 146 145,
⟨some 147, .fad 34 (.t 1), some (146, true), true⟩,
⟨some 148, .load false 1 (.t 147), some (146, true), true⟩,
⟨some 149, .bin .geq (.t 148) (.c (i0_)), some (146, true), true⟩,
s_ 150 (.pick (.t 146) (.t 149) (.c (.bool false))),
m_ 151 150,
⟨some 152, .fad 34 (.t 1), some (151, true), true⟩,
⟨some 153, .load false 1 (.t 152), some (151, true), true⟩,
⟨some 154, .bin .leq (.t 153) (.c (.int .i64 100)), some (151, true), true⟩,
s_ 155 (.pick (.t 151) (.t 154) (.c (.bool false))),
m_ 156 155,
⟨some 157, .mv (.t 6), some (156, true), true⟩,
s_ 158 (.pick (.t 156) (.t 157) (.c (.bool false))),
m_ 159 158,
⟨some 160, .fad 42 (.t 1), some (159, true), true⟩,
⟨some 161, .load false 1 (.t 160), some (159, true), true⟩,
⟨some 162, .bin .geq (.t 161) (.c (i0_)), some (159, true), true⟩,
s_ 163 (.pick (.t 159) (.t 162) (.c (.bool false))),
m_ 164 163,
⟨some 165, .fad 42 (.t 1), some (164, true), true⟩,
⟨some 166, .load false 1 (.t 165), some (164, true), true⟩,
⟨some 167, .bin .leq (.t 166) (.c (.int .i64 20)), some (164, true), true⟩,
s_ 168 (.pick (.t 164) (.t 167) (.c (.bool false))),
m_ 169 168,
⟨some 170, .fad 43 (.t 1), some (169, true), true⟩,
⟨some 171, .load false 1 (.t 170), some (169, true), true⟩,
⟨some 172, .bin .geq (.t 171) (.c (.int .i64 1)), some (169, true), true⟩,
s_ 173 (.pick (.t 169) (.t 172) (.c (.bool false))),
m_ 174 173,
⟨some 175, .fad 43 (.t 1), some (174, true), true⟩,
⟨some 176, .load false 1 (.t 175), some (174, true), true⟩,
⟨some 177, .bin .leq (.t 176) (.c (.int .i64 8)), some (174, true), true⟩,
s_ 178 (.pick (.t 174) (.t 177) (.c (.bool false))),
s_ 2 (.as (.t 178))] [2] [1]) (
.ret)))))))))))
def A17_L0b : ACode :=
(.seq (
(.seq (
r_ [
m_ 6 5,
s_ 7 (.bin .lss (.t 6) (.c (.int .i64 3)))] [2,3,5,7] []) (
(.cond (.t 7) (
.skip) (
.exit 0))))) (
(.seq (
(.block 1 (
(.seq (
.reg (some [.dr [16] [], .dr [16] [], .dr [16] [], .dr [12] [], .dr [12] [], .dr [12] [], .dr [12] [], .dr [12] [], .free, .free, .dr [26] [], .dr [26] [], .dr [26] [], .dr [22] [], .dr [22] [], .dr [22] [], .dr [22] [], .dr [22] [], .free, .free]) [
m_ 10 5,
s_ 11 (.iaa 3 1 (.t 3) (.t 10)),
l_ 12 false 1 11,
m_ 13 5,
s_ 14 (.fad 6 (.t 2)),
s_ 15 (.iaa 3 1 (.t 14) (.t 13)),
l_ 16 false 1 15,
s_ 17 (.bin .mul (.c (.int .i64 12)) (.t 16)),
b_ 18 .lss 12 17,
m_ 19 18,
⟨some 20, .mv (.t 5), some (19, false), true⟩,
⟨some 21, .iaa 3 1 (.t 3) (.t 20), some (19, false), true⟩,
⟨some 22, .load false 1 (.t 21), some (19, false), true⟩,
⟨some 23, .mv (.t 5), some (19, false), true⟩,
⟨some 24, .fad 9 (.t 2), some (19, false), true⟩,
⟨some 25, .iaa 3 1 (.t 24) (.t 23), some (19, false), true⟩,
⟨some 26, .load false 1 (.t 25), some (19, false), true⟩,
⟨some 27, .bin .mul (.c (.int .i64 12)) (.t 26), some (19, false), true⟩,
⟨some 28, .bin .gtr (.t 22) (.t 27), some (19, false), true⟩,
s_ 29 (.pick (.t 19) (.c (.bool true)) (.t 28))] (some [2,3,5,29]) []) (
(.cond (.t 29) (
(.seq (
r_ [
s_ 4 (.as (.c (.bool false)))] [4] []) (
.ret))) (
.skip))))) (some [2,3,5]) [4])) (
r_ [
m_ 8 5,
s_ 9 (.bin .add (.t 8) (.c (.int .i64 1))),
s_ 5 (.as (.t 9))] [2,3,5] []))))
def A17_L0 : ACode := .loop A17_L0b (some [2,3,5]) [4]
def A17 : AFn := .code [.t 4] (
(.seq (
r_ [
s_ 2 (.box (.t 0)),
s_ 3 (.box (.t 1)),
s_ 4 (.as (.c (.bool false)))] [2,3] []) (
(.seq (
(.seq (
r_ [
s_ 5 (.as (.c (i0_)))] [2,3,5] []) (
(.block 0 (
A17_L0) (some []) [4,5])))) (
(.seq (
r_ [
s_ 4 (.as (.c (.bool true)))] [4] []) (
.ret)))))))
def A18 : AFn := .code [.t 4] (
(.seq (
r_ [
s_ 2 (.box (.t 0)),
s_ 3 (.box (.t 1)),
s_ 4 (.as (.c (.nilf)))] [2,3] []) (
(.seq (
r_ [
s_ 5 (.mkf (.func 38) [] [.t 3, .t 2]),
s_ 4 (.as (.t 5))] [4] []) (
.ret)))))
def A19 : AFn := .code [.t 4] (
(.seq (
r_ [
s_ 4 (.as (.c (i0_)))] [0,1] []) (
(.seq (
(.seq (
r_ [
m_ 11 0,
s_ 12 (.len 0 (.t 11)),
s_ 13 (.bin .eql (.t 12) (.c (i0_))),
m_ 14 13,
⟨some 15, .mv (.t 1), some (14, false), true⟩,
⟨some 16, .len 0 (.t 15), some (14, false), true⟩,
⟨some 17, .bin .eql (.t 16) (.c (i0_)), some (14, false), true⟩,
s_ 18 (.pick (.t 14) (.c (.bool true)) (.t 17))] [0,1,18] []) (
(.cond (.t 18) (
(.seq (
r_ [
s_ 4 (.as (.c (i0_)))] [4] []) (
.ret))) (
.skip))))) (
(.seq (
r_ [
m_ 20 0,
s_ 21 (.call 40 [.t 20]),
m_ 19 21,
s_ 22 (.ext (.t 19) 0),
s_ 23 (.ext (.t 19) 1),
s_ 5 (.alloc [i0_, i0_]),
s_ 6 (.alloc [i0_, i0_]),
n_ (.store 2 (.t 5) (.t 22)),
n_ (.store 2 (.t 6) (.t 23))] [1,5,6] []) (
(.seq (
r_ [
m_ 25 1,
s_ 26 (.call 40 [.t 25]),
m_ 24 26,
s_ 27 (.ext (.t 24) 0),
s_ 28 (.ext (.t 24) 1),
s_ 7 (.alloc [i0_, i0_]),
s_ 8 (.alloc [i0_, i0_]),
n_ (.store 2 (.t 7) (.t 27)),
n_ (.store 2 (.t 8) (.t 28))] [5,6,7,8] []) (
(.seq (
.reg (some [.dr [30, 32, 33, 9, 10] [], .dr [29, 32, 33, 9, 10] [], .dr [32, 33, 9, 10] [], .dr [29, 30, 31, 33, 9, 10] [], .dr [29, 30, 31, 32, 9, 10] [], .dr [9, 10] [], .dr [29, 30, 31, 32, 33, 34, 10] [], .dr [29, 30, 31, 32, 33, 34, 9] [], .free, .free]) [
l_ 29 true 2 7,
l_ 30 true 2 6,
s_ 31 (.call 41 [.t 29, .t 30]),
l_ 32 true 2 5,
l_ 33 true 2 8,
s_ 34 (.call 41 [.t 32, .t 33]),
s_ 9 (.alloc [i0_, i0_]),
s_ 10 (.alloc [i0_, i0_]),
n_ (.store 2 (.t 9) (.t 31)),
n_ (.store 2 (.t 10) (.t 34))] (some [9,10]) [5,6,7,8]) (
(.seq (
r_ [
s_ 35 (.fad 0 (.t 9)),
l_ 36 false 1 35,
s_ 37 (.fad 1 (.t 9)),
l_ 38 false 1 37,
s_ 39 (.fad 0 (.t 10)),
l_ 40 false 1 39,
s_ 41 (.fad 1 (.t 10)),
l_ 42 false 1 41,
s_ 43 (.mx [.c (i0_), .t 36, .t 38, .t 40, .t 42]),
s_ 4 (.as (.t 43))] [4] [9,10]) (
.ret)))))))))))))
def A20 : AFn := .code [.t 4] (
(.seq (
r_ [
s_ 2 (.box (.t 0)),
s_ 3 (.box (.t 1)),
s_ 4 (.as (.c (.nils 1)))] [2,3] []) (
(.seq (
r_ [
l_ 10 true 3 3,
s_ 11 (.call 6 [.t 10]),
m_ 9 11,
s_ 12 (.ext (.t 9) 0),
s_ 13 (.ext (.t 9) 1),
s_ 5 (.alloc [i0_, i0_, i0_]),
s_ 6 (.alloc [i0_, i0_, i0_]),
n_ (.store 3 (.t 5) (.t 12)),
n_ (.store 3 (.t 6) (.t 13))] [2,5,6] [3]) (
(.seq (
r_ [
l_ 14 true 12 2,
l_ 15 true 3 5,
s_ 16 (.call 42 [.t 14, .t 15]),
s_ 7 (.alloc [.nils 2, .nils 2, .nils 2]),
n_ (.store 3 (.t 7) (.t 16))] [2,6,7] [5]) (
(.seq (
r_ [
l_ 17 true 12 2,
l_ 18 true 3 6,
s_ 19 (.call 42 [.t 17, .t 18]),
s_ 8 (.alloc [.nils 2, .nils 2, .nils 2]),
n_ (.store 3 (.t 8) (.t 19))] [7,8] [2,6]) (
(.seq (
r_ [
s_ 20 (.iaa 3 1 (.t 7) (.c (i0_))),
l_ 21 false 1 20,
s_ 22 (.iaa 3 1 (.t 7) (.c (.int .i64 1))),
l_ 23 false 1 22,
s_ 24 (.iaa 3 1 (.t 7) (.c (.int .i64 2))),
l_ 25 false 1 24,
s_ 26 (.iaa 3 1 (.t 8) (.c (i0_))),
l_ 27 false 1 26,
s_ 28 (.iaa 3 1 (.t 8) (.c (.int .i64 1))),
l_ 29 false 1 28,
s_ 30 (.iaa 3 1 (.t 8) (.c (.int .i64 2))),
l_ 31 false 1 30,
s_ 32 (.bsl 1 6 [.nils 2] [(0, .t 21), (1, .t 23), (2, .t 25), (3, .t 27), (4, .t 29), (5, .t 31)]),
s_ 4 (.as (.t 32))] [4] [7,8]) (
.ret)))))))))))
def A21 : AFn := .code [.t 4] (
(.seq (
r_ [
s_ 4 (.as (.c (i0_)))] [0,1] []) (
(.seq (
(.seq (
r_ [
m_ 9 0,
s_ 10 (.len 0 (.t 9)),
s_ 11 (.bin .eql (.t 10) (.c (i0_))),
m_ 12 11,
⟨some 13, .mv (.t 1), some (12, false), true⟩,
⟨some 14, .len 0 (.t 13), some (12, false), true⟩,
⟨some 15, .bin .eql (.t 14) (.c (i0_)), some (12, false), true⟩,
s_ 16 (.pick (.t 12) (.c (.bool true)) (.t 15))] [0,1,16] []) (
(.cond (.t 16) (
(.seq (
r_ [
s_ 4 (.as (.c (i0_)))] [4] []) (
.ret))) (
.skip))))) (
(.seq (
r_ [
m_ 18 0,
s_ 19 (.call 43 [.t 18]),
m_ 17 19,
s_ 20 (.ext (.t 17) 0),
s_ 21 (.ext (.t 17) 1),
s_ 5 (.alloc [i0_, i0_]),
s_ 6 (.alloc [i0_, i0_]),
n_ (.store 2 (.t 5) (.t 20)),
n_ (.store 2 (.t 6) (.t 21))] [1,5,6] []) (
(.seq (
r_ [
m_ 23 1,
s_ 24 (.call 43 [.t 23]),
m_ 22 24,
s_ 25 (.ext (.t 22) 0),
s_ 26 (.ext (.t 22) 1),
s_ 7 (.alloc [i0_, i0_]),
s_ 8 (.alloc [i0_, i0_]),
n_ (.store 2 (.t 7) (.t 25)),
n_ (.store 2 (.t 8) (.t 26))] [5,6,7,8] []) (
(.seq (
r_ [
s_ 27 (.fad 0 (.t 7)),
l_ 28 false 1 27,
s_ 29 (.fad 0 (.t 6)),
l_ 30 false 1 29,
b_ 31 .sub 28 30,
s_ 32 (.fad 0 (.t 5)),
l_ 33 false 1 32,
s_ 34 (.fad 0 (.t 8)),
l_ 35 false 1 34,
b_ 36 .sub 33 35,
s_ 37 (.fad 1 (.t 7)),
l_ 38 false 1 37,
s_ 39 (.fad 1 (.t 6)),
l_ 40 false 1 39,
b_ 41 .sub 38 40,
s_ 42 (.fad 1 (.t 5)),
l_ 43 false 1 42,
s_ 44 (.fad 1 (.t 8)),
l_ 45 false 1 44,
b_ 46 .sub 43 45,
s_ 47 (.mx [.c (i0_), .t 31, .t 36, .t 41, .t 46]),
s_ 4 (.as (.t 47))] [4] [5,6,7,8]) (
.ret)))))))))))
def A22_L0b : ACode :=
(.seq (
r_ [
s_ 30 (.bin .lss (.t 29) (.c (.int .i64 3)))] [1,3,4,5,23,24,28,29,30] []) (
(.seq (
(.cond (.t 30) (
.skip) (
.exit 2))) (
(.seq (
(.block 3 (
(.seq (
r_ [
m_ 31 29,
s_ 32 (.ixa false 3 1 (.t 28) (.t 29)),
s_ 7 (.as (.t 31)),
s_ 8 (.as (.t 32))] [1,3,4,5,7,8,23,24,28,29] []) (
(.seq (
r_ [
m_ 33 8,
m_ 34 5,
m_ 35 7,
s_ 36 (.fad 44 (.t 1)),
s_ 37 (.iaa 2 3 (.t 36) (.t 34)),
s_ 38 (.iaa 3 1 (.t 37) (.t 35)),
l_ 39 false 1 38,
b_ 40 .sub 33 39,
s_ 9 (.as (.t 40))] [1,3,4,5,7,9,23,24,28,29] []) (
(.seq (
r_ [
m_ 41 9,
m_ 42 9,
s_ 43 (.un .neg (.t 42)),
s_ 44 (.mx [.t 41, .t 43]),
m_ 45 4,
b_ 46 .gtr 44 45] [1,3,4,5,7,23,24,28,29,46] []) (
(.cond (.t 46) (
r_ [
m_ 47 3,
m_ 48 5,
m_ 49 7,
s_ 50 (.build [i0_, i0_, i0_, i0_] [(0, 1, .c (.int .i64 1)), (1, 1, .t 48), (2, 1, .t 49)]),
s_ 51 (.bsl 4 1 [i0_, i0_, i0_, i0_] [(0, .t 50)]),
s_ 52 (.app 4 (.t 47) (.t 51)),
s_ 3 (.as (.t 52))] [1,3,4,5,23,24,28,29] []) (
.skip))))))))) (some [1,3,4,5,23,24,28,29]) [7,8,9,51])) (
r_ [
s_ 53 (.bin .add (.t 29) (.c (.int .i64 1))),
m_ 29 53] [1,3,4,5,23,24,28,29] []))))))
def A22_L0 : ACode := .loop A22_L0b (some [1,3,4,5,23,24,28,29]) [7,8,9,51]
def A22_L1b : ACode :=
(.seq (
r_ [
s_ 25 (.bin .lss (.t 24) (.c (.int .i64 2)))] [1,3,4,23,24,25] []) (
(.seq (
(.cond (.t 25) (
.skip) (
.exit 0))) (
(.seq (
(.block 1 (
(.seq (
r_ [
m_ 26 24,
s_ 27 (.ixa true 2 3 (.t 23) (.t 24)),
s_ 6 (.alloc [i0_, i0_, i0_]),
s_ 5 (.as (.t 26)),
n_ (.store 3 (.t 6) (.t 27))] [1,3,4,5,6,23,24] []) (
(.seq (
r_ [
l_ 28 true 3 6,
s_ 29 (.mv (.c (i0_)))] [1,3,4,5,23,24,28,29] [6]) (
(.block 2 (
A22_L0) (some [1,3,4,23,24]) [7,8,9,51])))))) (some [1,3,4,23,24]) [5,6,7,8,9,51])) (
r_ [
s_ 54 (.bin .add (.t 24) (.c (.int .i64 1))),
m_ 24 54] [1,3,4,23,24] []))))))
def A22_L1 : ACode := .loop A22_L1b (some [1,3,4,23,24]) [5,6,7,8,9,51]
def A22 : AFn := .code [.t 2] (
(.seq (
r_ [
s_ 1 (.box (.t 0)),
s_ 2 (.as (.c (.nils 4)))] [1] []) (
(.seq (
r_ [
s_ 3 (.as (.c (.nils 4)))] [1,3] []) (
(.seq (
r_ [
s_ 10 (.fad 0 (.t 1)),
s_ 11 (.fad 35 (.t 10)),
s_ 12 (.fad 0 (.t 11)),
l_ 13 false 1 12,
s_ 4 (.as (.t 13))] [1,3,4] []) (
(.seq (
(.seq (
r_ [
s_ 14 (.fad 56 (.t 1)),
l_ 15 false 1 14,
s_ 16 (.call 44 [.t 15, .c (.bool true)])] [1,3,4,16] []) (
(.cond (.t 16) (
r_ [
m_ 17 4,
s_ 18 (.fad 0 (.t 1)),
s_ 19 (.fad 43 (.t 18)),
l_ 20 false 1 19,
s_ 21 (.mn [.t 17, .t 20]),
s_ 4 (.as (.t 21))] [1,3,4] []) (
.skip))))) (
(.seq (
(.seq (
r_ [
s_ 22 (.fad 50 (.t 1)),
l_ 23 true 6 22,
s_ 24 (.mv (.c (i0_)))] [1,3,4,23,24] []) (
(.block 0 (
A22_L1) (some [3]) [5,6,7,8,9,51])))) (
(.seq (
r_ [
m_ 55 3,
s_ 2 (.as (.t 55))] [2] []) (
.ret)))))))))))))
def A23 : AFn := .code [.t 2] (
(.seq (
r_ [
s_ 1 (.box (.t 0)),
s_ 2 (.as (.c (.nils 4)))] [1] []) (
(.seq (
(.seq (
r_ [
s_ 3 (.fad 0 (.t 1)),
l_ 4 true 44 3,
s_ 5 (.fad 50 (.t 1)),
l_ 6 true 6 5,
s_ 7 (.call 8 [.t 4, .t 6])] [7] [1]) (
(.cond (.t 7) (
(.seq (
r_ [
s_ 2 (.as (.c (.nils 4)))] [2] []) (
.ret))) (
.skip))))) (
(.seq (
r_ [
s_ 8 (.build [i0_, i0_, i0_, i0_] [(0, 1, .c (.int .i64 2))]),
s_ 9 (.bsl 4 1 [i0_, i0_, i0_, i0_] [(0, .t 8)]),
s_ 2 (.as (.t 9))] [2] []) (
.ret)))))))
def A24_R0a : ACode :=
r_ [
s_ 8 (.as (.t 37))] [3, 4, 6, 7, 8] []
def A24_R0b : ACode :=
(.block 5 (
(.seq (
r_ [
m_ 38 8,
s_ 39 (.fad 0 (.t 7)),
l_ 40 false 1 39,
s_ 41 (.call 45 [.t 38, .t 40])] [3,4,6,41] [7]) (
(.cond (.t 41) (
(.seq (
r_ [
l_ 42 false 1 3,
l_ 43 false 1 4,
l_ 44 false 1 6,
s_ 45 (.build [i0_, i0_, i0_, i0_] [(0, 1, .c (.int .i64 3)), (1, 1, .t 43), (3, 1, .t 44)]),
s_ 46 (.bsl 4 1 [i0_, i0_, i0_, i0_] [(0, .t 45)]),
s_ 47 (.app 4 (.t 42) (.t 46)),
n_ (.store 1 (.t 3) (.t 47))] [] [3,4,6]) (
.exit 4))) (
.skip))))) (some []) [41,46,47])
def A24_R0 : ACode := .rf 0 (.t 36) [37]  A24_R0a A24_R0b
def A24_L1b : ACode :=
(.seq (
r_ [
b_ 20 .lss 19 18] [1,2,3,4,5,10,11,17,18,19,20] []) (
(.seq (
(.cond (.t 20) (
.skip) (
.exit 2))) (
(.seq (
(.block 3 (
(.seq (
r_ [
m_ 21 19,
s_ 22 (.ias 1 (.t 17) (.t 19)),
l_ 23 true 1 22,
s_ 6 (.alloc [i0_]),
s_ 7 (.alloc [.nils 2]),
n_ (.store 1 (.t 6) (.t 21)),
n_ (.store 1 (.t 7) (.t 23))] [1,2,3,4,5,6,7,10,11,17,18,19] []) (
(.seq (
(.seq (
r_ [
s_ 24 (.fad 56 (.t 1)),
l_ 25 false 1 24,
l_ 26 false 1 6,
s_ 27 (.ias 1 (.t 25) (.t 26)),
l_ 28 false 1 27,
s_ 29 (.un .not (.t 28))] [1,2,3,4,5,6,7,10,11,17,18,19,29] []) (
(.cond (.t 29) (
.exit 3) (
.skip))))) (
(.seq (
.reg (some [.dr [35] [], .dr [30, 35] [], .dr [30, 35] [], .dr [35] [], .dr [35] [], .dr [30, 34] [], .free]) [
l_ 30 false 1 4,
s_ 31 (.fad 0 (.t 1)),
s_ 32 (.fad 0 (.t 31)),
s_ 33 (.iaa 2 12 (.t 32) (.t 30)),
l_ 34 true 12 33,
l_ 35 true 3 5,
s_ 36 (.call 18 [.t 34, .t 35])] (some [1,2,3,4,5,6,7,10,11,17,18,19,36]) []) (
(.block 4 (
A24_R0) (some [1,2,3,4,5,10,11,17,18,19]) [8,41,46])))))))) (some [1,2,3,4,5,10,11,17,18,19]) [6,7,8,36,41,46])) (
r_ [
s_ 48 (.bin .add (.t 19) (.c (.int .i64 1))),
m_ 19 48] [1,2,3,4,5,10,11,17,18,19] []))))))
def A24_L1 : ACode := .loop A24_L1b (some [1,2,3,4,5,10,11,17,18,19]) [6,7,8,36,41,46]
def A24_L2b : ACode :=
(.seq (
r_ [
s_ 12 (.bin .lss (.t 11) (.c (.int .i64 2)))] [1,2,3,10,11,12] []) (
(.seq (
(.cond (.t 12) (
.skip) (
.exit 0))) (
(.seq (
(.block 1 (
(.seq (
r_ [
m_ 13 11,
s_ 14 (.ixa true 2 3 (.t 10) (.t 11)),
s_ 4 (.alloc [i0_]),
s_ 5 (.alloc [i0_, i0_, i0_]),
n_ (.store 1 (.t 4) (.t 13)),
n_ (.store 3 (.t 5) (.t 14))] [1,2,3,4,5,10,11] []) (
(.seq (
r_ [
s_ 15 (.fad 0 (.t 1)),
s_ 16 (.fad 41 (.t 15)),
l_ 17 false 1 16,
s_ 18 (.len 0 (.t 17)),
s_ 19 (.mv (.c (i0_)))] [1,2,3,4,5,10,11,17,18,19] []) (
(.block 2 (
A24_L1) (some [1,2,3,10,11]) [6,7,8,36,41,46])))))) (some [1,2,3,10,11]) [4,5,6,7,8,36,41,46])) (
r_ [
s_ 49 (.bin .add (.t 11) (.c (.int .i64 1))),
m_ 11 49] [1,2,3,10,11] []))))))
def A24_L2 : ACode := .loop A24_L2b (some [1,2,3,10,11]) [4,5,6,7,8,36,41,46]
def A24 : AFn := .code [.t 2] (
(.seq (
r_ [
s_ 1 (.box (.t 0)),
s_ 2 (.as (.c (.nils 4)))] [1,2] []) (
(.seq (
r_ [
s_ 3 (.alloc [.nils 4])] [1,2,3] []) (
(.seq (
(.seq (
r_ [
s_ 9 (.fad 50 (.t 1)),
l_ 10 true 6 9,
s_ 11 (.mv (.c (i0_)))] [1,2,3,10,11] []) (
(.block 0 (
A24_L2) (some [3]) [4,5,6,7,8,36,41,46])))) (
(.seq (
r_ [
l_ 50 false 1 3,
s_ 2 (.as (.t 50))] [2] [3]) (
.ret)))))))))
def A25_L0b : ACode :=
(.seq (
r_ [
b_ 10 .lss 9 8] [3,7,8,9,10] []) (
(.seq (
(.cond (.t 10) (
.skip) (
.exit 0))) (
(.seq (
(.block 1 (
(.seq (
r_ [
m_ 11 9,
s_ 12 (.ias 1 (.t 7) (.t 9)),
l_ 13 false 1 12,
s_ 4 (.as (.t 11)),
s_ 5 (.as (.t 13))] [3,4,5,7,8,9] []) (
(.seq (
r_ [
m_ 14 5] [3,4,7,8,9,14] []) (
(.cond (.t 14) (
r_ [
m_ 15 3,
m_ 16 4,
s_ 17 (.build [i0_, i0_, i0_, i0_] [(0, 1, .c (.int .i64 4)), (3, 1, .t 16)]),
s_ 18 (.bsl 4 1 [i0_, i0_, i0_, i0_] [(0, .t 17)]),
s_ 19 (.app 4 (.t 15) (.t 18)),
s_ 3 (.as (.t 19))] [3,7,8,9] []) (
.skip))))))) (some [3,7,8,9]) [4,5,18])) (
r_ [
s_ 20 (.bin .add (.t 9) (.c (.int .i64 1))),
m_ 9 20] [3,7,8,9] []))))))
def A25_L0 : ACode := .loop A25_L0b (some [3,7,8,9]) [4,5,18]
def A25 : AFn := .code [.t 2] (
(.seq (
r_ [
s_ 1 (.box (.t 0)),
s_ 2 (.as (.c (.nils 4)))] [1] []) (
(.seq (
r_ [
s_ 3 (.as (.c (.nils 4)))] [1,3] []) (
(.seq (
(.seq (
r_ [
s_ 6 (.fad 56 (.t 1)),
l_ 7 false 1 6,
s_ 8 (.len 0 (.t 7)),
s_ 9 (.mv (.c (i0_)))] [3,7,8,9] [1]) (
(.block 0 (
A25_L0) (some [3]) [4,5,18])))) (
(.seq (
r_ [
m_ 21 3,
s_ 2 (.as (.t 21))] [2] []) (
.ret)))))))))
def A26 : AFn := .code [.t 4] (
(.seq (
r_ [
s_ 4 (.as (.c (i0_)))] [0,1] []) (
(.seq (
r_ [
m_ 5 0,
m_ 6 1,
b_ 7 .sub 5 6,
m_ 8 1,
m_ 9 0,
b_ 10 .sub 8 9,
s_ 11 (.mx [.t 7, .t 10]),
s_ 4 (.as (.t 11))] [4] []) (
.ret)))))
def A27_L0b : ACode :=
(.seq (
(.seq (
r_ [
m_ 4 3,
m_ 5 0,
s_ 6 (.len 0 (.t 5)),
b_ 7 .lss 4 6] [0,3,7] []) (
(.cond (.t 7) (
.skip) (
.exit 0))))) (
(.seq (
(.block 1 (
(.seq (
r_ [
m_ 10 0,
m_ 11 3,
s_ 12 (.ias 1 (.t 10) (.t 11)),
l_ 13 false 1 12] [0,3,13] []) (
(.cond (.t 13) (
(.seq (
r_ [
s_ 2 (.as (.c (.bool true)))] [2] []) (
.ret))) (
.skip))))) (some [0,3]) [2])) (
r_ [
m_ 8 3,
s_ 9 (.bin .add (.t 8) (.c (.int .i64 1))),
s_ 3 (.as (.t 9))] [0,3] []))))
def A27_L0 : ACode := .loop A27_L0b (some [0,3]) [2]
def A27 : AFn := .code [.t 2] (
(.seq (
r_ [
s_ 2 (.as (.c (.bool false)))] [0] []) (
(.seq (
(.seq (
r_ [
s_ 3 (.as (.c (i0_)))] [0,3] []) (
(.block 0 (
A27_L0) (some []) [2,3])))) (
(.seq (
r_ [
s_ 2 (.as (.c (.bool false)))] [2] []) (
.ret)))))))
def A28_L0b : ACode :=
(.seq (
(.seq (
r_ [
m_ 17 10,
s_ 18 (.bin .lss (.t 17) (.c (.int .i64 6)))] [3,4,9,10,18] []) (
(.cond (.t 18) (
.skip) (
.exit 0))))) (
(.seq (
(.block 1 (
(.seq (
.reg (some [.dr [26, 28, 30] [], .dr [26, 28, 30] [], .dr [26, 28, 30] [], .dr [26, 28, 30] [], .dr [23, 24] [], .dr [23, 24] [], .dr [23, 24, 26] [], .dr [23, 24] [], .dr [23, 24] [], .dr [23, 24] [], .free]) [
m_ 21 9,
m_ 22 10,
s_ 23 (.ias 1 (.t 21) (.t 22)),
l_ 24 false 1 23,
s_ 25 (.fad 41 (.t 4)),
l_ 26 false 1 25,
m_ 27 3,
s_ 28 (.ias 1 (.t 26) (.t 27)),
s_ 29 (.fad 0 (.t 28)),
l_ 30 false 1 29,
s_ 31 (.call 46 [.t 24, .t 30])] (some [3,4,9,10,31]) []) (
(.cond (.t 31) (
(.seq (
r_ [
s_ 8 (.as (.c (.bool true)))] [8] []) (
.ret))) (
.skip))))) (some [3,4,9,10]) [8,31])) (
r_ [
m_ 19 10,
s_ 20 (.bin .add (.t 19) (.c (.int .i64 1))),
s_ 10 (.as (.t 20))] [3,4,9,10] []))))
def A28_L0 : ACode := .loop A28_L0b (some [3,4,9,10]) [8,31]
def A28 : AFn := .code [.t 8] (
(.seq (
r_ [
s_ 4 (.box (.t 0)),
s_ 6 (.box (.t 2)),
s_ 8 (.as (.c (.bool false)))] [1,3,4,6] []) (
(.seq (
.reg (some [.dr [15] [], .dr [15] [], .dr [15] [], .dr [15] [], .dr [14] [], .free, .free]) [
m_ 11 1,
s_ 12 (.fad 0 (.t 4)),
s_ 13 (.iaa 2 12 (.t 12) (.t 11)),
l_ 14 true 12 13,
l_ 15 true 3 6,
s_ 16 (.call 20 [.t 14, .t 15]),
s_ 9 (.as (.t 16))] (some [3,4,9]) [6]) (
(.seq (
(.seq (
r_ [
s_ 10 (.as (.c (i0_)))] [3,4,9,10] []) (
(.block 0 (
A28_L0) (some []) [8,10,31])))) (
(.seq (
r_ [
s_ 8 (.as (.c (.bool false)))] [8] []) (
.ret)))))))))
def A29 : AFn := .code [.cell true 44 0] (
(.seq (
r_ [
s_ 0 (.alloc [i0_, i0_, i0_, i0_, i0_, i0_, i0_, i0_, i0_, i0_, i0_, i0_, i0_, i0_, i0_, i0_, i0_, i0_, i0_, i0_, i0_, i0_, i0_, i0_, i0_, i0_, i0_, i0_, i0_, i0_, .nils 1, .nils 6, .nils 3, .nils 1, i0_, i0_, i0_, i0_, i0_, i0_, i0_, .nils 1, i0_, i0_])] [0] []) (
(.seq (
r_ [
s_ 1 (.as (.c (.int .i64 4394000)))] [0,1] []) (
(.seq (
r_ [
s_ 4 (.build [i0_, i0_, i0_] [(0, 1, .c (.int .i64 4)), (1, 1, .c (.int .i64 3)), (2, 1, .c (.int .i64 2))]),
s_ 5 (.build [i0_, i0_, i0_] [(0, 1, .c (.int .i64 (-17))), (1, 1, .c (.int .i64 (-17))), (2, 1, .c (.int .i64 (-17)))]),
s_ 6 (.build [i0_, i0_, i0_] [(0, 1, .c (.int .i64 18)), (1, 1, .c (.int .i64 18)), (2, 1, .c (.int .i64 18))]),
s_ 7 (.build [i0_, i0_, i0_, i0_, i0_, i0_, i0_, i0_, i0_, i0_, i0_, i0_] [(2, 3, .t 4), (5, 1, .c (.int .i64 1)), (6, 3, .t 5), (9, 3, .t 6)]),
s_ 2 (.alloc [i0_, i0_, i0_, i0_, i0_, i0_, i0_, i0_, i0_, i0_, i0_, i0_]),
n_ (.store 12 (.t 2) (.t 7))] [0,1,2] []) (
(.seq (
r_ [
l_ 8 true 12 2,
s_ 3 (.alloc [i0_, i0_, i0_, i0_, i0_, i0_, i0_, i0_, i0_, i0_, i0_, i0_]),
n_ (.store 12 (.t 3) (.t 8))] [0,1,2,3] []) (
(.seq (
r_ [
m_ 9 1,
s_ 10 (.bin .mul (.c (.int .i64 40)) (.t 9)),
s_ 11 (.fad 0 (.t 3)),
s_ 12 (.fad 0 (.t 11)),
n_ (.store 1 (.t 12) (.t 10))] [0,1,2,3] []) (
(.seq (
r_ [
l_ 13 true 12 2,
l_ 14 true 12 3,
s_ 15 (.build [i0_, i0_, i0_, i0_, i0_, i0_, i0_, i0_, i0_, i0_, i0_, i0_, i0_, i0_, i0_, i0_, i0_, i0_, i0_, i0_, i0_, i0_, i0_, i0_] [(0, 12, .t 13), (12, 12, .t 14)]),
s_ 16 (.build [i0_, i0_, i0_] []),
s_ 17 (.build [i0_, i0_, i0_] [(0, 1, .c (.int .i64 9)), (1, 1, .c (i0_)), (2, 1, .c (i0_))]),
s_ 18 (.build [i0_, i0_, i0_, i0_, i0_, i0_] [(0, 3, .t 16), (3, 3, .t 17)]),
m_ 19 1,
s_ 20 (.bin .mul (.c (.int .i64 6)) (.t 19)),
m_ 21 1,
s_ 22 (.bin .mul (.c (.int .i64 2)) (.t 21)),
s_ 23 (.build [i0_, i0_] [(0, 1, .t 20), (1, 1, .t 22)]),
m_ 24 1,
s_ 25 (.bin .mul (.c (.int .i64 9)) (.t 24)),
m_ 26 1,
s_ 27 (.bin .mul (.c (.int .i64 2)) (.t 26)),
s_ 28 (.build [i0_, i0_] [(0, 1, .t 25), (1, 1, .t 27)]),
m_ 29 1,
s_ 30 (.bin .mul (.c (.int .i64 9)) (.t 29)),
m_ 31 1,
s_ 32 (.bin .mul (.c (.int .i64 4)) (.t 31)),
s_ 33 (.build [i0_, i0_] [(0, 1, .t 30), (1, 1, .t 32)]),
m_ 34 1,
s_ 35 (.bin .mul (.c (.int .i64 6)) (.t 34)),
m_ 36 1,
s_ 37 (.bin .mul (.c (.int .i64 4)) (.t 36)),
s_ 38 (.build [i0_, i0_] [(0, 1, .t 35), (1, 1, .t 37)]),
s_ 39 (.bsl 2 4 [i0_, i0_] [(0, .t 23), (1, .t 28), (2, .t 33), (3, .t 38)]),
s_ 40 (.bsl 1 1 [.nils 2] [(0, .t 39)]),
s_ 41 (.build [i0_, i0_, i0_] [(0, 1, .c (.int .i64 8)), (1, 1, .c (.int .i64 4)), (2, 1, .c (.int .i64 2))]),
s_ 42 (.build [i0_, i0_, i0_] [(0, 1, .c (.int .i64 4)), (1, 1, .c (.int .i64 2)), (2, 1, .c (.int .i64 1))]),
s_ 43 (.build [i0_, i0_, i0_, i0_, i0_, i0_, i0_, i0_, i0_, i0_, i0_, i0_, i0_, i0_, i0_, i0_, i0_, i0_, i0_, i0_, i0_, i0_, i0_, i0_, i0_, i0_, i0_, i0_, i0_, i0_, .nils 1, .nils 6, .nils 3, .nils 1, i0_, i0_, i0_, i0_, i0_, i0_, i0_, .nils 1, i0_, i0_] [(0, 24, .t 15), (24, 6, .t 18), (30, 1, .t 40), (35, 3, .t 41), (38, 3, .t 42), (43, 1, .c (.int .i64 2))]),
n_ (.store 44 (.t 0) (.t 43))] [0] [2,3]) (
.ret)))))))))))))
def A30_L0b : ACode :=
(.seq (
(.seq (
r_ [
m_ 33 4,
s_ 34 (.bin .lss (.t 33) (.c (.int .i64 3)))] [1,3,4,34] []) (
(.cond (.t 34) (
.skip) (
.exit 0))))) (
(.seq (
(.block 1 (
(.seq (
(.seq (
.reg (some [.dr [] [], .dr [] [], .free, .free, .free, .free, .dr [] [], .dr [] [], .free, .free, .free, .free, .free, .dr [] [], .dr [] [], .free, .free, .free, .free, .free, .dr [] [], .dr [] [], .free, .free, .free, .free, .free, .dr [] [], .dr [] [], .free, .free, .free, .free, .free, .dr [] [], .dr [] [], .free, .free, .free, .free, .free, .dr [85] [], .dr [85] [], .dr [85] [], .dr [85] [], .dr [81] [], .dr [81] [], .dr [81] [], .dr [81] [], .free, .free]) [
m_ 37 4,
s_ 38 (.fad 2 (.t 1)),
s_ 39 (.iaa 3 1 (.t 38) (.t 37)),
l_ 40 false 1 39,
s_ 41 (.bin .lss (.t 40) (.c (.int .i64 1))),
m_ 42 41,
⟨some 43, .mv (.t 4), some (42, false), true⟩,
⟨some 44, .fad 2 (.t 1), some (42, false), true⟩,
⟨some 45, .iaa 3 1 (.t 44) (.t 43), some (42, false), true⟩,
⟨some 46, .load false 1 (.t 45), some (42, false), true⟩,
⟨some 47, .bin .gtr (.t 46) (.c (.int .i64 40)), some (42, false), true⟩,
s_ 48 (.pick (.t 42) (.c (.bool true)) (.t 47)),
m_ 49 48,
⟨some 50, .mv (.t 4), some (49, false), true⟩,
⟨some 51, .fad 6 (.t 1), some (49, false), true⟩,
⟨some 52, .iaa 3 1 (.t 51) (.t 50), some (49, false), true⟩,
⟨some 53, .load false 1 (.t 52), some (49, false), true⟩,
⟨some 54, .bin .lss (.t 53) (.c (.int .i64 (-17))), some (49, false), true⟩,
s_ 55 (.pick (.t 49) (.c (.bool true)) (.t 54)),
m_ 56 55,
⟨some 57, .mv (.t 4), some (56, false), true⟩,
⟨some 58, .fad 6 (.t 1), some (56, false), true⟩,
⟨some 59, .iaa 3 1 (.t 58) (.t 57), some (56, false), true⟩,
⟨some 60, .load false 1 (.t 59), some (56, false), true⟩,
⟨some 61, .bin .gtr (.t 60) (.c (.int .i64 18)), some (56, false), true⟩,
s_ 62 (.pick (.t 56) (.c (.bool true)) (.t 61)),
m_ 63 62,
⟨some 64, .mv (.t 4), some (63, false), true⟩,
⟨some 65, .fad 9 (.t 1), some (63, false), true⟩,
⟨some 66, .iaa 3 1 (.t 65) (.t 64), some (63, false), true⟩,
⟨some 67, .load false 1 (.t 66), some (63, false), true⟩,
⟨some 68, .bin .lss (.t 67) (.c (.int .i64 (-17))), some (63, false), true⟩,
s_ 69 (.pick (.t 63) (.c (.bool true)) (.t 68)),
m_ 70 69,
⟨some 71, .mv (.t 4), some (70, false), true⟩,
⟨some 72, .fad 9 (.t 1), some (70, false), true⟩,
⟨some 73, .iaa 3 1 (.t 72) (.t 71), some (70, false), true⟩,
⟨some 74, .load false 1 (.t 73), some (70, false), true⟩,
⟨some 75, .bin .gtr (.t 74) (.c (.int .i64 18)), some (70, false), true⟩,
s_ 76 (.pick (.t 70) (.c (.bool true)) (.t 75)),
m_ 77 76,
⟨some 78, .mv (.t 4), some (77, false), true⟩,
⟨some 79, .fad 6 (.t 1), some (77, false), true⟩,
⟨some 80, .iaa 3 1 (.t 79) (.t 78), some (77, false), true⟩,
⟨some 81, .load false 1 (.t 80), some (77, false), true⟩,
⟨some 82, .mv (.t 4), some (77, false), true⟩,
⟨some 83, .fad 9 (.t 1), some (77, false), true⟩,
⟨some 84, .iaa 3 1 (.t 83) (.t 82), some (77, false), true⟩,
⟨some 85, .load false 1 (.t 84), some (77, false), true⟩,
⟨some 86, .bin .gtr (.t 81) (.t 85), some (77, false), true⟩,
s_ 87 (.pick (.t 77) (.c (.bool true)) (.t 86))] (some [1,3,4,87]) []) (
(.cond (.t 87) (
(.seq (
r_ [
s_ 2 (.as (.c (.bool false)))] [2] []) (
.ret))) (
.skip))))) (
r_ [
m_ 88 3,
m_ 89 4,
s_ 90 (.fad 2 (.t 1)),
s_ 91 (.iaa 3 1 (.t 90) (.t 89)),
l_ 92 false 1 91,
b_ 93 .add 88 92,
s_ 3 (.as (.t 93))] [1,3,4] []))) (some [1,3,4]) [2])) (
r_ [
m_ 35 4,
s_ 36 (.bin .add (.t 35) (.c (.int .i64 1))),
s_ 4 (.as (.t 36))] [1,3,4] []))))
def A30_L0 : ACode := .loop A30_L0b (some [1,3,4]) [2]
def A30 : AFn := .code [.t 2] (
(.seq (
r_ [
s_ 1 (.box (.t 0)),
s_ 2 (.as (.c (.bool false)))] [1] []) (
(.seq (
(.seq (
r_ [
l_ 5 true 12 1,
s_ 6 (.call 47 [.t 5]),
m_ 7 6,
⟨some 8, .fad 5 (.t 1), some (7, false), true⟩,
⟨some 9, .load false 1 (.t 8), some (7, false), true⟩,
⟨some 10, .bin .lss (.t 9) (.c (.int .i64 1)), some (7, false), true⟩,
s_ 11 (.pick (.t 7) (.c (.bool true)) (.t 10)),
m_ 12 11,
⟨some 13, .fad 5 (.t 1), some (12, false), true⟩,
⟨some 14, .load false 1 (.t 13), some (12, false), true⟩,
⟨some 15, .bin .gtr (.t 14) (.c (.int .i64 4)), some (12, false), true⟩,
s_ 16 (.pick (.t 12) (.c (.bool true)) (.t 15)),
m_ 17 16,
⟨some 18, .fad 0 (.t 1), some (17, false), true⟩,
⟨some 19, .fad 0 (.t 18), some (17, false), true⟩,
⟨some 20, .load false 1 (.t 19), some (17, false), true⟩,
⟨some 21, .bin .rem (.t 20) (.c (.int .i64 16)), some (17, false), true⟩,
⟨some 22, .bin .neq (.t 21) (.c (i0_)), some (17, false), true⟩,
s_ 23 (.pick (.t 17) (.c (.bool true)) (.t 22)),
m_ 24 23,
⟨some 25, .fad 0 (.t 1), some (24, false), true⟩,
⟨some 26, .fad 1 (.t 25), some (24, false), true⟩,
⟨some 27, .load false 1 (.t 26), some (24, false), true⟩,
⟨some 28, .bin .rem (.t 27) (.c (.int .i64 16)), some (24, false), true⟩,
⟨some 29, .bin .neq (.t 28) (.c (i0_)), some (24, false), true⟩,
s_ 30 (.pick (.t 24) (.c (.bool true)) (.t 29))] [1,30] []) (
(.cond (.t 30) (
(.seq (
r_ [
s_ 2 (.as (.c (.bool false)))] [2] []) (
.ret))) (
.skip))))) (
(.seq (
r_ [
s_ 31 (.fad 5 (.t 1)),
l_ 32 false 1 31,
s_ 3 (.as (.t 32))] [1,3] []) (
(.seq (
(.seq (
r_ [
s_ 4 (.as (.c (i0_)))] [1,3,4] []) (
(.block 0 (
A30_L0) (some [1,3]) [2,4])))) (
(.seq (
r_ [
s_ 94 (.fad 0 (.t 1)),
s_ 95 (.fad 0 (.t 94)),
l_ 96 false 1 95,
s_ 97 (.call 48 [.t 96]),
m_ 98 3,
s_ 99 (.bin .mul (.t 98) (.c (.int .i64 4394000))),
b_ 100 .add 97 99,
s_ 101 (.bin .leq (.t 100) (.c (.int .i64 439400000))),
m_ 102 101,
⟨some 103, .fad 0 (.t 1), some (102, true), true⟩,
⟨some 104, .fad 1 (.t 103), some (102, true), true⟩,
⟨some 105, .load false 1 (.t 104), some (102, true), true⟩,
⟨some 106, .call 48 [.t 105], some (102, true), true⟩,
⟨some 107, .mv (.t 3), some (102, true), true⟩,
⟨some 108, .bin .mul (.t 107) (.c (.int .i64 4394000)), some (102, true), true⟩,
⟨some 109, .bin .add (.t 106) (.t 108), some (102, true), true⟩,
⟨some 110, .bin .leq (.t 109) (.c (.int .i64 439400000)), some (102, true), true⟩,
s_ 111 (.pick (.t 102) (.t 110) (.c (.bool false))),
s_ 2 (.as (.t 111))] [2] [1]) (
.ret)))))))))))
def A31_L0b : ACode :=
(.seq (
(.seq (
r_ [
m_ 6 5,
s_ 7 (.bin .lss (.t 6) (.c (.int .i64 3)))] [2,3,5,7] []) (
(.cond (.t 7) (
.skip) (
.exit 0))))) (
(.seq (
(.block 1 (
(.seq (
.reg (some [.dr [16] [], .dr [16] [], .dr [16] [], .dr [12] [], .dr [12] [], .dr [12] [], .dr [12] [], .free, .free, .dr [25] [], .dr [25] [], .dr [25] [], .dr [21] [], .dr [21] [], .dr [21] [], .dr [21] [], .free, .free]) [
m_ 10 5,
s_ 11 (.iaa 3 1 (.t 3) (.t 10)),
l_ 12 false 1 11,
m_ 13 5,
s_ 14 (.fad 6 (.t 2)),
s_ 15 (.iaa 3 1 (.t 14) (.t 13)),
l_ 16 false 1 15,
b_ 17 .lss 12 16,
m_ 18 17,
⟨some 19, .mv (.t 5), some (18, false), true⟩,
⟨some 20, .iaa 3 1 (.t 3) (.t 19), some (18, false), true⟩,
⟨some 21, .load false 1 (.t 20), some (18, false), true⟩,
⟨some 22, .mv (.t 5), some (18, false), true⟩,
⟨some 23, .fad 9 (.t 2), some (18, false), true⟩,
⟨some 24, .iaa 3 1 (.t 23) (.t 22), some (18, false), true⟩,
⟨some 25, .load false 1 (.t 24), some (18, false), true⟩,
⟨some 26, .bin .gtr (.t 21) (.t 25), some (18, false), true⟩,
s_ 27 (.pick (.t 18) (.c (.bool true)) (.t 26))] (some [2,3,5,27]) []) (
(.cond (.t 27) (
(.seq (
r_ [
s_ 4 (.as (.c (.bool false)))] [4] []) (
.ret))) (
.skip))))) (some [2,3,5]) [4])) (
r_ [
m_ 8 5,
s_ 9 (.bin .add (.t 8) (.c (.int .i64 1))),
s_ 5 (.as (.t 9))] [2,3,5] []))))
def A31_L0 : ACode := .loop A31_L0b (some [2,3,5]) [4]
def A31 : AFn := .code [.t 4] (
(.seq (
r_ [
s_ 2 (.box (.t 0)),
s_ 3 (.box (.t 1)),
s_ 4 (.as (.c (.bool false)))] [2,3] []) (
(.seq (
(.seq (
r_ [
s_ 5 (.as (.c (i0_)))] [2,3,5] []) (
(.block 0 (
A31_L0) (some []) [4,5])))) (
(.seq (
r_ [
s_ 4 (.as (.c (.bool true)))] [4] []) (
.ret)))))))
def A32 : AFn := .code [.t 2] (
(.seq (
r_ [
s_ 1 (.box (.t 0)),
s_ 2 (.as (.c (.bool false)))] [1] []) (
(.seq (
r_ [
s_ 3 (.fad 0 (.t 1)),
l_ 4 false 1 3,
s_ 5 (.bin .geq (.t 4) (.c (.int .i64 1))),
m_ 6 5,
⟨some 7, .fad 0 (.t 1), some (6, true), true⟩,
⟨some 8, .load false 1 (.t 7), some (6, true), true⟩,
⟨some 9, .bin .leq (.t 8) (.c (.int .i64 8)), some (6, true), true⟩,
s_ 10 (.pick (.t 6) (.t 9) (.c (.bool false))),
m_ 11 10,
⟨some 12, .fad 1 (.t 1), some (11, true), true⟩,
⟨some 13, .load false 1 (.t 12), some (11, true), true⟩,
⟨some 14, .bin .geq (.t 13) (.c (.int .i64 1)), some (11, true), true⟩,
s_ 15 (.pick (.t 11) (.t 14) (.c (.bool false))),
m_ 16 15,
⟨some 17, .fad 1 (.t 1), some (16, true), true⟩,
⟨some 18, .load false 1 (.t 17), some (16, true), true⟩,
⟨some 19, .bin .leq (.t 18) (.c (.int .i64 4)), some (16, true), true⟩,
s_ 20 (.pick (.t 16) (.t 19) (.c (.bool false))),
m_ 21 20,
⟨some 22, .fad 2 (.t 1), some (21, true), true⟩,
⟨some 23, .load false 1 (.t 22), some (21, true), true⟩,
⟨some 24, .bin .geq (.t 23) (.c (.int .i64 1)), some (21, true), true⟩,
s_ 25 (.pick (.t 21) (.t 24) (.c (.bool false))),
m_ 26 25,
⟨some 27, .fad 2 (.t 1), some (26, true), true⟩,
⟨some 28, .load false 1 (.t 27), some (26, true), true⟩,
⟨some 29, .bin .leq (.t 28) (.c (.int .i64 2)), some (26, true), true⟩,
s_ 30 (.pick (.t 26) (.t 29) (.c (.bool false))),
s_ 2 (.as (.t 30))] [2] [1]) (
.ret)))))
def A33_L0b : ACode :=
(.seq (
(.seq (
r_ [
m_ 7 3,
m_ 8 0,
s_ 9 (.len 0 (.t 8)),
b_ 10 .lss 7 9] [0,3,10] []) (
(.cond (.t 10) (
.skip) (
.exit 0))))) (
(.seq (
(.block 1 (
(.seq (
r_ [
m_ 13 0,
m_ 14 3,
s_ 15 (.ias 1 (.t 13) (.t 14)),
l_ 16 false 1 15,
s_ 17 (.call 49 [.t 16]),
s_ 18 (.un .not (.t 17))] [0,3,18] []) (
(.cond (.t 18) (
(.seq (
r_ [
s_ 2 (.as (.c (.bool false)))] [2] []) (
.ret))) (
.skip))))) (some [0,3]) [2,17])) (
r_ [
m_ 11 3,
s_ 12 (.bin .add (.t 11) (.c (.int .i64 1))),
s_ 3 (.as (.t 12))] [0,3] []))))
def A33_L0 : ACode := .loop A33_L0b (some [0,3]) [2,17]
def A33 : AFn := .code [.t 2] (
(.seq (
r_ [
s_ 2 (.as (.c (.bool false)))] [0] []) (
(.seq (
(.seq (
r_ [
m_ 4 0,
s_ 5 (.len 0 (.t 4)),
s_ 6 (.bin .gtr (.t 5) (.c (.int .i64 16)))] [0,6] []) (
(.cond (.t 6) (
(.seq (
r_ [
s_ 2 (.as (.c (.bool false)))] [2] []) (
.ret))) (
.skip))))) (
(.seq (
(.seq (
r_ [
s_ 3 (.as (.c (i0_)))] [0,3] []) (
(.block 0 (
A33_L0) (some []) [2,3,17])))) (
(.seq (
r_ [
s_ 2 (.as (.c (.bool true)))] [2] []) (
.ret)))))))))
def A34_L0b : ACode :=
(.seq (
(.seq (
r_ [
m_ 5 4,
s_ 6 (.fad 41 (.t 1)),
l_ 7 false 1 6,
s_ 8 (.len 0 (.t 7)),
b_ 9 .lss 5 8] [1,3,4,9] []) (
(.cond (.t 9) (
.skip) (
.exit 0))))) (
(.seq (
(.block 1 (
r_ [
m_ 12 3,
s_ 13 (.fad 41 (.t 1)),
l_ 14 false 1 13,
m_ 15 4,
s_ 16 (.ias 1 (.t 14) (.t 15)),
s_ 17 (.fad 0 (.t 16)),
l_ 18 false 1 17,
s_ 19 (.bsl 1 1 [.nils 2] [(0, .t 18)]),
s_ 20 (.app 1 (.t 12) (.t 19)),
s_ 3 (.as (.t 20))] [1,3,4] []) (some [1,3,4]) [19])) (
r_ [
m_ 10 4,
s_ 11 (.bin .add (.t 10) (.c (.int .i64 1))),
s_ 4 (.as (.t 11))] [1,3,4] []))))
def A34_L0 : ACode := .loop A34_L0b (some [1,3,4]) [19]
def A34 : AFn := .code [.t 2] (
(.seq (
r_ [
s_ 1 (.box (.t 0)),
s_ 2 (.as (.c (.nils 1)))] [1] []) (
(.seq (
r_ [
s_ 3 (.as (.c (.nils 1)))] [1,3] []) (
(.seq (
(.seq (
r_ [
s_ 4 (.as (.c (i0_)))] [1,3,4] []) (
(.block 0 (
A34_L0) (some [3]) [4,19])))) (
(.seq (
r_ [
m_ 21 3,
s_ 2 (.as (.t 21))] [2] []) (
.ret)))))))))
def A35_L0b : ACode :=
(.seq (
(.seq (
r_ [
m_ 6 4,
m_ 7 0,
s_ 8 (.len 0 (.t 7)),
b_ 9 .lss 6 8] [0,3,4,9] []) (
(.cond (.t 9) (
.skip) (
.exit 0))))) (
(.seq (
(.block 1 (
(.seq (
r_ [
m_ 12 0,
m_ 13 4,
s_ 14 (.ias 6 (.t 12) (.t 13)),
l_ 15 true 6 14,
s_ 5 (.alloc [.str [], i0_, i0_, i0_, i0_, i0_]),
n_ (.store 6 (.t 5) (.t 15))] [0,3,4,5] []) (
(.seq (
r_ [
m_ 16 3,
s_ 17 (.fad 0 (.t 5)),
l_ 18 false 1 17,
s_ 19 (.bsl 1 1 [.str []] [(0, .t 18)]),
s_ 20 (.app 1 (.t 16) (.t 19)),
s_ 3 (.as (.t 20))] [0,3,4,5] []) (
(.seq (
r_ [
s_ 21 (.fad 1 (.t 5)),
s_ 22 (.fad 0 (.t 21)),
l_ 23 false 1 22,
s_ 24 (.bin .rem (.t 23) (.c (.int .i64 16))),
s_ 25 (.bin .neq (.t 24) (.c (i0_))),
m_ 26 25,
⟨some 27, .fad 1 (.t 5), some (26, false), true⟩,
⟨some 28, .fad 1 (.t 27), some (26, false), true⟩,
⟨some 29, .load false 1 (.t 28), some (26, false), true⟩,
⟨some 30, .bin .rem (.t 29) (.c (.int .i64 16)), some (26, false), true⟩,
⟨some 31, .bin .neq (.t 30) (.c (i0_)), some (26, false), true⟩,
s_ 32 (.pick (.t 26) (.c (.bool true)) (.t 31)),
m_ 33 32,
⟨some 34, .fad 1 (.t 5), some (33, false), true⟩,
⟨some 35, .fad 0 (.t 34), some (33, false), true⟩,
⟨some 36, .load false 1 (.t 35), some (33, false), true⟩,
⟨some 37, .fad 1 (.t 5), some (33, false), true⟩,
⟨some 38, .fad 1 (.t 37), some (33, false), true⟩,
⟨some 39, .load false 1 (.t 38), some (33, false), true⟩,
⟨some 40, .mx [.t 36, .t 39], some (33, false), true⟩,
⟨some 41, .bin .gtr (.t 40) (.c (.int .i64 373490000)), some (33, false), true⟩,
s_ 42 (.pick (.t 33) (.c (.bool true)) (.t 41)),
m_ 43 42,
⟨some 44, .fad 1 (.t 5), some (43, false), true⟩,
⟨some 45, .fad 0 (.t 44), some (43, false), true⟩,
⟨some 46, .load false 1 (.t 45), some (43, false), true⟩,
⟨some 47, .fad 1 (.t 5), some (43, false), true⟩,
⟨some 48, .fad 1 (.t 47), some (43, false), true⟩,
⟨some 49, .load false 1 (.t 48), some (43, false), true⟩,
⟨some 50, .mn [.t 46, .t 49], some (43, false), true⟩,
⟨some 51, .bin .lss (.t 50) (.c (.int .i64 (-373490000))), some (43, false), true⟩,
s_ 52 (.pick (.t 43) (.c (.bool true)) (.t 51)),
m_ 53 52,
⟨some 54, .fad 3 (.t 5), some (53, false), true⟩,
⟨some 55, .fad 2 (.t 54), some (53, false), true⟩,
⟨some 56, .load false 1 (.t 55), some (53, false), true⟩,
⟨some 57, .bin .neq (.t 56) (.c (.int .i64 3)), some (53, false), true⟩,
s_ 58 (.pick (.t 53) (.c (.bool true)) (.t 57)),
m_ 59 58,
⟨some 60, .fad 3 (.t 5), some (59, false), true⟩,
⟨some 61, .load true 3 (.t 60), some (59, false), true⟩,
⟨some 62, .call 50 [.t 61], some (59, false), true⟩,
⟨some 63, .un .not (.t 62), some (59, false), true⟩,
s_ 64 (.pick (.t 59) (.c (.bool true)) (.t 63))] [0,3,4,64] [5]) (
(.cond (.t 64) (
(.seq (
r_ [
s_ 2 (.as (.c (.bool false)))] [2] []) (
.ret))) (
.skip))))))))) (some [0,3,4]) [2,5,19,62])) (
r_ [
m_ 10 4,
s_ 11 (.bin .add (.t 10) (.c (.int .i64 1))),
s_ 4 (.as (.t 11))] [0,3,4] []))))
def A35_L0 : ACode := .loop A35_L0b (some [0,3,4]) [2,5,19,62]
def A35 : AFn := .code [.t 2] (
(.seq (
r_ [
s_ 2 (.as (.c (.bool false)))] [0] []) (
(.seq (
r_ [
s_ 3 (.as (.c (.nils 1)))] [0,3] []) (
(.seq (
(.seq (
r_ [
s_ 4 (.as (.c (i0_)))] [0,3,4] []) (
(.block 0 (
A35_L0) (some [0,3]) [2,4,5,19,62])))) (
(.seq (
r_ [
m_ 65 0,
s_ 66 (.len 0 (.t 65)),
s_ 67 (.bin .leq (.t 66) (.c (.int .i64 16))),
m_ 68 67,
⟨some 69, .mv (.t 3), some (68, true), true⟩,
⟨some 70, .call 51 [.t 69], some (68, true), true⟩,
s_ 71 (.pick (.t 68) (.t 70) (.c (.bool false))),
s_ 2 (.as (.t 71))] [2] []) (
.ret)))))))))
def A36_L0b : ACode :=
(.seq (
(.seq (
r_ [
m_ 8 7,
m_ 9 0,
s_ 10 (.len 0 (.t 9)),
b_ 11 .lss 8 10] [0,1,5,6,7,11] []) (
(.cond (.t 11) (
.skip) (
.exit 0))))) (
(.seq (
(.block 1 (
(.seq (
r_ [
m_ 14 5,
m_ 15 0,
m_ 16 7,
s_ 17 (.ias 3 (.t 15) (.t 16)),
s_ 18 (.fad 0 (.t 17)),
l_ 19 false 1 18,
s_ 20 (.bsl 1 1 [.str []] [(0, .t 19)]),
s_ 21 (.app 1 (.t 14) (.t 20)),
s_ 5 (.as (.t 21))] [0,1,5,6,7] []) (
(.seq (
r_ [
m_ 22 6,
m_ 23 0,
m_ 24 7,
s_ 25 (.ias 3 (.t 23) (.t 24)),
s_ 26 (.fad 2 (.t 25)),
l_ 27 false 1 26,
s_ 28 (.bsl 1 1 [i0_] [(0, .t 27)]),
s_ 29 (.app 1 (.t 22) (.t 28)),
s_ 6 (.as (.t 29))] [0,1,5,6,7] []) (
(.seq (
r_ [
m_ 30 0,
m_ 31 7,
s_ 32 (.ias 3 (.t 30) (.t 31)),
s_ 33 (.fad 1 (.t 32)),
l_ 34 false 1 33,
s_ 35 (.call 52 [.t 34]),
s_ 36 (.un .not (.t 35))] [0,1,5,6,7,36] []) (
(.cond (.t 36) (
(.seq (
r_ [
s_ 4 (.as (.c (.bool false)))] [4] []) (
.ret))) (
.skip))))))))) (some [0,1,5,6,7]) [4,20,28,35])) (
r_ [
m_ 12 7,
s_ 13 (.bin .add (.t 12) (.c (.int .i64 1))),
s_ 7 (.as (.t 13))] [0,1,5,6,7] []))))
def A36_L0 : ACode := .loop A36_L0b (some [0,1,5,6,7]) [4,20,28,35]
def A36 : AFn := .code [.t 4] (
(.seq (
r_ [
s_ 4 (.as (.c (.bool false)))] [0,1] []) (
(.seq (
r_ [
s_ 5 (.as (.c (.nils 1)))] [0,1,5] []) (
(.seq (
r_ [
s_ 6 (.as (.c (.nils 1)))] [0,1,5,6] []) (
(.seq (
(.seq (
r_ [
s_ 7 (.as (.c (i0_)))] [0,1,5,6,7] []) (
(.block 0 (
A36_L0) (some [0,1,5,6]) [4,7,20,28,35])))) (
(.seq (
r_ [
m_ 37 0,
s_ 38 (.len 0 (.t 37)),
s_ 39 (.bin .leq (.t 38) (.c (.int .i64 8))),
m_ 40 39,
⟨some 41, .mv (.t 5), some (40, true), true⟩,
⟨some 42, .call 51 [.t 41], some (40, true), true⟩,
s_ 43 (.pick (.t 40) (.t 42) (.c (.bool false))),
m_ 44 43,
⟨some 45, .mv (.t 6), some (44, true), true⟩,
⟨some 46, .mv (.t 1), some (44, true), true⟩,
⟨some 47, .call 37 [.t 45, .t 46], some (44, true), true⟩,
s_ 48 (.pick (.t 44) (.t 47) (.c (.bool false))),
s_ 4 (.as (.t 48))] [4] []) (
.ret)))))))))))
def A37_L0b : ACode :=
(.seq (
(.seq (
r_ [
m_ 26 6,
m_ 27 5,
b_ 28 .lss 26 27] [0,1,5,6,28] []) (
(.cond (.t 28) (
.skip) (
.exit 2))))) (
(.seq (
(.block 3 (
(.seq (
.reg (some [.dr [37, 38] [], .dr [37, 38] [], .dr [37, 38] [], .dr [37, 38] [], .dr [33, 34] [], .dr [33, 34] [], .dr [33, 34] [], .dr [33, 34] [], .free]) [
m_ 31 0,
m_ 32 6,
s_ 33 (.ias 1 (.t 31) (.t 32)),
l_ 34 false 1 33,
m_ 35 0,
m_ 36 5,
s_ 37 (.ias 1 (.t 35) (.t 36)),
l_ 38 false 1 37,
b_ 39 .eql 34 38] (some [0,1,5,6,39]) []) (
(.cond (.t 39) (
(.seq (
r_ [
s_ 4 (.as (.c (.bool false)))] [4] []) (
.ret))) (
.skip))))) (some [0,1,5,6]) [4])) (
r_ [
m_ 29 6,
s_ 30 (.bin .add (.t 29) (.c (.int .i64 1))),
s_ 6 (.as (.t 30))] [0,1,5,6] []))))
def A37_L0 : ACode := .loop A37_L0b (some [0,1,5,6]) [4]
def A37_L1b : ACode :=
(.seq (
(.seq (
r_ [
m_ 7 5,
m_ 8 0,
s_ 9 (.len 0 (.t 8)),
b_ 10 .lss 7 9] [0,1,5,10] []) (
(.cond (.t 10) (
.skip) (
.exit 0))))) (
(.seq (
(.block 1 (
(.seq (
(.seq (
r_ [
m_ 13 0,
m_ 14 5,
s_ 15 (.ias 1 (.t 13) (.t 14)),
l_ 16 false 1 15,
s_ 17 (.bin .lss (.t 16) (.c (i0_))),
m_ 18 17,
⟨some 19, .mv (.t 0), some (18, false), true⟩,
⟨some 20, .mv (.t 5), some (18, false), true⟩,
⟨some 21, .ias 1 (.t 19) (.t 20), some (18, false), true⟩,
⟨some 22, .load false 1 (.t 21), some (18, false), true⟩,
⟨some 23, .mv (.t 1), some (18, false), true⟩,
⟨some 24, .bin .geq (.t 22) (.t 23), some (18, false), true⟩,
s_ 25 (.pick (.t 18) (.c (.bool true)) (.t 24))] [0,1,5,25] []) (
(.cond (.t 25) (
(.seq (
r_ [
s_ 4 (.as (.c (.bool false)))] [4] []) (
.ret))) (
.skip))))) (
(.seq (
r_ [
s_ 6 (.as (.c (i0_)))] [0,1,5,6] []) (
(.block 2 (
A37_L0) (some [0,1,5]) [4,6])))))) (some [0,1,5]) [4,6])) (
r_ [
m_ 11 5,
s_ 12 (.bin .add (.t 11) (.c (.int .i64 1))),
s_ 5 (.as (.t 12))] [0,1,5] []))))
def A37_L1 : ACode := .loop A37_L1b (some [0,1,5]) [4,6]
def A37 : AFn := .code [.t 4] (
(.seq (
r_ [
s_ 4 (.as (.c (.bool false)))] [0,1] []) (
(.seq (
(.seq (
r_ [
s_ 5 (.as (.c (i0_)))] [0,1,5] []) (
(.block 0 (
A37_L1) (some []) [4,5,6])))) (
(.seq (
r_ [
s_ 4 (.as (.c (.bool true)))] [4] []) (
.ret)))))))
def A38_L0b : ACode :=
(.seq (
r_ [
s_ 27 (.bin .lss (.t 26) (.c (.int .i64 3)))] [0,2,17,18,19,25,26,27] []) (
(.seq (
(.cond (.t 27) (
.skip) (
.exit 2))) (
(.seq (
(.block 3 (
(.seq (
r_ [
s_ 28 (.ixa false 3 1 (.t 25) (.t 26)),
s_ 9 (.as (.t 28))] [0,2,9,17,18,19,25,26] []) (
(.seq (
r_ [
m_ 29 0,
m_ 30 9,
s_ 31 (.cal (.t 29) [.t 30]),
s_ 32 (.un .not (.t 31))] [0,2,17,18,19,25,26,32] []) (
(.cond (.t 32) (
.ret) (
.skip))))))) (some [0,2,17,18,19,25,26]) [9,31])) (
r_ [
s_ 33 (.bin .add (.t 26) (.c (.int .i64 1))),
m_ 26 33] [0,2,17,18,19,25,26] []))))))
def A38_L0 : ACode := .loop A38_L0b (some [0,2,17,18,19,25,26]) [9,31]
def A38_L1b : ACode :=
(.seq (
r_ [
b_ 20 .lss 19 18] [0,2,17,18,19,20] []) (
(.seq (
(.cond (.t 20) (
.skip) (
.exit 0))) (
(.seq (
(.block 1 (
(.seq (
r_ [
s_ 21 (.ias 3 (.t 17) (.t 19)),
l_ 22 true 3 21,
s_ 7 (.alloc [i0_, i0_, i0_]),
n_ (.store 3 (.t 7) (.t 22))] [0,2,7,17,18,19] []) (
(.seq (
r_ [
l_ 23 true 12 2,
l_ 24 true 3 7,
s_ 25 (.call 39 [.t 23, .t 24]),
s_ 26 (.mv (.c (i0_)))] [0,2,17,18,19,25,26] [7]) (
(.block 2 (
A38_L0) (some [0,2,17,18,19]) [9,31])))))) (some [0,2,17,18,19]) [7,9,25,31])) (
r_ [
s_ 34 (.bin .add (.t 19) (.c (.int .i64 1))),
m_ 19 34] [0,2,17,18,19] []))))))
def A38_L1 : ACode := .loop A38_L1b (some [0,2,17,18,19]) [7,9,25,31]
def A38 : AFn := .code [] (
(.seq (
r_ [
l_ 11 true 3 1,
s_ 12 (.call 5 [.t 11]),
m_ 10 12,
s_ 13 (.ext (.t 10) 0),
s_ 14 (.ext (.t 10) 1),
s_ 4 (.alloc [i0_, i0_, i0_]),
s_ 5 (.alloc [i0_, i0_, i0_]),
n_ (.store 3 (.t 4) (.t 13)),
n_ (.store 3 (.t 5) (.t 14))] [0,2,4,5] []) (
(.seq (
r_ [
l_ 15 true 3 4,
l_ 16 true 3 5,
s_ 17 (.bsl 3 2 [i0_, i0_, i0_] [(0, .t 15), (1, .t 16)]),
s_ 18 (.len 0 (.t 17)),
s_ 19 (.mv (.c (i0_)))] [0,2,17,18,19] [4,5]) (
(.block 0 (
A38_L1) (some []) [7,9,25,31]))))))
def A39_L0b : ACode :=
(.seq (
r_ [
s_ 24 (.bin .lss (.t 23) (.c (.int .i64 3)))] [4,5,6,7,22,23,24] []) (
(.seq (
(.cond (.t 24) (
.skip) (
.exit 0))) (
(.seq (
(.block 1 (
(.seq (
r_ [
m_ 25 23,
s_ 26 (.ixa true 3 3 (.t 22) (.t 23)),
s_ 9 (.alloc [i0_, i0_, i0_]),
s_ 8 (.as (.t 25)),
n_ (.store 3 (.t 9) (.t 26))] [4,5,6,7,8,9,22,23] []) (
.reg (some [.loc, .loc, .loc, .loc, .loc, .loc, .dr [29, 32, 36] [], .dr [28, 32, 36] [], .dr [28, 29, 36] [], .dr [28, 29, 32] [], .free, .free, .free]) [
m_ 27 8,
m_ 30 8,
s_ 31 (.iaa 4 2 (.t 7) (.t 30)),
m_ 33 8,
s_ 34 (.bin .add (.t 33) (.c (.int .i64 1))),
s_ 35 (.iaa 4 2 (.t 7) (.t 34)),
l_ 28 true 15 6,
l_ 29 true 3 9,
l_ 32 true 2 31,
l_ 36 true 2 35,
s_ 37 (.call 55 [.t 28, .t 29, .t 32, .t 36]),
s_ 38 (.iaa 3 1 (.t 5) (.t 27)),
n_ (.store 1 (.t 38) (.t 37))] (some [4,5,6,7,22,23]) [9]))) (some [4,5,6,7,22,23]) [8,9,37])) (
r_ [
s_ 39 (.bin .add (.t 23) (.c (.int .i64 1))),
m_ 23 39] [4,5,6,7,22,23] []))))))
def A39_L0 : ACode := .loop A39_L0b (some [4,5,6,7,22,23]) [8,9,37]
def A39 : AFn := .code [.cell true 3 4] (
(.seq (
r_ [
s_ 2 (.box (.t 0)),
s_ 3 (.box (.t 1)),
s_ 4 (.alloc [.nils 2, .nils 2, .nils 2])] [2,3,4] []) (
(.seq (
r_ [
s_ 5 (.alloc [.nils 2, .nils 2, .nils 2])] [2,3,4,5] []) (
(.seq (
r_ [
l_ 10 true 12 2,
l_ 11 true 3 3,
s_ 12 (.build [i0_, i0_, i0_, i0_, i0_, i0_, i0_, i0_, i0_, i0_, i0_, i0_, i0_, i0_, i0_] [(0, 12, .t 10), (12, 3, .t 11)]),
s_ 6 (.alloc [i0_, i0_, i0_, i0_, i0_, i0_, i0_, i0_, i0_, i0_, i0_, i0_, i0_, i0_, i0_]),
n_ (.store 15 (.t 6) (.t 12))] [4,5,6] [2,3]) (
(.seq (
r_ [
s_ 13 (.fad 0 (.t 6)),
l_ 14 true 12 13,
s_ 15 (.fad 12 (.t 6)),
l_ 16 true 3 15,
s_ 17 (.call 53 [.t 14, .t 16]),
s_ 7 (.alloc [i0_, i0_, i0_, i0_, i0_, i0_, i0_, i0_]),
n_ (.store 8 (.t 7) (.t 17))] [4,5,6,7] []) (
(.seq (
(.seq (
r_ [
s_ 18 (.fad 0 (.t 6)),
l_ 19 true 12 18,
s_ 20 (.fad 12 (.t 6)),
l_ 21 true 3 20,
s_ 22 (.call 54 [.t 19, .t 21]),
s_ 23 (.mv (.c (i0_)))] [4,5,6,7,22,23] []) (
(.block 0 (
A39_L0) (some [4,5]) [8,9,37])))) (
(.seq (
r_ [
l_ 40 true 3 5,
n_ (.store 3 (.t 4) (.t 40))] [4] [5]) (
.ret)))))))))))))
def A40 : AFn := .code [.cell true 2 2, .cell true 2 3] (
(.seq (
r_ [
s_ 2 (.alloc [i0_, i0_]),
s_ 3 (.alloc [i0_, i0_])] [0,2,3] []) (
(.seq (
(.seq (
r_ [
m_ 6 0,
s_ 7 (.len 0 (.t 6)),
s_ 8 (.bin .eql (.t 7) (.c (i0_)))] [0,2,3,8] []) (
(.cond (.t 8) (
(.seq (
r_ [
s_ 9 (.build [i0_, i0_] []),
s_ 10 (.build [i0_, i0_] []),
n_ (.store 2 (.t 2) (.t 9)),
n_ (.store 2 (.t 3) (.t 10))] [2,3] []) (
.ret))) (
.skip))))) (
(.seq (
r_ [
m_ 11 0,
m_ 12 0,
s_ 13 (.ias 2 (.t 12) (.c (i0_))),
l_ 14 true 2 13,
s_ 15 (.call 56 [.t 11, .t 14, .fu 57]),
s_ 4 (.alloc [i0_, i0_]),
n_ (.store 2 (.t 4) (.t 15))] [0,2,3,4] []) (
(.seq (
r_ [
m_ 16 0,
m_ 17 0,
s_ 18 (.ias 2 (.t 17) (.c (i0_))),
l_ 19 true 2 18,
s_ 20 (.call 56 [.t 16, .t 19, .fu 58]),
s_ 5 (.alloc [i0_, i0_]),
n_ (.store 2 (.t 5) (.t 20))] [2,3,4,5] []) (
(.seq (
.reg (some [.dr [22] [], .dr [21] [2], .dr [22] [], .free]) [
l_ 21 true 2 4,
l_ 22 true 2 5,
n_ (.store 2 (.t 2) (.t 21)),
n_ (.store 2 (.t 3) (.t 22))] (some [2,3]) [4,5]) (
.ret)))))))))))
def A41 : AFn := .code [.cell true 2 4] (
(.seq (
r_ [
s_ 2 (.box (.t 0)),
s_ 3 (.box (.t 1)),
s_ 4 (.alloc [i0_, i0_])] [2,3,4] []) (
(.seq (
r_ [
s_ 5 (.fad 0 (.t 2)),
l_ 6 false 1 5,
s_ 7 (.fad 0 (.t 3)),
l_ 8 false 1 7,
b_ 9 .sub 6 8,
s_ 10 (.fad 1 (.t 2)),
l_ 11 false 1 10,
s_ 12 (.fad 1 (.t 3)),
l_ 13 false 1 12,
b_ 14 .sub 11 13,
s_ 15 (.build [i0_, i0_] [(0, 1, .t 9), (1, 1, .t 14)]),
n_ (.store 2 (.t 4) (.t 15))] [4] [2,3]) (
.ret)))))
def A42_L0b : ACode :=
(.seq (
(.seq (
r_ [
m_ 19 8,
s_ 20 (.bin .lss (.t 19) (.c (.int .i64 3)))] [2,4,5,6,7,8,20] []) (
(.cond (.t 20) (
.skip) (
.exit 0))))) (
(.seq (
(.block 1 (
(.seq (
.reg (some [.dr [27, 9] [], .dr [27, 9] [], .dr [27, 9] [], .dr [25, 9] [], .dr [25, 9] [], .dr [9] [], .dr [25, 27, 28] [], .free]) [
m_ 23 8,
s_ 24 (.iaa 3 3 (.t 5) (.t 23)),
l_ 25 true 3 24,
s_ 26 (.fad 5 (.t 2)),
l_ 27 false 1 26,
s_ 28 (.call 61 [.t 25, .t 27]),
s_ 9 (.alloc [i0_, i0_]),
n_ (.store 2 (.t 9) (.t 28))] (some [2,4,5,6,7,8,9]) []) (
(.seq (
r_ [
s_ 29 (.fad 1 (.t 9)),
l_ 30 false 1 29,
s_ 31 (.un .neg (.t 30)),
s_ 32 (.fad 0 (.t 9)),
l_ 33 false 1 32,
s_ 34 (.build [i0_, i0_] [(0, 1, .t 31), (1, 1, .t 33)]),
s_ 10 (.alloc [i0_, i0_]),
n_ (.store 2 (.t 10) (.t 34))] [2,4,5,6,7,8,9,10] []) (
(.seq (
r_ [
s_ 35 (.fad 1 (.t 9)),
l_ 36 false 1 35,
s_ 37 (.fad 0 (.t 9)),
l_ 38 false 1 37,
s_ 39 (.un .neg (.t 38)),
s_ 40 (.build [i0_, i0_] [(0, 1, .t 36), (1, 1, .t 39)]),
s_ 11 (.alloc [i0_, i0_]),
n_ (.store 2 (.t 11) (.t 40))] [2,4,5,6,7,8,10,11] [9]) (
.reg (some [.loc, .loc, .loc, .loc, .loc, .loc, .loc, .loc, .loc, .loc, .loc, .dr [45, 50, 51, 56, 57, 61, 62] [], .dr [44, 50, 51, 56, 57, 61, 62] [], .dr [50, 51, 56, 57, 61, 62] [], .dr [44, 45, 46, 51, 56, 57, 61, 62] [], .dr [44, 45, 46, 50, 56, 57, 61, 62] [], .dr [56, 57, 61, 62] [], .dr [44, 45, 46, 50, 51, 52, 57, 61, 62] [], .dr [44, 45, 46, 50, 51, 52, 56, 61, 62] [], .dr [61, 62] [], .dr [44, 45, 46, 50, 51, 52, 56, 57, 58, 62] [], .dr [44, 45, 46, 50, 51, 52, 56, 57, 58, 61] [], .free, .free, .free, .free]) [
m_ 41 8,
m_ 42 8,
s_ 43 (.iaa 4 2 (.t 6) (.t 42)),
m_ 47 8,
s_ 48 (.bin .add (.t 47) (.c (.int .i64 1))),
s_ 49 (.iaa 4 2 (.t 6) (.t 48)),
m_ 53 8,
s_ 54 (.bin .add (.t 53) (.c (.int .i64 1))),
s_ 55 (.iaa 4 2 (.t 6) (.t 54)),
m_ 59 8,
s_ 60 (.iaa 4 2 (.t 6) (.t 59)),
l_ 44 true 2 43,
l_ 45 true 2 11,
s_ 46 (.call 62 [.t 44, .t 45]),
l_ 50 true 2 49,
l_ 51 true 2 11,
s_ 52 (.call 62 [.t 50, .t 51]),
l_ 56 true 2 55,
l_ 57 true 2 10,
s_ 58 (.call 62 [.t 56, .t 57]),
l_ 61 true 2 60,
l_ 62 true 2 10,
s_ 63 (.call 62 [.t 61, .t 62]),
s_ 64 (.bsl 2 4 [i0_, i0_] [(0, .t 46), (1, .t 52), (2, .t 58), (3, .t 63)]),
s_ 65 (.iaa 3 1 (.t 7) (.t 41)),
n_ (.store 1 (.t 65) (.t 64))] (some [2,4,5,6,7,8]) [10,11]))))))) (some [2,4,5,6,7,8]) [9,10,11,28,46,52,58,63,64])) (
r_ [
m_ 21 8,
s_ 22 (.bin .add (.t 21) (.c (.int .i64 1))),
s_ 8 (.as (.t 22))] [2,4,5,6,7,8] []))))
def A42_L0 : ACode := .loop A42_L0b (some [2,4,5,6,7,8]) [9,10,11,28,46,52,58,63,64]
def A42 : AFn := .code [.cell true 3 4] (
(.seq (
r_ [
s_ 2 (.box (.t 0)),
s_ 3 (.box (.t 1)),
s_ 4 (.alloc [.nils 2, .nils 2, .nils 2])] [2,3,4] []) (
(.seq (
r_ [
l_ 12 true 12 2,
l_ 13 true 3 3,
s_ 14 (.call 59 [.t 12, .t 13]),
s_ 5 (.alloc [i0_, i0_, i0_, i0_, i0_, i0_, i0_, i0_, i0_]),
n_ (.store 9 (.t 5) (.t 14))] [2,3,4,5] []) (
(.seq (
r_ [
l_ 15 true 12 2,
l_ 16 true 3 3,
s_ 17 (.call 60 [.t 15, .t 16]),
s_ 6 (.alloc [i0_, i0_, i0_, i0_, i0_, i0_, i0_, i0_]),
n_ (.store 8 (.t 6) (.t 17))] [2,4,5,6] [3]) (
(.seq (
r_ [
s_ 18 (.build [.nils 2, .nils 2, .nils 2] []),
s_ 7 (.alloc [.nils 2, .nils 2, .nils 2]),
n_ (.store 3 (.t 7) (.t 18))] [2,4,5,6,7] []) (
(.seq (
(.seq (
r_ [
s_ 8 (.as (.c (i0_)))] [2,4,5,6,7,8] []) (
(.block 0 (
A42_L0) (some [4,7]) [8,9,10,11,28,46,52,58,63,64])))) (
(.seq (
r_ [
l_ 66 true 3 7,
n_ (.store 3 (.t 4) (.t 66))] [4] [7]) (
.ret)))))))))))))
def A43_L0b : ACode :=
(.seq (
(.seq (
r_ [
m_ 18 6,
m_ 19 0,
s_ 20 (.len 0 (.t 19)),
b_ 21 .lss 18 20] [0,2,3,4,5,6,21] []) (
(.cond (.t 21) (
.skip) (
.exit 0))))) (
(.seq (
(.block 1 (
(.seq (
.reg (some [.dr [28, 30, 33, 36, 38] [], .dr [28, 30, 33, 36, 38] [], .dr [25, 33, 36, 38] [], .dr [25, 33, 36, 38] [], .dr [25, 33, 36, 38] [], .dr [25, 33, 36, 38] [], .dr [25, 33, 36, 38] [], .dr [33, 36, 38] [], .dr [25, 28, 30, 36, 38] [], .dr [25, 28, 30, 36, 38] [], .dr [25, 28, 30, 33] [], .dr [25, 28, 30, 33] [], .dr [25, 28, 30, 33] [], .dr [25, 28, 30, 33] [], .dr [25, 28, 30, 33] [], .dr [25, 28, 30] [], .free, .free]) [
s_ 24 (.fad 0 (.t 4)),
l_ 25 false 1 24,
m_ 26 0,
m_ 27 6,
s_ 28 (.ias 2 (.t 26) (.t 27)),
s_ 29 (.fad 0 (.t 28)),
l_ 30 false 1 29,
s_ 31 (.mn [.t 25, .t 30]),
s_ 32 (.fad 1 (.t 4)),
l_ 33 false 1 32,
m_ 34 0,
m_ 35 6,
s_ 36 (.ias 2 (.t 34) (.t 35)),
s_ 37 (.fad 1 (.t 36)),
l_ 38 false 1 37,
s_ 39 (.mn [.t 33, .t 38]),
s_ 40 (.build [i0_, i0_] [(0, 1, .t 31), (1, 1, .t 39)]),
n_ (.store 2 (.t 4) (.t 40))] (some [0,2,3,4,5,6]) []) (
.reg (some [.dr [45, 47, 50, 53, 55] [], .dr [45, 47, 50, 53, 55] [], .dr [42, 50, 53, 55] [], .dr [42, 50, 53, 55] [], .dr [42, 50, 53, 55] [], .dr [42, 50, 53, 55] [], .dr [42, 50, 53, 55] [], .dr [50, 53, 55] [], .dr [42, 45, 47, 53, 55] [], .dr [42, 45, 47, 53, 55] [], .dr [42, 45, 47, 50] [], .dr [42, 45, 47, 50] [], .dr [42, 45, 47, 50] [], .dr [42, 45, 47, 50] [], .dr [42, 45, 47, 50] [], .dr [42, 45, 47] [], .free, .free]) [
s_ 41 (.fad 0 (.t 5)),
l_ 42 false 1 41,
m_ 43 0,
m_ 44 6,
s_ 45 (.ias 2 (.t 43) (.t 44)),
s_ 46 (.fad 0 (.t 45)),
l_ 47 false 1 46,
s_ 48 (.mx [.t 42, .t 47]),
s_ 49 (.fad 1 (.t 5)),
l_ 50 false 1 49,
m_ 51 0,
m_ 52 6,
s_ 53 (.ias 2 (.t 51) (.t 52)),
s_ 54 (.fad 1 (.t 53)),
l_ 55 false 1 54,
s_ 56 (.mx [.t 50, .t 55]),
s_ 57 (.build [i0_, i0_] [(0, 1, .t 48), (1, 1, .t 56)]),
n_ (.store 2 (.t 5) (.t 57))] (some [0,2,3,4,5,6]) []))) (some [0,2,3,4,5,6]) [])) (
r_ [
m_ 22 6,
s_ 23 (.bin .add (.t 22) (.c (.int .i64 1))),
s_ 6 (.as (.t 23))] [0,2,3,4,5,6] []))))
def A43_L0 : ACode := .loop A43_L0b (some [0,2,3,4,5,6]) []
def A43 : AFn := .code [.cell true 2 2, .cell true 2 3] (
(.seq (
r_ [
s_ 2 (.alloc [i0_, i0_]),
s_ 3 (.alloc [i0_, i0_])] [0,2,3] []) (
(.seq (
(.seq (
r_ [
m_ 7 0,
s_ 8 (.len 0 (.t 7)),
s_ 9 (.bin .eql (.t 8) (.c (i0_)))] [0,2,3,9] []) (
(.cond (.t 9) (
(.seq (
r_ [
s_ 10 (.build [i0_, i0_] []),
s_ 11 (.build [i0_, i0_] []),
n_ (.store 2 (.t 2) (.t 10)),
n_ (.store 2 (.t 3) (.t 11))] [2,3] []) (
.ret))) (
.skip))))) (
(.seq (
r_ [
m_ 12 0,
s_ 13 (.ias 2 (.t 12) (.c (i0_))),
l_ 14 true 2 13,
s_ 4 (.alloc [i0_, i0_]),
n_ (.store 2 (.t 4) (.t 14))] [0,2,3,4] []) (
(.seq (
r_ [
m_ 15 0,
s_ 16 (.ias 2 (.t 15) (.c (i0_))),
l_ 17 true 2 16,
s_ 5 (.alloc [i0_, i0_]),
n_ (.store 2 (.t 5) (.t 17))] [0,2,3,4,5] []) (
(.seq (
(.seq (
r_ [
s_ 6 (.as (.c (i0_)))] [0,2,3,4,5,6] []) (
(.block 0 (
A43_L0) (some [2,3,4,5]) [6])))) (
(.seq (
.reg (some [.dr [59] [], .dr [58] [2], .dr [59] [], .free]) [
l_ 58 true 2 4,
l_ 59 true 2 5,
n_ (.store 2 (.t 2) (.t 58)),
n_ (.store 2 (.t 3) (.t 59))] (some [2,3]) [4,5]) (
.ret)))))))))))))
def A44 : AFn := .code [.t 4] (
(.seq (
r_ [
s_ 4 (.as (.c (.bool false)))] [0,1] []) (
(.seq (
r_ [
m_ 5 0,
m_ 6 1,
s_ 7 (.call 63 [.t 5, .t 6]),
s_ 8 (.bin .geq (.t 7) (.c (i0_))),
s_ 4 (.as (.t 8))] [4] []) (
.ret)))))
def A45 : AFn := .code [.t 4] (
(.seq (
r_ [
s_ 4 (.as (.c (.bool false)))] [0,1] []) (
(.seq (
r_ [
m_ 8 0,
m_ 9 1,
s_ 10 (.call 64 [.t 8, .t 9]),
m_ 7 10,
s_ 11 (.ext (.t 7) 0),
s_ 12 (.ext (.t 7) 1),
s_ 5 (.alloc [i0_, i0_, i0_]),
n_ (.store 3 (.t 5) (.t 11)),
s_ 6 (.as (.t 12))] [6] [5]) (
(.seq (
r_ [
m_ 13 6,
s_ 4 (.as (.t 13))] [4] []) (
.ret)))))))
def A46 : AFn := .code [.t 4] (
(.seq (
r_ [
s_ 4 (.as (.c (.bool false)))] [0,1] []) (
(.seq (
r_ [
m_ 8 0,
m_ 9 1,
s_ 10 (.call 65 [.t 8, .t 9]),
m_ 7 10,
s_ 11 (.ext (.t 7) 0),
s_ 12 (.ext (.t 7) 1),
s_ 5 (.alloc [i0_, i0_, i0_]),
n_ (.store 3 (.t 5) (.t 11)),
s_ 6 (.as (.t 12))] [6] [5]) (
(.seq (
r_ [
m_ 13 6,
s_ 4 (.as (.t 13))] [4] []) (
.ret)))))))
def A47 : AFn := .code [.t 2] (
(.seq (
r_ [
s_ 1 (.box (.t 0)),
s_ 2 (.as (.c (.bool false)))] [1] []) (
(.seq (
r_ [
s_ 3 (.fad 0 (.t 1)),
s_ 4 (.fad 0 (.t 3)),
l_ 5 false 1 4,
s_ 6 (.bin .gtr (.t 5) (.c (.int .i64 1000000000))),
m_ 7 6,
⟨some 8, .fad 0 (.t 1), some (7, false), true⟩,
⟨some 9, .fad 0 (.t 8), some (7, false), true⟩,
⟨some 10, .load false 1 (.t 9), some (7, false), true⟩,
⟨some 11, .bin .lss (.t 10) (.c (.int .i64 (-1000000000))), some (7, false), true⟩,
s_ 12 (.pick (.t 7) (.c (.bool true)) (.t 11)),
m_ 13 12,
⟨some 14, .fad 0 (.t 1), some (13, false), true⟩,
⟨some 15, .fad 1 (.t 14), some (13, false), true⟩,
⟨some 16, .load false 1 (.t 15), some (13, false), true⟩,
⟨some 17, .bin .gtr (.t 16) (.c (.int .i64 1000000000)), some (13, false), true⟩,
s_ 18 (.pick (.t 13) (.c (.bool true)) (.t 17)),
m_ 19 18,
⟨some 20, .fad 0 (.t 1), some (19, false), true⟩,
⟨some 21, .fad 1 (.t 20), some (19, false), true⟩,
⟨some 22, .load false 1 (.t 21), some (19, false), true⟩,
⟨some 23, .bin .lss (.t 22) (.c (.int .i64 (-1000000000))), some (19, false), true⟩,
s_ 24 (.pick (.t 19) (.c (.bool true)) (.t 23)),
s_ 2 (.as (.t 24))] [2] [1]) (
.ret)))))
def A48 : AFn := .code [.t 2] (
(.seq (
r_ [
s_ 2 (.as (.c (i0_)))] [0] []) (
(.seq (
(.seq (
r_ [
m_ 3 0,
s_ 4 (.bin .lss (.t 3) (.c (i0_)))] [0,4] []) (
(.cond (.t 4) (
(.seq (
r_ [
m_ 5 0,
s_ 6 (.un .neg (.t 5)),
s_ 2 (.as (.t 6))] [2] []) (
.ret))) (
.skip))))) (
(.seq (
r_ [
m_ 7 0,
s_ 2 (.as (.t 7))] [2] []) (
.ret)))))))
def A49_L0b : ACode :=
(.seq (
(.seq (
r_ [
m_ 46 6,
m_ 47 3,
b_ 48 .lss 46 47] [0,3,5,6,48] []) (
(.cond (.t 48) (
.skip) (
.exit 4))))) (
(.seq (
(.block 5 (
(.seq (
r_ [
m_ 51 5,
s_ 52 (.bin .neq (.t 51) (.c (i0_))),
m_ 53 52,
⟨some 54, .mv (.t 6), some (53, false), true⟩,
⟨some 55, .mv (.t 3), some (53, false), true⟩,
⟨some 56, .bin .sub (.t 55) (.c (.int .i64 1)), some (53, false), true⟩,
⟨some 57, .bin .neq (.t 54) (.t 56), some (53, false), true⟩,
s_ 58 (.pick (.t 53) (.c (.bool true)) (.t 57)),
m_ 59 58,
⟨some 60, .mv (.t 0), some (59, true), true⟩,
⟨some 61, .mv (.t 5), some (59, true), true⟩,
⟨some 62, .call 68 [.t 60, .t 61], some (59, true), true⟩,
⟨some 63, .mv (.t 0), some (59, true), true⟩,
⟨some 64, .mv (.t 5), some (59, true), true⟩,
⟨some 65, .bin .add (.t 64) (.c (.int .i64 1)), some (59, true), true⟩,
⟨some 66, .call 68 [.t 63, .t 65], some (59, true), true⟩,
⟨some 67, .mv (.t 0), some (59, true), true⟩,
⟨some 68, .mv (.t 6), some (59, true), true⟩,
⟨some 69, .call 68 [.t 67, .t 68], some (59, true), true⟩,
⟨some 70, .mv (.t 0), some (59, true), true⟩,
⟨some 71, .mv (.t 6), some (59, true), true⟩,
⟨some 72, .bin .add (.t 71) (.c (.int .i64 1)), some (59, true), true⟩,
⟨some 73, .call 68 [.t 70, .t 72], some (59, true), true⟩,
⟨some 74, .call 69 [.t 62, .t 66, .t 69, .t 73], some (59, true), true⟩,
s_ 75 (.pick (.t 59) (.t 74) (.c (.bool false)))] [0,3,5,6,75] []) (
(.cond (.t 75) (
(.seq (
r_ [
s_ 2 (.as (.c (.bool false)))] [2] []) (
.ret))) (
.skip))))) (some [0,3,5,6]) [2,62,66,69,73,74])) (
r_ [
m_ 49 6,
s_ 50 (.bin .add (.t 49) (.c (.int .i64 1))),
s_ 6 (.as (.t 50))] [0,3,5,6] []))))
def A49_L0 : ACode := .loop A49_L0b (some [0,3,5,6]) [2,62,66,69,73,74]
def A49_L1b : ACode :=
(.seq (
(.seq (
r_ [
m_ 26 5,
m_ 27 3,
b_ 28 .lss 26 27] [0,3,5,28] []) (
(.cond (.t 28) (
.skip) (
.exit 2))))) (
(.seq (
(.block 3 (
(.seq (
(.seq (
r_ [
m_ 31 0,
m_ 32 5,
s_ 33 (.call 68 [.t 31, .t 32]),
m_ 34 0,
m_ 35 5,
s_ 36 (.bin .add (.t 35) (.c (.int .i64 1))),
s_ 37 (.call 68 [.t 34, .t 36]),
m_ 38 0,
m_ 39 5,
s_ 40 (.bin .add (.t 39) (.c (.int .i64 2))),
s_ 41 (.call 68 [.t 38, .t 40]),
s_ 42 (.call 67 [.t 33, .t 37, .t 41]),
s_ 43 (.bin .eql (.t 42) (.c (i0_)))] [0,3,5,43] []) (
(.cond (.t 43) (
(.seq (
r_ [
s_ 2 (.as (.c (.bool false)))] [2] []) (
.ret))) (
.skip))))) (
(.seq (
r_ [
m_ 44 5,
s_ 45 (.bin .add (.t 44) (.c (.int .i64 2))),
s_ 6 (.as (.t 45))] [0,3,5,6] []) (
(.block 4 (
A49_L0) (some [0,3,5]) [2,6,62,66,69,73,74])))))) (some [0,3,5]) [2,6,33,37,41,42,62,66,69,73,74])) (
r_ [
m_ 29 5,
s_ 30 (.bin .add (.t 29) (.c (.int .i64 1))),
s_ 5 (.as (.t 30))] [0,3,5] []))))
def A49_L1 : ACode := .loop A49_L1b (some [0,3,5]) [2,6,33,37,41,42,62,66,69,73,74]
def A49_L2b : ACode :=
(.seq (
(.seq (
r_ [
m_ 15 4,
m_ 16 3,
b_ 17 .lss 15 16] [0,3,4,17] []) (
(.cond (.t 17) (
.skip) (
.exit 0))))) (
(.seq (
(.block 1 (
(.seq (
r_ [
m_ 20 0,
m_ 21 4,
s_ 22 (.ias 2 (.t 20) (.t 21)),
l_ 23 true 2 22,
s_ 24 (.call 66 [.t 23]),
s_ 25 (.un .not (.t 24))] [0,3,4,25] []) (
(.cond (.t 25) (
(.seq (
r_ [
s_ 2 (.as (.c (.bool false)))] [2] []) (
.ret))) (
.skip))))) (some [0,3,4]) [2,24])) (
r_ [
m_ 18 4,
s_ 19 (.bin .add (.t 18) (.c (.int .i64 1))),
s_ 4 (.as (.t 19))] [0,3,4] []))))
def A49_L2 : ACode := .loop A49_L2b (some [0,3,4]) [2,24]
def A49 : AFn := .code [.t 2] (
(.seq (
r_ [
s_ 2 (.as (.c (.bool false)))] [0] []) (
(.seq (
r_ [
m_ 7 0,
s_ 8 (.len 0 (.t 7)),
s_ 3 (.as (.t 8))] [0,3] []) (
(.seq (
(.seq (
r_ [
m_ 9 3,
s_ 10 (.bin .lss (.t 9) (.c (.int .i64 3))),
m_ 11 10,
⟨some 12, .mv (.t 3), some (11, false), true⟩,
⟨some 13, .bin .gtr (.t 12) (.c (.int .i64 12)), some (11, false), true⟩,
s_ 14 (.pick (.t 11) (.c (.bool true)) (.t 13))] [0,3,14] []) (
(.cond (.t 14) (
(.seq (
r_ [
s_ 2 (.as (.c (.bool false)))] [2] []) (
.ret))) (
.skip))))) (
(.seq (
(.seq (
r_ [
s_ 4 (.as (.c (i0_)))] [0,3,4] []) (
(.block 0 (
A49_L2) (some [0,3]) [2,4,24])))) (
(.seq (
(.seq (
r_ [
s_ 5 (.as (.c (i0_)))] [0,3,5] []) (
(.block 2 (
A49_L1) (some [0]) [2,5,6,33,37,41,42,62,66,69,73,74])))) (
(.seq (
r_ [
m_ 76 0,
s_ 77 (.call 70 [.t 76]),
s_ 78 (.bin .gtr (.t 77) (.c (i0_))),
s_ 2 (.as (.t 78))] [2] []) (
.ret)))))))))))))
def A50 : AFn := .code [.t 2] (
(.seq (
r_ [
s_ 1 (.box (.t 0)),
s_ 2 (.as (.c (.bool false)))] [1] []) (
(.seq (
(.seq (
r_ [
s_ 4 (.fad 2 (.t 1)),
l_ 5 false 1 4,
s_ 6 (.bin .lss (.t 5) (.c (i0_))),
m_ 7 6,
⟨some 8, .fad 2 (.t 1), some (7, false), true⟩,
⟨some 9, .load false 1 (.t 8), some (7, false), true⟩,
⟨some 10, .bin .gtr (.t 9) (.c (.int .i64 3)), some (7, false), true⟩,
s_ 11 (.pick (.t 7) (.c (.bool true)) (.t 10))] [1,11] []) (
(.cond (.t 11) (
(.seq (
r_ [
s_ 2 (.as (.c (.bool false)))] [2] []) (
.ret))) (
.skip))))) (
(.seq (
r_ [
s_ 12 (.fad 2 (.t 1)),
l_ 13 false 1 12,
s_ 14 (.call 71 [.t 13]),
s_ 3 (.as (.t 14))] [1,3] []) (
(.seq (
r_ [
s_ 15 (.fad 0 (.t 1)),
l_ 16 false 1 15,
m_ 17 3,
s_ 18 (.un .neg (.t 17)),
b_ 19 .geq 16 18,
m_ 20 19,
⟨some 21, .fad 0 (.t 1), some (20, true), true⟩,
⟨some 22, .load false 1 (.t 21), some (20, true), true⟩,
⟨some 23, .mv (.t 3), some (20, true), true⟩,
⟨some 24, .bin .leq (.t 22) (.t 23), some (20, true), true⟩,
s_ 25 (.pick (.t 20) (.t 24) (.c (.bool false))),
m_ 26 25,
⟨some 27, .fad 1 (.t 1), some (26, true), true⟩,
⟨some 28, .load false 1 (.t 27), some (26, true), true⟩,
⟨some 29, .mv (.t 3), some (26, true), true⟩,
⟨some 30, .un .neg (.t 29), some (26, true), true⟩,
⟨some 31, .bin .geq (.t 28) (.t 30), some (26, true), true⟩,
s_ 32 (.pick (.t 26) (.t 31) (.c (.bool false))),
m_ 33 32,
⟨some 34, .fad 1 (.t 1), some (33, true), true⟩,
⟨some 35, .load false 1 (.t 34), some (33, true), true⟩,
⟨some 36, .mv (.t 3), some (33, true), true⟩,
⟨some 37, .bin .leq (.t 35) (.t 36), some (33, true), true⟩,
s_ 38 (.pick (.t 33) (.t 37) (.c (.bool false))),
m_ 39 38,
⟨some 40, .fad 0 (.t 1), some (39, true), true⟩,
⟨some 41, .load false 1 (.t 40), some (39, true), true⟩,
⟨some 42, .fad 0 (.t 1), some (39, true), true⟩,
⟨some 43, .load false 1 (.t 42), some (39, true), true⟩,
⟨some 44, .bin .mul (.t 41) (.t 43), some (39, true), true⟩,
⟨some 45, .fad 1 (.t 1), some (39, true), true⟩,
⟨some 46, .load false 1 (.t 45), some (39, true), true⟩,
⟨some 47, .fad 1 (.t 1), some (39, true), true⟩,
⟨some 48, .load false 1 (.t 47), some (39, true), true⟩,
⟨some 49, .bin .mul (.t 46) (.t 48), some (39, true), true⟩,
⟨some 50, .bin .add (.t 44) (.t 49), some (39, true), true⟩,
⟨some 51, .mv (.t 3), some (39, true), true⟩,
⟨some 52, .mv (.t 3), some (39, true), true⟩,
⟨some 53, .bin .mul (.t 51) (.t 52), some (39, true), true⟩,
⟨some 54, .bin .eql (.t 50) (.t 53), some (39, true), true⟩,
s_ 55 (.pick (.t 39) (.t 54) (.c (.bool false))),
s_ 2 (.as (.t 55))] [2] [1]) (
.ret)))))))))
def A51_L0b : ACode :=
(.seq (
(.seq (
r_ [
m_ 17 4,
m_ 18 3,
b_ 19 .lss 17 18] [0,3,4,19] []) (
(.cond (.t 19) (
.skip) (
.exit 2))))) (
(.seq (
(.block 3 (
(.seq (
.reg (some [.dr [28, 29] [], .dr [28, 29] [], .dr [28, 29] [], .dr [28, 29] [], .dr [24, 25] [], .dr [24, 25] [], .dr [24, 25] [], .dr [24, 25] [], .free]) [
m_ 22 0,
m_ 23 4,
s_ 24 (.ias 1 (.t 22) (.t 23)),
l_ 25 false 1 24,
m_ 26 0,
m_ 27 3,
s_ 28 (.ias 1 (.t 26) (.t 27)),
l_ 29 false 1 28,
b_ 30 .eql 25 29] (some [0,3,4,30]) []) (
(.cond (.t 30) (
(.seq (
r_ [
s_ 2 (.as (.c (.bool false)))] [2] []) (
.ret))) (
.skip))))) (some [0,3,4]) [2])) (
r_ [
m_ 20 4,
s_ 21 (.bin .add (.t 20) (.c (.int .i64 1))),
s_ 4 (.as (.t 21))] [0,3,4] []))))
def A51_L0 : ACode := .loop A51_L0b (some [0,3,4]) [2]
def A51_L1b : ACode :=
(.seq (
(.seq (
r_ [
m_ 5 3,
m_ 6 0,
s_ 7 (.len 0 (.t 6)),
b_ 8 .lss 5 7] [0,3,8] []) (
(.cond (.t 8) (
.skip) (
.exit 0))))) (
(.seq (
(.block 1 (
(.seq (
(.seq (
r_ [
m_ 11 0,
m_ 12 3,
s_ 13 (.ias 1 (.t 11) (.t 12)),
l_ 14 false 1 13,
s_ 15 (.call 72 [.t 14]),
s_ 16 (.un .not (.t 15))] [0,3,16] []) (
(.cond (.t 16) (
(.seq (
r_ [
s_ 2 (.as (.c (.bool false)))] [2] []) (
.ret))) (
.skip))))) (
(.seq (
r_ [
s_ 4 (.as (.c (i0_)))] [0,3,4] []) (
(.block 2 (
A51_L0) (some [0,3]) [2,4])))))) (some [0,3]) [2,4,15])) (
r_ [
m_ 9 3,
s_ 10 (.bin .add (.t 9) (.c (.int .i64 1))),
s_ 3 (.as (.t 10))] [0,3] []))))
def A51_L1 : ACode := .loop A51_L1b (some [0,3]) [2,4,15]
def A51 : AFn := .code [.t 2] (
(.seq (
r_ [
s_ 2 (.as (.c (.bool false)))] [0] []) (
(.seq (
(.seq (
r_ [
s_ 3 (.as (.c (i0_)))] [0,3] []) (
(.block 0 (
A51_L1) (some []) [2,3,4,15])))) (
(.seq (
r_ [
s_ 2 (.as (.c (.bool true)))] [2] []) (
.ret)))))))
def A52_L0b : ACode :=
(.seq (
(.seq (
r_ [
m_ 49 4,
m_ 50 0,
s_ 51 (.len 0 (.t 50)),
b_ 52 .lss 49 51] [0,3,4,52] []) (
(.cond (.t 52) (
.skip) (
.exit 2))))) (
(.seq (
(.block 3 (
(.seq (
.reg (some [.dr [63, 65, 66, 69, 70] [], .dr [63, 65, 66, 69, 70] [], .dr [63, 65, 66, 69, 70] [], .dr [63, 65, 66, 69, 70] [], .dr [57, 58, 63, 69, 70] [], .dr [57, 58, 63, 69, 70] [], .dr [57, 58, 63, 69, 70] [], .dr [57, 58, 69, 70] [], .dr [57, 58, 69, 70] [], .dr [57, 58, 69, 70] [], .dr [57, 58, 69, 70] [], .dr [57, 58, 69, 70] [], .dr [57, 58, 63, 65, 66] [], .dr [57, 58, 63, 65, 66] [], .dr [57, 58, 63, 65, 66] [], .dr [57, 58, 63, 65, 66] [], .free, .free]) [
m_ 55 0,
m_ 56 3,
s_ 57 (.ias 2 (.t 55) (.t 56)),
l_ 58 true 2 57,
m_ 59 0,
m_ 60 3,
s_ 61 (.bin .add (.t 60) (.c (.int .i64 1))),
m_ 62 0,
s_ 63 (.len 0 (.t 62)),
s_ 64 (.bin .rem (.t 61) (.t 63)),
s_ 65 (.ias 2 (.t 59) (.t 64)),
l_ 66 true 2 65,
m_ 67 0,
m_ 68 4,
s_ 69 (.ias 2 (.t 67) (.t 68)),
l_ 70 true 2 69,
s_ 71 (.call 73 [.t 58, .t 66, .t 70]),
s_ 72 (.bin .lss (.t 71) (.c (i0_)))] (some [0,3,4,72]) []) (
(.cond (.t 72) (
(.seq (
r_ [
s_ 2 (.as (.c (.bool false)))] [2] []) (
.ret))) (
.skip))))) (some [0,3,4]) [2,71])) (
r_ [
m_ 53 4,
s_ 54 (.bin .add (.t 53) (.c (.int .i64 1))),
s_ 4 (.as (.t 54))] [0,3,4] []))))
def A52_L0 : ACode := .loop A52_L0b (some [0,3,4]) [2,71]
def A52_L1b : ACode :=
(.seq (
(.seq (
r_ [
m_ 13 3,
m_ 14 0,
s_ 15 (.len 0 (.t 14)),
b_ 16 .lss 13 15] [0,3,16] []) (
(.cond (.t 16) (
.skip) (
.exit 0))))) (
(.seq (
(.block 1 (
(.seq (
(.seq (
r_ [
m_ 19 0,
m_ 20 3,
s_ 21 (.ias 2 (.t 19) (.t 20)),
s_ 22 (.fad 0 (.t 21)),
l_ 23 false 1 22,
s_ 24 (.bin .lss (.t 23) (.c (.int .i64 (-10)))),
m_ 25 24,
⟨some 26, .mv (.t 0), some (25, false), true⟩,
⟨some 27, .mv (.t 3), some (25, false), true⟩,
⟨some 28, .ias 2 (.t 26) (.t 27), some (25, false), true⟩,
⟨some 29, .fad 0 (.t 28), some (25, false), true⟩,
⟨some 30, .load false 1 (.t 29), some (25, false), true⟩,
⟨some 31, .bin .gtr (.t 30) (.c (.int .i64 10)), some (25, false), true⟩,
s_ 32 (.pick (.t 25) (.c (.bool true)) (.t 31)),
m_ 33 32,
⟨some 34, .mv (.t 0), some (33, false), true⟩,
⟨some 35, .mv (.t 3), some (33, false), true⟩,
⟨some 36, .ias 2 (.t 34) (.t 35), some (33, false), true⟩,
⟨some 37, .fad 1 (.t 36), some (33, false), true⟩,
⟨some 38, .load false 1 (.t 37), some (33, false), true⟩,
⟨some 39, .bin .lss (.t 38) (.c (.int .i64 (-10))), some (33, false), true⟩,
s_ 40 (.pick (.t 33) (.c (.bool true)) (.t 39)),
m_ 41 40,
⟨some 42, .mv (.t 0), some (41, false), true⟩,
⟨some 43, .mv (.t 3), some (41, false), true⟩,
⟨some 44, .ias 2 (.t 42) (.t 43), some (41, false), true⟩,
⟨some 45, .fad 1 (.t 44), some (41, false), true⟩,
⟨some 46, .load false 1 (.t 45), some (41, false), true⟩,
⟨some 47, .bin .gtr (.t 46) (.c (.int .i64 10)), some (41, false), true⟩,
s_ 48 (.pick (.t 41) (.c (.bool true)) (.t 47))] [0,3,48] []) (
(.cond (.t 48) (
(.seq (
r_ [
s_ 2 (.as (.c (.bool false)))] [2] []) (
.ret))) (
.skip))))) (
(.seq (
r_ [
s_ 4 (.as (.c (i0_)))] [0,3,4] []) (
(.block 2 (
A52_L0) (some [0,3]) [2,4,71])))))) (some [0,3]) [2,4,71])) (
r_ [
m_ 17 3,
s_ 18 (.bin .add (.t 17) (.c (.int .i64 1))),
s_ 3 (.as (.t 18))] [0,3] []))))
def A52_L1 : ACode := .loop A52_L1b (some [0,3]) [2,4,71]
def A52 : AFn := .code [.t 2] (
(.seq (
r_ [
s_ 2 (.as (.c (.bool false)))] [0] []) (
(.seq (
(.seq (
r_ [
m_ 5 0,
s_ 6 (.len 0 (.t 5)),
s_ 7 (.bin .gtr (.t 6) (.c (.int .i64 4))),
m_ 8 7,
⟨some 9, .mv (.t 0), some (8, false), true⟩,
⟨some 10, .call 49 [.t 9], some (8, false), true⟩,
⟨some 11, .un .not (.t 10), some (8, false), true⟩,
s_ 12 (.pick (.t 8) (.c (.bool true)) (.t 11))] [0,12] []) (
(.cond (.t 12) (
(.seq (
r_ [
s_ 2 (.as (.c (.bool false)))] [2] []) (
.ret))) (
.skip))))) (
(.seq (
(.seq (
r_ [
s_ 3 (.as (.c (i0_)))] [0,3] []) (
(.block 0 (
A52_L1) (some []) [2,3,4,71])))) (
(.seq (
r_ [
s_ 2 (.as (.c (.bool true)))] [2] []) (
.ret)))))))))
def A53_L0b : ACode :=
(.seq (
r_ [
s_ 20 (.bin .lss (.t 19) (.c (.int .i64 3)))] [2,4,5,7,18,19,20] []) (
(.seq (
(.cond (.t 20) (
.skip) (
.exit 0))) (
(.seq (
(.block 1 (
(.seq (
r_ [
m_ 21 19,
s_ 22 (.ixa true 3 3 (.t 18) (.t 19)),
s_ 9 (.alloc [i0_, i0_, i0_]),
s_ 8 (.as (.t 21)),
n_ (.store 3 (.t 9) (.t 22))] [2,4,5,7,8,9,18,19] []) (
.reg (some [.loc, .loc, .loc, .loc, .loc, .loc, .dr [30] [], .dr [26] [], .free, .free, .free, .free]) [
m_ 23 8,
s_ 24 (.bin .add (.t 23) (.c (.int .i64 1))),
m_ 25 7,
m_ 27 8,
s_ 28 (.fad 2 (.t 2)),
s_ 29 (.iaa 3 1 (.t 28) (.t 27)),
l_ 26 true 3 9,
l_ 30 false 1 29,
s_ 31 (.call 76 [.t 26, .t 30]),
s_ 32 (.cal (.t 25) [.t 31]),
s_ 33 (.iaa 4 2 (.t 5) (.t 24)),
n_ (.store 2 (.t 33) (.t 32))] (some [2,4,5,7,18,19]) [9]))) (some [2,4,5,7,18,19]) [8,9,31,32])) (
r_ [
s_ 34 (.bin .add (.t 19) (.c (.int .i64 1))),
m_ 19 34] [2,4,5,7,18,19] []))))))
def A53_L0 : ACode := .loop A53_L0b (some [2,4,5,7,18,19]) [8,9,31,32]
def A53 : AFn := .code [.cell true 8 4] (
(.seq (
r_ [
s_ 2 (.box (.t 0)),
s_ 3 (.box (.t 1)),
s_ 4 (.alloc [i0_, i0_, i0_, i0_, i0_, i0_, i0_, i0_])] [2,3,4] []) (
(.seq (
r_ [
s_ 10 (.fad 0 (.t 2)),
l_ 11 true 2 10,
s_ 12 (.build [i0_, i0_, i0_, i0_, i0_, i0_, i0_, i0_] [(0, 2, .t 11)]),
s_ 5 (.alloc [i0_, i0_, i0_, i0_, i0_, i0_, i0_, i0_]),
n_ (.store 8 (.t 5) (.t 12))] [2,3,4,5] []) (
(.seq (
r_ [
s_ 13 (.fad 0 (.t 2)),
l_ 14 true 2 13,
s_ 6 (.alloc [i0_, i0_]),
n_ (.store 2 (.t 6) (.t 14))] [2,3,4,5,6] []) (
(.seq (
r_ [
s_ 15 (.mkf (.func 74) [] [.t 6]),
s_ 7 (.as (.t 15))] [2,3,4,5,7] []) (
(.seq (
(.seq (
r_ [
l_ 16 true 12 2,
l_ 17 true 3 3,
s_ 18 (.call 54 [.t 16, .t 17]),
s_ 19 (.mv (.c (i0_)))] [2,4,5,7,18,19] [3]) (
(.block 0 (
A53_L0) (some [4,5]) [8,9,31,32])))) (
(.seq (
r_ [
l_ 35 true 8 5,
n_ (.store 8 (.t 4) (.t 35))] [4] [5]) (
.ret)))))))))))))
def A54_L0b : ACode :=
(.seq (
r_ [
s_ 12 (.bin .lss (.t 11) (.c (.int .i64 3)))] [4,5,6,10,11,12] []) (
(.seq (
(.cond (.t 12) (
.skip) (
.exit 0))) (
(.seq (
(.block 1 (
(.seq (
r_ [
m_ 13 11,
s_ 14 (.ixa false 3 1 (.t 10) (.t 11)),
s_ 7 (.as (.t 13)),
s_ 8 (.as (.t 14))] [4,5,6,7,8,10,11] []) (
(.seq (
r_ [
l_ 15 true 3 6,
m_ 16 8,
s_ 17 (.call 77 [.t 15, .t 16]),
n_ (.store 3 (.t 6) (.t 17))] [4,5,6,7,10,11] []) (
r_ [
m_ 18 7,
l_ 19 true 3 6,
s_ 20 (.iaa 3 3 (.t 5) (.t 18)),
n_ (.store 3 (.t 20) (.t 19))] [4,5,6,10,11] []))))) (some [4,5,6,10,11]) [7,8])) (
r_ [
s_ 21 (.bin .add (.t 11) (.c (.int .i64 1))),
m_ 11 21] [4,5,6,10,11] []))))))
def A54_L0 : ACode := .loop A54_L0b (some [4,5,6,10,11]) [7,8]
def A54 : AFn := .code [.cell true 9 4] (
(.seq (
r_ [
s_ 2 (.box (.t 0)),
s_ 3 (.box (.t 1)),
s_ 4 (.alloc [i0_, i0_, i0_, i0_, i0_, i0_, i0_, i0_, i0_])] [3,4] [2]) (
(.seq (
r_ [
s_ 5 (.alloc [i0_, i0_, i0_, i0_, i0_, i0_, i0_, i0_, i0_])] [3,4,5] []) (
(.seq (
r_ [
s_ 9 (.build [i0_, i0_, i0_] [(0, 1, .c (.int .i64 1))]),
s_ 6 (.alloc [i0_, i0_, i0_]),
n_ (.store 3 (.t 6) (.t 9))] [3,4,5,6] []) (
(.seq (
(.seq (
r_ [
l_ 10 true 3 3,
s_ 11 (.mv (.c (i0_)))] [4,5,6,10,11] [3]) (
(.block 0 (
A54_L0) (some [4,5]) [7,8,17])))) (
(.seq (
r_ [
l_ 22 true 9 5,
n_ (.store 9 (.t 4) (.t 22))] [4] [5]) (
.ret)))))))))))
def A55 : AFn := .code [.t 8] (
(.seq (
r_ [
s_ 4 (.box (.t 0)),
s_ 5 (.box (.t 1)),
s_ 6 (.box (.t 2)),
s_ 7 (.box (.t 3)),
s_ 8 (.as (.c (.nils 2)))] [4,5,6,7] []) (
(.seq (
r_ [
l_ 10 true 3 5,
s_ 11 (.fad 0 (.t 4)),
s_ 12 (.fad 5 (.t 11)),
l_ 13 false 1 12,
s_ 14 (.call 76 [.t 10, .t 13]),
s_ 15 (.call 78 [.t 14]),
s_ 9 (.alloc [i0_, i0_]),
n_ (.store 2 (.t 9) (.t 15))] [6,7,9] [4,5]) (
(.seq (
.reg (some [.dr [17, 19, 20, 22, 23, 25, 26] [], .dr [16, 19, 20, 22, 23, 25, 26] [], .dr [19, 20, 22, 23, 25, 26] [], .dr [16, 17, 18, 20, 22, 23, 25, 26] [], .dr [16, 17, 18, 19, 22, 23, 25, 26] [], .dr [22, 23, 25, 26] [], .dr [16, 17, 18, 19, 20, 21, 23, 25, 26] [], .dr [16, 17, 18, 19, 20, 21, 22, 25, 26] [], .dr [25, 26] [], .dr [16, 17, 18, 19, 20, 21, 22, 23, 24, 26] [], .dr [16, 17, 18, 19, 20, 21, 22, 23, 24, 25] [], .free, .free, .free]) [
l_ 16 true 2 6,
l_ 17 true 2 9,
s_ 18 (.call 41 [.t 16, .t 17]),
l_ 19 true 2 7,
l_ 20 true 2 9,
s_ 21 (.call 41 [.t 19, .t 20]),
l_ 22 true 2 7,
l_ 23 true 2 9,
s_ 24 (.call 75 [.t 22, .t 23]),
l_ 25 true 2 6,
l_ 26 true 2 9,
s_ 27 (.call 75 [.t 25, .t 26]),
s_ 28 (.bsl 2 4 [i0_, i0_] [(0, .t 18), (1, .t 21), (2, .t 24), (3, .t 27)]),
s_ 8 (.as (.t 28))] (some [8]) [6,7,9]) (
.ret)))))))
def A56_L0b : ACode :=
(.seq (
r_ [
b_ 12 .lss 11 10] [2,4,6,9,10,11,12] []) (
(.seq (
(.cond (.t 12) (
.skip) (
.exit 0))) (
(.seq (
(.block 1 (
(.seq (
r_ [
s_ 13 (.ias 2 (.t 9) (.t 11)),
l_ 14 true 2 13,
s_ 8 (.alloc [i0_, i0_]),
n_ (.store 2 (.t 8) (.t 14))] [2,4,6,8,9,10,11] []) (
r_ [
m_ 15 2,
l_ 16 true 2 4,
l_ 17 true 2 8,
s_ 18 (.cal (.t 15) [.t 16, .t 17]),
n_ (.store 2 (.t 4) (.t 18))] [2,4,6,9,10,11] [8]))) (some [2,4,6,9,10,11]) [8])) (
r_ [
s_ 19 (.bin .add (.t 11) (.c (.int .i64 1))),
m_ 11 19] [2,4,6,9,10,11] []))))))
def A56_L0 : ACode := .loop A56_L0b (some [2,4,6,9,10,11]) [8]
def A56 : AFn := .code [.cell true 2 6] (
(.seq (
r_ [
s_ 4 (.box (.t 1)),
s_ 6 (.alloc [i0_, i0_])] [0,2,4,6] []) (
(.seq (
(.seq (
r_ [
m_ 9 0,
s_ 10 (.len 0 (.t 9)),
s_ 11 (.mv (.c (i0_)))] [2,4,6,9,10,11] []) (
(.block 0 (
A56_L0) (some [4,6]) [8])))) (
(.seq (
r_ [
l_ 20 true 2 4,
n_ (.store 2 (.t 6) (.t 20))] [6] [4]) (
.ret)))))))
def A57 : AFn := .code [.cell true 2 4] (
(.seq (
r_ [
s_ 2 (.box (.t 0)),
s_ 3 (.box (.t 1)),
s_ 4 (.alloc [i0_, i0_])] [2,3,4] []) (
(.seq (
r_ [
s_ 5 (.fad 0 (.t 2)),
l_ 6 false 1 5,
s_ 7 (.fad 0 (.t 3)),
l_ 8 false 1 7,
s_ 9 (.mn [.t 6, .t 8]),
s_ 10 (.fad 1 (.t 2)),
l_ 11 false 1 10,
s_ 12 (.fad 1 (.t 3)),
l_ 13 false 1 12,
s_ 14 (.mn [.t 11, .t 13]),
s_ 15 (.build [i0_, i0_] [(0, 1, .t 9), (1, 1, .t 14)]),
n_ (.store 2 (.t 4) (.t 15))] [4] [2,3]) (
.ret)))))
def A58 : AFn := .code [.cell true 2 4] (
(.seq (
r_ [
s_ 2 (.box (.t 0)),
s_ 3 (.box (.t 1)),
s_ 4 (.alloc [i0_, i0_])] [2,3,4] []) (
(.seq (
r_ [
s_ 5 (.fad 0 (.t 2)),
l_ 6 false 1 5,
s_ 7 (.fad 0 (.t 3)),
l_ 8 false 1 7,
s_ 9 (.mx [.t 6, .t 8]),
s_ 10 (.fad 1 (.t 2)),
l_ 11 false 1 10,
s_ 12 (.fad 1 (.t 3)),
l_ 13 false 1 12,
s_ 14 (.mx [.t 11, .t 13]),
s_ 15 (.build [i0_, i0_] [(0, 1, .t 9), (1, 1, .t 14)]),
n_ (.store 2 (.t 4) (.t 15))] [4] [2,3]) (
.ret)))))
def A59 : AFn := .code [.cell true 9 4] (
(.seq (
r_ [
s_ 2 (.box (.t 0)),
s_ 3 (.box (.t 1)),
s_ 4 (.alloc [i0_, i0_, i0_, i0_, i0_, i0_, i0_, i0_, i0_])] [3,4] [2]) (
(.seq (
r_ [
s_ 7 (.build [i0_, i0_, i0_] [(0, 1, .c (.int .i64 1))]),
s_ 8 (.iaa 3 1 (.t 3) (.c (i0_))),
l_ 9 false 1 8,
s_ 10 (.call 79 [.t 7, .t 9]),
s_ 5 (.alloc [i0_, i0_, i0_]),
n_ (.store 3 (.t 5) (.t 10))] [3,4,5] []) (
(.seq (
r_ [
l_ 11 true 3 5,
s_ 12 (.iaa 3 1 (.t 3) (.c (.int .i64 1))),
l_ 13 false 1 12,
s_ 14 (.call 79 [.t 11, .t 13]),
s_ 6 (.alloc [i0_, i0_, i0_]),
n_ (.store 3 (.t 6) (.t 14))] [3,4,5,6] []) (
(.seq (
.reg (some [.dr [16, 17, 19, 20] [], .dr [15, 17, 19, 20] [], .dr [15, 16, 19] [], .dr [15, 16, 17] [], .dr [15, 16, 17] [], .dr [15, 16] [], .free, .free]) [
l_ 15 true 3 5,
l_ 16 true 3 6,
l_ 17 true 3 6,
s_ 18 (.iaa 3 1 (.t 3) (.c (.int .i64 2))),
l_ 19 false 1 18,
s_ 20 (.call 79 [.t 17, .t 19]),
s_ 21 (.build [i0_, i0_, i0_, i0_, i0_, i0_, i0_, i0_, i0_] [(0, 3, .t 15), (3, 3, .t 16), (6, 3, .t 20)]),
n_ (.store 9 (.t 4) (.t 21))] (some [4]) [3,5,6]) (
.ret)))))))))
def A60_L0b : ACode :=
(.seq (
(.seq (
r_ [
m_ 14 7,
s_ 15 (.bin .lss (.t 14) (.c (.int .i64 3)))] [2,4,5,6,7,15] []) (
(.cond (.t 15) (
.skip) (
.exit 0))))) (
(.seq (
(.block 1 (
.reg (some [.loc, .loc, .loc, .loc, .loc, .loc, .loc, .loc, .loc, .dr [25, 29, 30] [], .dr [22, 29] [], .dr [22, 25] [], .dr [22] [], .free, .free, .free]) [
m_ 18 7,
s_ 19 (.bin .add (.t 18) (.c (.int .i64 1))),
m_ 20 7,
s_ 21 (.iaa 4 2 (.t 6) (.t 20)),
m_ 23 7,
s_ 24 (.iaa 3 3 (.t 5) (.t 23)),
m_ 26 7,
s_ 27 (.fad 2 (.t 2)),
s_ 28 (.iaa 3 1 (.t 27) (.t 26)),
l_ 22 true 2 21,
l_ 25 true 3 24,
l_ 29 false 1 28,
s_ 30 (.call 61 [.t 25, .t 29]),
s_ 31 (.call 62 [.t 22, .t 30]),
s_ 32 (.iaa 4 2 (.t 6) (.t 19)),
n_ (.store 2 (.t 32) (.t 31))] (some [2,4,5,6,7]) []) (some [2,4,5,6,7]) [30,31])) (
r_ [
m_ 16 7,
s_ 17 (.bin .add (.t 16) (.c (.int .i64 1))),
s_ 7 (.as (.t 17))] [2,4,5,6,7] []))))
def A60_L0 : ACode := .loop A60_L0b (some [2,4,5,6,7]) [30,31]
def A60 : AFn := .code [.cell true 8 4] (
(.seq (
r_ [
s_ 2 (.box (.t 0)),
s_ 3 (.box (.t 1)),
s_ 4 (.alloc [i0_, i0_, i0_, i0_, i0_, i0_, i0_, i0_])] [2,3,4] []) (
(.seq (
r_ [
l_ 8 true 12 2,
l_ 9 true 3 3,
s_ 10 (.call 59 [.t 8, .t 9]),
s_ 5 (.alloc [i0_, i0_, i0_, i0_, i0_, i0_, i0_, i0_, i0_]),
n_ (.store 9 (.t 5) (.t 10))] [2,4,5] [3]) (
(.seq (
r_ [
s_ 11 (.fad 0 (.t 2)),
l_ 12 true 2 11,
s_ 13 (.build [i0_, i0_, i0_, i0_, i0_, i0_, i0_, i0_] [(0, 2, .t 12)]),
s_ 6 (.alloc [i0_, i0_, i0_, i0_, i0_, i0_, i0_, i0_]),
n_ (.store 8 (.t 6) (.t 13))] [2,4,5,6] []) (
(.seq (
(.seq (
r_ [
s_ 7 (.as (.c (i0_)))] [2,4,5,6,7] []) (
(.block 0 (
A60_L0) (some [4,6]) [7,30,31])))) (
(.seq (
r_ [
l_ 33 true 8 6,
n_ (.store 8 (.t 4) (.t 33))] [4] [6]) (
.ret)))))))))))
def A61 : AFn := .code [.cell true 2 4] (
(.seq (
r_ [
s_ 2 (.box (.t 0)),
s_ 4 (.alloc [i0_, i0_])] [1,2,4] []) (
(.seq (
r_ [
s_ 6 (.fad 2 (.t 2)),
l_ 7 false 1 6,
s_ 8 (.call 71 [.t 7]),
s_ 5 (.as (.t 8))] [1,2,4,5] []) (
(.seq (
.reg (some [.dr [14, 21] [], .dr [14, 21] [], .dr [14, 21] [], .dr [14, 21] [], .dr [21] [], .dr [21] [], .dr [21] [], .dr [14, 21] [], .dr [14, 21] [], .dr [14, 21] [], .dr [14, 21] [], .dr [14] [], .dr [14] [], .dr [14] [], .free, .free]) [
m_ 9 1,
m_ 10 5,
s_ 11 (.bin .quo (.c (.int .i64 4394000)) (.t 10)),
b_ 12 .mul 9 11,
s_ 13 (.fad 0 (.t 2)),
l_ 14 false 1 13,
b_ 15 .mul 12 14,
m_ 16 1,
m_ 17 5,
s_ 18 (.bin .quo (.c (.int .i64 4394000)) (.t 17)),
b_ 19 .mul 16 18,
s_ 20 (.fad 1 (.t 2)),
l_ 21 false 1 20,
b_ 22 .mul 19 21,
s_ 23 (.build [i0_, i0_] [(0, 1, .t 15), (1, 1, .t 22)]),
n_ (.store 2 (.t 4) (.t 23))] (some [4]) [2]) (
.ret)))))))
def A62 : AFn := .code [.cell true 2 4] (
(.seq (
r_ [
s_ 2 (.box (.t 0)),
s_ 3 (.box (.t 1)),
s_ 4 (.alloc [i0_, i0_])] [2,3,4] []) (
(.seq (
r_ [
s_ 5 (.fad 0 (.t 2)),
l_ 6 false 1 5,
s_ 7 (.fad 0 (.t 3)),
l_ 8 false 1 7,
b_ 9 .add 6 8,
s_ 10 (.fad 1 (.t 2)),
l_ 11 false 1 10,
s_ 12 (.fad 1 (.t 3)),
l_ 13 false 1 12,
b_ 14 .add 11 13,
s_ 15 (.build [i0_, i0_] [(0, 1, .t 9), (1, 1, .t 14)]),
n_ (.store 2 (.t 4) (.t 15))] [4] [2,3]) (
.ret)))))
def A63_L0b : ACode :=
(.seq (
r_ [
b_ 9 .lss 8 7] [0,1,7,8,9] []) (
(.seq (
(.cond (.t 9) (
.skip) (
.exit 0))) (
(.seq (
(.block 1 (
(.seq (
r_ [
m_ 10 8,
s_ 5 (.as (.t 10))] [0,1,5,7,8] []) (
(.seq (
r_ [
m_ 11 1,
m_ 12 0,
m_ 13 5,
s_ 14 (.ias 1 (.t 12) (.t 13)),
l_ 15 false 1 14,
s_ 16 (.bib false (.t 11) (.t 15))] [0,1,5,7,8,16] []) (
(.cond (.t 16) (
(.seq (
r_ [
m_ 17 5,
s_ 4 (.as (.t 17))] [4] []) (
.ret))) (
.skip))))))) (some [0,1,7,8]) [4,5])) (
r_ [
s_ 18 (.bin .add (.t 8) (.c (.int .i64 1))),
m_ 8 18] [0,1,7,8] []))))))
def A63_L0 : ACode := .loop A63_L0b (some [0,1,7,8]) [4,5]
def A63 : AFn := .code [.t 4] (
(.seq (
r_ [
s_ 4 (.as (.c (i0_)))] [0,1] []) (
(.seq (
(.seq (
r_ [
m_ 6 0,
s_ 7 (.len 0 (.t 6)),
s_ 8 (.mv (.c (i0_)))] [0,1,7,8] []) (
(.block 0 (
A63_L0) (some []) [4,5])))) (
(.seq (
r_ [
s_ 4 (.as (.c (.int .i64 (-1))))] [4] []) (
.ret)))))))
def A64_L0b : ACode :=
(.seq (
r_ [
b_ 47 .lss 46 45] [0,3,4,5,45,46,47] []) (
(.seq (
(.cond (.t 47) (
.skip) (
.exit 6))) (
(.seq (
(.block 7 (
(.seq (
r_ [
m_ 48 46,
s_ 11 (.as (.t 48))] [0,3,4,5,11,45,46] []) (
(.seq (
r_ [
l_ 49 false 1 3,
m_ 50 11,
m_ 51 0,
s_ 52 (.call 82 [.t 49, .t 50, .t 51])] [0,3,4,5,11,45,46,52] []) (
(.cond (.t 52) (
(.seq (
r_ [
m_ 53 11,
s_ 54 (.build [i0_, i0_, i0_] [(0, 1, .c (.int .i64 3)), (2, 1, .t 53)]),
n_ (.store 3 (.t 4) (.t 54)),
n_ (.store 1 (.t 5) (.c (.bool true)))] [4,5] []) (
.ret))) (
.skip))))))) (some [0,3,4,5,45,46]) [52])) (
r_ [
s_ 55 (.bin .add (.t 46) (.c (.int .i64 1))),
m_ 46 55] [0,3,4,5,45,46] []))))))
def A64_L0 : ACode := .loop A64_L0b (some [0,3,4,5,45,46]) [52]
def A64_L1b : ACode :=
(.seq (
r_ [
b_ 35 .lss 34 33] [0,3,4,5,33,34,35] []) (
(.seq (
(.cond (.t 35) (
.skip) (
.exit 4))) (
(.seq (
(.block 5 (
(.seq (
r_ [
m_ 36 34,
s_ 10 (.as (.t 36))] [0,3,4,5,10,33,34] []) (
(.seq (
r_ [
m_ 37 0,
m_ 38 10,
l_ 39 false 1 3,
s_ 40 (.call 82 [.t 37, .t 38, .t 39])] [0,3,4,5,10,33,34,40] []) (
(.cond (.t 40) (
(.seq (
r_ [
m_ 41 10,
s_ 42 (.build [i0_, i0_, i0_] [(0, 1, .c (.int .i64 2)), (1, 1, .t 41)]),
n_ (.store 3 (.t 4) (.t 42)),
n_ (.store 1 (.t 5) (.c (.bool true)))] [4,5] []) (
.ret))) (
.skip))))))) (some [0,3,4,5,33,34]) [40])) (
r_ [
s_ 43 (.bin .add (.t 34) (.c (.int .i64 1))),
m_ 34 43] [0,3,4,5,33,34] []))))))
def A64_L1 : ACode := .loop A64_L1b (some [0,3,4,5,33,34]) [40]
def A64_R2a : ACode :=
(.seq (
r_ [
s_ 8 (.as (.t 18))] [4,5,6,7,8,19] []) (
r_ [
s_ 9 (.alloc [i0_, i0_, i0_, i0_]),
n_ (.store 4 (.t 9) (.t 19))] [4,5,6,7,8,9] []))
def A64_R2b : ACode :=
(.block 3 (
(.seq (
r_ [
s_ 20 (.fad 0 (.t 7)),
l_ 21 true 2 20,
s_ 22 (.fad 2 (.t 7)),
l_ 23 true 2 22,
s_ 24 (.fad 0 (.t 9)),
l_ 25 true 2 24,
s_ 26 (.fad 2 (.t 9)),
l_ 27 true 2 26,
s_ 28 (.call 81 [.t 21, .t 23, .t 25, .t 27])] [4,5,6,8,28] [7,9]) (
(.cond (.t 28) (
(.seq (
r_ [
l_ 29 false 1 6,
m_ 30 8,
s_ 31 (.build [i0_, i0_, i0_] [(0, 1, .c (.int .i64 1)), (1, 1, .t 29), (2, 1, .t 30)]),
n_ (.store 3 (.t 4) (.t 31)),
n_ (.store 1 (.t 5) (.c (.bool true)))] [] [6]) (
.ret))) (
.skip))))) (some []) [28])
def A64_R2 : ACode := .rf 1 (.t 17) [18, 19]  A64_R2a A64_R2b
def A64_R3a : ACode :=
(.seq (
r_ [
s_ 6 (.alloc [i0_]),
n_ (.store 1 (.t 6) (.t 14))] [3,4,5,6,15] []) (
r_ [
s_ 7 (.alloc [i0_, i0_, i0_, i0_]),
n_ (.store 4 (.t 7) (.t 15))] [3,4,5,6,7] []))
def A64_R3b : ACode :=
(.block 1 (
(.seq (
r_ [
l_ 16 false 1 3,
s_ 17 (.call 80 [.t 16])] [4,5,6,7,17] [3]) (
(.block 2 (
A64_R2) (some []) [8,9,28])))) (some []) [8,9,17,28])
def A64_R3 : ACode := .rf 0 (.t 13) [14, 15]  A64_R3a A64_R3b

end Go.Proofs.YtnecdcaaknhgpaaGreat

namespace Go.Proofs.YtnecdcaaknhgpaaGreat
open Go Go.Zv
def A64 : AFn := .code [.cell true 3 4, .cell false 1 5] (
(.seq (
r_ [
s_ 3 (.box (.t 1)),
s_ 4 (.alloc [i0_, i0_, i0_]),
s_ 5 (.alloc [.bool false])] [0,3,4,5] []) (
(.seq (
(.seq (
r_ [
m_ 12 0,
s_ 13 (.call 80 [.t 12])] [0,3,4,5,13] []) (
(.block 0 (
A64_R3) (some [0,3,4,5]) [6,7,9,17,28])))) (
(.seq (
(.seq (
r_ [
m_ 32 0,
s_ 33 (.len 0 (.t 32)),
s_ 34 (.mv (.c (i0_)))] [0,3,4,5,33,34] []) (
(.block 4 (
A64_L1) (some [0,3,4,5]) [40])))) (
(.seq (
(.seq (
r_ [
l_ 44 false 1 3,
s_ 45 (.len 0 (.t 44)),
s_ 46 (.mv (.c (i0_)))] [0,3,4,5,45,46] []) (
(.block 6 (
A64_L0) (some [4,5]) [52])))) (
(.seq (
r_ [
s_ 56 (.build [i0_, i0_, i0_] []),
n_ (.store 3 (.t 4) (.t 56)),
n_ (.store 1 (.t 5) (.c (.bool false)))] [4,5] []) (
.ret)))))))))))
def A65_L0b : ACode :=
(.seq (
(.seq (
r_ [
m_ 20 8,
m_ 21 1,
s_ 22 (.len 0 (.t 21)),
b_ 23 .lss 20 22] [0,1,4,6,7,8,23] []) (
(.cond (.t 23) (
.skip) (
.exit 4))))) (
(.seq (
(.block 5 (
(.seq (
r_ [
m_ 26 6,
m_ 27 7,
m_ 28 8,
s_ 29 (.build [i0_, i0_, i0_] [(0, 1, .t 26), (1, 1, .t 27), (2, 1, .t 28)]),
s_ 9 (.alloc [i0_, i0_, i0_]),
n_ (.store 3 (.t 9) (.t 29))] [0,1,4,6,7,8,9] []) (
(.seq (
r_ [
m_ 30 0,
m_ 31 1,
l_ 32 true 3 9,
s_ 33 (.call 83 [.t 30, .t 31, .t 32])] [0,1,4,6,7,8,9,33] []) (
(.cond (.t 33) (
(.seq (
r_ [
l_ 34 true 3 9,
n_ (.store 3 (.t 4) (.t 34)),
s_ 5 (.as (.c (.bool true)))] [4,5] [9]) (
.ret))) (
.skip))))))) (some [0,1,4,6,7,8]) [5,9,33])) (
r_ [
m_ 24 8,
s_ 25 (.bin .add (.t 24) (.c (.int .i64 1))),
s_ 8 (.as (.t 25))] [0,1,4,6,7,8] []))))
def A65_L0 : ACode := .loop A65_L0b (some [0,1,4,6,7,8]) [5,9,33]
def A65_L1b : ACode :=
(.seq (
(.seq (
r_ [
m_ 14 7,
m_ 15 0,
s_ 16 (.len 0 (.t 15)),
b_ 17 .lss 14 16] [0,1,4,6,7,17] []) (
(.cond (.t 17) (
.skip) (
.exit 2))))) (
(.seq (
(.block 3 (
(.seq (
r_ [
s_ 8 (.as (.c (i0_)))] [0,1,4,6,7,8] []) (
(.block 4 (
A65_L0) (some [0,1,4,6,7]) [5,8,9,33])))) (some [0,1,4,6,7]) [5,8,9,33])) (
r_ [
m_ 18 7,
s_ 19 (.bin .add (.t 18) (.c (.int .i64 1))),
s_ 7 (.as (.t 19))] [0,1,4,6,7] []))))
def A65_L1 : ACode := .loop A65_L1b (some [0,1,4,6,7]) [5,8,9,33]
def A65_L2b : ACode :=
(.seq (
(.seq (
r_ [
m_ 10 6,
s_ 11 (.bin .leq (.t 10) (.c (.int .i64 3)))] [0,1,4,6,11] []) (
(.cond (.t 11) (
.skip) (
.exit 0))))) (
(.seq (
(.block 1 (
(.seq (
r_ [
s_ 7 (.as (.c (i0_)))] [0,1,4,6,7] []) (
(.block 2 (
A65_L1) (some [0,1,4,6]) [5,7,8,9,33])))) (some [0,1,4,6]) [5,7,8,9,33])) (
r_ [
m_ 12 6,
s_ 13 (.bin .add (.t 12) (.c (.int .i64 1))),
s_ 6 (.as (.t 13))] [0,1,4,6] []))))
def A65_L2 : ACode := .loop A65_L2b (some [0,1,4,6]) [5,7,8,9,33]
def A65 : AFn := .code [.cell true 3 4, .t 5] (
(.seq (
r_ [
s_ 4 (.alloc [i0_, i0_, i0_]),
s_ 5 (.as (.c (.bool false)))] [0,1,4] []) (
(.seq (
(.seq (
r_ [
s_ 6 (.as (.c (.int .i64 1)))] [0,1,4,6] []) (
(.block 0 (
A65_L2) (some [4]) [5,6,7,8,9,33])))) (
(.seq (
r_ [
s_ 35 (.build [i0_, i0_, i0_] []),
n_ (.store 3 (.t 4) (.t 35)),
s_ 5 (.as (.c (.bool false)))] [4,5] []) (
.ret)))))))
def A66 : AFn := .code [.t 2] (
(.seq (
r_ [
s_ 1 (.box (.t 0)),
s_ 2 (.as (.c (.bool false)))] [1] []) (
(.seq (
r_ [
s_ 3 (.as (.c (.int .i64 439400000)))] [1,3] []) (
(.seq (
r_ [
s_ 4 (.fad 0 (.t 1)),
l_ 5 false 1 4,
m_ 6 3,
s_ 7 (.un .neg (.t 6)),
b_ 8 .geq 5 7,
m_ 9 8,
⟨some 10, .fad 0 (.t 1), some (9, true), true⟩,
⟨some 11, .load false 1 (.t 10), some (9, true), true⟩,
⟨some 12, .mv (.t 3), some (9, true), true⟩,
⟨some 13, .bin .leq (.t 11) (.t 12), some (9, true), true⟩,
s_ 14 (.pick (.t 9) (.t 13) (.c (.bool false))),
m_ 15 14,
⟨some 16, .fad 1 (.t 1), some (15, true), true⟩,
⟨some 17, .load false 1 (.t 16), some (15, true), true⟩,
⟨some 18, .mv (.t 3), some (15, true), true⟩,
⟨some 19, .un .neg (.t 18), some (15, true), true⟩,
⟨some 20, .bin .geq (.t 17) (.t 19), some (15, true), true⟩,
s_ 21 (.pick (.t 15) (.t 20) (.c (.bool false))),
m_ 22 21,
⟨some 23, .fad 1 (.t 1), some (22, true), true⟩,
⟨some 24, .load false 1 (.t 23), some (22, true), true⟩,
⟨some 25, .mv (.t 3), some (22, true), true⟩,
⟨some 26, .bin .leq (.t 24) (.t 25), some (22, true), true⟩,
s_ 27 (.pick (.t 22) (.t 26) (.c (.bool false))),
s_ 2 (.as (.t 27))] [2] [1]) (
.ret)))))))
def A67 : AFn := .code [.t 6] (
(.seq (
r_ [
s_ 3 (.box (.t 0)),
s_ 4 (.box (.t 1)),
s_ 5 (.box (.t 2)),
s_ 6 (.as (.c (i0_)))] [3,4,5] []) (
(.seq (
r_ [
s_ 7 (.fad 0 (.t 4)),
l_ 8 false 1 7,
s_ 9 (.fad 0 (.t 3)),
l_ 10 false 1 9,
b_ 11 .sub 8 10,
s_ 12 (.fad 1 (.t 5)),
l_ 13 false 1 12,
s_ 14 (.fad 1 (.t 3)),
l_ 15 false 1 14,
b_ 16 .sub 13 15,
b_ 17 .mul 11 16,
s_ 18 (.fad 1 (.t 4)),
l_ 19 false 1 18,
s_ 20 (.fad 1 (.t 3)),
l_ 21 false 1 20,
b_ 22 .sub 19 21,
s_ 23 (.fad 0 (.t 5)),
l_ 24 false 1 23,
s_ 25 (.fad 0 (.t 3)),
l_ 26 false 1 25,
b_ 27 .sub 24 26,
b_ 28 .mul 22 27,
b_ 29 .sub 17 28,
s_ 6 (.as (.t 29))] [6] [3,4,5]) (
.ret)))))
def A68 : AFn := .code [.cell true 2 4] (
(.seq (
r_ [
s_ 4 (.alloc [i0_, i0_])] [0,1,4] []) (
(.seq (
r_ [
m_ 5 0,
m_ 6 1,
m_ 7 0,
s_ 8 (.len 0 (.t 7)),
s_ 9 (.bin .rem (.t 6) (.t 8)),
s_ 10 (.ias 2 (.t 5) (.t 9)),
l_ 11 true 2 10,
n_ (.store 2 (.t 4) (.t 11))] [4] []) (
.ret)))))
def A69 : AFn := .code [.t 8] (
(.seq (
r_ [
s_ 4 (.box (.t 0)),
s_ 5 (.box (.t 1)),
s_ 6 (.box (.t 2)),
s_ 7 (.box (.t 3)),
s_ 8 (.as (.c (.bool false)))] [4,5,6,7] []) (
(.seq (
(.seq (
r_ [
l_ 11 true 2 4,
l_ 12 true 2 5,
l_ 13 true 2 6,
s_ 14 (.call 84 [.t 11, .t 12, .t 13]),
m_ 15 14,
⟨some 16, .load true 2 (.t 4), some (15, false), true⟩,
⟨some 17, .load true 2 (.t 5), some (15, false), true⟩,
⟨some 18, .load true 2 (.t 7), some (15, false), true⟩,
⟨some 19, .call 84 [.t 16, .t 17, .t 18], some (15, false), true⟩,
s_ 20 (.pick (.t 15) (.c (.bool true)) (.t 19)),
m_ 21 20,
⟨some 22, .load true 2 (.t 6), some (21, false), true⟩,
⟨some 23, .load true 2 (.t 7), some (21, false), true⟩,
⟨some 24, .load true 2 (.t 4), some (21, false), true⟩,
⟨some 25, .call 84 [.t 22, .t 23, .t 24], some (21, false), true⟩,
s_ 26 (.pick (.t 21) (.c (.bool true)) (.t 25)),
m_ 27 26,
⟨some 28, .load true 2 (.t 6), some (27, false), true⟩,
⟨some 29, .load true 2 (.t 7), some (27, false), true⟩,
⟨some 30, .load true 2 (.t 5), some (27, false), true⟩,
⟨some 31, .call 84 [.t 28, .t 29, .t 30], some (27, false), true⟩,
s_ 32 (.pick (.t 27) (.c (.bool true)) (.t 31))] [4,5,6,7,32] []) (
(.cond (.t 32) (
(.seq (
r_ [
s_ 8 (.as (.c (.bool true)))] [8] []) (
.ret))) (
.skip))))) (
(.seq (
.reg (some [.dr [34, 35, 38, 39, 40] [], .dr [33, 35, 38, 39, 40] [], .dr [33, 34, 38, 39, 40] [], .dr [38, 39, 40] [], .dr [38, 39, 40] [], .dr [33, 34, 35, 36, 37, 39, 40] [], .dr [33, 34, 35, 36, 37, 38, 40] [], .dr [33, 34, 35, 36, 37, 38, 39] [], .free, .free, .free, .free]) [
l_ 33 true 2 4,
l_ 34 true 2 5,
l_ 35 true 2 6,
s_ 36 (.call 67 [.t 33, .t 34, .t 35]),
s_ 37 (.call 85 [.t 36]),
l_ 38 true 2 4,
l_ 39 true 2 5,
l_ 40 true 2 7,
s_ 41 (.call 67 [.t 38, .t 39, .t 40]),
s_ 42 (.call 85 [.t 41]),
b_ 43 .mul 37 42,
s_ 9 (.as (.t 43))] (some [4,5,6,7,9]) []) (
(.seq (
.reg (some [.dr [45, 46, 49, 50, 51] [], .dr [44, 46, 49, 50, 51] [], .dr [44, 45, 49, 50, 51] [], .dr [49, 50, 51] [], .dr [49, 50, 51] [], .dr [44, 45, 46, 47, 48, 50, 51] [], .dr [44, 45, 46, 47, 48, 49, 51] [], .dr [44, 45, 46, 47, 48, 49, 50] [], .free, .free, .free, .free]) [
l_ 44 true 2 6,
l_ 45 true 2 7,
l_ 46 true 2 4,
s_ 47 (.call 67 [.t 44, .t 45, .t 46]),
s_ 48 (.call 85 [.t 47]),
l_ 49 true 2 6,
l_ 50 true 2 7,
l_ 51 true 2 5,
s_ 52 (.call 67 [.t 49, .t 50, .t 51]),
s_ 53 (.call 85 [.t 52]),
b_ 54 .mul 48 53,
s_ 10 (.as (.t 54))] (some [9,10]) [4,5,6,7]) (
(.seq (
r_ [
m_ 55 9,
s_ 56 (.bin .lss (.t 55) (.c (i0_))),
m_ 57 56,
⟨some 58, .mv (.t 10), some (57, true), true⟩,
⟨some 59, .bin .lss (.t 58) (.c (i0_)), some (57, true), true⟩,
s_ 60 (.pick (.t 57) (.t 59) (.c (.bool false))),
s_ 8 (.as (.t 60))] [8] []) (
.ret)))))))))))
def A70_L0b : ACode :=
(.seq (
(.seq (
r_ [
m_ 7 4,
m_ 8 0,
s_ 9 (.len 0 (.t 8)),
b_ 10 .lss 7 9] [0,3,4,10] []) (
(.cond (.t 10) (
.skip) (
.exit 0))))) (
(.seq (
(.block 1 (
(.seq (
r_ [
m_ 13 0,
m_ 14 4,
s_ 15 (.call 68 [.t 13, .t 14]),
s_ 5 (.alloc [i0_, i0_]),
n_ (.store 2 (.t 5) (.t 15))] [0,3,4,5] []) (
(.seq (
r_ [
m_ 16 0,
m_ 17 4,
s_ 18 (.bin .add (.t 17) (.c (.int .i64 1))),
s_ 19 (.call 68 [.t 16, .t 18]),
s_ 6 (.alloc [i0_, i0_]),
n_ (.store 2 (.t 6) (.t 19))] [0,3,4,5,6] []) (
r_ [
m_ 20 3,
s_ 21 (.fad 0 (.t 5)),
l_ 22 false 1 21,
s_ 23 (.fad 1 (.t 6)),
l_ 24 false 1 23,
b_ 25 .mul 22 24,
b_ 26 .add 20 25,
s_ 27 (.fad 1 (.t 5)),
l_ 28 false 1 27,
s_ 29 (.fad 0 (.t 6)),
l_ 30 false 1 29,
b_ 31 .mul 28 30,
b_ 32 .sub 26 31,
s_ 3 (.as (.t 32))] [0,3,4] [5,6]))))) (some [0,3,4]) [5,6,15,19])) (
r_ [
m_ 11 4,
s_ 12 (.bin .add (.t 11) (.c (.int .i64 1))),
s_ 4 (.as (.t 12))] [0,3,4] []))))
def A70_L0 : ACode := .loop A70_L0b (some [0,3,4]) [5,6,15,19]
def A70 : AFn := .code [.t 2] (
(.seq (
r_ [
s_ 2 (.as (.c (i0_)))] [0] []) (
(.seq (
r_ [
s_ 3 (.as (.c (i0_)))] [0,3] []) (
(.seq (
(.seq (
r_ [
s_ 4 (.as (.c (i0_)))] [0,3,4] []) (
(.block 0 (
A70_L0) (some [3]) [4,5,6,15,19])))) (
(.seq (
r_ [
m_ 33 3,
s_ 2 (.as (.t 33))] [2] []) (
.ret)))))))))
def A71_L0b : ACode :=
(.seq (
(.seq (
r_ [
m_ 5 4,
m_ 6 0,
b_ 7 .lss 5 6] [0,3,4,7] []) (
(.cond (.t 7) (
.skip) (
.exit 0))))) (
(.seq (
(.block 1 (
r_ [
m_ 10 3,
s_ 11 (.bin .mul (.c (.int .i64 65)) (.t 10)),
s_ 3 (.as (.t 11))] [0,3,4] []) (some [0,3,4]) [])) (
r_ [
m_ 8 4,
s_ 9 (.bin .add (.t 8) (.c (.int .i64 1))),
s_ 4 (.as (.t 9))] [0,3,4] []))))
def A71_L0 : ACode := .loop A71_L0b (some [0,3,4]) []
def A71 : AFn := .code [.t 2] (
(.seq (
r_ [
s_ 2 (.as (.c (i0_)))] [0] []) (
(.seq (
r_ [
s_ 3 (.as (.c (.int .i64 1)))] [0,3] []) (
(.seq (
(.seq (
r_ [
s_ 4 (.as (.c (i0_)))] [0,3,4] []) (
(.block 0 (
A71_L0) (some [3]) [4])))) (
(.seq (
r_ [
m_ 12 3,
s_ 2 (.as (.t 12))] [2] []) (
.ret)))))))))
def A72_L0b : ACode :=
(.seq (
(.seq (
r_ [
m_ 18 3,
m_ 19 0,
s_ 20 (.len 1 (.t 19)),
b_ 21 .lss 18 20] [0,3,21] []) (
(.cond (.t 21) (
.skip) (
.exit 0))))) (
(.seq (
(.block 1 (
(.seq (
r_ [
m_ 24 0,
m_ 25 3,
s_ 26 (.ixt (.t 24) (.t 25)),
s_ 27 (.call 86 [.t 26]),
s_ 28 (.un .not (.t 27)),
m_ 29 28,
⟨some 30, .mv (.t 0), some (29, true), true⟩,
⟨some 31, .mv (.t 3), some (29, true), true⟩,
⟨some 32, .ixt (.t 30) (.t 31), some (29, true), true⟩,
⟨some 33, .bin .neq (.t 32) (.c (.int .u8 95)), some (29, true), true⟩,
s_ 34 (.pick (.t 29) (.t 33) (.c (.bool false))),
m_ 35 34,
⟨some 36, .mv (.t 0), some (35, true), true⟩,
⟨some 37, .mv (.t 3), some (35, true), true⟩,
⟨some 38, .ixt (.t 36) (.t 37), some (35, true), true⟩,
⟨some 39, .bin .lss (.t 38) (.c (.int .u8 48)), some (35, true), true⟩,
⟨some 40, .mv (.t 39), some (35, true), true⟩,
⟨some 41, .mv (.t 0), some (40, false), true⟩,
⟨some 42, .mv (.t 3), some (40, false), true⟩,
⟨some 43, .ixt (.t 41) (.t 42), some (40, false), true⟩,
⟨some 44, .bin .gtr (.t 43) (.c (.int .u8 57)), some (40, false), true⟩,
⟨some 45, .pick (.t 40) (.c (.bool true)) (.t 44), some (35, true), true⟩,
s_ 46 (.pick (.t 35) (.t 45) (.c (.bool false)))] [0,3,46] []) (
(.cond (.t 46) (
(.seq (
r_ [
s_ 2 (.as (.c (.bool false)))] [2] []) (
.ret))) (
.skip))))) (some [0,3]) [2,27])) (
r_ [
m_ 22 3,
s_ 23 (.bin .add (.t 22) (.c (.int .i64 1))),
s_ 3 (.as (.t 23))] [0,3] []))))
def A72_L0 : ACode := .loop A72_L0b (some [0,3]) [2,27]
def A72 : AFn := .code [.t 2] (
(.seq (
r_ [
s_ 2 (.as (.c (.bool false)))] [0] []) (
(.seq (
(.seq (
r_ [
m_ 4 0,
s_ 5 (.len 1 (.t 4)),
s_ 6 (.bin .lss (.t 5) (.c (.int .i64 1))),
m_ 7 6,
⟨some 8, .mv (.t 0), some (7, false), true⟩,
⟨some 9, .len 1 (.t 8), some (7, false), true⟩,
⟨some 10, .bin .gtr (.t 9) (.c (.int .i64 12)), some (7, false), true⟩,
s_ 11 (.pick (.t 7) (.c (.bool true)) (.t 10)),
m_ 12 11,
⟨some 13, .mv (.t 0), some (12, false), true⟩,
⟨some 14, .ixt (.t 13) (.c (i0_)), some (12, false), true⟩,
⟨some 15, .call 86 [.t 14], some (12, false), true⟩,
⟨some 16, .un .not (.t 15), some (12, false), true⟩,
s_ 17 (.pick (.t 12) (.c (.bool true)) (.t 16))] [0,17] []) (
(.cond (.t 17) (
(.seq (
r_ [
s_ 2 (.as (.c (.bool false)))] [2] []) (
.ret))) (
.skip))))) (
(.seq (
(.seq (
r_ [
s_ 3 (.as (.c (.int .i64 1)))] [0,3] []) (
(.block 0 (
A72_L0) (some []) [2,3,27])))) (
(.seq (
r_ [
s_ 2 (.as (.c (.bool true)))] [2] []) (
.ret)))))))))
def A73 : AFn := .code [.t 6] (
(.seq (
r_ [
s_ 3 (.box (.t 0)),
s_ 4 (.box (.t 1)),
s_ 5 (.box (.t 2)),
s_ 6 (.as (.c (i0_)))] [3,4,5] []) (
(.seq (
r_ [
l_ 8 true 2 3,
l_ 9 true 2 4,
l_ 10 true 2 5,
s_ 11 (.call 87 [.t 8, .t 9, .t 10]),
s_ 7 (.as (.t 11))] [7] [3,4,5]) (
(.seq (
(.seq (
r_ [
m_ 12 7,
s_ 13 (.bin .gtr (.t 12) (.c (i0_)))] [7,13] []) (
(.cond (.t 13) (
(.seq (
r_ [
s_ 6 (.as (.c (.int .i64 1)))] [6] []) (
.ret))) (
.skip))))) (
(.seq (
(.seq (
r_ [
m_ 14 7,
s_ 15 (.bin .lss (.t 14) (.c (i0_)))] [15] []) (
(.cond (.t 15) (
(.seq (
r_ [
s_ 6 (.as (.c (.int .i64 (-1))))] [6] []) (
.ret))) (
.skip))))) (
(.seq (
r_ [
s_ 6 (.as (.c (i0_)))] [6] []) (
.ret)))))))))))
def A74 : AFn := .code [.cell true 2 3] (
(.seq (
r_ [
s_ 2 (.box (.t 0)),
s_ 3 (.alloc [i0_, i0_])] [1,2,3] []) (
(.seq (
r_ [
l_ 4 true 2 1,
l_ 5 true 2 2,
s_ 6 (.call 75 [.t 4, .t 5]),
n_ (.store 2 (.t 1) (.t 6))] [1,3] [2]) (
(.seq (
r_ [
l_ 7 true 2 1,
n_ (.store 2 (.t 3) (.t 7))] [3] []) (
.ret)))))))
def A75 : AFn := .code [.cell true 2 4] (
(.seq (
r_ [
s_ 2 (.box (.t 0)),
s_ 3 (.box (.t 1)),
s_ 4 (.alloc [i0_, i0_])] [2,3,4] []) (
(.seq (
r_ [
s_ 5 (.fad 0 (.t 2)),
l_ 6 false 1 5,
s_ 7 (.fad 0 (.t 3)),
l_ 8 false 1 7,
b_ 9 .add 6 8,
s_ 10 (.fad 1 (.t 2)),
l_ 11 false 1 10,
s_ 12 (.fad 1 (.t 3)),
l_ 13 false 1 12,
b_ 14 .add 11 13,
s_ 15 (.build [i0_, i0_] [(0, 1, .t 9), (1, 1, .t 14)]),
n_ (.store 2 (.t 4) (.t 15))] [4] [2,3]) (
.ret)))))
def A76 : AFn := .code [.cell true 2 4] (
(.seq (
r_ [
s_ 2 (.box (.t 0)),
s_ 4 (.alloc [i0_, i0_])] [1,2,4] []) (
(.seq (
r_ [
m_ 6 1,
s_ 7 (.fad 2 (.t 2)),
l_ 8 false 1 7,
s_ 9 (.call 88 [.t 8]),
s_ 10 (.bin .quo (.c (.int .i64 4394000)) (.t 9)),
b_ 11 .mul 6 10,
s_ 5 (.as (.t 11))] [2,4,5] []) (
(.seq (
r_ [
m_ 12 5,
s_ 13 (.fad 0 (.t 2)),
l_ 14 false 1 13,
b_ 15 .mul 12 14,
m_ 16 5,
s_ 17 (.fad 1 (.t 2)),
l_ 18 false 1 17,
b_ 19 .mul 16 18,
s_ 20 (.build [i0_, i0_] [(0, 1, .t 15), (1, 1, .t 19)]),
n_ (.store 2 (.t 4) (.t 20))] [4] [2]) (
.ret)))))))
def A77 : AFn := .code [.cell true 3 4] (
(.seq (
r_ [
s_ 2 (.box (.t 0)),
s_ 4 (.alloc [i0_, i0_, i0_])] [1,2,4] []) (
(.seq (
(.seq (
r_ [
l_ 6 true 3 2,
s_ 7 (.call 89 [.t 6]),
s_ 8 (.un .not (.t 7)),
m_ 9 8,
⟨some 10, .fad 2 (.t 2), some (9, false), true⟩,
⟨some 11, .load false 1 (.t 10), some (9, false), true⟩,
⟨some 12, .bin .eql (.t 11) (.c (.int .i64 3)), some (9, false), true⟩,
s_ 13 (.pick (.t 9) (.c (.bool true)) (.t 12))] [1,2,4,13] []) (
(.cond (.t 13) (
(.seq (
r_ [
s_ 14 (.build [i0_, i0_, i0_] []),
n_ (.store 3 (.t 4) (.t 14))] [4] []) (
.ret))) (
.skip))))) (
(.seq (
r_ [
s_ 15 (.fad 0 (.t 2)),
l_ 16 false 1 15,
s_ 17 (.fad 1 (.t 2)),
l_ 18 false 1 17,
s_ 19 (.build [i0_, i0_] [(0, 1, .t 16), (1, 1, .t 18)]),
m_ 20 1,
s_ 21 (.call 90 [.t 19, .t 20]),
s_ 5 (.alloc [i0_, i0_]),
n_ (.store 2 (.t 5) (.t 21))] [2,4,5] []) (
(.seq (
r_ [
s_ 22 (.fad 0 (.t 5)),
l_ 23 false 1 22,
s_ 24 (.fad 1 (.t 5)),
l_ 25 false 1 24,
s_ 26 (.fad 2 (.t 2)),
l_ 27 false 1 26,
s_ 28 (.bin .add (.t 27) (.c (.int .i64 1))),
s_ 29 (.build [i0_, i0_, i0_] [(0, 1, .t 23), (1, 1, .t 25), (2, 1, .t 28)]),
n_ (.store 3 (.t 4) (.t 29))] [4] [2,5]) (
.ret)))))))))
def A78 : AFn := .code [.cell true 2 2] (
(.seq (
r_ [
s_ 1 (.box (.t 0)),
s_ 2 (.alloc [i0_, i0_])] [1,2] []) (
(.seq (
r_ [
s_ 4 (.fad 0 (.t 1)),
l_ 5 false 1 4,
s_ 6 (.fad 1 (.t 1)),
l_ 7 false 1 6,
s_ 8 (.build [i0_, i0_] [(0, 1, .t 5), (1, 1, .t 7)]),
s_ 9 (.call 91 [.t 8]),
s_ 3 (.alloc [i0_, i0_]),
n_ (.store 2 (.t 3) (.t 9))] [2,3] [1]) (
(.seq (
r_ [
s_ 10 (.fad 0 (.t 3)),
l_ 11 false 1 10,
s_ 12 (.fad 1 (.t 3)),
l_ 13 false 1 12,
s_ 14 (.build [i0_, i0_] [(0, 1, .t 11), (1, 1, .t 13)]),
n_ (.store 2 (.t 2) (.t 14))] [2] [3]) (
.ret)))))))
def A79 : AFn := .code [.cell true 3 4] (
(.seq (
r_ [
s_ 2 (.box (.t 0)),
s_ 4 (.alloc [i0_, i0_, i0_])] [1,2,4] []) (
(.seq (
(.seq (
r_ [
l_ 7 true 3 2,
s_ 8 (.call 50 [.t 7]),
s_ 9 (.un .not (.t 8)),
m_ 10 9,
⟨some 11, .fad 2 (.t 2), some (10, false), true⟩,
⟨some 12, .load false 1 (.t 11), some (10, false), true⟩,
⟨some 13, .bin .eql (.t 12) (.c (.int .i64 3)), some (10, false), true⟩,
s_ 14 (.pick (.t 10) (.c (.bool true)) (.t 13))] [1,2,4,14] []) (
(.cond (.t 14) (
(.seq (
r_ [
s_ 15 (.build [i0_, i0_, i0_] []),
n_ (.store 3 (.t 4) (.t 15))] [4] []) (
.ret))) (
.skip))))) (
(.seq (
r_ [
m_ 17 1,
s_ 18 (.call 92 [.t 17]),
m_ 16 18,
s_ 19 (.ext (.t 16) 0),
s_ 20 (.ext (.t 16) 1),
s_ 5 (.as (.t 19)),
s_ 6 (.as (.t 20))] [2,4,5,6] []) (
(.seq (
r_ [
s_ 21 (.fad 0 (.t 2)),
l_ 22 false 1 21,
m_ 23 5,
b_ 24 .mul 22 23,
s_ 25 (.fad 1 (.t 2)),
l_ 26 false 1 25,
m_ 27 6,
b_ 28 .mul 26 27,
b_ 29 .sub 24 28,
s_ 30 (.fad 0 (.t 2)),
l_ 31 false 1 30,
m_ 32 6,
b_ 33 .mul 31 32,
s_ 34 (.fad 1 (.t 2)),
l_ 35 false 1 34,
m_ 36 5,
b_ 37 .mul 35 36,
b_ 38 .add 33 37,
s_ 39 (.fad 2 (.t 2)),
l_ 40 false 1 39,
s_ 41 (.bin .add (.t 40) (.c (.int .i64 1))),
s_ 42 (.build [i0_, i0_, i0_] [(0, 1, .t 29), (1, 1, .t 38), (2, 1, .t 41)]),
n_ (.store 3 (.t 4) (.t 42))] [4] [2]) (
.ret)))))))))
def A80 : AFn := .code [.t 2] (
(.seq (
r_ [
s_ 1 (.box (.t 0)),
s_ 2 (.as (.c (.nilf)))] [1] []) (
(.seq (
r_ [
s_ 3 (.mkf (.func 93) [] [.t 1]),
s_ 2 (.as (.t 3))] [2] []) (
.ret)))))
def A81 : AFn := .code [.t 8] (
(.seq (
r_ [
s_ 4 (.box (.t 0)),
s_ 5 (.box (.t 1)),
s_ 6 (.box (.t 2)),
s_ 7 (.box (.t 3)),
s_ 8 (.as (.c (.bool false)))] [4,5,6,7] []) (
(.seq (
r_ [
s_ 9 (.as (.fu 94))] [4,5,6,7,9] []) (
(.seq (
r_ [
m_ 15 9,
l_ 16 true 2 4,
l_ 17 true 2 5,
l_ 18 true 2 6,
l_ 19 true 2 7,
s_ 20 (.cal (.t 15) [.t 16, .t 17, .t 18, .t 19]),
m_ 14 20,
s_ 21 (.ext (.t 14) 0),
s_ 22 (.ext (.t 14) 1),
s_ 10 (.as (.t 21)),
s_ 11 (.as (.t 22))] [4,5,6,7,9,10,11] []) (
(.seq (
r_ [
m_ 24 9,
l_ 25 true 2 6,
l_ 26 true 2 7,
l_ 27 true 2 4,
l_ 28 true 2 5,
s_ 29 (.cal (.t 24) [.t 25, .t 26, .t 27, .t 28]),
m_ 23 29,
s_ 30 (.ext (.t 23) 0),
s_ 31 (.ext (.t 23) 1),
s_ 12 (.as (.t 30)),
s_ 13 (.as (.t 31))] [10,11,12,13] [4,5,6,7]) (
(.seq (
r_ [
m_ 32 10,
m_ 33 32,
⟨some 34, .mv (.t 12), some (33, true), true⟩,
s_ 35 (.pick (.t 33) (.t 34) (.c (.bool false))),
m_ 36 35,
⟨some 37, .mv (.t 11), some (36, false), true⟩,
s_ 38 (.pick (.t 36) (.c (.bool true)) (.t 37)),
m_ 39 38,
⟨some 40, .mv (.t 13), some (39, false), true⟩,
s_ 41 (.pick (.t 39) (.c (.bool true)) (.t 40)),
s_ 8 (.as (.t 41))] [8] []) (
.ret)))))))))))
def A82 : AFn := .code [.t 6] (
(.seq (
r_ [
s_ 6 (.as (.c (.bool false)))] [0,1,2] []) (
(.seq (
r_ [
m_ 7 1,
s_ 8 (.bin .geq (.t 7) (.c (i0_))),
m_ 9 8,
⟨some 10, .mv (.t 1), some (9, true), true⟩,
⟨some 11, .mv (.t 0), some (9, true), true⟩,
⟨some 12, .len 0 (.t 11), some (9, true), true⟩,
⟨some 13, .bin .lss (.t 10) (.t 12), some (9, true), true⟩,
s_ 14 (.pick (.t 9) (.t 13) (.c (.bool false))),
m_ 15 14,
⟨some 16, .mv (.t 2), some (15, true), true⟩,
⟨some 17, .mv (.t 0), some (15, true), true⟩,
⟨some 18, .mv (.t 1), some (15, true), true⟩,
⟨some 19, .ias 2 (.t 17) (.t 18), some (15, true), true⟩,
⟨some 20, .load true 2 (.t 19), some (15, true), true⟩,
⟨some 21, .call 97 [.t 16, .t 20], some (15, true), true⟩,
⟨some 22, .bin .neq (.t 21) (.c (.int .i64 (-1))), some (15, true), true⟩,
s_ 23 (.pick (.t 15) (.t 22) (.c (.bool false))),
s_ 6 (.as (.t 23))] [6] []) (
.ret)))))
def A83 : AFn := .code [.t 6] (
(.seq (
r_ [
s_ 5 (.box (.t 2)),
s_ 6 (.as (.c (.bool false)))] [0,1,5] []) (
(.seq (
(.seq (
r_ [
s_ 7 (.fad 0 (.t 5)),
l_ 8 false 1 7] [0,1,5,8] []) (
(.block 0 (
(.seq (
r_ [
s_ 10 (.bin .eql (.t 8) (.c (.int .i64 1))),
s_ 9 (.as (.t 10))] [0,1,5,8,9] []) (
(.cond (.t 9) (
(.seq (
.reg (some [.free, .free, .free, .free, .dr [18] [], .dr [18] [], .dr [16] [], .dr [16] [], .free, .free, .free, .free, .free, .free, .free, .free, .dr [30] [], .dr [30] [], .dr [28] [], .dr [28] [], .free, .free, .free, .dr [36, 42, 43, 44, 45, 48, 49, 50, 54, 55, 56, 57] [], .dr [42, 43, 44, 45, 48, 49, 50, 54, 55, 56, 57] [], .dr [42, 43, 44, 45, 48, 49, 50, 54, 55, 56, 57] [], .dr [42, 43, 44, 45, 48, 49, 50, 54, 55, 56, 57] [], .dr [42, 43, 44, 45, 48, 49, 50, 54, 55, 56, 57] [], .dr [36, 37, 38, 42, 43, 48, 49, 50, 54, 55, 56, 57] [], .dr [36, 37, 38, 42, 48, 49, 50, 54] [], .dr [36, 37, 38, 48, 49, 50, 54] [], .dr [36, 37, 38, 48, 49, 50, 54] [], .dr [36, 37, 38, 48, 49, 50, 54] [], .dr [36, 37, 38, 48, 49, 50, 54, 55, 56, 57] [], .dr [36, 37, 38, 48, 49, 50, 54, 55, 56, 57] [], .dr [36, 37, 38, 42, 43, 44, 45, 48, 54, 55, 56, 57] [], .dr [36, 37, 38, 42, 43, 44, 45, 54, 55, 56, 57] [], .dr [36, 37, 38, 42, 43, 44, 45, 54, 55, 56, 57] [], .dr [36, 37, 38, 42, 43, 44, 45, 54, 55, 56, 57] [], .dr [36, 37, 38, 42, 43, 44, 45, 54, 55, 56, 57] [], .dr [36, 37, 38, 42, 43, 44, 45, 48, 49, 50, 54, 55] [], .dr [36, 37, 38, 42, 43, 44, 45, 48, 49, 50, 54] [], .dr [36, 37, 38, 42, 43, 44, 45, 48, 49, 50] [], .dr [36, 37, 38, 42, 43, 44, 45, 48, 49, 50] [], .dr [36, 37, 38, 44, 45, 48, 49, 50] [], .dr [36, 37, 38, 44, 45, 48, 49, 50] [], .dr [36, 37, 38, 44, 45, 48, 49, 50] [], .free, .free, .free]) [
s_ 11 (.fad 1 (.t 5)),
l_ 12 false 1 11,
s_ 13 (.bin .geq (.t 12) (.c (i0_))),
m_ 14 13,
⟨some 15, .fad 1 (.t 5), some (14, true), true⟩,
⟨some 16, .load false 1 (.t 15), some (14, true), true⟩,
⟨some 17, .mv (.t 0), some (14, true), true⟩,
⟨some 18, .len 0 (.t 17), some (14, true), true⟩,
⟨some 19, .bin .lss (.t 16) (.t 18), some (14, true), true⟩,
s_ 20 (.pick (.t 14) (.t 19) (.c (.bool false))),
m_ 21 20,
⟨some 22, .fad 2 (.t 5), some (21, true), true⟩,
⟨some 23, .load false 1 (.t 22), some (21, true), true⟩,
⟨some 24, .bin .geq (.t 23) (.c (i0_)), some (21, true), true⟩,
s_ 25 (.pick (.t 21) (.t 24) (.c (.bool false))),
m_ 26 25,
⟨some 27, .fad 2 (.t 5), some (26, true), true⟩,
⟨some 28, .load false 1 (.t 27), some (26, true), true⟩,
⟨some 29, .mv (.t 1), some (26, true), true⟩,
⟨some 30, .len 0 (.t 29), some (26, true), true⟩,
⟨some 31, .bin .lss (.t 28) (.t 30), some (26, true), true⟩,
s_ 32 (.pick (.t 26) (.t 31) (.c (.bool false))),
m_ 33 32,
⟨some 34, .mv (.t 0), some (33, true), true⟩,
⟨some 35, .fad 1 (.t 5), some (33, true), true⟩,
⟨some 36, .load false 1 (.t 35), some (33, true), true⟩,
⟨some 37, .ias 2 (.t 34) (.t 36), some (33, true), true⟩,
⟨some 38, .load true 2 (.t 37), some (33, true), true⟩,
⟨some 39, .mv (.t 0), some (33, true), true⟩,
⟨some 40, .mv (.t 0), some (33, true), true⟩,
⟨some 41, .fad 1 (.t 5), some (33, true), true⟩,
⟨some 42, .load false 1 (.t 41), some (33, true), true⟩,
⟨some 43, .call 99 [.t 40, .t 42], some (33, true), true⟩,
⟨some 44, .ias 2 (.t 39) (.t 43), some (33, true), true⟩,
⟨some 45, .load true 2 (.t 44), some (33, true), true⟩,
⟨some 46, .mv (.t 1), some (33, true), true⟩,
⟨some 47, .fad 2 (.t 5), some (33, true), true⟩,
⟨some 48, .load false 1 (.t 47), some (33, true), true⟩,
⟨some 49, .ias 2 (.t 46) (.t 48), some (33, true), true⟩,
⟨some 50, .load true 2 (.t 49), some (33, true), true⟩,
⟨some 51, .mv (.t 1), some (33, true), true⟩,
⟨some 52, .mv (.t 1), some (33, true), true⟩,
⟨some 53, .fad 2 (.t 5), some (33, true), true⟩,
⟨some 54, .load false 1 (.t 53), some (33, true), true⟩,
⟨some 55, .call 99 [.t 52, .t 54], some (33, true), true⟩,
⟨some 56, .ias 2 (.t 51) (.t 55), some (33, true), true⟩,
⟨some 57, .load true 2 (.t 56), some (33, true), true⟩,
⟨some 58, .call 98 [.t 38, .t 45, .t 50, .t 57], some (33, true), true⟩,
s_ 59 (.pick (.t 33) (.t 58) (.c (.bool false))),
s_ 6 (.as (.t 59))] (some [6]) [5]) (
.ret))) (
(.seq (
r_ [
s_ 61 (.bin .eql (.t 8) (.c (.int .i64 2))),
s_ 60 (.as (.t 61))] [0,1,5,8,60] []) (
(.cond (.t 60) (
(.seq (
r_ [
s_ 62 (.fad 1 (.t 5)),
l_ 63 false 1 62,
s_ 64 (.bin .geq (.t 63) (.c (i0_))),
m_ 65 64,
⟨some 66, .fad 1 (.t 5), some (65, true), true⟩,
⟨some 67, .load false 1 (.t 66), some (65, true), true⟩,
⟨some 68, .mv (.t 0), some (65, true), true⟩,
⟨some 69, .len 0 (.t 68), some (65, true), true⟩,
⟨some 70, .bin .lss (.t 67) (.t 69), some (65, true), true⟩,
s_ 71 (.pick (.t 65) (.t 70) (.c (.bool false))),
m_ 72 71,
⟨some 73, .fad 2 (.t 5), some (72, true), true⟩,
⟨some 74, .load false 1 (.t 73), some (72, true), true⟩,
⟨some 75, .bin .eql (.t 74) (.c (i0_)), some (72, true), true⟩,
s_ 76 (.pick (.t 72) (.t 75) (.c (.bool false))),
m_ 77 76,
⟨some 78, .mv (.t 1), some (77, true), true⟩,
⟨some 79, .mv (.t 0), some (77, true), true⟩,
⟨some 80, .fad 1 (.t 5), some (77, true), true⟩,
⟨some 81, .load false 1 (.t 80), some (77, true), true⟩,
⟨some 82, .ias 2 (.t 79) (.t 81), some (77, true), true⟩,
⟨some 83, .load true 2 (.t 82), some (77, true), true⟩,
⟨some 84, .call 100 [.t 78, .t 83], some (77, true), true⟩,
⟨some 85, .bin .geq (.t 84) (.c (i0_)), some (77, true), true⟩,
s_ 86 (.pick (.t 77) (.t 85) (.c (.bool false))),
s_ 6 (.as (.t 86))] [6] [5]) (
.ret))) (
(.seq (
r_ [
s_ 88 (.bin .eql (.t 8) (.c (.int .i64 3))),
s_ 87 (.as (.t 88))] [0,1,5,87] []) (
(.cond (.t 87) (
(.seq (
r_ [
s_ 89 (.fad 2 (.t 5)),
l_ 90 false 1 89,
s_ 91 (.bin .geq (.t 90) (.c (i0_))),
m_ 92 91,
⟨some 93, .fad 2 (.t 5), some (92, true), true⟩,
⟨some 94, .load false 1 (.t 93), some (92, true), true⟩,
⟨some 95, .mv (.t 1), some (92, true), true⟩,
⟨some 96, .len 0 (.t 95), some (92, true), true⟩,
⟨some 97, .bin .lss (.t 94) (.t 96), some (92, true), true⟩,
s_ 98 (.pick (.t 92) (.t 97) (.c (.bool false))),
m_ 99 98,
⟨some 100, .fad 1 (.t 5), some (99, true), true⟩,
⟨some 101, .load false 1 (.t 100), some (99, true), true⟩,
⟨some 102, .bin .eql (.t 101) (.c (i0_)), some (99, true), true⟩,
s_ 103 (.pick (.t 99) (.t 102) (.c (.bool false))),
m_ 104 103,
⟨some 105, .mv (.t 0), some (104, true), true⟩,
⟨some 106, .mv (.t 1), some (104, true), true⟩,
⟨some 107, .fad 2 (.t 5), some (104, true), true⟩,
⟨some 108, .load false 1 (.t 107), some (104, true), true⟩,
⟨some 109, .ias 2 (.t 106) (.t 108), some (104, true), true⟩,
⟨some 110, .load true 2 (.t 109), some (104, true), true⟩,
⟨some 111, .call 100 [.t 105, .t 110], some (104, true), true⟩,
⟨some 112, .bin .geq (.t 111) (.c (i0_)), some (104, true), true⟩,
s_ 113 (.pick (.t 104) (.t 112) (.c (.bool false))),
s_ 6 (.as (.t 113))] [6] [5]) (
.ret))) (
.skip))))))))))))) (some []) [6,9,43,55,58,60,84,87,111])))) (
(.seq (
r_ [
s_ 6 (.as (.c (.bool false)))] [6] []) (
.ret)))))))
def A84 : AFn := .code [.t 6] (
(.seq (
r_ [
s_ 3 (.box (.t 0)),
s_ 4 (.box (.t 1)),
s_ 5 (.box (.t 2)),
s_ 6 (.as (.c (.bool false)))] [3,4,5] []) (
(.seq (
r_ [
l_ 7 true 2 3,
l_ 8 true 2 4,
l_ 9 true 2 5,
s_ 10 (.call 67 [.t 7, .t 8, .t 9]),
s_ 11 (.bin .eql (.t 10) (.c (i0_))),
m_ 12 11,
⟨some 13, .fad 0 (.t 3), some (12, true), true⟩,
⟨some 14, .load false 1 (.t 13), some (12, true), true⟩,
⟨some 15, .fad 0 (.t 4), some (12, true), true⟩,
⟨some 16, .load false 1 (.t 15), some (12, true), true⟩,
⟨some 17, .fad 0 (.t 5), some (12, true), true⟩,
⟨some 18, .load false 1 (.t 17), some (12, true), true⟩,
⟨some 19, .call 101 [.t 14, .t 16, .t 18], some (12, true), true⟩,
s_ 20 (.pick (.t 12) (.t 19) (.c (.bool false))),
m_ 21 20,
⟨some 22, .fad 1 (.t 3), some (21, true), true⟩,
⟨some 23, .load false 1 (.t 22), some (21, true), true⟩,
⟨some 24, .fad 1 (.t 4), some (21, true), true⟩,
⟨some 25, .load false 1 (.t 24), some (21, true), true⟩,
⟨some 26, .fad 1 (.t 5), some (21, true), true⟩,
⟨some 27, .load false 1 (.t 26), some (21, true), true⟩,
⟨some 28, .call 101 [.t 23, .t 25, .t 27], some (21, true), true⟩,
s_ 29 (.pick (.t 21) (.t 28) (.c (.bool false))),
s_ 6 (.as (.t 29))] [6] [3,4,5]) (
.ret)))))
def A85 : AFn := .code [.t 2] (
(.seq (
r_ [
s_ 2 (.as (.c (i0_)))] [0] []) (
(.seq (
(.seq (
r_ [
m_ 3 0,
s_ 4 (.bin .gtr (.t 3) (.c (i0_)))] [0,4] []) (
(.cond (.t 4) (
(.seq (
r_ [
s_ 2 (.as (.c (.int .i64 1)))] [2] []) (
.ret))) (
.skip))))) (
(.seq (
(.seq (
r_ [
m_ 5 0,
s_ 6 (.bin .lss (.t 5) (.c (i0_)))] [6] []) (
(.cond (.t 6) (
(.seq (
r_ [
s_ 2 (.as (.c (.int .i64 (-1))))] [2] []) (
.ret))) (
.skip))))) (
(.seq (
r_ [
s_ 2 (.as (.c (i0_)))] [2] []) (
.ret)))))))))
def A86 : AFn := .code [.t 2] (
(.seq (
r_ [
s_ 2 (.as (.c (.bool false)))] [0] []) (
(.seq (
r_ [
m_ 3 0,
s_ 4 (.bin .geq (.t 3) (.c (.int .u8 97))),
m_ 5 4,
⟨some 6, .mv (.t 0), some (5, true), true⟩,
⟨some 7, .bin .leq (.t 6) (.c (.int .u8 122)), some (5, true), true⟩,
s_ 8 (.pick (.t 5) (.t 7) (.c (.bool false))),
m_ 9 8,
⟨some 10, .mv (.t 0), some (9, false), true⟩,
⟨some 11, .bin .geq (.t 10) (.c (.int .u8 65)), some (9, false), true⟩,
⟨some 12, .mv (.t 11), some (9, false), true⟩,
⟨some 13, .mv (.t 0), some (12, true), true⟩,
⟨some 14, .bin .leq (.t 13) (.c (.int .u8 90)), some (12, true), true⟩,
⟨some 15, .pick (.t 12) (.t 14) (.c (.bool false)), some (9, false), true⟩,
s_ 16 (.pick (.t 9) (.c (.bool true)) (.t 15)),
s_ 2 (.as (.t 16))] [2] []) (
.ret)))))
def A87 : AFn := .code [.t 6] (
(.seq (
r_ [
s_ 3 (.box (.t 0)),
s_ 4 (.box (.t 1)),
s_ 5 (.box (.t 2)),
s_ 6 (.as (.c (i0_)))] [3,4,5] []) (
(.seq (
r_ [
s_ 7 (.fad 0 (.t 4)),
l_ 8 false 1 7,
s_ 9 (.fad 0 (.t 3)),
l_ 10 false 1 9,
b_ 11 .sub 8 10,
s_ 12 (.fad 1 (.t 5)),
l_ 13 false 1 12,
s_ 14 (.fad 1 (.t 3)),
l_ 15 false 1 14,
b_ 16 .sub 13 15,
b_ 17 .mul 11 16,
s_ 18 (.fad 1 (.t 4)),
l_ 19 false 1 18,
s_ 20 (.fad 1 (.t 3)),
l_ 21 false 1 20,
b_ 22 .sub 19 21,
s_ 23 (.fad 0 (.t 5)),
l_ 24 false 1 23,
s_ 25 (.fad 0 (.t 3)),
l_ 26 false 1 25,
b_ 27 .sub 24 26,
b_ 28 .mul 22 27,
b_ 29 .sub 17 28,
s_ 6 (.as (.t 29))] [6] [3,4,5]) (
.ret)))))
def A88_L0b : ACode :=
(.seq (
r_ [
b_ 6 .lss 5 4] [3,4,5,6] []) (
(.seq (
(.cond (.t 6) (
.skip) (
.exit 0))) (
(.seq (
(.block 1 (
r_ [
m_ 7 3,
s_ 8 (.bin .mul (.t 7) (.c (.int .i64 65))),
s_ 3 (.as (.t 8))] [3,4,5] []) (some [3,4,5]) [])) (
r_ [
s_ 9 (.bin .add (.t 5) (.c (.int .i64 1))),
m_ 5 9] [3,4,5] []))))))
def A88_L0 : ACode := .loop A88_L0b (some [3,4,5]) []
def A88 : AFn := .code [.t 2] (
(.seq (
r_ [
s_ 2 (.as (.c (i0_)))] [0] []) (
(.seq (
r_ [
s_ 3 (.as (.c (.int .i64 1)))] [0,3] []) (
(.seq (
(.seq (
r_ [
m_ 4 0,
s_ 5 (.mv (.c (i0_)))] [3,4,5] []) (
(.block 0 (
A88_L0) (some [3]) [])))) (
(.seq (
r_ [
m_ 10 3,
s_ 2 (.as (.t 10))] [2] []) (
.ret)))))))))
def A89 : AFn := .code [.t 2] (
(.seq (
r_ [
s_ 1 (.box (.t 0)),
s_ 2 (.as (.c (.bool false)))] [1] []) (
(.seq (
(.seq (
r_ [
s_ 6 (.fad 2 (.t 1)),
l_ 7 false 1 6,
s_ 8 (.bin .lss (.t 7) (.c (i0_))),
m_ 9 8,
⟨some 10, .fad 2 (.t 1), some (9, false), true⟩,
⟨some 11, .load false 1 (.t 10), some (9, false), true⟩,
⟨some 12, .bin .gtr (.t 11) (.c (.int .i64 3)), some (9, false), true⟩,
s_ 13 (.pick (.t 9) (.c (.bool true)) (.t 12))] [1,13] []) (
(.cond (.t 13) (
(.seq (
r_ [
s_ 2 (.as (.c (.bool false)))] [2] []) (
.ret))) (
.skip))))) (
(.seq (
r_ [
s_ 14 (.fad 2 (.t 1)),
l_ 15 false 1 14,
s_ 16 (.mkf (.func 88) [.t 15] []),
s_ 3 (.as (.t 16))] [1,3] []) (
(.seq (
r_ [
m_ 17 3,
s_ 18 (.cal (.t 17) []),
s_ 4 (.alloc [i0_]),
n_ (.store 1 (.t 4) (.t 18))] [1,4] []) (
(.seq (
r_ [
s_ 19 (.mkf (.func 102) [] [.t 4]),
s_ 5 (.as (.t 19))] [1,4,5] []) (
(.seq (
r_ [
m_ 20 5,
s_ 21 (.fad 0 (.t 1)),
l_ 22 false 1 21,
s_ 23 (.cal (.t 20) [.t 22]),
m_ 24 23,
⟨some 25, .mv (.t 5), some (24, true), true⟩,
⟨some 26, .fad 1 (.t 1), some (24, true), true⟩,
⟨some 27, .load false 1 (.t 26), some (24, true), true⟩,
⟨some 28, .cal (.t 25) [.t 27], some (24, true), true⟩,
s_ 29 (.pick (.t 24) (.t 28) (.c (.bool false))),
m_ 30 29,
⟨some 31, .fad 0 (.t 1), some (30, true), true⟩,
⟨some 32, .load false 1 (.t 31), some (30, true), true⟩,
⟨some 33, .fad 0 (.t 1), some (30, true), true⟩,
⟨some 34, .load false 1 (.t 33), some (30, true), true⟩,
⟨some 35, .bin .mul (.t 32) (.t 34), some (30, true), true⟩,
⟨some 36, .fad 1 (.t 1), some (30, true), true⟩,
⟨some 37, .load false 1 (.t 36), some (30, true), true⟩,
⟨some 38, .fad 1 (.t 1), some (30, true), true⟩,
⟨some 39, .load false 1 (.t 38), some (30, true), true⟩,
⟨some 40, .bin .mul (.t 37) (.t 39), some (30, true), true⟩,
⟨some 41, .bin .add (.t 35) (.t 40), some (30, true), true⟩,
⟨some 42, .load false 1 (.t 4), some (30, true), true⟩,
⟨some 43, .load false 1 (.t 4), some (30, true), true⟩,
⟨some 44, .bin .mul (.t 42) (.t 43), some (30, true), true⟩,
⟨some 45, .bin .eql (.t 41) (.t 44), some (30, true), true⟩,
s_ 46 (.pick (.t 30) (.t 45) (.c (.bool false))),
s_ 2 (.as (.t 46))] [2] [1]) (
.ret)))))))))))))
def A90 : AFn := .code [.cell true 2 4] (
(.seq (
r_ [
s_ 2 (.box (.t 0)),
s_ 4 (.alloc [i0_, i0_])] [1,2,4] []) (
(.seq (
r_ [
m_ 8 1,
s_ 9 (.call 103 [.t 8]),
m_ 7 9,
s_ 10 (.ext (.t 7) 0),
s_ 11 (.ext (.t 7) 1),
s_ 5 (.as (.t 10)),
s_ 6 (.as (.t 11))] [2,4,5,6] []) (
(.seq (
r_ [
s_ 12 (.fad 0 (.t 2)),
l_ 13 false 1 12,
m_ 14 5,
b_ 15 .mul 13 14,
s_ 16 (.fad 1 (.t 2)),
l_ 17 false 1 16,
m_ 18 6,
b_ 19 .mul 17 18,
b_ 20 .sub 15 19,
s_ 21 (.fad 0 (.t 2)),
l_ 22 false 1 21,
m_ 23 6,
b_ 24 .mul 22 23,
s_ 25 (.fad 1 (.t 2)),
l_ 26 false 1 25,
m_ 27 5,
b_ 28 .mul 26 27,
b_ 29 .add 24 28,
s_ 30 (.build [i0_, i0_] [(0, 1, .t 20), (1, 1, .t 29)]),
n_ (.store 2 (.t 4) (.t 30))] [4] [2]) (
.ret)))))))
def A91 : AFn := .code [.cell true 2 2] (
(.seq (
r_ [
s_ 1 (.box (.t 0)),
s_ 2 (.alloc [i0_, i0_])] [1,2] []) (
(.seq (
r_ [
s_ 3 (.fad 1 (.t 1)),
l_ 4 false 1 3,
s_ 5 (.un .neg (.t 4)),
s_ 6 (.fad 0 (.t 1)),
l_ 7 false 1 6,
s_ 8 (.build [i0_, i0_] [(0, 1, .t 5), (1, 1, .t 7)]),
n_ (.store 2 (.t 2) (.t 8))] [2] [1]) (
.ret)))))
def A92_L0b : ACode :=
(.seq (
(.seq (
r_ [
m_ 24 9,
m_ 25 6,
s_ 26 (.bin .quo (.t 25) (.c (.int .i64 9))),
b_ 27 .lss 24 26] [6,7,8,9,27] []) (
(.cond (.t 27) (
.skip) (
.exit 0))))) (
(.seq (
(.block 1 (
r_ [
m_ 30 8,
s_ 31 (.un .neg (.t 30)),
m_ 32 7,
s_ 7 (.as (.t 31)),
s_ 8 (.as (.t 32))] [6,7,8,9] []) (some [6,7,8,9]) [])) (
r_ [
m_ 28 9,
s_ 29 (.bin .add (.t 28) (.c (.int .i64 1))),
s_ 9 (.as (.t 29))] [6,7,8,9] []))))
def A92_L0 : ACode := .loop A92_L0b (some [6,7,8,9]) []
def A92 : AFn := .code [.t 2, .t 3] (
(.seq (
r_ [
s_ 2 (.as (.c (i0_))),
s_ 3 (.as (.c (i0_)))] [0] []) (
(.seq (
r_ [
s_ 10 (.bsl 1 9 [i0_] [(0, .c (.int .i64 65)), (1, .c (.int .i64 63)), (2, .c (.int .i64 60)), (3, .c (.int .i64 56)), (4, .c (.int .i64 52)), (5, .c (.int .i64 39)), (6, .c (.int .i64 33)), (7, .c (.int .i64 25)), (8, .c (.int .i64 16))]),
s_ 4 (.as (.t 10))] [0,4] []) (
(.seq (
r_ [
s_ 11 (.bsl 1 9 [i0_] [(0, .c (i0_)), (1, .c (.int .i64 16)), (2, .c (.int .i64 25)), (3, .c (.int .i64 33)), (4, .c (.int .i64 39)), (5, .c (.int .i64 52)), (6, .c (.int .i64 56)), (7, .c (.int .i64 60)), (8, .c (.int .i64 63))]),
s_ 5 (.as (.t 11))] [0,4,5] []) (
(.seq (
r_ [
m_ 12 0,
s_ 13 (.call 104 [.t 12]),
s_ 6 (.as (.t 13))] [4,5,6] []) (
(.seq (
r_ [
m_ 14 4,
m_ 15 6,
s_ 16 (.bin .rem (.t 15) (.c (.int .i64 9))),
s_ 17 (.ias 1 (.t 14) (.t 16)),
l_ 18 false 1 17,
s_ 7 (.as (.t 18))] [5,6,7] []) (
(.seq (
r_ [
m_ 19 5,
m_ 20 6,
s_ 21 (.bin .rem (.t 20) (.c (.int .i64 9))),
s_ 22 (.ias 1 (.t 19) (.t 21)),
l_ 23 false 1 22,
s_ 8 (.as (.t 23))] [6,7,8] []) (
(.seq (
(.seq (
r_ [
s_ 9 (.as (.c (i0_)))] [6,7,8,9] []) (
(.block 0 (
A92_L0) (some [7,8]) [9])))) (
(.seq (
r_ [
m_ 33 7,
m_ 34 8,
s_ 2 (.as (.t 33)),
s_ 3 (.as (.t 34))] [2,3] []) (
.ret)))))))))))))))))
def A93_L0b : ACode :=
(.seq (
r_ [
b_ 8 .lss 7 6] [0,1,5,6,7,8] []) (
(.seq (
(.cond (.t 8) (
.skip) (
.exit 0))) (
(.seq (
(.block 1 (
(.seq (
r_ [
m_ 9 7,
s_ 10 (.ias 2 (.t 5) (.t 7)),
l_ 11 true 2 10,
s_ 4 (.alloc [i0_, i0_]),
s_ 3 (.as (.t 9)),
n_ (.store 2 (.t 4) (.t 11))] [0,1,3,4,5,6,7] []) (
(.seq (
.reg (some [.dr [14, 15, 18, 19, 21, 22] [], .dr [14, 15, 18, 19, 21, 22] [], .dr [15, 18, 19, 21, 22] [], .dr [14, 18, 19] [], .dr [14, 15, 18, 19] [], .dr [14, 15, 18, 19] [], .dr [14, 15] [], .dr [14, 15] [], .dr [14, 15] [], .dr [14] [], .dr [14] [], .dr [] [], .free, .free]) [
m_ 12 0,
m_ 13 3,
l_ 14 true 2 4,
l_ 15 false 1 1,
m_ 16 3,
s_ 17 (.bin .add (.t 16) (.c (.int .i64 1))),
l_ 18 false 1 1,
s_ 19 (.len 0 (.t 18)),
s_ 20 (.bin .rem (.t 17) (.t 19)),
s_ 21 (.ias 2 (.t 15) (.t 20)),
l_ 22 true 2 21,
s_ 23 (.build [i0_, i0_, i0_, i0_] [(0, 2, .t 14), (2, 2, .t 22)]),
s_ 24 (.cal (.t 12) [.t 13, .t 23]),
s_ 25 (.un .not (.t 24))] (some [0,1,5,6,7,25]) [4]) (
(.cond (.t 25) (
.ret) (
.skip))))))) (some [0,1,5,6,7]) [3,4,24])) (
r_ [
s_ 26 (.bin .add (.t 7) (.c (.int .i64 1))),
m_ 7 26] [0,1,5,6,7] []))))))
def A93_L0 : ACode := .loop A93_L0b (some [0,1,5,6,7]) [3,4,24]
def A93 : AFn := .code [] (
(.seq (
r_ [
l_ 5 false 1 1,
s_ 6 (.len 0 (.t 5)),
s_ 7 (.mv (.c (i0_)))] [0,1,5,6,7] []) (
(.block 0 (
A93_L0) (some []) [3,4,24]))))
def A94 : AFn := .code [.t 8, .t 9] (
(.seq (
r_ [
s_ 4 (.box (.t 0)),
s_ 5 (.box (.t 1)),
s_ 6 (.box (.t 2)),
s_ 7 (.box (.t 3)),
s_ 8 (.as (.c (.bool false))),
s_ 9 (.as (.c (.bool false)))] [4,5,6,7] []) (
(.seq (
.reg (some [.dr [13, 14, 16, 17, 18] [], .dr [12, 14, 16, 17, 18] [], .dr [12, 13, 16, 17, 18] [], .dr [16, 17, 18] [], .dr [12, 13, 14, 15, 17, 18] [], .dr [12, 13, 14, 15, 16, 18] [], .dr [12, 13, 14, 15, 16, 17] [], .free, .free, .free]) [
l_ 12 true 2 4,
l_ 13 true 2 5,
l_ 14 true 2 6,
s_ 15 (.call 95 [.t 12, .t 13, .t 14]),
l_ 16 true 2 4,
l_ 17 true 2 5,
l_ 18 true 2 7,
s_ 19 (.call 95 [.t 16, .t 17, .t 18]),
s_ 10 (.as (.t 15)),
s_ 11 (.as (.t 19))] (some [4,5,6,7,10,11]) []) (
(.seq (
r_ [
m_ 20 10,
m_ 21 11,
b_ 22 .mul 20 21,
s_ 23 (.bin .lss (.t 22) (.c (i0_))),
m_ 24 10,
s_ 25 (.bin .eql (.t 24) (.c (i0_))),
m_ 26 25,
⟨some 27, .load true 2 (.t 4), some (26, true), true⟩,
⟨some 28, .load true 2 (.t 5), some (26, true), true⟩,
⟨some 29, .load true 2 (.t 6), some (26, true), true⟩,
⟨some 30, .call 96 [.t 27, .t 28, .t 29], some (26, true), true⟩,
s_ 31 (.pick (.t 26) (.t 30) (.c (.bool false))),
m_ 32 31,
⟨some 33, .mv (.t 11), some (32, false), true⟩,
⟨some 34, .bin .eql (.t 33) (.c (i0_)), some (32, false), true⟩,
⟨some 35, .mv (.t 34), some (32, false), true⟩,
⟨some 36, .load true 2 (.t 4), some (35, true), true⟩,
⟨some 37, .load true 2 (.t 5), some (35, true), true⟩,
⟨some 38, .load true 2 (.t 7), some (35, true), true⟩,
⟨some 39, .call 96 [.t 36, .t 37, .t 38], some (35, true), true⟩,
⟨some 40, .pick (.t 35) (.t 39) (.c (.bool false)), some (32, false), true⟩,
s_ 41 (.pick (.t 32) (.c (.bool true)) (.t 40)),
s_ 8 (.as (.t 23)),
s_ 9 (.as (.t 41))] [8,9] [4,5,6,7]) (
.ret)))))))
def A95 : AFn := .code [.t 6] (
(.seq (
r_ [
s_ 3 (.box (.t 0)),
s_ 4 (.box (.t 1)),
s_ 5 (.box (.t 2)),
s_ 6 (.as (.c (i0_)))] [3,4,5] []) (
(.seq (
.reg (some [.dr [11, 13, 14, 7, 8] [], .dr [10, 13, 14, 7, 8] [], .dr [13, 14, 7, 8] [], .dr [10, 11, 12, 14, 7, 8] [], .dr [10, 11, 12, 13, 7, 8] [], .dr [7, 8] [], .dr [10, 11, 12, 13, 14, 15, 8] [], .dr [10, 11, 12, 13, 14, 15, 7] [], .free, .free]) [
l_ 10 true 2 4,
l_ 11 true 2 3,
s_ 12 (.call 41 [.t 10, .t 11]),
l_ 13 true 2 5,
l_ 14 true 2 3,
s_ 15 (.call 41 [.t 13, .t 14]),
s_ 7 (.alloc [i0_, i0_]),
s_ 8 (.alloc [i0_, i0_]),
n_ (.store 2 (.t 7) (.t 12)),
n_ (.store 2 (.t 8) (.t 15))] (some [7,8]) [3,4,5]) (
(.seq (
(.seq (
r_ [
s_ 16 (.fad 0 (.t 7)),
l_ 17 false 1 16,
s_ 18 (.fad 1 (.t 8)),
l_ 19 false 1 18,
b_ 20 .mul 17 19,
s_ 21 (.fad 1 (.t 7)),
l_ 22 false 1 21,
s_ 23 (.fad 0 (.t 8)),
l_ 24 false 1 23,
b_ 25 .mul 22 24,
b_ 26 .sub 20 25,
s_ 9 (.as (.t 26))] [9] [7,8]) (
(.block 0 (
(.seq (
r_ [
m_ 28 9,
s_ 29 (.bin .gtr (.t 28) (.c (i0_))),
s_ 27 (.as (.t 29))] [9,27] []) (
(.cond (.t 27) (
(.seq (
r_ [
s_ 6 (.as (.c (.int .i64 1)))] [6] []) (
.ret))) (
(.seq (
r_ [
m_ 31 9,
s_ 32 (.bin .lss (.t 31) (.c (i0_))),
s_ 30 (.as (.t 32))] [30] []) (
(.cond (.t 30) (
(.seq (
r_ [
s_ 6 (.as (.c (.int .i64 (-1))))] [6] []) (
.ret))) (
.skip))))))))) (some []) [6,27,30])))) (
(.seq (
r_ [
s_ 6 (.as (.c (i0_)))] [6] []) (
.ret)))))))))
def A96 : AFn := .code [.t 6] (
(.seq (
r_ [
s_ 3 (.box (.t 0)),
s_ 4 (.box (.t 1)),
s_ 5 (.box (.t 2)),
s_ 6 (.as (.c (.bool false)))] [3,4,5] []) (
(.seq (
r_ [
l_ 10 true 2 3,
l_ 11 true 2 4,
s_ 12 (.bsl 2 2 [i0_, i0_] [(0, .t 10), (1, .t 11)]),
s_ 13 (.call 40 [.t 12]),
m_ 9 13,
s_ 14 (.ext (.t 9) 0),
s_ 15 (.ext (.t 9) 1),
s_ 7 (.alloc [i0_, i0_]),
s_ 8 (.alloc [i0_, i0_]),
n_ (.store 2 (.t 7) (.t 14)),
n_ (.store 2 (.t 8) (.t 15))] [5,7,8] [3,4]) (
(.seq (
r_ [
s_ 16 (.fad 0 (.t 5)),
l_ 17 false 1 16,
s_ 18 (.fad 0 (.t 7)),
l_ 19 false 1 18,
b_ 20 .geq 17 19,
m_ 21 20,
⟨some 22, .fad 0 (.t 5), some (21, true), true⟩,
⟨some 23, .load false 1 (.t 22), some (21, true), true⟩,
⟨some 24, .fad 0 (.t 8), some (21, true), true⟩,
⟨some 25, .load false 1 (.t 24), some (21, true), true⟩,
⟨some 26, .bin .leq (.t 23) (.t 25), some (21, true), true⟩,
s_ 27 (.pick (.t 21) (.t 26) (.c (.bool false))),
m_ 28 27,
⟨some 29, .fad 1 (.t 5), some (28, true), true⟩,
⟨some 30, .load false 1 (.t 29), some (28, true), true⟩,
⟨some 31, .fad 1 (.t 7), some (28, true), true⟩,
⟨some 32, .load false 1 (.t 31), some (28, true), true⟩,
⟨some 33, .bin .geq (.t 30) (.t 32), some (28, true), true⟩,
s_ 34 (.pick (.t 28) (.t 33) (.c (.bool false))),
m_ 35 34,
⟨some 36, .fad 1 (.t 5), some (35, true), true⟩,
⟨some 37, .load false 1 (.t 36), some (35, true), true⟩,
⟨some 38, .fad 1 (.t 8), some (35, true), true⟩,
⟨some 39, .load false 1 (.t 38), some (35, true), true⟩,
⟨some 40, .bin .leq (.t 37) (.t 39), some (35, true), true⟩,
s_ 41 (.pick (.t 35) (.t 40) (.c (.bool false))),
s_ 6 (.as (.t 41))] [6] [5,7,8]) (
.ret)))))))
def A97_R0a : ACode :=
r_ [
s_ 7 (.alloc [i0_, i0_, i0_, i0_]),
n_ (.store 4 (.t 7) (.t 13))] [3, 4, 5, 7] []
def A97_R0b : ACode :=
(.block 1 (
(.seq (
.reg (some [.dr [17, 8, 9] [], .dr [17, 8, 9] [], .dr [15, 8, 9] [], .dr [15, 8, 9] [], .dr [15, 17, 9] [], .dr [15, 17, 8] [], .dr [17] [8], .free]) [
s_ 14 (.iaa 2 2 (.t 7) (.c (i0_))),
l_ 15 true 2 14,
s_ 16 (.iaa 2 2 (.t 7) (.c (.int .i64 1))),
l_ 17 true 2 16,
s_ 8 (.alloc [i0_, i0_]),
s_ 9 (.alloc [i0_, i0_]),
n_ (.store 2 (.t 8) (.t 15)),
n_ (.store 2 (.t 9) (.t 17))] (some [3,4,5,8,9]) [7]) (
(.seq (
(.seq (
r_ [
l_ 18 true 2 8,
l_ 19 true 2 9,
l_ 20 true 2 3,
s_ 21 (.call 106 [.t 18, .t 19, .t 20])] [3,4,5,8,9,21] []) (
(.cond (.t 21) (
(.seq (
r_ [
n_ (.store 1 (.t 4) (.c (i0_)))] [] []) (
.ret))) (
.skip))))) (
(.seq (
(.seq (
r_ [
s_ 22 (.fad 1 (.t 8)),
l_ 23 false 1 22,
s_ 24 (.fad 1 (.t 3)),
l_ 25 false 1 24,
b_ 26 .gtr 23 25,
s_ 27 (.fad 1 (.t 9)),
l_ 28 false 1 27,
s_ 29 (.fad 1 (.t 3)),
l_ 30 false 1 29,
b_ 31 .gtr 28 30,
s_ 32 (.bib false (.t 26) (.t 31))] [3,5,8,9,32] []) (
(.cond (.t 32) (
.exit 1) (
.skip))))) (
(.seq (
.reg (some [.dr [34, 35, 39, 41] [], .dr [33, 35, 39, 41] [], .dr [33, 34, 39, 41] [], .dr [39, 41] [], .dr [39, 41] [], .dr [33, 34, 35, 36, 41] [], .dr [33, 34, 35, 36, 41] [], .dr [33, 34, 35, 36, 39] [], .dr [33, 34, 35, 36, 39] [], .dr [33, 34, 35, 36] [], .free]) [
l_ 33 true 2 8,
l_ 34 true 2 9,
l_ 35 true 2 3,
s_ 36 (.call 95 [.t 33, .t 34, .t 35]),
s_ 37 (.bin .gtr (.t 36) (.c (i0_))),
s_ 38 (.fad 1 (.t 9)),
l_ 39 false 1 38,
s_ 40 (.fad 1 (.t 8)),
l_ 41 false 1 40,
b_ 42 .gtr 39 41,
s_ 43 (.bib false (.t 37) (.t 42))] (some [5,43]) [3,8,9]) (
(.cond (.t 43) (
r_ [
l_ 44 false 1 5,
s_ 45 (.un .not (.t 44)),
n_ (.store 1 (.t 5) (.t 45))] [] [5]) (
.skip))))))))))) (some []) [8,9,21,36])
def A97_R0 : ACode := .rf 0 (.t 11) [12, 13]  A97_R0a A97_R0b
def A97 : AFn := .code [.cell false 1 4] (
(.seq (
r_ [
s_ 3 (.box (.t 1)),
s_ 4 (.alloc [i0_])] [0,3,4] []) (
(.seq (
r_ [
s_ 5 (.alloc [.bool false]),
n_ (.store 1 (.t 5) (.c (.bool false)))] [0,3,4,5] []) (
(.seq (
(.seq (
r_ [
m_ 10 0,
s_ 11 (.call 105 [.t 10])] [3,4,5,11] []) (
(.block 0 (
A97_R0) (some [4,5]) [7,8,9,21,36])))) (
(.seq (
(.seq (
r_ [
l_ 46 false 1 5] [4,46] [5]) (
(.cond (.t 46) (
(.seq (
r_ [
n_ (.store 1 (.t 4) (.c (.int .i64 1)))] [4] []) (
.ret))) (
.skip))))) (
(.seq (
r_ [
n_ (.store 1 (.t 4) (.c (.int .i64 (-1))))] [4] []) (
.ret)))))))))))
def A98 : AFn := .code [.t 8] (
(.seq (
r_ [
s_ 4 (.box (.t 0)),
s_ 5 (.box (.t 1)),
s_ 6 (.box (.t 2)),
s_ 7 (.box (.t 3)),
s_ 8 (.as (.c (.bool false)))] [4,5,6,7] []) (
(.seq (
(.seq (
r_ [
l_ 9 true 2 4,
l_ 10 true 2 5,
l_ 11 true 2 6,
s_ 12 (.call 107 [.t 9, .t 10, .t 11]),
m_ 13 12,
⟨some 14, .load true 2 (.t 4), some (13, false), true⟩,
⟨some 15, .load true 2 (.t 5), some (13, false), true⟩,
⟨some 16, .load true 2 (.t 7), some (13, false), true⟩,
⟨some 17, .call 107 [.t 14, .t 15, .t 16], some (13, false), true⟩,
s_ 18 (.pick (.t 13) (.c (.bool true)) (.t 17)),
m_ 19 18,
⟨some 20, .load true 2 (.t 6), some (19, false), true⟩,
⟨some 21, .load true 2 (.t 7), some (19, false), true⟩,
⟨some 22, .load true 2 (.t 4), some (19, false), true⟩,
⟨some 23, .call 107 [.t 20, .t 21, .t 22], some (19, false), true⟩,
s_ 24 (.pick (.t 19) (.c (.bool true)) (.t 23)),
m_ 25 24,
⟨some 26, .load true 2 (.t 6), some (25, false), true⟩,
⟨some 27, .load true 2 (.t 7), some (25, false), true⟩,
⟨some 28, .load true 2 (.t 5), some (25, false), true⟩,
⟨some 29, .call 107 [.t 26, .t 27, .t 28], some (25, false), true⟩,
s_ 30 (.pick (.t 25) (.c (.bool true)) (.t 29))] [4,5,6,7,30] []) (
(.cond (.t 30) (
(.seq (
r_ [
s_ 8 (.as (.c (.bool true)))] [8] []) (
.ret))) (
.skip))))) (
(.seq (
.reg (some [.dr [32, 33, 35, 36, 37] [], .dr [31, 33, 35, 36, 37] [], .dr [31, 32, 35, 36, 37] [], .dr [35, 36, 37] [], .dr [31, 32, 33, 34, 36, 37] [], .dr [31, 32, 33, 34, 35, 37] [], .dr [31, 32, 33, 34, 35, 36] [], .free, .free, .free, .free, .dr [43, 44, 46, 47, 48] [], .dr [42, 44, 46, 47, 48] [], .dr [42, 43, 46, 47, 48] [], .dr [46, 47, 48] [], .dr [42, 43, 44, 45, 47, 48] [], .dr [42, 43, 44, 45, 46, 48] [], .dr [42, 43, 44, 45, 46, 47] [], .free, .free, .free, .free, .free]) [
l_ 31 true 2 4,
l_ 32 true 2 5,
l_ 33 true 2 6,
s_ 34 (.call 73 [.t 31, .t 32, .t 33]),
l_ 35 true 2 4,
l_ 36 true 2 5,
l_ 37 true 2 7,
s_ 38 (.call 73 [.t 35, .t 36, .t 37]),
b_ 39 .mul 34 38,
s_ 40 (.bin .lss (.t 39) (.c (i0_))),
m_ 41 40,
⟨some 42, .load true 2 (.t 6), some (41, true), true⟩,
⟨some 43, .load true 2 (.t 7), some (41, true), true⟩,
⟨some 44, .load true 2 (.t 4), some (41, true), true⟩,
⟨some 45, .call 73 [.t 42, .t 43, .t 44], some (41, true), true⟩,
⟨some 46, .load true 2 (.t 6), some (41, true), true⟩,
⟨some 47, .load true 2 (.t 7), some (41, true), true⟩,
⟨some 48, .load true 2 (.t 5), some (41, true), true⟩,
⟨some 49, .call 73 [.t 46, .t 47, .t 48], some (41, true), true⟩,
⟨some 50, .bin .mul (.t 45) (.t 49), some (41, true), true⟩,
⟨some 51, .bin .lss (.t 50) (.c (i0_)), some (41, true), true⟩,
s_ 52 (.pick (.t 41) (.t 51) (.c (.bool false))),
s_ 8 (.as (.t 52))] (some [8]) [4,5,6,7]) (
.ret)))))))
def A99 : AFn := .code [.t 4] (
(.seq (
r_ [
s_ 4 (.as (.c (i0_)))] [0,1] []) (
(.seq (
r_ [
m_ 5 1,
s_ 6 (.bin .add (.t 5) (.c (.int .i64 1))),
m_ 7 0,
s_ 8 (.len 0 (.t 7)),
s_ 9 (.bin .rem (.t 6) (.t 8)),
s_ 4 (.as (.t 9))] [4] []) (
.ret)))))
def A100_L0b : ACode :=
(.seq (
(.seq (
r_ [
m_ 9 6,
m_ 10 0,
s_ 11 (.len 0 (.t 10)),
b_ 12 .lss 9 11] [0,3,5,6,12] []) (
(.cond (.t 12) (
.skip) (
.exit 0))))) (
(.seq (
(.block 1 (
(.seq (
r_ [
m_ 15 0,
m_ 16 6,
s_ 17 (.call 68 [.t 15, .t 16]),
s_ 7 (.alloc [i0_, i0_]),
n_ (.store 2 (.t 7) (.t 17))] [0,3,5,6,7] []) (
(.seq (
r_ [
m_ 18 0,
m_ 19 6,
s_ 20 (.bin .add (.t 19) (.c (.int .i64 1))),
s_ 21 (.call 68 [.t 18, .t 20]),
s_ 8 (.alloc [i0_, i0_]),
n_ (.store 2 (.t 8) (.t 21))] [0,3,5,6,7,8] []) (
(.seq (
(.seq (
r_ [
l_ 22 true 2 7,
l_ 23 true 2 8,
l_ 24 true 2 3,
s_ 25 (.call 84 [.t 22, .t 23, .t 24])] [0,3,5,6,7,8,25] []) (
(.cond (.t 25) (
(.seq (
r_ [
s_ 4 (.as (.c (i0_)))] [4] []) (
.ret))) (
.skip))))) (
(.seq (
(.seq (
r_ [
s_ 26 (.fad 1 (.t 7)),
l_ 27 false 1 26,
s_ 28 (.fad 1 (.t 3)),
l_ 29 false 1 28,
b_ 30 .leq 27 29,
m_ 31 30,
⟨some 32, .fad 1 (.t 8), some (31, true), true⟩,
⟨some 33, .load false 1 (.t 32), some (31, true), true⟩,
⟨some 34, .fad 1 (.t 3), some (31, true), true⟩,
⟨some 35, .load false 1 (.t 34), some (31, true), true⟩,
⟨some 36, .bin .gtr (.t 33) (.t 35), some (31, true), true⟩,
s_ 37 (.pick (.t 31) (.t 36) (.c (.bool false))),
m_ 38 37,
⟨some 39, .load true 2 (.t 7), some (38, true), true⟩,
⟨some 40, .load true 2 (.t 8), some (38, true), true⟩,
⟨some 41, .load true 2 (.t 3), some (38, true), true⟩,
⟨some 42, .call 67 [.t 39, .t 40, .t 41], some (38, true), true⟩,
⟨some 43, .bin .gtr (.t 42) (.c (i0_)), some (38, true), true⟩,
s_ 44 (.pick (.t 38) (.t 43) (.c (.bool false)))] [0,3,5,6,7,8,44] []) (
(.cond (.t 44) (
r_ [
m_ 45 5,
s_ 46 (.bin .add (.t 45) (.c (.int .i64 1))),
s_ 5 (.as (.t 46))] [0,3,5,6,7,8] []) (
.skip))))) (
(.seq (
r_ [
s_ 47 (.fad 1 (.t 8)),
l_ 48 false 1 47,
s_ 49 (.fad 1 (.t 3)),
l_ 50 false 1 49,
b_ 51 .leq 48 50,
m_ 52 51,
⟨some 53, .fad 1 (.t 7), some (52, true), true⟩,
⟨some 54, .load false 1 (.t 53), some (52, true), true⟩,
⟨some 55, .fad 1 (.t 3), some (52, true), true⟩,
⟨some 56, .load false 1 (.t 55), some (52, true), true⟩,
⟨some 57, .bin .gtr (.t 54) (.t 56), some (52, true), true⟩,
s_ 58 (.pick (.t 52) (.t 57) (.c (.bool false))),
m_ 59 58,
⟨some 60, .load true 2 (.t 8), some (59, true), true⟩,
⟨some 61, .load true 2 (.t 7), some (59, true), true⟩,
⟨some 62, .load true 2 (.t 3), some (59, true), true⟩,
⟨some 63, .call 67 [.t 60, .t 61, .t 62], some (59, true), true⟩,
⟨some 64, .bin .gtr (.t 63) (.c (i0_)), some (59, true), true⟩,
s_ 65 (.pick (.t 59) (.t 64) (.c (.bool false)))] [0,3,5,6,65] [7,8]) (
(.cond (.t 65) (
r_ [
m_ 66 5,
s_ 67 (.bin .add (.t 66) (.c (.int .i64 1))),
s_ 5 (.as (.t 67))] [0,3,5,6] []) (
.skip))))))))))))) (some [0,3,5,6]) [4,7,8,17,21,25,42,63])) (
r_ [
m_ 13 6,
s_ 14 (.bin .add (.t 13) (.c (.int .i64 1))),
s_ 6 (.as (.t 14))] [0,3,5,6] []))))
def A100_L0 : ACode := .loop A100_L0b (some [0,3,5,6]) [4,7,8,17,21,25,42,63]
def A100 : AFn := .code [.t 4] (
(.seq (
r_ [
s_ 3 (.box (.t 1)),
s_ 4 (.as (.c (i0_)))] [0,3] []) (
(.seq (
r_ [
s_ 5 (.as (.c (i0_)))] [0,3,5] []) (
(.seq (
(.seq (
r_ [
s_ 6 (.as (.c (i0_)))] [0,3,5,6] []) (
(.block 0 (
A100_L0) (some [5]) [4,6,7,8,17,21,25,42,63])))) (
(.seq (
(.seq (
r_ [
m_ 68 5,
s_ 69 (.bin .rem (.t 68) (.c (.int .i64 2))),
s_ 70 (.bin .eql (.t 69) (.c (.int .i64 1)))] [70] []) (
(.cond (.t 70) (
(.seq (
r_ [
s_ 4 (.as (.c (.int .i64 1)))] [4] []) (
.ret))) (
.skip))))) (
(.seq (
r_ [
s_ 4 (.as (.c (.int .i64 (-1))))] [4] []) (
.ret)))))))))))
def A101 : AFn := .code [.t 6] (
(.seq (
r_ [
s_ 6 (.as (.c (.bool false)))] [0,1,2] []) (
(.seq (
r_ [
m_ 7 0,
m_ 8 2,
b_ 9 .leq 7 8,
m_ 10 9,
⟨some 11, .mv (.t 2), some (10, true), true⟩,
⟨some 12, .mv (.t 1), some (10, true), true⟩,
⟨some 13, .bin .leq (.t 11) (.t 12), some (10, true), true⟩,
s_ 14 (.pick (.t 10) (.t 13) (.c (.bool false))),
m_ 15 14,
⟨some 16, .mv (.t 1), some (15, false), true⟩,
⟨some 17, .mv (.t 2), some (15, false), true⟩,
⟨some 18, .bin .leq (.t 16) (.t 17), some (15, false), true⟩,
⟨some 19, .mv (.t 18), some (15, false), true⟩,
⟨some 20, .mv (.t 2), some (19, true), true⟩,
⟨some 21, .mv (.t 0), some (19, true), true⟩,
⟨some 22, .bin .leq (.t 20) (.t 21), some (19, true), true⟩,
⟨some 23, .pick (.t 19) (.t 22) (.c (.bool false)), some (15, false), true⟩,
s_ 24 (.pick (.t 15) (.c (.bool true)) (.t 23)),
s_ 6 (.as (.t 24))] [6] []) (
.ret)))))
def A102 : AFn := .code [.t 3] (
(.seq (
r_ [
s_ 3 (.as (.c (.bool false)))] [0,1] []) (
(.seq (
r_ [
m_ 4 0,
l_ 5 false 1 1,
s_ 6 (.un .neg (.t 5)),
b_ 7 .geq 4 6,
m_ 8 7,
⟨some 9, .mv (.t 0), some (8, true), true⟩,
⟨some 10, .load false 1 (.t 1), some (8, true), true⟩,
⟨some 11, .bin .leq (.t 9) (.t 10), some (8, true), true⟩,
s_ 12 (.pick (.t 8) (.t 11) (.c (.bool false))),
s_ 3 (.as (.t 12))] [3] []) (
.ret)))))
def A103_L0b : ACode :=
(.seq (
r_ [
b_ 22 .lss 21 20] [6,7,20,21,22] []) (
(.seq (
(.cond (.t 22) (
.skip) (
.exit 0))) (
(.seq (
(.block 1 (
r_ [
m_ 23 7,
l_ 24 true 2 6,
s_ 25 (.cal (.t 23) [.t 24]),
n_ (.store 2 (.t 6) (.t 25))] [6,7,20,21] []) (some [6,7,20,21]) [])) (
r_ [
s_ 26 (.bin .add (.t 21) (.c (.int .i64 1))),
m_ 21 26] [6,7,20,21] []))))))
def A103_L0 : ACode := .loop A103_L0b (some [6,7,20,21]) []
def A103 : AFn := .code [.t 2, .t 3] (
(.seq (
r_ [
s_ 2 (.as (.c (i0_))),
s_ 3 (.as (.c (i0_)))] [0] []) (
(.seq (
r_ [
m_ 8 0,
s_ 9 (.call 108 [.t 8]),
s_ 4 (.as (.t 9))] [4] []) (
(.seq (
r_ [
s_ 10 (.call 109 []),
m_ 11 4,
s_ 12 (.bin .rem (.t 11) (.c (.int .i64 9))),
s_ 13 (.ixa true 9 2 (.t 10) (.t 12)),
s_ 5 (.alloc [i0_, i0_]),
n_ (.store 2 (.t 5) (.t 13))] [4,5] []) (
(.seq (
r_ [
s_ 14 (.iaa 2 1 (.t 5) (.c (i0_))),
l_ 15 false 1 14,
s_ 16 (.iaa 2 1 (.t 5) (.c (.int .i64 1))),
l_ 17 false 1 16,
s_ 18 (.build [i0_, i0_] [(0, 1, .t 15), (1, 1, .t 17)]),
s_ 6 (.alloc [i0_, i0_]),
n_ (.store 2 (.t 6) (.t 18))] [4,6] [5]) (
(.seq (
r_ [
s_ 7 (.as (.fu 91))] [4,6,7] []) (
(.seq (
(.seq (
r_ [
m_ 19 4,
s_ 20 (.bin .quo (.t 19) (.c (.int .i64 9))),
s_ 21 (.mv (.c (i0_)))] [6,7,20,21] []) (
(.block 0 (
A103_L0) (some [6]) [])))) (
(.seq (
.reg (some [.dr [30] [], .dr [30] [], .dr [28] [], .dr [28] [], .dr [30] [], .free]) [
s_ 27 (.fad 0 (.t 6)),
l_ 28 false 1 27,
s_ 29 (.fad 1 (.t 6)),
l_ 30 false 1 29,
s_ 2 (.as (.t 28)),
s_ 3 (.as (.t 30))] (some [2,3]) [6]) (
.ret)))))))))))))))
def A104 : AFn := .code [.t 2] (
(.seq (
r_ [
s_ 2 (.as (.c (i0_)))] [0] []) (
(.seq (
r_ [
m_ 3 0,
s_ 4 (.bin .rem (.t 3) (.c (.int .i64 36))),
s_ 5 (.bin .add (.t 4) (.c (.int .i64 36))),
s_ 6 (.bin .rem (.t 5) (.c (.int .i64 36))),
s_ 2 (.as (.t 6))] [2] []) (
.ret)))))
def A105 : AFn := .code [.t 2] (
(.seq (
r_ [
s_ 1 (.box (.t 0)),
s_ 2 (.as (.c (.nilf)))] [1] []) (
(.seq (
r_ [
s_ 3 (.mkf (.func 110) [] [.t 1]),
s_ 2 (.as (.t 3))] [2] []) (
.ret)))))
def A106 : AFn := .code [.t 6] (
(.seq (
r_ [
s_ 3 (.box (.t 0)),
s_ 4 (.box (.t 1)),
s_ 5 (.box (.t 2)),
s_ 6 (.as (.c (.bool false)))] [3,4,5] []) (
(.seq (
r_ [
l_ 7 true 2 3,
l_ 8 true 2 4,
l_ 9 true 2 5,
s_ 10 (.call 96 [.t 7, .t 8, .t 9]),
m_ 11 10,
⟨some 12, .load true 2 (.t 3), some (11, true), true⟩,
⟨some 13, .load true 2 (.t 4), some (11, true), true⟩,
⟨some 14, .load true 2 (.t 5), some (11, true), true⟩,
⟨some 15, .call 95 [.t 12, .t 13, .t 14], some (11, true), true⟩,
⟨some 16, .bin .eql (.t 15) (.c (i0_)), some (11, true), true⟩,
s_ 17 (.pick (.t 11) (.t 16) (.c (.bool false))),
s_ 6 (.as (.t 17))] [6] [3,4,5]) (
.ret)))))
def A107 : AFn := .code [.t 6] (
(.seq (
r_ [
s_ 3 (.box (.t 0)),
s_ 4 (.box (.t 1)),
s_ 5 (.box (.t 2)),
s_ 6 (.as (.c (.bool false)))] [3,4,5] []) (
(.seq (
r_ [
l_ 7 true 2 3,
l_ 8 true 2 4,
l_ 9 true 2 5,
s_ 10 (.call 73 [.t 7, .t 8, .t 9]),
s_ 11 (.bin .eql (.t 10) (.c (i0_))),
m_ 12 11,
⟨some 13, .fad 0 (.t 3), some (12, true), true⟩,
⟨some 14, .load false 1 (.t 13), some (12, true), true⟩,
⟨some 15, .fad 0 (.t 4), some (12, true), true⟩,
⟨some 16, .load false 1 (.t 15), some (12, true), true⟩,
⟨some 17, .fad 0 (.t 5), some (12, true), true⟩,
⟨some 18, .load false 1 (.t 17), some (12, true), true⟩,
⟨some 19, .call 111 [.t 14, .t 16, .t 18], some (12, true), true⟩,
s_ 20 (.pick (.t 12) (.t 19) (.c (.bool false))),
m_ 21 20,
⟨some 22, .fad 1 (.t 3), some (21, true), true⟩,
⟨some 23, .load false 1 (.t 22), some (21, true), true⟩,
⟨some 24, .fad 1 (.t 4), some (21, true), true⟩,
⟨some 25, .load false 1 (.t 24), some (21, true), true⟩,
⟨some 26, .fad 1 (.t 5), some (21, true), true⟩,
⟨some 27, .load false 1 (.t 26), some (21, true), true⟩,
⟨some 28, .call 111 [.t 23, .t 25, .t 27], some (21, true), true⟩,
s_ 29 (.pick (.t 21) (.t 28) (.c (.bool false))),
s_ 6 (.as (.t 29))] [6] [3,4,5]) (
.ret)))))
def A108 : AFn := .code [.t 2] (
(.seq (
r_ [
s_ 2 (.as (.c (i0_)))] [0] []) (
(.seq (
r_ [
m_ 3 0,
s_ 4 (.bin .rem (.t 3) (.c (.int .i64 36))),
s_ 0 (.as (.t 4))] [0] []) (
(.seq (
(.seq (
r_ [
m_ 5 0,
s_ 6 (.bin .lss (.t 5) (.c (i0_)))] [0,6] []) (
(.cond (.t 6) (
r_ [
m_ 7 0,
s_ 8 (.bin .add (.t 7) (.c (.int .i64 36))),
s_ 0 (.as (.t 8))] [0] []) (
.skip))))) (
(.seq (
r_ [
m_ 9 0,
s_ 2 (.as (.t 9))] [2] []) (
.ret)))))))))
def A109 : AFn := .code [.cell true 18 0] (
(.seq (
r_ [
s_ 0 (.alloc [i0_, i0_, i0_, i0_, i0_, i0_, i0_, i0_, i0_, i0_, i0_, i0_, i0_, i0_, i0_, i0_, i0_, i0_])] [0] []) (
(.seq (
r_ [
s_ 1 (.build [i0_, i0_] [(0, 1, .c (.int .i64 65)), (1, 1, .c (i0_))]),
s_ 2 (.build [i0_, i0_] [(0, 1, .c (.int .i64 63)), (1, 1, .c (.int .i64 16))]),
s_ 3 (.build [i0_, i0_] [(0, 1, .c (.int .i64 60)), (1, 1, .c (.int .i64 25))]),
s_ 4 (.build [i0_, i0_] [(0, 1, .c (.int .i64 56)), (1, 1, .c (.int .i64 33))]),
s_ 5 (.build [i0_, i0_] [(0, 1, .c (.int .i64 52)), (1, 1, .c (.int .i64 39))]),
s_ 6 (.build [i0_, i0_] [(0, 1, .c (.int .i64 39)), (1, 1, .c (.int .i64 52))]),
s_ 7 (.build [i0_, i0_] [(0, 1, .c (.int .i64 33)), (1, 1, .c (.int .i64 56))]),
s_ 8 (.build [i0_, i0_] [(0, 1, .c (.int .i64 25)), (1, 1, .c (.int .i64 60))]),
s_ 9 (.build [i0_, i0_] [(0, 1, .c (.int .i64 16)), (1, 1, .c (.int .i64 63))]),
s_ 10 (.build [i0_, i0_, i0_, i0_, i0_, i0_, i0_, i0_, i0_, i0_, i0_, i0_, i0_, i0_, i0_, i0_, i0_, i0_] [(0, 2, .t 1), (2, 2, .t 2), (4, 2, .t 3), (6, 2, .t 4), (8, 2, .t 5), (10, 2, .t 6), (12, 2, .t 7), (14, 2, .t 8), (16, 2, .t 9)]),
n_ (.store 18 (.t 0) (.t 10))] [0] []) (
.ret)))))
def A110_L0b : ACode :=
(.seq (
r_ [
b_ 8 .lss 7 6] [0,1,5,6,7,8] []) (
(.seq (
(.cond (.t 8) (
.skip) (
.exit 0))) (
(.seq (
(.block 1 (
(.seq (
r_ [
m_ 9 7,
s_ 10 (.ias 2 (.t 5) (.t 7)),
l_ 11 true 2 10,
s_ 4 (.alloc [i0_, i0_]),
s_ 3 (.as (.t 9)),
n_ (.store 2 (.t 4) (.t 11))] [0,1,3,4,5,6,7] []) (
(.seq (
.reg (some [.dr [14, 15, 18, 19, 21, 22] [], .dr [14, 15, 18, 19, 21, 22] [], .dr [15, 18, 19, 21, 22] [], .dr [14, 18, 19] [], .dr [14, 15, 18, 19] [], .dr [14, 15, 18, 19] [], .dr [14, 15] [], .dr [14, 15] [], .dr [14, 15] [], .dr [14] [], .dr [14] [], .dr [] [], .free, .free]) [
m_ 12 0,
m_ 13 3,
l_ 14 true 2 4,
l_ 15 false 1 1,
m_ 16 3,
s_ 17 (.bin .add (.t 16) (.c (.int .i64 1))),
l_ 18 false 1 1,
s_ 19 (.len 0 (.t 18)),
s_ 20 (.bin .rem (.t 17) (.t 19)),
s_ 21 (.ias 2 (.t 15) (.t 20)),
l_ 22 true 2 21,
s_ 23 (.build [i0_, i0_, i0_, i0_] [(0, 2, .t 14), (2, 2, .t 22)]),
s_ 24 (.cal (.t 12) [.t 13, .t 23]),
s_ 25 (.un .not (.t 24))] (some [0,1,5,6,7,25]) [4]) (
(.cond (.t 25) (
.ret) (
.skip))))))) (some [0,1,5,6,7]) [3,4,24])) (
r_ [
s_ 26 (.bin .add (.t 7) (.c (.int .i64 1))),
m_ 7 26] [0,1,5,6,7] []))))))
def A110_L0 : ACode := .loop A110_L0b (some [0,1,5,6,7]) [3,4,24]
def A110 : AFn := .code [] (
(.seq (
r_ [
l_ 5 false 1 1,
s_ 6 (.len 0 (.t 5)),
s_ 7 (.mv (.c (i0_)))] [0,1,5,6,7] []) (
(.block 0 (
A110_L0) (some []) [3,4,24]))))
def A111 : AFn := .code [.t 6] (
(.seq (
r_ [
s_ 6 (.as (.c (.bool false)))] [0,1,2] []) (
(.seq (
r_ [
m_ 7 2,
m_ 8 0,
m_ 9 1,
s_ 10 (.mn [.t 8, .t 9]),
b_ 11 .geq 7 10,
m_ 12 11,
⟨some 13, .mv (.t 2), some (12, true), true⟩,
⟨some 14, .mv (.t 0), some (12, true), true⟩,
⟨some 15, .mv (.t 1), some (12, true), true⟩,
⟨some 16, .mx [.t 14, .t 15], some (12, true), true⟩,
⟨some 17, .bin .leq (.t 13) (.t 16), some (12, true), true⟩,
s_ 18 (.pick (.t 12) (.t 17) (.c (.bool false))),
s_ 6 (.as (.t 18))] [6] []) (
.ret)))))

end Go.Proofs.YtnecdcaaknhgpaaGreat

namespace Go.Proofs.YtnecdcaaknhgpaaGreat
open Go Go.Zv

def E : FuncId → Option AFn
 | 2 => some A2
 | 3 => some A3
 | 4 => some A4
 | 5 => some A5
 | 6 => some A6
 | 7 => some A7
 | 8 => some A8
 | 9 => some A9
 | 10 => some A10
 | 11 => some A11
 | 12 => some A12
 | 13 => some A13
 | 14 => some A14
 | 15 => some A15
 | 16 => some A16
 | 17 => some A17
 | 18 => some A18
 | 19 => some A19
 | 20 => some A20
 | 21 => some A21
 | 22 => some A22
 | 23 => some A23
 | 24 => some A24
 | 25 => some A25
 | 26 => some A26
 | 27 => some A27
 | 28 => some A28
 | 29 => some A29
 | 30 => some A30
 | 31 => some A31
 | 32 => some A32
 | 33 => some A33
 | 34 => some A34
 | 35 => some A35
 | 36 => some A36
 | 37 => some A37
 | 38 => some A38
 | 39 => some A39
 | 40 => some A40
 | 41 => some A41
 | 42 => some A42
 | 43 => some A43
 | 44 => some A44
 | 45 => some A45
 | 46 => some A46
 | 47 => some A47
 | 48 => some A48
 | 49 => some A49
 | 50 => some A50
 | 51 => some A51
 | 52 => some A52
 | 53 => some A53
 | 54 => some A54
 | 55 => some A55
 | 56 => some A56
 | 57 => some A57
 | 58 => some A58
 | 59 => some A59
 | 60 => some A60
 | 61 => some A61
 | 62 => some A62
 | 63 => some A63
 | 64 => some A64
 | 65 => some A65
 | 66 => some A66
 | 67 => some A67
 | 68 => some A68
 | 69 => some A69
 | 70 => some A70
 | 71 => some A71
 | 72 => some A72
 | 73 => some A73
 | 74 => some A74
 | 75 => some A75
 | 76 => some A76
 | 77 => some A77
 | 78 => some A78
 | 79 => some A79
 | 80 => some A80
 | 81 => some A81
 | 82 => some A82
 | 83 => some A83
 | 84 => some A84
 | 85 => some A85
 | 86 => some A86
 | 87 => some A87
 | 88 => some A88
 | 89 => some A89
 | 90 => some A90
 | 91 => some A91
 | 92 => some A92
 | 93 => some A93
 | 94 => some A94
 | 95 => some A95
 | 96 => some A96
 | 97 => some A97
 | 98 => some A98
 | 99 => some A99
 | 100 => some A100
 | 101 => some A101
 | 102 => some A102
 | 103 => some A103
 | 104 => some A104
 | 105 => some A105
 | 106 => some A106
 | 107 => some A107
 | 108 => some A108
 | 109 => some A109
 | 110 => some A110
 | 111 => some A111
 | _ => none
theorem E_3 : E 3 = some A3 := rfl
theorem E_4 : E 4 = some A4 := rfl
theorem E_5 : E 5 = some A5 := rfl
theorem E_6 : E 6 = some A6 := rfl
theorem E_7 : E 7 = some A7 := rfl
theorem E_8 : E 8 = some A8 := rfl
theorem E_9 : E 9 = some A9 := rfl
theorem E_10 : E 10 = some A10 := rfl
theorem E_11 : E 11 = some A11 := rfl
theorem E_12 : E 12 = some A12 := rfl
theorem E_14 : E 14 = some A14 := rfl
theorem E_15 : E 15 = some A15 := rfl
theorem E_16 : E 16 = some A16 := rfl
theorem E_17 : E 17 = some A17 := rfl
theorem E_18 : E 18 = some A18 := rfl
theorem E_19 : E 19 = some A19 := rfl
theorem E_20 : E 20 = some A20 := rfl
theorem E_21 : E 21 = some A21 := rfl
theorem E_22 : E 22 = some A22 := rfl
theorem E_23 : E 23 = some A23 := rfl
theorem E_24 : E 24 = some A24 := rfl
theorem E_25 : E 25 = some A25 := rfl
theorem E_26 : E 26 = some A26 := rfl
theorem E_27 : E 27 = some A27 := rfl
theorem E_28 : E 28 = some A28 := rfl
theorem E_30 : E 30 = some A30 := rfl
theorem E_31 : E 31 = some A31 := rfl
theorem E_32 : E 32 = some A32 := rfl
theorem E_33 : E 33 = some A33 := rfl
theorem E_34 : E 34 = some A34 := rfl
theorem E_35 : E 35 = some A35 := rfl
theorem E_36 : E 36 = some A36 := rfl
theorem E_37 : E 37 = some A37 := rfl
theorem E_38 : E 38 = some A38 := rfl
theorem E_39 : E 39 = some A39 := rfl
theorem E_40 : E 40 = some A40 := rfl
theorem E_41 : E 41 = some A41 := rfl
theorem E_42 : E 42 = some A42 := rfl
theorem E_43 : E 43 = some A43 := rfl
theorem E_44 : E 44 = some A44 := rfl
theorem E_45 : E 45 = some A45 := rfl
theorem E_46 : E 46 = some A46 := rfl
theorem E_47 : E 47 = some A47 := rfl
theorem E_48 : E 48 = some A48 := rfl
theorem E_49 : E 49 = some A49 := rfl
theorem E_50 : E 50 = some A50 := rfl
theorem E_51 : E 51 = some A51 := rfl
theorem E_52 : E 52 = some A52 := rfl
theorem E_53 : E 53 = some A53 := rfl
theorem E_54 : E 54 = some A54 := rfl
theorem E_55 : E 55 = some A55 := rfl
theorem E_56 : E 56 = some A56 := rfl
theorem E_57 : E 57 = some A57 := rfl
theorem E_58 : E 58 = some A58 := rfl
theorem E_59 : E 59 = some A59 := rfl
theorem E_60 : E 60 = some A60 := rfl
theorem E_61 : E 61 = some A61 := rfl
theorem E_62 : E 62 = some A62 := rfl
theorem E_63 : E 63 = some A63 := rfl
theorem E_64 : E 64 = some A64 := rfl
theorem E_65 : E 65 = some A65 := rfl
theorem E_66 : E 66 = some A66 := rfl
theorem E_67 : E 67 = some A67 := rfl
theorem E_68 : E 68 = some A68 := rfl
theorem E_69 : E 69 = some A69 := rfl
theorem E_70 : E 70 = some A70 := rfl
theorem E_71 : E 71 = some A71 := rfl
theorem E_72 : E 72 = some A72 := rfl
theorem E_73 : E 73 = some A73 := rfl
theorem E_74 : E 74 = some A74 := rfl
theorem E_75 : E 75 = some A75 := rfl
theorem E_76 : E 76 = some A76 := rfl
theorem E_77 : E 77 = some A77 := rfl
theorem E_78 : E 78 = some A78 := rfl
theorem E_79 : E 79 = some A79 := rfl
theorem E_80 : E 80 = some A80 := rfl
theorem E_81 : E 81 = some A81 := rfl
theorem E_82 : E 82 = some A82 := rfl
theorem E_83 : E 83 = some A83 := rfl
theorem E_84 : E 84 = some A84 := rfl
theorem E_85 : E 85 = some A85 := rfl
theorem E_86 : E 86 = some A86 := rfl
theorem E_87 : E 87 = some A87 := rfl
theorem E_88 : E 88 = some A88 := rfl
theorem E_89 : E 89 = some A89 := rfl
theorem E_90 : E 90 = some A90 := rfl
theorem E_91 : E 91 = some A91 := rfl
theorem E_92 : E 92 = some A92 := rfl
theorem E_93 : E 93 = some A93 := rfl
theorem E_94 : E 94 = some A94 := rfl
theorem E_95 : E 95 = some A95 := rfl
theorem E_96 : E 96 = some A96 := rfl
theorem E_97 : E 97 = some A97 := rfl
theorem E_98 : E 98 = some A98 := rfl
theorem E_99 : E 99 = some A99 := rfl
theorem E_100 : E 100 = some A100 := rfl
theorem E_101 : E 101 = some A101 := rfl
theorem E_102 : E 102 = some A102 := rfl
theorem E_103 : E 103 = some A103 := rfl
theorem E_104 : E 104 = some A104 := rfl
theorem E_105 : E 105 = some A105 := rfl
theorem E_106 : E 106 = some A106 := rfl
theorem E_107 : E 107 = some A107 := rfl
theorem E_108 : E 108 = some A108 := rfl
theorem E_109 : E 109 = some A109 := rfl
theorem E_110 : E 110 = some A110 := rfl
theorem E_111 : E 111 = some A111 := rfl
theorem A5_L0_eq (s : St) : K E A5_L0 s = (K E A5_L0b s).bind (loopF E A5_L0 (some [2, 3, 4, 5, 8, 9]) [6, 7, 16, 19]) := loop_fold rfl s
theorem A9_L0_eq (s : St) : K E A9_L0 s = (K E A9_L0b s).bind (loopF E A9_L0 (some [2, 5, 6, 7, 8]) [4, 37]) := loop_fold rfl s
theorem A9_L1_eq (s : St) : K E A9_L1 s = (K E A9_L1b s).bind (loopF E A9_L1 (some [2, 5, 6, 7]) [4, 8, 37]) := loop_fold rfl s
theorem A10_L0_eq (s : St) : K E A10_L0 s = (K E A10_L0b s).bind (loopF E A10_L0 (some [0, 1, 5]) [4]) := loop_fold rfl s
theorem A11_L0_eq (s : St) : K E A11_L0 s = (K E A11_L0b s).bind (loopF E A11_L0 (some [3, 4, 5, 6, 9, 12, 13, 14]) [11, 25]) := loop_fold rfl s
theorem A12_L0_eq (s : St) : K E A12_L0 s = (K E A12_L0b s).bind (loopF E A12_L0 (some [3, 9, 15]) [107]) := loop_fold rfl s
theorem A12_L1_eq (s : St) : K E A12_L1 s = (K E A12_L1b s).bind (loopF E A12_L1 (some [3, 4, 6, 9, 13, 14]) [86, 92]) := loop_fold rfl s
theorem A12_L2_eq (s : St) : K E A12_L2 s = (K E A12_L2b s).bind (loopF E A12_L2 (some [3, 4, 6, 9, 13]) [14, 86, 92]) := loop_fold rfl s
theorem A12_L3_eq (s : St) : K E A12_L3 s = (K E A12_L3b s).bind (loopF E A12_L3 (some [3, 4, 5, 6, 9, 10, 11]) [12, 35, 43, 55]) := loop_fold rfl s
theorem A12_L4_eq (s : St) : K E A12_L4 s = (K E A12_L4b s).bind (loopF E A12_L4 (some [3, 4, 5, 6, 9, 10]) [11, 12, 35, 43, 55]) := loop_fold rfl s
theorem A15_L0_eq (s : St) : K E A15_L0 s = (K E A15_L0b s).bind (loopF E A15_L0 (some [0, 3]) []) := loop_fold rfl s
theorem A16_L0_eq (s : St) : K E A16_L0 s = (K E A16_L0b s).bind (loopF E A16_L0 (some [1, 3]) [2, 4, 5, 16, 24]) := loop_fold rfl s
theorem A17_L0_eq (s : St) : K E A17_L0 s = (K E A17_L0b s).bind (loopF E A17_L0 (some [2, 3, 5]) [4]) := loop_fold rfl s
theorem A22_L0_eq (s : St) : K E A22_L0 s = (K E A22_L0b s).bind (loopF E A22_L0 (some [1, 3, 4, 5, 23, 24, 28, 29]) [7, 8, 9, 51]) := loop_fold rfl s
theorem A22_L1_eq (s : St) : K E A22_L1 s = (K E A22_L1b s).bind (loopF E A22_L1 (some [1, 3, 4, 23, 24]) [5, 6, 7, 8, 9, 51]) := loop_fold rfl s
theorem A24_L1_eq (s : St) : K E A24_L1 s = (K E A24_L1b s).bind (loopF E A24_L1 (some [1, 2, 3, 4, 5, 10, 11, 17, 18, 19]) [6, 7, 8, 36, 41, 46]) := loop_fold rfl s
theorem A24_L2_eq (s : St) : K E A24_L2 s = (K E A24_L2b s).bind (loopF E A24_L2 (some [1, 2, 3, 10, 11]) [4, 5, 6, 7, 8, 36, 41, 46]) := loop_fold rfl s
theorem A25_L0_eq (s : St) : K E A25_L0 s = (K E A25_L0b s).bind (loopF E A25_L0 (some [3, 7, 8, 9]) [4, 5, 18]) := loop_fold rfl s
theorem A27_L0_eq (s : St) : K E A27_L0 s = (K E A27_L0b s).bind (loopF E A27_L0 (some [0, 3]) [2]) := loop_fold rfl s
theorem A28_L0_eq (s : St) : K E A28_L0 s = (K E A28_L0b s).bind (loopF E A28_L0 (some [3, 4, 9, 10]) [8, 31]) := loop_fold rfl s
theorem A30_L0_eq (s : St) : K E A30_L0 s = (K E A30_L0b s).bind (loopF E A30_L0 (some [1, 3, 4]) [2]) := loop_fold rfl s
theorem A31_L0_eq (s : St) : K E A31_L0 s = (K E A31_L0b s).bind (loopF E A31_L0 (some [2, 3, 5]) [4]) := loop_fold rfl s
theorem A33_L0_eq (s : St) : K E A33_L0 s = (K E A33_L0b s).bind (loopF E A33_L0 (some [0, 3]) [2, 17]) := loop_fold rfl s
theorem A34_L0_eq (s : St) : K E A34_L0 s = (K E A34_L0b s).bind (loopF E A34_L0 (some [1, 3, 4]) [19]) := loop_fold rfl s
theorem A35_L0_eq (s : St) : K E A35_L0 s = (K E A35_L0b s).bind (loopF E A35_L0 (some [0, 3, 4]) [2, 5, 19, 62]) := loop_fold rfl s
theorem A36_L0_eq (s : St) : K E A36_L0 s = (K E A36_L0b s).bind (loopF E A36_L0 (some [0, 1, 5, 6, 7]) [4, 20, 28, 35]) := loop_fold rfl s
theorem A37_L0_eq (s : St) : K E A37_L0 s = (K E A37_L0b s).bind (loopF E A37_L0 (some [0, 1, 5, 6]) [4]) := loop_fold rfl s
theorem A37_L1_eq (s : St) : K E A37_L1 s = (K E A37_L1b s).bind (loopF E A37_L1 (some [0, 1, 5]) [4, 6]) := loop_fold rfl s
theorem A38_L0_eq (s : St) : K E A38_L0 s = (K E A38_L0b s).bind (loopF E A38_L0 (some [0, 2, 17, 18, 19, 25, 26]) [9, 31]) := loop_fold rfl s
theorem A38_L1_eq (s : St) : K E A38_L1 s = (K E A38_L1b s).bind (loopF E A38_L1 (some [0, 2, 17, 18, 19]) [7, 9, 25, 31]) := loop_fold rfl s
theorem A39_L0_eq (s : St) : K E A39_L0 s = (K E A39_L0b s).bind (loopF E A39_L0 (some [4, 5, 6, 7, 22, 23]) [8, 9, 37]) := loop_fold rfl s
theorem A42_L0_eq (s : St) : K E A42_L0 s = (K E A42_L0b s).bind (loopF E A42_L0 (some [2, 4, 5, 6, 7, 8]) [9, 10, 11, 28, 46, 52, 58, 63, 64]) := loop_fold rfl s
theorem A43_L0_eq (s : St) : K E A43_L0 s = (K E A43_L0b s).bind (loopF E A43_L0 (some [0, 2, 3, 4, 5, 6]) []) := loop_fold rfl s
theorem A49_L0_eq (s : St) : K E A49_L0 s = (K E A49_L0b s).bind (loopF E A49_L0 (some [0, 3, 5, 6]) [2, 62, 66, 69, 73, 74]) := loop_fold rfl s
theorem A49_L1_eq (s : St) : K E A49_L1 s = (K E A49_L1b s).bind (loopF E A49_L1 (some [0, 3, 5]) [2, 6, 33, 37, 41, 42, 62, 66, 69, 73, 74]) := loop_fold rfl s
theorem A49_L2_eq (s : St) : K E A49_L2 s = (K E A49_L2b s).bind (loopF E A49_L2 (some [0, 3, 4]) [2, 24]) := loop_fold rfl s
theorem A51_L0_eq (s : St) : K E A51_L0 s = (K E A51_L0b s).bind (loopF E A51_L0 (some [0, 3, 4]) [2]) := loop_fold rfl s
theorem A51_L1_eq (s : St) : K E A51_L1 s = (K E A51_L1b s).bind (loopF E A51_L1 (some [0, 3]) [2, 4, 15]) := loop_fold rfl s
theorem A52_L0_eq (s : St) : K E A52_L0 s = (K E A52_L0b s).bind (loopF E A52_L0 (some [0, 3, 4]) [2, 71]) := loop_fold rfl s
theorem A52_L1_eq (s : St) : K E A52_L1 s = (K E A52_L1b s).bind (loopF E A52_L1 (some [0, 3]) [2, 4, 71]) := loop_fold rfl s
theorem A53_L0_eq (s : St) : K E A53_L0 s = (K E A53_L0b s).bind (loopF E A53_L0 (some [2, 4, 5, 7, 18, 19]) [8, 9, 31, 32]) := loop_fold rfl s
theorem A54_L0_eq (s : St) : K E A54_L0 s = (K E A54_L0b s).bind (loopF E A54_L0 (some [4, 5, 6, 10, 11]) [7, 8]) := loop_fold rfl s
theorem A56_L0_eq (s : St) : K E A56_L0 s = (K E A56_L0b s).bind (loopF E A56_L0 (some [2, 4, 6, 9, 10, 11]) [8]) := loop_fold rfl s
theorem A60_L0_eq (s : St) : K E A60_L0 s = (K E A60_L0b s).bind (loopF E A60_L0 (some [2, 4, 5, 6, 7]) [30, 31]) := loop_fold rfl s
theorem A63_L0_eq (s : St) : K E A63_L0 s = (K E A63_L0b s).bind (loopF E A63_L0 (some [0, 1, 7, 8]) [4, 5]) := loop_fold rfl s
theorem A64_L0_eq (s : St) : K E A64_L0 s = (K E A64_L0b s).bind (loopF E A64_L0 (some [0, 3, 4, 5, 45, 46]) [52]) := loop_fold rfl s
theorem A64_L1_eq (s : St) : K E A64_L1 s = (K E A64_L1b s).bind (loopF E A64_L1 (some [0, 3, 4, 5, 33, 34]) [40]) := loop_fold rfl s
theorem A65_L0_eq (s : St) : K E A65_L0 s = (K E A65_L0b s).bind (loopF E A65_L0 (some [0, 1, 4, 6, 7, 8]) [5, 9, 33]) := loop_fold rfl s
theorem A65_L1_eq (s : St) : K E A65_L1 s = (K E A65_L1b s).bind (loopF E A65_L1 (some [0, 1, 4, 6, 7]) [5, 8, 9, 33]) := loop_fold rfl s
theorem A65_L2_eq (s : St) : K E A65_L2 s = (K E A65_L2b s).bind (loopF E A65_L2 (some [0, 1, 4, 6]) [5, 7, 8, 9, 33]) := loop_fold rfl s
theorem A70_L0_eq (s : St) : K E A70_L0 s = (K E A70_L0b s).bind (loopF E A70_L0 (some [0, 3, 4]) [5, 6, 15, 19]) := loop_fold rfl s
theorem A71_L0_eq (s : St) : K E A71_L0 s = (K E A71_L0b s).bind (loopF E A71_L0 (some [0, 3, 4]) []) := loop_fold rfl s
theorem A72_L0_eq (s : St) : K E A72_L0 s = (K E A72_L0b s).bind (loopF E A72_L0 (some [0, 3]) [2, 27]) := loop_fold rfl s
theorem A88_L0_eq (s : St) : K E A88_L0 s = (K E A88_L0b s).bind (loopF E A88_L0 (some [3, 4, 5]) []) := loop_fold rfl s
theorem A92_L0_eq (s : St) : K E A92_L0 s = (K E A92_L0b s).bind (loopF E A92_L0 (some [6, 7, 8, 9]) []) := loop_fold rfl s
theorem A93_L0_eq (s : St) : K E A93_L0 s = (K E A93_L0b s).bind (loopF E A93_L0 (some [0, 1, 5, 6, 7]) [3, 4, 24]) := loop_fold rfl s
theorem A100_L0_eq (s : St) : K E A100_L0 s = (K E A100_L0b s).bind (loopF E A100_L0 (some [0, 3, 5, 6]) [4, 7, 8, 17, 21, 25, 42, 63]) := loop_fold rfl s
theorem A103_L0_eq (s : St) : K E A103_L0 s = (K E A103_L0b s).bind (loopF E A103_L0 (some [6, 7, 20, 21]) []) := loop_fold rfl s
theorem A110_L0_eq (s : St) : K E A110_L0 s = (K E A110_L0b s).bind (loopF E A110_L0 (some [0, 1, 5, 6, 7]) [3, 4, 24]) := loop_fold rfl s
end Go.Proofs.YtnecdcaaknhgpaaGreat

namespace Go.Geo
open Go Go.Zv
def sgn (n : Int) : Int := if n > 0 then 1 else if n < 0 then -1 else 0
def crW (ax ay bx by_ px py : Int) : Int := w64 (w64 (w64 (bx - ax) * w64 (py - ay)) - w64 (w64 (by_ - ay) * w64 (px - ax)))
abbrev pt (p : Int × Int) : LV := .agg [.int .i64 p.1, .int .i64 p.2]
def c2 (p : Int × Int) : List LV := [.int .i64 p.1, .int .i64 p.2]
theorem get_c2 {l : List (Int × Int)} {i : Nat} {p : Int × Int} (h : l[i]? = some p) : (l.map c2)[i]? = some [.int .i64 p.1, .int .i64 p.2] := by
 rw [List.getElem?_map, h]; rfl
theorem wr_nat {n : Nat} (h : n < 9223372036854775808) : IntKind.i64.wrap (n : Int) = n := by
 simp [IntKind.wrap, IntKind.signed, IntKind.bits]; omega
theorem wr_succ {n : Nat} (h : n + 1 < 9223372036854775808) : IntKind.i64.wrap ((n : Int) + 1) = ((n + 1 : Nat) : Int) := by
 have := wr_nat h; simpa using this
def minP (a b : Int × Int) : Int × Int := (mnI a.1 b.1, mnI a.2 b.2)
def maxP (a b : Int × Int) : Int × Int := (mxI a.1 b.1, mxI a.2 b.2)
def bbL : List (Int × Int) → Int × Int
 | [] => (0, 0)
 | p :: t => (p :: t).foldl minP p
def bbH : List (Int × Int) → Int × Int
 | [] => (0, 0)
 | p :: t => (p :: t).foldl maxP p
def withinB (ax ay bx by_ px py : Int) : Bool := decide (mnI ax bx ≤ px) && (decide (px ≤ mxI ax bx) && (decide (mnI ay by_ ≤ py) && decide (py ≤ mxI ay by_)))
theorem mn_self (a : Int) : mnI a a = a := by unfold mnI; split <;> rfl
theorem mx_self (a : Int) : mxI a a = a := by unfold mxI; split <;> rfl
def onB (ax ay bx by_ px py : Int) : Bool := withinB ax ay bx by_ px py && decide (sgn (crW ax ay bx by_ px py) = 0)
def sdI (ax ay bx by_ cx cy dx dy : Int) : Int := w64 (sgn (crW ax ay bx by_ cx cy) * sgn (crW ax ay bx by_ dx dy))
def endsB (ax ay bx by_ cx cy dx dy : Int) : Bool := (decide (sgn (crW ax ay bx by_ cx cy) = 0) && withinB ax ay bx by_ cx cy) || (decide (sgn (crW ax ay bx by_ dx dy) = 0) && withinB ax ay bx by_ dx dy)
theorem wrap0 : IntKind.i64.wrap 0 = 0 := by decide
def cutB (ax ay bx by_ cx cy dx dy : Int) : Bool := (decide (sdI ax ay bx by_ cx cy dx dy < 0) && decide (sdI cx cy dx dy ax ay bx by_ < 0)) || (endsB ax ay bx by_ cx cy dx dy || endsB cx cy dx dy ax ay bx by_)
theorem cut_eq_B (ax ay bx by_ cx cy dx dy : Int) : ((onB ax ay bx by_ cx cy || onB ax ay bx by_ dx dy || onB cx cy dx dy ax ay || onB cx cy dx dy bx by_) || (decide (sdI ax ay bx by_ cx cy dx dy < 0) && decide (sdI cx cy dx dy ax ay bx by_ < 0))) = cutB ax ay bx by_ cx cy dx dy := by
 unfold cutB onB endsB
 generalize withinB ax ay bx by_ cx cy = a
 generalize withinB ax ay bx by_ dx dy = b
 generalize withinB cx cy dx dy ax ay = c
 generalize withinB cx cy dx dy bx by_ = d
 generalize decide (sgn (crW ax ay bx by_ cx cy) = 0) = e
 generalize decide (sgn (crW ax ay bx by_ dx dy) = 0) = f
 generalize decide (sgn (crW cx cy dx dy ax ay) = 0) = g
 generalize decide (sgn (crW cx cy dx dy bx by_) = 0) = h
 generalize decide (sdI ax ay bx by_ cx cy dx dy < 0) = i
 generalize decide (sdI cx cy dx dy ax ay bx by_ < 0) = j
 revert a b c d e f g h i j; decide
def sharedB (W S T : Int) : Bool := if W < 0 then decide (0 ≤ -S) && (decide (-S ≤ -W) && (decide (0 ≤ -T) && decide (-T ≤ -W))) else decide (0 ≤ S) && (decide (S ≤ W) && (decide (0 ≤ T) && decide (T ≤ W)))
def B (x : Int) : Prop := -500000000 ≤ x ∧ x ≤ 500000000
def cr (ax ay bx by_ px py : Int) : Int := (bx - ax) * (py - ay) - (by_ - ay) * (px - ax)
theorem mul_bd {x y A C : Int} (h1 : -A ≤ x) (h2 : x ≤ A) (h3 : -C ≤ y) (h4 : y ≤ C) : -(A * C) ≤ x * y ∧ x * y ≤ A * C := by
 have hA : 0 ≤ A := by omega
 have hC : 0 ≤ C := by omega
 have a1 : x * y ≤ A * C := by
  rcases Int.le_total 0 x with hx | hx
  ·have h5 : x * y ≤ x * C := Int.mul_le_mul_of_nonneg_left h4 hx
   have h6 : x * C ≤ A * C := Int.mul_le_mul_of_nonneg_right h2 hC
   omega
  ·have h5 : (-x) * (-y) ≤ (-x) * C := Int.mul_le_mul_of_nonneg_left (by omega) (by omega)
   have h6 : (-x) * C ≤ A * C := Int.mul_le_mul_of_nonneg_right (by omega) hC
   have h7 : (-x) * (-y) = x * y := by grind
   omega
 have a2 : -(A * C) ≤ x * y := by
  rcases Int.le_total 0 x with hx | hx
  ·have h5 : x * (-y) ≤ x * C := Int.mul_le_mul_of_nonneg_left (by omega) hx
   have h6 : x * C ≤ A * C := Int.mul_le_mul_of_nonneg_right h2 hC
   have h7 : x * (-y) = -(x * y) := by grind
   omega
  ·have h5 : (-x) * y ≤ (-x) * C := Int.mul_le_mul_of_nonneg_left h4 (by omega)
   have h6 : (-x) * C ≤ A * C := Int.mul_le_mul_of_nonneg_right (by omega) hC
   have h7 : (-x) * y = -(x * y) := by grind
   omega
 exact ⟨a2, a1⟩
theorem wprod {x y z w : Int} (h1 : -1000000000 ≤ x) (h2 : x ≤ 1000000000) (h3 : -1000000000 ≤ y) (h4 : y ≤ 1000000000) (h5 : -1000000000 ≤ z) (h6 : z ≤ 1000000000) (h7 : -1000000000 ≤ w) (h8 : w ≤ 1000000000) :
  IntKind.i64.wrap (IntKind.i64.wrap (IntKind.i64.wrap x * IntKind.i64.wrap y) - IntKind.i64.wrap (IntKind.i64.wrap z * IntKind.i64.wrap w)) = x * y - z * w ∧ -2000000000000000000 ≤ x * y - z * w ∧ x * y - z * w ≤ 2000000000000000000 := by
 obtain ⟨p1, p2⟩ := mul_bd h1 h2 h3 h4
 obtain ⟨q1, q2⟩ := mul_bd h5 h6 h7 h8
 rw [wrap_small (n := x) (by omega) (by omega), wrap_small (n := y) (by omega) (by omega), wrap_small (n := z) (by omega) (by omega), wrap_small (n := w) (by omega) (by omega)]
 rw [wrap_small (n := x * y) (by omega) (by omega), wrap_small (n := z * w) (by omega) (by omega), wrap_small (n := x * y - z * w) (by omega) (by omega)]
 exact ⟨rfl, by omega, by omega⟩
theorem crW_B {ax ay bx by_ px py : Int} (h1 : B ax) (h2 : B ay) (h3 : B bx) (h4 : B by_) (h5 : B px) (h6 : B py) : crW ax ay bx by_ px py = cr ax ay bx by_ px py := by
 unfold B at *
 exact (wprod (by omega) (by omega) (by omega) (by omega) (by omega) (by omega) (by omega) (by omega)).1
theorem sgn_zero : sgn 0 = 0 := by decide
theorem cr_swap (ax ay bx by_ px py : Int) : cr bx by_ ax ay px py = - cr ax ay bx by_ px py := by unfold cr; grind
theorem mul_nn {x y : Int} : 0 ≤ x * y ↔ (0 ≤ x ∧ 0 ≤ y) ∨ (x ≤ 0 ∧ y ≤ 0) := by
 constructor
 ·intro h
  rcases Int.lt_trichotomy x 0 with hx | hx | hx
  ·rcases Int.lt_trichotomy y 0 with hy | hy | hy
   ·right; omega
   ·right; omega
   ·have := Int.mul_neg_of_neg_of_pos hx hy; omega
  ·subst hx
   rcases Int.le_total 0 y with hy | hy
   ·left; omega
   ·right; omega
  ·rcases Int.lt_trichotomy y 0 with hy | hy | hy
   ·have := Int.mul_neg_of_pos_of_neg hx hy; omega
   ·left; omega
   ·left; omega
 ·rintro (⟨h1, h2⟩ | ⟨h1, h2⟩)
  ·exact Int.mul_nonneg h1 h2
  ·exact Int.mul_nonneg_of_nonpos_of_nonpos h1 h2
theorem bt {a b p : Int} : (mnI a b ≤ p ∧ p ≤ mxI a b) ↔ 0 ≤ (p - a) * (b - p) := by
 rw [mul_nn]; unfold mnI mxI
 constructor
 ·intro h; split at h <;> split at h <;> omega
 ·intro h; split <;> split <;> omega
theorem withinB_iff {ax ay bx by_ px py : Int} : withinB ax ay bx by_ px py = true ↔ 0 ≤ (px - ax) * (bx - px) ∧ 0 ≤ (py - ay) * (by_ - py) := by
 rw [← bt, ← bt]
 simp [withinB, and_assoc]
theorem sgn_eq0 {n : Int} : sgn n = 0 ↔ n = 0 := by unfold sgn; repeat' split
                                                    all_goals omega
theorem sq_pos {x : Int} (h : x ≠ 0) : 0 < x * x := by
 rcases Int.lt_trichotomy x 0 with h1 | h1 | h1
 ·exact Int.mul_pos_of_neg_of_neg h1 h1
 ·exact absurd h1 h
 ·exact Int.mul_pos h1 h1
theorem on_key {u v U V : Int} (hc : U * v - V * u = 0) (hd : 0 ≤ u * (U - u) + v * (V - v)) (hne : U ≠ 0 ∨ V ≠ 0) : 0 ≤ u * (U - u) ∧ 0 ≤ v * (V - v) := by
 have key : (V * V) * (u * (U - u)) = (U * U) * (v * (V - v)) := by
  have e : U * v = V * u := by omega
  have : (V * V) * (u * (U - u)) = (V * u) * (V * U) - (V * u) * (V * u) := by grind
  rw [this, ← e]; grind
 have sq : ∀ x : Int, 0 ≤ x * x := fun x => by
  by_cases h : x = 0
  ·subst h; simp
  ·have := sq_pos h; omega
 constructor
 ·refine Classical.byContradiction fun h => ?_
  have h1 : u * (U - u) < 0 := by omega
  have h2 : 0 < v * (V - v) := by omega
  have h3 : 0 ≤ (U * U) * (v * (V - v)) := Int.mul_nonneg (sq U) (by omega)
  rcases hne with hU | hV
  ·have := Int.mul_pos (sq_pos hU) h2
   have h5 : (V * V) * (u * (U - u)) ≤ 0 := Int.mul_nonpos_of_nonneg_of_nonpos (sq V) (by omega)
   omega
  ·have := Int.mul_neg_of_pos_of_neg (sq_pos hV) h1
   omega
 ·refine Classical.byContradiction fun h => ?_
  have h1 : v * (V - v) < 0 := by omega
  have h2 : 0 < u * (U - u) := by omega
  rcases hne with hU | hV
  ·have := Int.mul_neg_of_pos_of_neg (sq_pos hU) h1
   have h5 : 0 ≤ (V * V) * (u * (U - u)) := Int.mul_nonneg (sq V) (by omega)
   omega
  ·have := Int.mul_pos (sq_pos hV) h2
   have h5 : (U * U) * (v * (V - v)) ≤ 0 := Int.mul_nonpos_of_nonneg_of_nonpos (sq U) (by omega)
   omega
theorem on_iff {ax ay bx by_ px py : Int} : (withinB ax ay bx by_ px py = true ∧ cr ax ay bx by_ px py = 0) ↔ (cr ax ay bx by_ px py = 0 ∧ 0 ≤ (px - ax) * (bx - px) + (py - ay) * (by_ - py) ∧ ((ax = bx ∧ ay = by_) → (px = ax ∧ py = ay))) := by
 rw [withinB_iff]
 constructor
 ·rintro ⟨⟨h1, h2⟩, h3⟩
  refine ⟨h3, by omega, ?_⟩
  rintro ⟨rfl, rfl⟩
  rw [mul_nn] at h1 h2
  omega
 ·rintro ⟨h3, h4, h5⟩
  refine ⟨?_, h3⟩
  by_cases he : ax = bx ∧ ay = by_
  ·obtain ⟨rfl, rfl⟩ := h5 he
   obtain ⟨rfl, rfl⟩ := he
   simp
  ·have := on_key (u := px - ax) (v := py - ay) (U := bx - ax) (V := by_ - ay) (by unfold cr at h3; exact h3) (by
    have e1 : bx - ax - (px - ax) = bx - px := by omega
    have e2 : by_ - ay - (py - ay) = by_ - py := by omega
    rw [e1, e2]; exact h4) (by omega)
   have e1 : bx - ax - (px - ax) = bx - px := by omega
   have e2 : by_ - ay - (py - ay) = by_ - py := by omega
   rw [e1, e2] at this; exact this
def wW (ax ay bx by_ cx cy dx dy : Int) : Int := (bx - ax) * (dy - cy) - (by_ - ay) * (dx - cx)
def sS (ax ay bx by_ cx cy dx dy : Int) : Int := (cx - ax) * (dy - cy) - (cy - ay) * (dx - cx)
def tT (ax ay bx by_ cx cy dx dy : Int) : Int := (cx - ax) * (by_ - ay) - (cy - ay) * (bx - ax)
section
variable (ax ay bx by_ cx cy dx dy : Int)
end
theorem sq_nn (x : Int) : 0 ≤ x * x := by
 by_cases h : x = 0
 ·subst h; simp
 ·have := sq_pos h; omega
theorem nn_of_mul {x y : Int} (hx : 0 < x) (h : 0 ≤ x * y) : 0 ≤ y := by
 rw [mul_nn] at h; omega
theorem sgn_mul_neg {x y : Int} : IntKind.i64.wrap (sgn x * sgn y) < 0 ↔ x * y < 0 := by
 have h : x * y < 0 ↔ ¬ (0 ≤ x * y) := by omega
 rw [h, mul_nn]
 unfold sgn
 repeat' split
 all_goals (simp only [Int.mul_zero, Int.zero_mul, Int.one_mul, Int.mul_one, Int.reduceMul, Int.reduceNeg])
 all_goals (first | (rw [show IntKind.i64.wrap 1 = 1 by decide]; omega) | (rw [show IntKind.i64.wrap (-1) = -1 by decide]; omega) | (rw [show IntKind.i64.wrap 0 = 0 by decide]; omega))
structure B8 (ax ay bx by_ cx cy dx dy : Int) : Prop where
 a0 : B ax
 a1 : B ay
 b0 : B bx
 b1 : B by_
 c0 : B cx
 c1 : B cy
 d0 : B dx
 d1 : B dy
theorem cutB_iff {ax ay bx by_ cx cy dx dy : Int} (h : B8 ax ay bx by_ cx cy dx dy) : cutB ax ay bx by_ cx cy dx dy = true ↔
  (cr ax ay bx by_ cx cy * cr ax ay bx by_ dx dy < 0 ∧ cr cx cy dx dy ax ay * cr cx cy dx dy bx by_ < 0) ∨
  ((cr ax ay bx by_ cx cy = 0 ∧ withinB ax ay bx by_ cx cy = true) ∨ (cr ax ay bx by_ dx dy = 0 ∧ withinB ax ay bx by_ dx dy = true)) ∨
  ((cr cx cy dx dy ax ay = 0 ∧ withinB cx cy dx dy ax ay = true) ∨ (cr cx cy dx dy bx by_ = 0 ∧ withinB cx cy dx dy bx by_ = true)) := by
 unfold cutB endsB sdI
 rw [crW_B h.a0 h.a1 h.b0 h.b1 h.c0 h.c1, crW_B h.a0 h.a1 h.b0 h.b1 h.d0 h.d1, crW_B h.c0 h.c1 h.d0 h.d1 h.a0 h.a1, crW_B h.c0 h.c1 h.d0 h.d1 h.b0 h.b1]
 simp only [Bool.or_eq_true, Bool.and_eq_true, decide_eq_true_eq, sgn_mul_neg, sgn_eq0]
theorem B8.s2 {ax ay bx by_ cx cy dx dy : Int} (h : B8 ax ay bx by_ cx cy dx dy) : B8 cx cy dx dy ax ay bx by_ := ⟨h.c0, h.c1, h.d0, h.d1, h.a0, h.a1, h.b0, h.b1⟩
theorem cut_s2 {ax ay bx by_ cx cy dx dy : Int} (h : B8 ax ay bx by_ cx cy dx dy) : cutB cx cy dx dy ax ay bx by_ = cutB ax ay bx by_ cx cy dx dy := by
 rw [Bool.eq_iff_iff, cutB_iff h, cutB_iff h.s2]
 constructor
 ·rintro (h | h | h)
  ·exact .inl ⟨h.2, h.1⟩
  ·exact .inr (.inr h)
  ·exact .inr (.inl h)
 ·rintro (h | h | h)
  ·exact .inl ⟨h.2, h.1⟩
  ·exact .inr (.inr h)
  ·exact .inr (.inl h)
theorem conv {W S a b M : Int} (h1 : 0 ≤ S) (h2 : 0 ≤ W - S) (ha : a ≤ M) (hb : b ≤ M) : W * a + S * (b - a) ≤ W * M := by
 have e : W * M - (W * a + S * (b - a)) = (W - S) * (M - a) + S * (M - b) := by grind
 have := Int.mul_nonneg h2 (show 0 ≤ M - a by omega)
 have := Int.mul_nonneg h1 (show 0 ≤ M - b by omega)
 omega
theorem w_x {ax ay bx by_ px py : Int} (hc : cr ax ay bx by_ px py = 0) (hn : bx - ax ≠ 0) (h : 0 ≤ (px - ax) * (bx - px)) : withinB ax ay bx by_ px py = true := by
 rw [withinB_iff]
 refine ⟨h, nn_of_mul (sq_pos hn) ?_⟩
 have e : (bx - ax) * (py - ay) = (by_ - ay) * (px - ax) := by unfold cr at hc; omega
 have : (bx - ax) * (bx - ax) * ((py - ay) * (by_ - py)) = ((by_ - ay) * (by_ - ay)) * ((px - ax) * (bx - px)) := by
  have : (bx - ax) * (bx - ax) * ((py - ay) * (by_ - py)) = ((bx - ax) * (py - ay)) * ((bx - ax) * (by_ - ay) - (bx - ax) * (py - ay)) := by grind
  rw [this, e]; grind
 rw [this]; exact Int.mul_nonneg (sq_nn _) h
theorem w_y {ax ay bx by_ px py : Int} (hc : cr ax ay bx by_ px py = 0) (hn : by_ - ay ≠ 0) (h : 0 ≤ (py - ay) * (by_ - py)) : withinB ax ay bx by_ px py = true := by
 have := w_x (ax := ay) (ay := ax) (bx := by_) (by_ := bx) (px := py) (py := px) (by unfold cr at *; omega) hn h
 rw [withinB_iff] at *; exact ⟨this.2, this.1⟩
theorem mn_le (a b : Int) : mnI a b ≤ a ∧ mnI a b ≤ b ∧ (mnI a b = a ∨ mnI a b = b) := by unfold mnI; split <;> omega
theorem mx_le (a b : Int) : a ≤ mxI a b ∧ b ≤ mxI a b ∧ (mxI a b = a ∨ mxI a b = b) := by unfold mxI; split <;> omega
theorem fold_min : ∀ (l : List (Int × Int)) (q : Int × Int), ((l.foldl minP q).1 ≤ q.1 ∧ (l.foldl minP q).2 ≤ q.2) ∧ (∀ p ∈ l, (l.foldl minP q).1 ≤ p.1 ∧ (l.foldl minP q).2 ≤ p.2) ∧
  ((l.foldl minP q).1 = q.1 ∨ ∃ p ∈ l, (l.foldl minP q).1 = p.1) ∧ ((l.foldl minP q).2 = q.2 ∨ ∃ p ∈ l, (l.foldl minP q).2 = p.2)
 | [], q => by simp
 | p :: l, q => by
   obtain ⟨⟨h1, h2⟩, h3, h4, h5⟩ := fold_min l (minP q p)
   have m1 := mn_le q.1 p.1
   have m2 := mn_le q.2 p.2
   simp only [List.foldl_cons]
   simp only [minP] at h1 h2 h4 h5
   refine ⟨⟨by simp only [minP] at *; omega, by simp only [minP] at *; omega⟩, fun r hr => ?_, ?_, ?_⟩
   ·simp only [List.mem_cons] at hr
    rcases hr with rfl | hr
    ·simp only [minP] at *; omega
    ·exact h3 r hr
   ·rcases h4 with h4 | ⟨r, hr, h4⟩
    ·rcases m1.2.2 with m | m
     ·exact .inl (by simp only [minP] at *; omega)
     ·exact .inr ⟨p, by simp, by simp only [minP] at *; omega⟩
    ·exact .inr ⟨r, by simp [hr], h4⟩
   ·rcases h5 with h4 | ⟨r, hr, h4⟩
    ·rcases m2.2.2 with m | m
     ·exact .inl (by simp only [minP] at *; omega)
     ·exact .inr ⟨p, by simp, by simp only [minP] at *; omega⟩
    ·exact .inr ⟨r, by simp [hr], h4⟩
theorem fold_max : ∀ (l : List (Int × Int)) (q : Int × Int), (q.1 ≤ (l.foldl maxP q).1 ∧ q.2 ≤ (l.foldl maxP q).2) ∧ (∀ p ∈ l, p.1 ≤ (l.foldl maxP q).1 ∧ p.2 ≤ (l.foldl maxP q).2) ∧
  ((l.foldl maxP q).1 = q.1 ∨ ∃ p ∈ l, (l.foldl maxP q).1 = p.1) ∧ ((l.foldl maxP q).2 = q.2 ∨ ∃ p ∈ l, (l.foldl maxP q).2 = p.2)
 | [], q => by simp
 | p :: l, q => by
   obtain ⟨⟨h1, h2⟩, h3, h4, h5⟩ := fold_max l (maxP q p)
   have m1 := mx_le q.1 p.1
   have m2 := mx_le q.2 p.2
   simp only [List.foldl_cons]
   simp only [maxP] at h1 h2 h4 h5
   refine ⟨⟨by simp only [maxP] at *; omega, by simp only [maxP] at *; omega⟩, fun r hr => ?_, ?_, ?_⟩
   ·simp only [List.mem_cons] at hr
    rcases hr with rfl | hr
    ·simp only [maxP] at *; omega
    ·exact h3 r hr
   ·rcases h4 with h4 | ⟨r, hr, h4⟩
    ·rcases m1.2.2 with m | m
     ·exact .inl (by simp only [maxP] at *; omega)
     ·exact .inr ⟨p, by simp, by simp only [maxP] at *; omega⟩
    ·exact .inr ⟨r, by simp [hr], h4⟩
   ·rcases h5 with h4 | ⟨r, hr, h4⟩
    ·rcases m2.2.2 with m | m
     ·exact .inl (by simp only [maxP] at *; omega)
     ·exact .inr ⟨p, by simp, by simp only [maxP] at *; omega⟩
    ·exact .inr ⟨r, by simp [hr], h4⟩
structure Box (l : List (Int × Int)) (lo hi : Int × Int) : Prop where
 b1 : ∀ p ∈ l, lo.1 ≤ p.1
 b2 : ∀ p ∈ l, lo.2 ≤ p.2
 b3 : ∀ p ∈ l, p.1 ≤ hi.1
 b4 : ∀ p ∈ l, p.2 ≤ hi.2
 m1 : ∃ p ∈ l, p.1 = lo.1
 m2 : ∃ p ∈ l, p.2 = lo.2
 m3 : ∃ p ∈ l, p.1 = hi.1
 m4 : ∃ p ∈ l, p.2 = hi.2
theorem box {l : List (Int × Int)} (h : l ≠ []) : Box l (bbL l) (bbH l) := by
 cases l with
 | nil => exact absurd rfl h
 | cons p l =>
   obtain ⟨⟨a1, a2⟩, a3, a4, a5⟩ := fold_min (p :: l) p
   obtain ⟨⟨c1, c2⟩, c3, c4, c5⟩ := fold_max (p :: l) p
   refine ⟨fun q hq => (a3 q hq).1, fun q hq => (a3 q hq).2, fun q hq => (c3 q hq).1, fun q hq => (c3 q hq).2, ?_, ?_, ?_, ?_⟩
   ·rcases a4 with a | ⟨r, hr, a⟩
    ·exact ⟨p, by simp, a.symm⟩
    ·exact ⟨r, hr, a.symm⟩
   ·rcases a5 with a | ⟨r, hr, a⟩
    ·exact ⟨p, by simp, a.symm⟩
    ·exact ⟨r, hr, a.symm⟩
   ·rcases c4 with a | ⟨r, hr, a⟩
    ·exact ⟨p, by simp, a.symm⟩
    ·exact ⟨r, hr, a.symm⟩
   ·rcases c5 with a | ⟨r, hr, a⟩
    ·exact ⟨p, by simp, a.symm⟩
    ·exact ⟨r, hr, a.symm⟩
def gapZ (lo hi lo' hi' : Int × Int) : Int := mxI (mxI (mxI (mxI 0 (lo'.1 - hi.1)) (lo'.2 - hi.2)) (lo.1 - hi'.1)) (lo.2 - hi'.2)
end Go.Geo

namespace Go.Proofs.YtnecdcaaknhgpaaGreat.G
open Go Go.Zv
open Go.Geo
theorem c41 (ax ay bx by_ : Int) : pc E 41 [.agg [.int .i64 ax, .int .i64 ay], .agg [.int .i64 bx, .int .i64 by_]] = some (.agg [.int .i64 (w64 (ax - bx)), .int .i64 (w64 (ay - by_))]) := by
 rw [pc_eq]; simp +contextual -implicitDefEqProofs (maxSteps := 2000000) only [go_sem, ↓reduceIte, E_41, A41]
theorem c95 (ax ay bx by_ px py : Int) : pc E 95 [.agg [.int .i64 ax, .int .i64 ay], .agg [.int .i64 bx, .int .i64 by_], .agg [.int .i64 px, .int .i64 py]] = some (.int .i64 (sgn (crW ax ay bx by_ px py))) := by
 rw [pc_eq]; simp +contextual -implicitDefEqProofs (maxSteps := 2000000) only [go_sem, ↓reduceIte, E_95, A95, c41, decide_eq_true_eq]
 unfold sgn crW; split <;> (try split) <;> rfl
theorem c57 (ax ay bx by_ : Int) : pc E 57 [.agg [.int .i64 ax, .int .i64 ay], .agg [.int .i64 bx, .int .i64 by_]] = some (.agg [.int .i64 (mnI ax bx), .int .i64 (mnI ay by_)]) := by
 rw [pc_eq]; simp +contextual -implicitDefEqProofs (maxSteps := 2000000) only [go_sem, ↓reduceIte, E_57, A57]
theorem c58 (ax ay bx by_ : Int) : pc E 58 [.agg [.int .i64 ax, .int .i64 ay], .agg [.int .i64 bx, .int .i64 by_]] = some (.agg [.int .i64 (mxI ax bx), .int .i64 (mxI ay by_)]) := by
 rw [pc_eq]; simp +contextual -implicitDefEqProofs (maxSteps := 2000000) only [go_sem, ↓reduceIte, E_58, A58]
theorem fold_loop (l : List (Int × Int)) (hl : l.length < 9223372036854775808) (f : FuncId) (g : Int × Int → Int × Int → Int × Int) (hg : ∀ ax ay bx by_, pc E f [.agg [.int .i64 ax, .int .i64 ay], .agg [.int .i64 bx, .int .i64 by_]] = some (.agg [.int .i64 (g (ax, ay) (bx, by_)).1, .int .i64 (g (ax, ay) (bx, by_)).2])) :
  ∀ (k i : Nat) (ax ay : Int), i + k = l.length → (K E A56_L0 ⟨[(2, .fn (.func f) [] []), (4, .ptr 1024 0), (6, .ptr 1536 0), (9, .vs (l.map c2)), (10, .int .i64 l.length), (11, .int .i64 i)], [],
    [(1536, .box [.int .i64 0, .int .i64 0]), (1024, .box [.int .i64 ax, .int .i64 ay])], 0⟩).bind (blockR 0 (some [4, 6]) [8]) =
    some (.ex .nrm ⟨[(4, .ptr 1024 0), (6, .ptr 1536 0)], [], [(1536, .box [.int .i64 0, .int .i64 0]), (1024, .box [.int .i64 ((l.drop i).foldl g (ax, ay)).1, .int .i64 ((l.drop i).foldl g (ax, ay)).2])], 0⟩)
 | 0, i, ax, ay, h => by
   have hi : ¬ ((i : Int) < l.length) := by omega
   have hd : l.drop i = [] := List.drop_of_length_le (by omega)
   rw [A56_L0_eq, hd]
   simp +contextual -implicitDefEqProofs (maxSteps := 2000000) only [go_sem, ↓reduceIte, A56_L0b, hi, List.foldl_nil]
 | k + 1, i, ax, ay, h => by
   have hi : ((i : Int) < l.length) := by omega
   have hget : l[i]? = some (l[i]'(by omega)) := List.getElem?_eq_getElem _
   generalize l[i]'(by omega) = p at hget
   have hg2 := get_c2 hget
   have hw := wr_succ (n := i) (by omega)
   have h0 : (0 : Int) ≤ (i : Int) := by omega
   have hd : l.drop i = p :: l.drop (i + 1) := by
    have hlt : i < l.length := by omega
    rw [List.drop_eq_getElem_cons hlt]
    rw [List.getElem?_eq_getElem hlt] at hget
    simp only [Option.some.injEq] at hget
    rw [hget]
   rw [A56_L0_eq, hd]
   simp +contextual -implicitDefEqProofs (maxSteps := 2000000) only [go_sem, ↓reduceIte, A56_L0b, hi, hg2, hg, h0, hw, List.foldl_cons]
   rw [fold_loop l hl f g hg k (i + 1) _ _ (by omega)]
theorem c56 (l : List (Int × Int)) (hl : l.length < 9223372036854775808) (ax ay : Int) (f : FuncId) (g : Int × Int → Int × Int → Int × Int) (hg : ∀ ax ay bx by_, pc E f [.agg [.int .i64 ax, .int .i64 ay], .agg [.int .i64 bx, .int .i64 by_]] = some (.agg [.int .i64 (g (ax, ay) (bx, by_)).1, .int .i64 (g (ax, ay) (bx, by_)).2])) :
  pc E 56 [.vs (l.map c2), .agg [.int .i64 ax, .int .i64 ay], .fn (.func f) [] []] = some (pt (l.foldl g (ax, ay))) := by
 have := fold_loop l hl f g hg l.length 0 ax ay (by omega)
 simp only [Int.ofNat_zero, Int.natCast_zero, List.drop_zero] at this
 rw [pc_eq]; simp +contextual -implicitDefEqProofs (maxSteps := 2000000) only [go_sem, ↓reduceIte, E_56, A56, List.length_map, this]
theorem c40 (l : List (Int × Int)) (hl : l.length < 9223372036854775808) : pc E 40 [.vs (l.map c2)] = some (.tup [pt (bbL l), pt (bbH l)]) := by
 cases l with
 | nil =>
   rw [pc_eq]; simp +contextual -implicitDefEqProofs only [E_40, A40, go_sem, ↓reduceIte, List.map_nil, bbL, bbH, Int.ofNat_zero, Int.natCast_zero]
 | cons p t =>
   have h1 := c56 (p :: t) hl p.1 p.2 57 minP (fun ax ay bx by_ => c57 ax ay bx by_)
   have h2 := c56 (p :: t) hl p.1 p.2 58 maxP (fun ax ay bx by_ => c58 ax ay bx by_)
   have hz : ¬ (((p :: t).length : Int) = 0) := by simp only [List.length_cons]; omega
   simp only [List.map_cons, c2, List.length_cons] at h1 h2 hz
   rw [pc_eq]; simp +contextual -implicitDefEqProofs only [E_40, A40, go_sem, ↓reduceIte, List.map_cons, c2, bbL, bbH, List.length_map, hz, h1, h2]
theorem c40_2 (ax ay bx by_ : Int) : pc E 40 [.vs [[.int .i64 ax, .int .i64 ay], [.int .i64 bx, .int .i64 by_]]] = some (.tup [pt (bbL [(ax, ay), (bx, by_)]), pt (bbH [(ax, ay), (bx, by_)])]) :=
 c40 [(ax, ay), (bx, by_)] (by simp)
theorem c96 (ax ay bx by_ px py : Int) : pc E 96 [.agg [.int .i64 ax, .int .i64 ay], .agg [.int .i64 bx, .int .i64 by_], .agg [.int .i64 px, .int .i64 py]] = some (.bool (withinB ax ay bx by_ px py)) := by
 rw [pc_eq]; simp +contextual -implicitDefEqProofs (maxSteps := 2000000) only [go_sem, ↓reduceIte, E_96, A96, c40_2, bbL, bbH, List.foldl_cons, List.foldl_nil, minP, maxP, mn_self, mx_self, withinB]
 repeat' split
 all_goals (try simp_all)
 all_goals (try (intros; omega))
theorem c106 (ax ay bx by_ px py : Int) : pc E 106 [.agg [.int .i64 ax, .int .i64 ay], .agg [.int .i64 bx, .int .i64 by_], .agg [.int .i64 px, .int .i64 py]] = some (.bool (onB ax ay bx by_ px py)) := by
 rw [pc_eq]; simp +contextual -implicitDefEqProofs (maxSteps := 2000000) only [go_sem, ↓reduceIte, E_106, A106, c96, c95, onB]
 repeat' split
 all_goals simp_all [Bool.beq_eq_decide_eq]
theorem c94 (ax ay bx by_ cx cy dx dy : Int) : pc E 94 [.agg [.int .i64 ax, .int .i64 ay], .agg [.int .i64 bx, .int .i64 by_], .agg [.int .i64 cx, .int .i64 cy], .agg [.int .i64 dx, .int .i64 dy]] =
  some (.tup [.bool (decide (sdI ax ay bx by_ cx cy dx dy < 0)), .bool (endsB ax ay bx by_ cx cy dx dy)]) := by
 rw [pc_eq]; simp +contextual -implicitDefEqProofs (maxSteps := 2000000) only [go_sem, ↓reduceIte, E_94, A94, c96, c95, sdI, endsB]
 repeat' split
 all_goals (try simp_all [wrap0])
 all_goals (try (intros; omega))
 all_goals (try rfl)
theorem c81 (ax ay bx by_ cx cy dx dy : Int) : pc E 81 [.agg [.int .i64 ax, .int .i64 ay], .agg [.int .i64 bx, .int .i64 by_], .agg [.int .i64 cx, .int .i64 cy], .agg [.int .i64 dx, .int .i64 dy]] = some (.bool (cutB ax ay bx by_ cx cy dx dy)) := by
 rw [pc_eq]; simp +contextual -implicitDefEqProofs (maxSteps := 2000000) only [go_sem, ↓reduceIte, E_81, A81, c94, cutB]
 repeat' split
 all_goals (try simp_all)
 all_goals (try (intros; omega))
 all_goals (try rfl)
end Go.Proofs.YtnecdcaaknhgpaaGreat.G

namespace Go.Geo
open Go Go.Zv
abbrev Pt := Int × Int
def eds : List Pt → List (Pt × Pt)
 | [] => []
 | p :: t => (p :: t).zip (t ++ [p])
theorem eds_len (l : List Pt) : (eds l).length = l.length := by cases l <;> simp [eds]
theorem eds_get {l : List Pt} {k : Nat} {e : Pt × Pt} (h : (eds l)[k]? = some e) : k < l.length ∧ l[k]? = some e.1 ∧ l[(k + 1) % l.length]? = some e.2 := by
 cases l with
 | nil => simp [eds] at h
 | cons p t =>
   have hk : k < (eds (p :: t)).length := (List.getElem?_eq_some_iff.1 h).1
   rw [eds_len] at hk
   refine ⟨hk, ?_⟩
   simp only [eds] at h
   rw [List.getElem?_zip_eq_some] at h
   refine ⟨h.1, ?_⟩
   have h2 := h.2
   simp only [List.length_cons] at hk ⊢
   by_cases e1 : k = t.length
   ·subst e1
    rw [Nat.mod_self]
    rw [List.getElem?_append_right (by omega)] at h2
    simpa using h2
   ·rw [Nat.mod_eq_of_lt (by omega)]
    rw [List.getElem?_append_left (by omega)] at h2
    simpa using h2
theorem mod_nat {k n : Nat} (hk : k < n) (hn : n ≤ 1000000000) : (((k + 1 : Nat) : Int)).tmod (n : Int) = (((k + 1) % n : Nat) : Int) ∧ ¬ ((n : Int) = 0) ∧ ((n : Int) == 0) = false ∧ (0 : Int) ≤ (((k + 1) % n : Nat) : Int) ∧ (((k + 1) % n : Nat) : Int) < n := by
 have h := Nat.mod_lt (k + 1) (show n > 0 by omega)
 refine ⟨?_, by omega, by simp; omega, by omega, by omega⟩
 rw [Int.tmod_eq_emod_of_nonneg (by omega)]; rfl
theorem wr_k {k : Nat} (h : k ≤ 1000000000) : IntKind.i64.wrap (((k : Nat) : Int) + 1) = ((k + 1 : Nat) : Int) := wr_succ (by omega)
def arF (x : Int) (e : Pt × Pt) : Int := w64 (x + w64 (w64 (e.1.1 * e.2.2) - w64 (e.1.2 * e.2.1)))
def areaW (l : List Pt) : Int := (eds l).foldl arF 0
abbrev oriE (a b p : Pt) : Int := sgn (crW a.1 a.2 b.1 b.2 p.1 p.2)
def onE (p : Pt) (e : Pt × Pt) : Bool := onB e.1.1 e.1.2 e.2.1 e.2.2 p.1 p.2
def flE (p : Pt) (e : Pt × Pt) : Bool := (decide (p.2 < e.1.2) != decide (p.2 < e.2.2)) && (decide (0 < sgn (crW e.1.1 e.1.2 e.2.1 e.2.2 p.1 p.2)) == decide (e.1.2 < e.2.2))
def parF (p : Pt) (b : Bool) (e : Pt × Pt) : Bool := b != flE p e
def locI (l : List Pt) (p : Pt) : Int := if (eds l).any (onE p) = true then 0 else if (eds l).foldl (parF p) false = true then 1 else -1
end Go.Geo

namespace Go.Geo
open Go Go.Zv
def mayB (p : Pt) : Bool := decide (mxI p.1 p.2 ≤ 439400000) && decide (-439400000 ≤ mnI p.1 p.2)
def ptn (l : List Pt) (k : Nat) : Pt := l.getD (k % l.length) (0, 0)
def adjB (n i k : Nat) : Bool := decide (k = i) || (decide (k = (i + 1) % n) || decide (i = (k + 1) % n))
def cutE (e f : Pt × Pt) : Bool := cutB e.1.1 e.1.2 e.2.1 e.2.2 f.1.1 f.1.2 f.2.1 f.2.2
def edn (l : List Pt) (k : Nat) : Pt × Pt := (ptn l k, ptn l (k + 1))
def bad2 (l : List Pt) (i k : Nat) : Bool := !adjB l.length i k && cutE (edn l i) (edn l k)
def bad1 (l : List Pt) (i : Nat) : Bool := decide (oriE (ptn l i) (ptn l (i + 1)) (ptn l (i + 2)) = 0) || (List.range l.length).any (bad2 l i)
def simB (l : List Pt) : Bool := !(List.range l.length).any (bad1 l)
def valB (l : List Pt) : Bool := decide (3 ≤ l.length) && (decide (l.length ≤ 12) && (l.all mayB && (simB l && decide (0 < areaW l))))
theorem ptn_get {l : List Pt} {k : Nat} (h : k < l.length) : l[k]? = some (ptn l k) := by
 unfold ptn; rw [Nat.mod_eq_of_lt h, List.getElem?_eq_getElem h]; simp [List.getD, h]
theorem ptn_mod {l : List Pt} {k : Nat} (h : 0 < l.length) : l[k % l.length]? = some (ptn l k) := by
 have := ptn_get (l := l) (Nat.mod_lt k h)
 rw [this]; unfold ptn; rw [Nat.mod_mod]
theorem edn_get {l : List Pt} {k : Nat} (h : k < l.length) : (eds l)[k]? = some (edn l k) := by
 have hk : k < (eds l).length := by rw [eds_len]; exact h
 obtain ⟨e, he⟩ : ∃ e, (eds l)[k]? = some e := ⟨_, List.getElem?_eq_getElem hk⟩
 obtain ⟨_, h1, h2⟩ := eds_get he
 rw [ptn_get h] at h1
 rw [ptn_mod (by omega)] at h2
 simp only [Option.some.injEq] at h1 h2
 rw [he]; unfold edn; rw [h1, h2]
theorem range_get {n k : Nat} (h : k < n) : (List.range n)[k]? = some k := by simp [h]
end Go.Geo

namespace Go.Proofs.YtnecdcaaknhgpaaGreat.G
open Go Go.Zv
open Go.Geo
theorem c105 (x : List (List LV)) (h : LV.closeds [.vs x] = true) : pc E 105 [.vs x] = some (.fn (.func 110) [] [.fp [.vs x]]) := by
 rw [pc_eq]; simp +contextual -implicitDefEqProofs (maxSteps := 2000000) only [go_sem, ↓reduceIte, E_105, A105, h]
theorem cl_c2 (l : List Pt) : LV.closeds [.vs (l.map c2)] = true := rfl
theorem c105' (l : List Pt) : pc E 105 [.vs (l.map c2)] = some (.fn (.func 110) [] [.fp [.vs (l.map c2)]]) := c105 _ (cl_c2 l)
abbrev FR28 (l : List Pt) : Env := [(3, .ptr 768 0), (4, .ptr 1024 0), (5, .ptr 1280 0), (11, .fn (Fn.func 110) [] [.fp [.vs (l.map c2)]])]
theorem c97 (l : List Pt) (hl : l.length ≤ 1000000000) (px py : Int) : pc E 97 [.vs (l.map c2), .agg [.int .i64 px, .int .i64 py]] = some (.int .i64 (locI l (px, py))) := by
 have h57 := c105' l
 have lp := loop_leave (fun S => (K E A110_L0 S).bind (blockR 0 (some []) [3, 4, 24]))
  (fun k (x : Bool) => ⟨[(0, .yl 1024000), (1, .fp [.vs (l.map c2)]), (5, .vs (l.map c2)), (6, .int .i64 l.length), (7, .int .i64 k)], [FR28 l, [(0, .yl 1024000)]], [(1024000, .loop (FR28 l) [12, 13] A97_R0a A97_R0b LSt.ready AEx.nrm), (1280, .box [.bool x]), (1024, .box [.int .i64 0]), (768, .box [.int .i64 px, .int .i64 py])], 1⟩)
  (eds l) (parF (px, py)) (onE (px, py)) (fun o => ∃ (k : Int) (x : Bool), o = some (.ex .ret ⟨[(0, .yl 1024000), (1, .fp [.vs (l.map c2)]), (5, .vs (l.map c2)), (6, .int .i64 l.length), (7, .int .i64 k), (25, .bool true)], [FR28 l, [(0, .yl 1024000)]], [(1024000, .loop (FR28 l) [12, 13] A97_R0a A97_R0b LSt.done AEx.ret), (1280, .box [.bool x]), (1024, .box [.int .i64 0]), (768, .box [.int .i64 px, .int .i64 py])], 1⟩))
  (fun x => some (.ex .nrm ⟨[], [FR28 l, [(0, .yl 1024000)]], [(1024000, .loop (FR28 l) [12, 13] A97_R0a A97_R0b LSt.ready AEx.nrm), (1280, .box [.bool x]), (1024, .box [.int .i64 0]), (768, .box [.int .i64 px, .int .i64 py])], 1⟩))
  (fun x => by
   rw [eds_len]
   show (K E A110_L0 _).bind _ = _
   rw [A110_L0_eq]; simp +contextual -implicitDefEqProofs (maxSteps := 2000000) only [go_sem, ↓reduceIte, A110_L0b, Int.lt_irrefl])
  (fun k e x hk he => by
   obtain ⟨hk', g1, g2⟩ := eds_get he
   have g1 := get_c2 g1
   have g2 := get_c2 g2
   obtain ⟨m1, m2, m3, m4, m5⟩ := mod_nat hk' hl
   have hw := wr_k (k := k) (by omega)
   have h1 : (k : Int) < l.length := by omega
   have h0 : (0 : Int) ≤ k := by omega
   obtain ⟨⟨ax, ay⟩, ⟨bx, by_⟩⟩ := e
   have o1 := c106 ax ay bx by_ px py
   have o2 := c95 ax ay bx by_ px py
   refine ⟨fun hp => ⟨k, x, ?_⟩, fun hp => ?_⟩
   ·simp only [onE] at hp
    rw [hp] at o1
    show (K E A110_L0 _).bind _ = _
    rw [A110_L0_eq]
    simp +contextual -implicitDefEqProofs (maxSteps := 2000000) only [go_sem, ↓reduceIte, A110_L0b, A97_R0a, A97_R0b, List.length_map, h0, h1, g1, g2, m1, m2, m3, m4, m5, hw, o1]
   ·simp only [onE] at hp
    rw [hp] at o1
    show (K E A110_L0 _).bind _ = (K E A110_L0 _).bind _
    conv => lhs; rw [A110_L0_eq]
    simp only [parF, flE]
    generalize sgn (crW ax ay bx by_ px py) = s at *
    by_cases d1 : py < ay <;> by_cases d2 : py < by_ <;> by_cases d3 : 0 < s <;> by_cases d4 : ay < by_ <;> cases x <;>
     simp +contextual -implicitDefEqProofs (maxSteps := 2000000) only [go_sem, ↓reduceIte, A110_L0b, A97_R0a, A97_R0b, List.length_map, h0, h1, g1, g2, m1, m2, m3, m4, m5, hw, o1, o2, d1, d2, d3, d4, decide_true, decide_false, bne_self_eq_false, beq_self_eq_true, Bool.and_true, Bool.and_false])
  false
 simp only [Int.natCast_zero, Int.ofNat_zero] at lp
 unfold locI
 cases ha : (eds l).any (onE (px, py)) with
 | true =>
   obtain ⟨k, x, lq⟩ := lp.1 ha
   rw [pc_eq]; simp +contextual -implicitDefEqProofs (maxSteps := 2000000) only [go_sem, ↓reduceIte, E_97, A97, h57, E_110, A110, A97_R0, List.length_map, lq]
 | false =>
   have lq := lp.2 ha
   cases hb : (eds l).foldl (parF (px, py)) false <;> rw [hb] at lq <;> rw [pc_eq] <;> simp +contextual -implicitDefEqProofs (maxSteps := 2000000) only [go_sem, ↓reduceIte, E_97, A97, h57, E_110, A110, A97_R0, List.length_map, lq]
abbrev FR67 (l : List Pt) : Env := [(1, .ptr 256 0), (2, .ptr 512 0), (3, .ptr 768 0), (11, .fn (Fn.func 110) [] [.fp [.vs (l.map c2)]])]
abbrev FI67 (l : List Pt) : Env := [(2, .ptr 512 0), (3, .ptr 768 0), (4, .ptr 2098176 0), (5, .ptr 2098432 0), (28, .fn (Fn.func 110) [] [.fp [.vs (l.map c2)]])]
abbrev FF67 (l : List Pt) (k ax ay bx by_ k1 : Int) (k1m : Nat) : List Env := [FI67 l, [(0, .yl 3121153)], [(0, .yl 1024000)], [(23, .agg [.int .i64 ax, .int .i64 ay, .int .i64 bx, .int .i64 by_]), (22, .agg [.int .i64 bx, .int .i64 by_]), (21, .fp [.int .i64 bx, .int .i64 by_]), (20, .int .i64 k1m), (19, .int .i64 l.length), (18, .vs (l.map c2)), (17, .int .i64 k1), (16, .int .i64 k), (15, .vs (l.map c2)), (14, .agg [.int .i64 ax, .int .i64 ay]), (13, .int .i64 k), (12, .yl 1024000), (0, .yl 1024000), (1, .fp [.vs (l.map c2)]), (3, .int .i64 k), (4, .ptr 1049600 0), (5, .vs (l.map c2)), (6, .int .i64 l.length), (7, .int .i64 k)], FR67 l, [(0, .yl 1024000)]]
theorem wr_2 {k : Nat} (h : k ≤ 1000000000) : IntKind.i64.wrap (((k : Nat) : Int) + 2) = ((k + 2 : Nat) : Int) := by rw [wrap_small (by omega) (by omega)]; omega
end Go.Proofs.YtnecdcaaknhgpaaGreat.G
