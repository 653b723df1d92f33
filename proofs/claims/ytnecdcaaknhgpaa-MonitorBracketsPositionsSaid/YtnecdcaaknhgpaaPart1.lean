/- Part of the proof: the evaluation of the program's code and its tie to the machine, or what functions of the program compute over it. -/
import Derived.Test.YtnecdcaaknhgpaaEng6
import Derived.KernelRfl
namespace Go.Proofs.Ytnecdcaaknhgpaa
open Go Go.Zv
set_option maxRecDepth 100000
def A10_L0b : ACode := 
(.seq (
(.seq (
.reg none [
s_ 51 (.mv (.t 12)),
s_ 52 (.bin .lss (.t 51) (.c (.int .i64 3)))] (some [5, 6, 7, 8, 10, 11, 12, 52]) []) (
(.cond (.t 52) (
.skip) (
.exit 0))))) (
(.seq (
(.block 1 (
(.seq (
.reg (some [.dr [61] [], .dr [61] [], .dr [61] [], .dr [61] [], .dr [57] [], .dr [57] [], .dr [57] [], .free, .free, .dr [70] [], .dr [70] [], .dr [70] [], .dr [70] [], .dr [66] [], .dr [66] [], .dr [66] [], .free, .free, .free, .dr [79] [], .dr [79] [], .dr [79] [], .dr [76] [], .dr [76] [], .dr [76] [], .free, .free, .free, .free, .dr [91, 94] [], .dr [91, 94] [], .dr [91, 94] [], .dr [91, 94] [], .dr [91, 94] [], .dr [86, 94] [], .dr [86, 94] [], .dr [86, 94] [], .dr [86, 91] [], .dr [86, 91] [], .dr [86, 91] [], .dr [86] [], .free, .free, .free, .dr [104] [], .dr [104] [], .dr [104] [], .dr [101] [], .dr [101] [], .dr [101] [], .free, .free, .free, .dr [113] [], .dr [113] [], .dr [113] [], .dr [110] [], .dr [110] [], .dr [110] [], .free, .free]) [
s_ 55 (.mv (.t 12)),
s_ 56 (.iaa 3 1 (.t 7) (.t 55)),
s_ 57 (.load false 1 (.t 56)),
s_ 58 (.bin .mul (.c (.int .i64 12)) (.t 57)),
s_ 59 (.mv (.t 12)),
s_ 60 (.iaa 3 1 (.t 6) (.t 59)),
s_ 61 (.load false 1 (.t 60)),
s_ 62 (.bin .gtr (.t 58) (.t 61)),
s_ 63 (.mv (.t 62)),
⟨some 64, .mv (.t 12), some (63, false), true⟩,
⟨some 65, .iaa 3 1 (.t 8) (.t 64), some (63, false), true⟩,
⟨some 66, .load false 1 (.t 65), some (63, false), true⟩,
⟨some 67, .bin .mul (.c (.int .i64 12)) (.t 66), some (63, false), true⟩,
⟨some 68, .mv (.t 12), some (63, false), true⟩,
⟨some 69, .iaa 3 1 (.t 6) (.t 68), some (63, false), true⟩,
⟨some 70, .load false 1 (.t 69), some (63, false), true⟩,
⟨some 71, .bin .lss (.t 67) (.t 70), some (63, false), true⟩,
s_ 72 (.pick (.t 63) (.c (.bool true)) (.t 71)),
s_ 73 (.mv (.t 72)),
⟨some 74, .mv (.t 12), some (73, false), true⟩,
⟨some 75, .iaa 3 1 (.t 8) (.t 74), some (73, false), true⟩,
⟨some 76, .load false 1 (.t 75), some (73, false), true⟩,
⟨some 77, .mv (.t 12), some (73, false), true⟩,
⟨some 78, .iaa 3 1 (.t 7) (.t 77), some (73, false), true⟩,
⟨some 79, .load false 1 (.t 78), some (73, false), true⟩,
⟨some 80, .bin .sub (.t 76) (.t 79), some (73, false), true⟩,
⟨some 81, .bin .gtr (.t 80) (.c (.int .i64 1)), some (73, false), true⟩,
s_ 82 (.pick (.t 73) (.c (.bool true)) (.t 81)),
s_ 83 (.mv (.t 82)),
⟨some 84, .mv (.t 12), some (83, false), true⟩,
⟨some 85, .iaa 3 1 (.t 6) (.t 84), some (83, false), true⟩,
⟨some 86, .load false 1 (.t 85), some (83, false), true⟩,
⟨some 87, .bin .rem (.t 86) (.c (.int .i64 12)), some (83, false), true⟩,
⟨some 88, .bin .eql (.t 87) (.c (i0_)), some (83, false), true⟩,
⟨some 89, .mv (.t 12), some (83, false), true⟩,
⟨some 90, .iaa 3 1 (.t 7) (.t 89), some (83, false), true⟩,
⟨some 91, .load false 1 (.t 90), some (83, false), true⟩,
⟨some 92, .mv (.t 12), some (83, false), true⟩,
⟨some 93, .iaa 3 1 (.t 8) (.t 92), some (83, false), true⟩,
⟨some 94, .load false 1 (.t 93), some (83, false), true⟩,
⟨some 95, .bin .eql (.t 91) (.t 94), some (83, false), true⟩,
⟨some 96, .bib true (.t 88) (.t 95), some (83, false), true⟩,
s_ 97 (.pick (.t 83) (.c (.bool true)) (.t 96)),
s_ 98 (.mv (.t 97)),
⟨some 99, .mv (.t 12), some (98, false), true⟩,
⟨some 100, .iaa 3 1 (.t 10) (.t 99), some (98, false), true⟩,
⟨some 101, .load false 1 (.t 100), some (98, false), true⟩,
⟨some 102, .mv (.t 12), some (98, false), true⟩,
⟨some 103, .iaa 3 1 (.t 7) (.t 102), some (98, false), true⟩,
⟨some 104, .load false 1 (.t 103), some (98, false), true⟩,
⟨some 105, .bin .lss (.t 101) (.t 104), some (98, false), true⟩,
s_ 106 (.pick (.t 98) (.c (.bool true)) (.t 105)),
s_ 107 (.mv (.t 106)),
⟨some 108, .mv (.t 12), some (107, false), true⟩,
⟨some 109, .iaa 3 1 (.t 11) (.t 108), some (107, false), true⟩,
⟨some 110, .load false 1 (.t 109), some (107, false), true⟩,
⟨some 111, .mv (.t 12), some (107, false), true⟩,
⟨some 112, .iaa 3 1 (.t 8) (.t 111), some (107, false), true⟩,
⟨some 113, .load false 1 (.t 112), some (107, false), true⟩,
⟨some 114, .bin .lss (.t 110) (.t 113), some (107, false), true⟩,
s_ 115 (.pick (.t 107) (.c (.bool true)) (.t 114))] (some [5, 6, 7, 8, 10, 11, 12, 115]) []) (
(.cond (.t 115) (
(.seq (
.reg none [
s_ 4 (.as (.c (.bool false)))] (some [4]) []) (
.ret))) (
.skip))))) (some [5, 6, 7, 8, 10, 11, 12]) [4])) (
.reg none [
s_ 53 (.mv (.t 12)),
s_ 54 (.bin .add (.t 53) (.c (.int .i64 1))),
s_ 12 (.as (.t 54))] (some [5, 6, 7, 8, 10, 11, 12]) []))))
def A10_L0 : ACode := .loop A10_L0b (some [5, 6, 7, 8, 10, 11, 12]) [4]
def A10 : AFn := .code [.t 4] (
(.seq (
.reg none [
s_ 2 (.box (.t 0)),
s_ 4 (.as (.c (.bool false)))] (some [1, 2]) []) (
(.seq (
.reg none [
s_ 13 (.call 38 []),
s_ 5 (.as (.t 13))] (some [1, 2, 5]) []) (
(.seq (
.reg none [
s_ 14 (.iaa 3 1 (.t 2) (.c (i0_))),
s_ 15 (.load false 1 (.t 14)),
s_ 16 (.conv .i64 (.t 15)),
s_ 17 (.bin .rem (.t 16) (.c (.int .i64 200))),
s_ 18 (.iaa 3 1 (.t 2) (.c (.int .i64 1))),
s_ 19 (.load false 1 (.t 18)),
s_ 20 (.conv .i64 (.t 19)),
s_ 21 (.bin .rem (.t 20) (.c (.int .i64 200))),
s_ 22 (.iaa 3 1 (.t 2) (.c (.int .i64 2))),
s_ 23 (.load false 1 (.t 22)),
s_ 24 (.conv .i64 (.t 23)),
s_ 25 (.bin .rem (.t 24) (.c (.int .i64 200))),
s_ 26 (.build [i0_, i0_, i0_] [(0, 1, .t 17), (1, 1, .t 21), (2, 1, .t 25)]),
s_ 6 (.alloc [i0_, i0_, i0_]),
n_ (.store 3 (.t 6) (.t 26))] (some [1, 5, 6]) [2]) (
(.seq (
.reg none [
s_ 28 (.load true 3 (.t 6)),
s_ 29 (.call 39 [.t 28]),
s_ 27 (.mv (.t 29)),
s_ 30 (.ext (.t 27) 0),
s_ 31 (.ext (.t 27) 1),
s_ 7 (.alloc [i0_, i0_, i0_]),
s_ 8 (.alloc [i0_, i0_, i0_]),
n_ (.store 3 (.t 7) (.t 30)),
n_ (.store 3 (.t 8) (.t 31))] (some [1, 5, 6, 7, 8]) []) (
(.seq (
.reg none [
s_ 32 (.load true 3 (.t 6)),
s_ 9 (.alloc [i0_, i0_, i0_]),
n_ (.store 3 (.t 9) (.t 32))] (some [1, 5, 6, 7, 8, 9]) []) (
(.seq (
.reg none [
s_ 33 (.mv (.t 1)),
s_ 34 (.conv .i64 (.t 33)),
s_ 35 (.bin .rem (.t 34) (.c (.int .i64 3))),
s_ 36 (.mv (.t 1)),
s_ 37 (.conv .i64 (.t 36)),
s_ 38 (.bin .rem (.t 37) (.c (.int .i64 3))),
s_ 39 (.iaa 3 1 (.t 9) (.t 38)),
s_ 40 (.load false 1 (.t 39)),
s_ 41 (.mv (.t 1)),
s_ 42 (.conv .i64 (.t 41)),
s_ 43 (.bin .rem (.t 42) (.c (.int .i64 12))),
s_ 44 (.bin .add (.t 40) (.t 43)),
s_ 45 (.iaa 3 1 (.t 9) (.t 35)),
n_ (.store 1 (.t 45) (.t 44))] (some [5, 6, 7, 8, 9]) []) (
(.seq (
.reg none [
s_ 47 (.load true 3 (.t 9)),
s_ 48 (.call 39 [.t 47]),
s_ 46 (.mv (.t 48)),
s_ 49 (.ext (.t 46) 0),
s_ 50 (.ext (.t 46) 1),
s_ 10 (.alloc [i0_, i0_, i0_]),
s_ 11 (.alloc [i0_, i0_, i0_]),
n_ (.store 3 (.t 10) (.t 49)),
n_ (.store 3 (.t 11) (.t 50))] (some [5, 6, 7, 8, 10, 11]) [9]) (
(.seq (
(.seq (
.reg none [
s_ 12 (.as (.c (i0_)))] (some [5, 6, 7, 8, 10, 11, 12]) []) (
(.block 0 (
A10_L0) (some [5]) [4, 12])))) (
(.seq (
.reg none [
s_ 116 (.mv (.t 5)),
s_ 4 (.as (.t 116))] (some [4]) []) (
.ret)))))))))))))))))))
def A20_L0b : ACode := 
(.seq (
.reg none [
s_ 24 (.bin .lss (.t 23) (.c (.int .i64 3)))] (some [4, 5, 6, 7, 22, 23, 24]) []) (
(.seq (
(.cond (.t 24) (
.skip) (
.exit 0))) (
(.seq (
(.block 1 (
(.seq (
.reg none [
s_ 25 (.mv (.t 23)),
s_ 26 (.ixa true 3 3 (.t 22) (.t 23)),
s_ 9 (.alloc [i0_, i0_, i0_]),
s_ 8 (.as (.t 25)),
n_ (.store 3 (.t 9) (.t 26))] (some [4, 5, 6, 7, 8, 9, 22, 23]) []) (
.reg (some [.loc, .loc, .loc, .loc, .loc, .loc, .dr [29, 32, 36] [], .dr [28, 32, 36] [], .dr [28, 29, 36] [], .dr [28, 29, 32] [], .free, .free, .free]) [
s_ 27 (.mv (.t 8)),
s_ 30 (.mv (.t 8)),
s_ 31 (.iaa 4 2 (.t 7) (.t 30)),
s_ 33 (.mv (.t 8)),
s_ 34 (.bin .add (.t 33) (.c (.int .i64 1))),
s_ 35 (.iaa 4 2 (.t 7) (.t 34)),
s_ 28 (.load true 15 (.t 6)),
s_ 29 (.load true 3 (.t 9)),
s_ 32 (.load true 2 (.t 31)),
s_ 36 (.load true 2 (.t 35)),
s_ 37 (.call 48 [.t 28, .t 29, .t 32, .t 36]),
s_ 38 (.iaa 3 1 (.t 5) (.t 27)),
n_ (.store 1 (.t 38) (.t 37))] (some [4, 5, 6, 7, 22, 23]) [9]))) (some [4, 5, 6, 7, 22, 23]) [8, 9, 37])) (
.reg none [
s_ 39 (.bin .add (.t 23) (.c (.int .i64 1))),
s_ 23 (.mv (.t 39))] (some [4, 5, 6, 7, 22, 23]) []))))))
def A20_L0 : ACode := .loop A20_L0b (some [4, 5, 6, 7, 22, 23]) [8, 9, 37]
def A20 : AFn := .code [.cell true 3 4] (
(.seq (
.reg none [
s_ 2 (.box (.t 0)),
s_ 3 (.box (.t 1)),
s_ 4 (.alloc [.nils 2, .nils 2, .nils 2])] (some [2, 3, 4]) []) (
(.seq (
.reg none [
s_ 5 (.alloc [.nils 2, .nils 2, .nils 2])] (some [2, 3, 4, 5]) []) (
(.seq (
.reg none [
s_ 10 (.load true 12 (.t 2)),
s_ 11 (.load true 3 (.t 3)),
s_ 12 (.build [i0_, i0_, i0_, i0_, i0_, i0_, i0_, i0_, i0_, i0_, i0_, i0_, i0_, i0_, i0_] [(0, 12, .t 10), (12, 3, .t 11)]),
s_ 6 (.alloc [i0_, i0_, i0_, i0_, i0_, i0_, i0_, i0_, i0_, i0_, i0_, i0_, i0_, i0_, i0_]),
n_ (.store 15 (.t 6) (.t 12))] (some [4, 5, 6]) [2, 3]) (
(.seq (
.reg none [
s_ 13 (.fad 0 (.t 6)),
s_ 14 (.load true 12 (.t 13)),
s_ 15 (.fad 12 (.t 6)),
s_ 16 (.load true 3 (.t 15)),
s_ 17 (.call 27 [.t 14, .t 16]),
s_ 7 (.alloc [i0_, i0_, i0_, i0_, i0_, i0_, i0_, i0_]),
n_ (.store 8 (.t 7) (.t 17))] (some [4, 5, 6, 7]) []) (
(.seq (
(.seq (
.reg none [
s_ 18 (.fad 0 (.t 6)),
s_ 19 (.load true 12 (.t 18)),
s_ 20 (.fad 12 (.t 6)),
s_ 21 (.load true 3 (.t 20)),
s_ 22 (.call 25 [.t 19, .t 21]),
s_ 23 (.mv (.c (i0_)))] (some [4, 5, 6, 7, 22, 23]) []) (
(.block 0 (
A20_L0) (some [4, 5]) [8, 9, 37])))) (
(.seq (
.reg none [
s_ 40 (.load true 3 (.t 5)),
n_ (.store 3 (.t 4) (.t 40))] (some [4]) [5]) (
.ret)))))))))))))
def A25_L0b : ACode := 
(.seq (
.reg none [
s_ 12 (.bin .lss (.t 11) (.c (.int .i64 3)))] (some [4, 5, 6, 10, 11, 12]) []) (
(.seq (
(.cond (.t 12) (
.skip) (
.exit 0))) (
(.seq (
(.block 1 (
(.seq (
.reg none [
s_ 13 (.mv (.t 11)),
s_ 14 (.ixa false 3 1 (.t 10) (.t 11)),
s_ 7 (.as (.t 13)),
s_ 8 (.as (.t 14))] (some [4, 5, 6, 7, 8, 10, 11]) []) (
(.seq (
.reg none [
s_ 15 (.load true 3 (.t 6)),
s_ 16 (.mv (.t 8)),
s_ 17 (.call 51 [.t 15, .t 16]),
n_ (.store 3 (.t 6) (.t 17))] (some [4, 5, 6, 7, 10, 11]) []) (
.reg none [
s_ 18 (.mv (.t 7)),
s_ 19 (.load true 3 (.t 6)),
s_ 20 (.iaa 3 3 (.t 5) (.t 18)),
n_ (.store 3 (.t 20) (.t 19))] (some [4, 5, 6, 10, 11]) []))))) (some [4, 5, 6, 10, 11]) [7, 8])) (
.reg none [
s_ 21 (.bin .add (.t 11) (.c (.int .i64 1))),
s_ 11 (.mv (.t 21))] (some [4, 5, 6, 10, 11]) []))))))
def A25_L0 : ACode := .loop A25_L0b (some [4, 5, 6, 10, 11]) [7, 8]
def A25 : AFn := .code [.cell true 9 4] (
(.seq (
.reg none [
s_ 2 (.box (.t 0)),
s_ 3 (.box (.t 1)),
s_ 4 (.alloc [i0_, i0_, i0_, i0_, i0_, i0_, i0_, i0_, i0_])] (some [3, 4]) [2]) (
(.seq (
.reg none [
s_ 5 (.alloc [i0_, i0_, i0_, i0_, i0_, i0_, i0_, i0_, i0_])] (some [3, 4, 5]) []) (
(.seq (
.reg none [
s_ 9 (.build [i0_, i0_, i0_] [(0, 1, .c (.int .i64 1))]),
s_ 6 (.alloc [i0_, i0_, i0_]),
n_ (.store 3 (.t 6) (.t 9))] (some [3, 4, 5, 6]) []) (
(.seq (
(.seq (
.reg none [
s_ 10 (.load true 3 (.t 3)),
s_ 11 (.mv (.c (i0_)))] (some [4, 5, 6, 10, 11]) [3]) (
(.block 0 (
A25_L0) (some [4, 5]) [7, 8, 17])))) (
(.seq (
.reg none [
s_ 22 (.load true 9 (.t 5)),
n_ (.store 9 (.t 4) (.t 22))] (some [4]) [5]) (
.ret)))))))))))
def A27_L0b : ACode := 
(.seq (
.reg none [
s_ 20 (.bin .lss (.t 19) (.c (.int .i64 3)))] (some [2, 4, 5, 7, 18, 19, 20]) []) (
(.seq (
(.cond (.t 20) (
.skip) (
.exit 0))) (
(.seq (
(.block 1 (
(.seq (
.reg none [
s_ 21 (.mv (.t 19)),
s_ 22 (.ixa true 3 3 (.t 18) (.t 19)),
s_ 9 (.alloc [i0_, i0_, i0_]),
s_ 8 (.as (.t 21)),
n_ (.store 3 (.t 9) (.t 22))] (some [2, 4, 5, 7, 8, 9, 18, 19]) []) (
.reg (some [.loc, .loc, .loc, .loc, .loc, .loc, .dr [30] [], .dr [26] [], .free, .free, .free, .free]) [
s_ 23 (.mv (.t 8)),
s_ 24 (.bin .add (.t 23) (.c (.int .i64 1))),
s_ 25 (.mv (.t 7)),
s_ 27 (.mv (.t 8)),
s_ 28 (.fad 2 (.t 2)),
s_ 29 (.iaa 3 1 (.t 28) (.t 27)),
s_ 26 (.load true 3 (.t 9)),
s_ 30 (.load false 1 (.t 29)),
s_ 31 (.call 55 [.t 26, .t 30]),
s_ 32 (.cal (.t 25) [.t 31]),
s_ 33 (.iaa 4 2 (.t 5) (.t 24)),
n_ (.store 2 (.t 33) (.t 32))] (some [2, 4, 5, 7, 18, 19]) [9]))) (some [2, 4, 5, 7, 18, 19]) [8, 9, 31, 32])) (
.reg none [
s_ 34 (.bin .add (.t 19) (.c (.int .i64 1))),
s_ 19 (.mv (.t 34))] (some [2, 4, 5, 7, 18, 19]) []))))))
def A27_L0 : ACode := .loop A27_L0b (some [2, 4, 5, 7, 18, 19]) [8, 9, 31, 32]
def A27 : AFn := .code [.cell true 8 4] (
(.seq (
.reg none [
s_ 2 (.box (.t 0)),
s_ 3 (.box (.t 1)),
s_ 4 (.alloc [i0_, i0_, i0_, i0_, i0_, i0_, i0_, i0_])] (some [2, 3, 4]) []) (
(.seq (
.reg none [
s_ 10 (.fad 0 (.t 2)),
s_ 11 (.load true 2 (.t 10)),
s_ 12 (.build [i0_, i0_, i0_, i0_, i0_, i0_, i0_, i0_] [(0, 2, .t 11)]),
s_ 5 (.alloc [i0_, i0_, i0_, i0_, i0_, i0_, i0_, i0_]),
n_ (.store 8 (.t 5) (.t 12))] (some [2, 3, 4, 5]) []) (
(.seq (
.reg none [
s_ 13 (.fad 0 (.t 2)),
s_ 14 (.load true 2 (.t 13)),
s_ 6 (.alloc [i0_, i0_]),
n_ (.store 2 (.t 6) (.t 14))] (some [2, 3, 4, 5, 6]) []) (
(.seq (
.reg none [
s_ 15 (.mkf (.func 53) [] [.t 6]),
s_ 7 (.as (.t 15))] (some [2, 3, 4, 5, 7]) []) (
(.seq (
(.seq (
.reg none [
s_ 16 (.load true 12 (.t 2)),
s_ 17 (.load true 3 (.t 3)),
s_ 18 (.call 25 [.t 16, .t 17]),
s_ 19 (.mv (.c (i0_)))] (some [2, 4, 5, 7, 18, 19]) [3]) (
(.block 0 (
A27_L0) (some [4, 5]) [8, 9, 31, 32])))) (
(.seq (
.reg none [
s_ 35 (.load true 8 (.t 5)),
n_ (.store 8 (.t 4) (.t 35))] (some [4]) [5]) (
.ret)))))))))))))
def A33_R0a : ACode := 
.reg none [
s_ 7 (.alloc [i0_, i0_, i0_, i0_]),
n_ (.store 4 (.t 7) (.t 13))] (some [3, 4, 5, 7]) []
def A33_R0b : ACode := 
(.block 1 (
(.seq (
.reg (some [.dr [17, 8, 9] [], .dr [17, 8, 9] [], .dr [15, 8, 9] [], .dr [15, 8, 9] [], .dr [15, 17, 9] [], .dr [15, 17, 8] [], .dr [17] [8], .free]) [
s_ 14 (.iaa 2 2 (.t 7) (.c (i0_))),
s_ 15 (.load true 2 (.t 14)),
s_ 16 (.iaa 2 2 (.t 7) (.c (.int .i64 1))),
s_ 17 (.load true 2 (.t 16)),
s_ 8 (.alloc [i0_, i0_]),
s_ 9 (.alloc [i0_, i0_]),
n_ (.store 2 (.t 8) (.t 15)),
n_ (.store 2 (.t 9) (.t 17))] (some [3, 4, 5, 8, 9]) [7]) (
(.seq (
(.seq (
.reg none [
s_ 18 (.load true 2 (.t 8)),
s_ 19 (.load true 2 (.t 9)),
s_ 20 (.load true 2 (.t 3)),
s_ 21 (.call 61 [.t 18, .t 19, .t 20])] (some [3, 4, 5, 8, 9, 21]) []) (
(.cond (.t 21) (
(.seq (
.reg none [
n_ (.store 1 (.t 4) (.c (i0_)))] (some []) []) (
.ret))) (
.skip))))) (
(.seq (
(.seq (
.reg none [
s_ 22 (.fad 1 (.t 8)),
s_ 23 (.load false 1 (.t 22)),
s_ 24 (.fad 1 (.t 3)),
s_ 25 (.load false 1 (.t 24)),
s_ 26 (.bin .gtr (.t 23) (.t 25)),
s_ 27 (.fad 1 (.t 9)),
s_ 28 (.load false 1 (.t 27)),
s_ 29 (.fad 1 (.t 3)),
s_ 30 (.load false 1 (.t 29)),
s_ 31 (.bin .gtr (.t 28) (.t 30)),
s_ 32 (.bib false (.t 26) (.t 31))] (some [3, 5, 8, 9, 32]) []) (
(.cond (.t 32) (
.exit 1) (
.skip))))) (
(.seq (
.reg (some [.dr [34, 35, 39, 41] [], .dr [33, 35, 39, 41] [], .dr [33, 34, 39, 41] [], .dr [39, 41] [], .dr [39, 41] [], .dr [33, 34, 35, 36, 41] [], .dr [33, 34, 35, 36, 41] [], .dr [33, 34, 35, 36, 39] [], .dr [33, 34, 35, 36, 39] [], .dr [33, 34, 35, 36] [], .free]) [
s_ 33 (.load true 2 (.t 8)),
s_ 34 (.load true 2 (.t 9)),
s_ 35 (.load true 2 (.t 3)),
s_ 36 (.call 62 [.t 33, .t 34, .t 35]),
s_ 37 (.bin .gtr (.t 36) (.c (i0_))),
s_ 38 (.fad 1 (.t 9)),
s_ 39 (.load false 1 (.t 38)),
s_ 40 (.fad 1 (.t 8)),
s_ 41 (.load false 1 (.t 40)),
s_ 42 (.bin .gtr (.t 39) (.t 41)),
s_ 43 (.bib false (.t 37) (.t 42))] (some [5, 43]) [3, 8, 9]) (
(.cond (.t 43) (
.reg none [
s_ 44 (.load false 1 (.t 5)),
s_ 45 (.un .not (.t 44)),
n_ (.store 1 (.t 5) (.t 45))] (some []) [5]) (
.skip))))))))))) (some []) [8, 9, 21, 36])
def A33_R0 : ACode := .rf 0 (.t 11) [12, 13]  A33_R0a A33_R0b
def A33 : AFn := .code [.cell false 1 4] (
(.seq (
.reg none [
s_ 3 (.box (.t 1)),
s_ 4 (.alloc [i0_])] (some [0, 3, 4]) []) (
(.seq (
.reg none [
s_ 5 (.alloc [.bool false]),
n_ (.store 1 (.t 5) (.c (.bool false)))] (some [0, 3, 4, 5]) []) (
(.seq (
(.seq (
.reg none [
s_ 10 (.mv (.t 0)),
s_ 11 (.call 60 [.t 10])] (some [3, 4, 5, 11]) []) (
(.block 0 (
A33_R0) (some [4, 5]) [7, 8, 9, 21, 36])))) (
(.seq (
(.seq (
.reg none [
s_ 46 (.load false 1 (.t 5))] (some [4, 46]) [5]) (
(.cond (.t 46) (
(.seq (
.reg none [
n_ (.store 1 (.t 4) (.c (.int .i64 1)))] (some [4]) []) (
.ret))) (
.skip))))) (
(.seq (
.reg none [
n_ (.store 1 (.t 4) (.c (.int .i64 (-1))))] (some [4]) []) (
.ret)))))))))))
def A37 : AFn := .code [.t 4] (
(.seq (
.reg none [
s_ 4 (.as (.c (.bool false)))] (some [0, 1]) []) (
(.seq (
.reg none [
s_ 8 (.mv (.t 0)),
s_ 9 (.mv (.t 1)),
s_ 10 (.call 69 [.t 8, .t 9]),
s_ 7 (.mv (.t 10)),
s_ 11 (.ext (.t 7) 0),
s_ 12 (.ext (.t 7) 1),
s_ 5 (.alloc [i0_, i0_, i0_]),
n_ (.store 3 (.t 5) (.t 11)),
s_ 6 (.as (.t 12))] (some [6]) [5]) (
(.seq (
.reg none [
s_ 13 (.mv (.t 6)),
s_ 4 (.as (.t 13))] (some [4]) []) (
.ret)))))))
def A38 : AFn := .code [.t 0] (
(.seq (
.reg none [
s_ 0 (.as (.c (.bool false)))] (some []) []) (
(.seq (
.reg none [
s_ 11 (.call 70 []),
s_ 1 (.alloc [i0_, i0_, i0_, i0_, i0_, i0_, i0_, i0_, i0_, i0_, i0_, i0_, i0_, i0_, i0_, i0_, i0_, i0_, i0_, i0_, i0_, i0_, i0_, i0_, i0_, i0_, i0_, i0_, i0_, i0_, .nils 1, .nils 6, .nils 3, .nils 1, i0_, i0_, i0_, i0_, i0_, i0_, i0_, .nils 1, i0_, i0_]),
n_ (.store 44 (.t 1) (.t 11))] (some [1]) []) (
(.seq (
.reg none [
s_ 12 (.build [i0_, i0_, i0_] []),
s_ 13 (.build [i0_, i0_, i0_] [(0, 1, .c (.int .i64 108)), (1, 1, .c (i0_)), (2, 1, .c (i0_))]),
s_ 14 (.build [i0_, i0_, i0_, i0_, i0_, i0_] [(0, 3, .t 12), (3, 3, .t 13)]),
s_ 2 (.alloc [i0_, i0_, i0_, i0_, i0_, i0_]),
n_ (.store 6 (.t 2) (.t 14))] (some [1, 2]) []) (
(.seq (
.reg none [
s_ 15 (.load true 6 (.t 2)),
s_ 3 (.alloc [i0_, i0_, i0_, i0_, i0_, i0_]),
n_ (.store 6 (.t 3) (.t 15))] (some [1, 2, 3]) []) (
(.seq (
.reg none [
s_ 16 (.iaa 2 3 (.t 3) (.c (i0_))),
s_ 17 (.iaa 3 1 (.t 16) (.c (.int .i64 2))),
n_ (.store 1 (.t 17) (.c (.int .i64 9)))] (some [1, 2, 3]) []) (
(.seq (
.reg none [
s_ 18 (.iaa 2 3 (.t 3) (.c (.int .i64 1))),
s_ 19 (.iaa 3 1 (.t 18) (.c (i0_))),
n_ (.store 1 (.t 19) (.c (.int .i64 105)))] (some [1, 2, 3]) []) (
(.seq (
.reg none [
s_ 21 (.build [i0_, i0_, i0_] [(0, 1, .c (.int .i64 (-1))), (1, 1, .c (.int .i64 12)), (2, 1, .c (.int .i64 13))]),
s_ 22 (.call 39 [.t 21]),
s_ 20 (.mv (.t 22)),
s_ 23 (.ext (.t 20) 0),
s_ 24 (.ext (.t 20) 1),
s_ 4 (.alloc [i0_, i0_, i0_]),
s_ 5 (.alloc [i0_, i0_, i0_]),
n_ (.store 3 (.t 4) (.t 23)),
n_ (.store 3 (.t 5) (.t 24))] (some [1, 2, 3, 4, 5]) []) (
(.seq (
.reg none [
s_ 25 (.load true 44 (.t 1)),
s_ 26 (.load true 6 (.t 2)),
s_ 27 (.load true 6 (.t 2)),
s_ 28 (.bsl 1 1 [.bool false] [(0, .c (.bool false))]),
s_ 29 (.call 41 [.t 25, .t 26, .t 27, .t 28]),
s_ 6 (.as (.t 29))] (some [1, 2, 3, 4, 5, 6]) []) (
(.seq (
.reg none [
s_ 30 (.load true 44 (.t 1)),
s_ 31 (.load true 6 (.t 2)),
s_ 32 (.load true 6 (.t 2)),
s_ 33 (.bsl 1 1 [.bool false] [(0, .c (.bool true))]),
s_ 34 (.call 41 [.t 30, .t 31, .t 32, .t 33]),
s_ 7 (.as (.t 34))] (some [1, 2, 3, 4, 5, 6, 7]) []) (
(.seq (
.reg none [
s_ 35 (.load true 44 (.t 1)),
s_ 36 (.load true 6 (.t 2)),
s_ 37 (.load true 6 (.t 3)),
s_ 38 (.bsl 1 1 [.bool false] [(0, .c (.bool false))]),
s_ 39 (.call 41 [.t 35, .t 36, .t 37, .t 38]),
s_ 8 (.as (.t 39))] (some [1, 2, 3, 4, 5, 6, 7, 8]) []) (
(.seq (
.reg none [
s_ 40 (.load true 44 (.t 1)),
s_ 41 (.load true 6 (.t 2)),
s_ 42 (.load true 6 (.t 3)),
s_ 43 (.bsl 1 1 [.bool false] [(0, .c (.bool true))]),
s_ 44 (.call 41 [.t 40, .t 41, .t 42, .t 43]),
s_ 9 (.as (.t 44))] (some [1, 2, 4, 5, 6, 7, 8, 9]) [3]) (
(.seq (
.reg none [
s_ 45 (.fad 42 (.t 1)),
n_ (.store 1 (.t 45) (.c (.int .i64 16)))] (some [1, 2, 4, 5, 6, 7, 8, 9]) []) (
(.seq (
.reg none [
s_ 46 (.load true 44 (.t 1)),
s_ 47 (.load true 6 (.t 2)),
s_ 48 (.load true 6 (.t 2)),
s_ 49 (.bsl 1 1 [.bool false] [(0, .c (.bool false))]),
s_ 50 (.call 41 [.t 46, .t 47, .t 48, .t 49]),
s_ 10 (.as (.t 50))] (some [1, 2, 4, 5, 6, 7, 8, 9, 10]) []) (
(.seq (
.reg none [
s_ 51 (.load true 3 (.t 4)),
s_ 52 (.build [i0_, i0_, i0_] [(0, 1, .c (.int .i64 (-1))), (1, 1, .c (.int .i64 1)), (2, 1, .c (.int .i64 1))]),
s_ 53 (.eqa false [0, 0, 0] (.t 51) (.t 52)),
s_ 54 (.mv (.t 53)),
⟨some 55, .load true 3 (.t 5), some (54, true), true⟩,
⟨some 56, .build [i0_, i0_, i0_] [(0, 1, .c (i0_)), (1, 1, .c (.int .i64 1)), (2, 1, .c (.int .i64 2))], some (54, true), true⟩,
⟨some 57, .eqa false [0, 0, 0] (.t 55) (.t 56), some (54, true), true⟩,
s_ 58 (.pick (.t 54) (.t 57) (.c (.bool false))),
s_ 59 (.mv (.t 58)),
⟨some 60, .mv (.t 6), some (59, true), true⟩,
⟨some 61, .len 0 (.t 60), some (59, true), true⟩,
⟨some 62, .bin .eql (.t 61) (.c (i0_)), some (59, true), true⟩,
s_ 63 (.pick (.t 59) (.t 62) (.c (.bool false))),
s_ 64 (.mv (.t 63)),
⟨some 65, .mv (.t 7), some (64, true), true⟩,
⟨some 66, .build [i0_, i0_, i0_, i0_] [(0, 1, .c (.int .i64 3))], some (64, true), true⟩,
⟨some 67, .build [i0_, i0_, i0_, i0_] [(0, 1, .c (.int .i64 4))], some (64, true), true⟩,
⟨some 68, .bsl 4 2 [i0_, i0_, i0_, i0_] [(0, .t 66), (1, .t 67)], some (64, true), true⟩,
⟨some 69, .call 71 [.t 65, .t 68], some (64, true), true⟩,
s_ 70 (.pick (.t 64) (.t 69) (.c (.bool false))),
s_ 71 (.mv (.t 70)),
⟨some 72, .mv (.t 8), some (71, true), true⟩,
⟨some 73, .build [i0_, i0_, i0_, i0_] [(0, 1, .c (.int .i64 1)), (2, 1, .c (.int .i64 2))], some (71, true), true⟩,
⟨some 74, .bsl 4 1 [i0_, i0_, i0_, i0_] [(0, .t 73)], some (71, true), true⟩,
⟨some 75, .call 71 [.t 72, .t 74], some (71, true), true⟩,
s_ 76 (.pick (.t 71) (.t 75) (.c (.bool false))),
s_ 77 (.mv (.t 76)),
⟨some 78, .mv (.t 9), some (77, true), true⟩,
⟨some 79, .build [i0_, i0_, i0_, i0_] [(0, 1, .c (.int .i64 1)), (2, 1, .c (.int .i64 2))], some (77, true), true⟩,
⟨some 80, .build [i0_, i0_, i0_, i0_] [(0, 1, .c (.int .i64 1)), (1, 1, .c (.int .i64 1))], some (77, true), true⟩,
⟨some 81, .build [i0_, i0_, i0_, i0_] [(0, 1, .c (.int .i64 3))], some (77, true), true⟩,
⟨some 82, .build [i0_, i0_, i0_, i0_] [(0, 1, .c (.int .i64 4))], some (77, true), true⟩,
⟨some 83, .bsl 4 4 [i0_, i0_, i0_, i0_] [(0, .t 79), (1, .t 80), (2, .t 81), (3, .t 82)], some (77, true), true⟩,
⟨some 84, .call 71 [.t 78, .t 83], some (77, true), true⟩,
s_ 85 (.pick (.t 77) (.t 84) (.c (.bool false))),
s_ 86 (.mv (.t 85)),
⟨some 87, .load true 44 (.t 1), some (86, true), true⟩,
⟨some 88, .load true 6 (.t 2), some (86, true), true⟩,
⟨some 89, .call 44 [.t 87, .t 88], some (86, true), true⟩,
⟨some 90, .un .not (.t 89), some (86, true), true⟩,
s_ 91 (.pick (.t 86) (.t 90) (.c (.bool false))),
s_ 92 (.mv (.t 91)),
⟨some 93, .mv (.t 10), some (92, true), true⟩,
⟨some 94, .build [i0_, i0_, i0_, i0_] [(0, 1, .c (.int .i64 2))], some (92, true), true⟩,
⟨some 95, .bsl 4 1 [i0_, i0_, i0_, i0_] [(0, .t 94)], some (92, true), true⟩,
⟨some 96, .call 71 [.t 93, .t 95], some (92, true), true⟩,
s_ 97 (.pick (.t 92) (.t 96) (.c (.bool false))),
s_ 0 (.as (.t 97))] (some [0]) [1, 2, 4, 5]) (
.ret)))))))))))))))))))))))))))))
def A39_L0b : ACode := 
(.seq (
.reg none [
s_ 10 (.bin .lss (.t 9) (.c (.int .i64 3)))] (some [2, 3, 4, 5, 8, 9, 10]) []) (
(.seq (
(.cond (.t 10) (
.skip) (
.exit 0))) (
(.seq (
(.block 1 (
(.seq (
.reg none [
s_ 11 (.mv (.t 9)),
s_ 12 (.ixa false 3 1 (.t 8) (.t 9)),
s_ 6 (.as (.t 11)),
s_ 7 (.as (.t 12))] (some [2, 3, 4, 5, 6, 7, 8, 9]) []) (
.reg (some [.dr [16, 19] [], .dr [16, 19] [], .dr [] [], .dr [] [], .dr [16] [], .dr [16] [], .dr [] [], .dr [] [], .dr [19] [], .dr [] [], .free, .free]) [
s_ 13 (.mv (.t 6)),
s_ 14 (.mv (.t 6)),
s_ 15 (.mv (.t 7)),
s_ 16 (.call 72 [.t 15, .c (.int .i64 12)]),
s_ 17 (.mv (.t 7)),
s_ 18 (.un .neg (.t 17)),
s_ 19 (.call 72 [.t 18, .c (.int .i64 12)]),
s_ 20 (.un .neg (.t 19)),
s_ 21 (.iaa 3 1 (.t 4) (.t 13)),
n_ (.store 1 (.t 21) (.t 16)),
s_ 22 (.iaa 3 1 (.t 5) (.t 14)),
n_ (.store 1 (.t 22) (.t 20))] (some [2, 3, 4, 5, 8, 9]) []))) (some [2, 3, 4, 5, 8, 9]) [6, 7, 16, 19])) (
.reg none [
s_ 23 (.bin .add (.t 9) (.c (.int .i64 1))),
s_ 9 (.mv (.t 23))] (some [2, 3, 4, 5, 8, 9]) []))))))
def A39_L0 : ACode := .loop A39_L0b (some [2, 3, 4, 5, 8, 9]) [6, 7, 16, 19]
def A39 : AFn := .code [.cell true 3 2, .cell true 3 3] (
(.seq (
.reg none [
s_ 1 (.box (.t 0)),
s_ 2 (.alloc [i0_, i0_, i0_]),
s_ 3 (.alloc [i0_, i0_, i0_])] (some [1, 2, 3]) []) (
(.seq (
.reg none [
s_ 4 (.alloc [i0_, i0_, i0_]),
s_ 5 (.alloc [i0_, i0_, i0_])] (some [1, 2, 3, 4, 5]) []) (
(.seq (
(.seq (
.reg none [
s_ 8 (.load true 3 (.t 1)),
s_ 9 (.mv (.c (i0_)))] (some [2, 3, 4, 5, 8, 9]) [1]) (
(.block 0 (
A39_L0) (some [2, 3, 4, 5]) [6, 7, 16, 19])))) (
(.seq (
.reg (some [.dr [25] [], .dr [24] [2], .dr [25] [], .free]) [
s_ 24 (.load true 3 (.t 4)),
s_ 25 (.load true 3 (.t 5)),
n_ (.store 3 (.t 2) (.t 24)),
n_ (.store 3 (.t 3) (.t 25))] (some [2, 3]) [4, 5]) (
.ret)))))))))
def A41_L0b : ACode := 
(.seq (
.reg none [
s_ 15 (.bin .lss (.t 14) (.t 13))] (some [3, 4, 5, 6, 9, 12, 13, 14, 15]) []) (
(.seq (
(.cond (.t 15) (
.skip) (
.exit 0))) (
(.seq (
(.block 1 (
(.seq (
.reg none [
s_ 16 (.ias 1 (.t 12) (.t 14)),
s_ 17 (.load false 1 (.t 16)),
s_ 11 (.as (.t 17))] (some [3, 4, 5, 6, 9, 11, 12, 13, 14]) []) (
.reg none [
s_ 18 (.mv (.t 9)),
s_ 19 (.mv (.t 11)),
s_ 20 (.load true 44 (.t 4)),
s_ 21 (.load true 6 (.t 5)),
s_ 22 (.load true 6 (.t 6)),
s_ 23 (.mv (.t 3)),
s_ 24 (.build [i0_, i0_, i0_, i0_, i0_, i0_, i0_, i0_, i0_, i0_, i0_, i0_, i0_, i0_, i0_, i0_, i0_, i0_, i0_, i0_, i0_, i0_, i0_, i0_, i0_, i0_, i0_, i0_, i0_, i0_, .nils 1, .nils 6, .nils 3, .nils 1, i0_, i0_, i0_, i0_, i0_, i0_, i0_, .nils 1, i0_, i0_, i0_, i0_, i0_, i0_, i0_, i0_, i0_, i0_, i0_, i0_, i0_, i0_, .nils 1] [(0, 44, .t 20), (44, 6, .t 21), (50, 6, .t 22), (56, 1, .t 23)]),
s_ 25 (.cal (.t 19) [.t 24]),
s_ 26 (.app 4 (.t 18) (.t 25)),
s_ 9 (.as (.t 26))] (some [3, 4, 5, 6, 9, 12, 13, 14]) []))) (some [3, 4, 5, 6, 9, 12, 13, 14]) [11, 25])) (
.reg none [
s_ 27 (.bin .add (.t 14) (.c (.int .i64 1))),
s_ 14 (.mv (.t 27))] (some [3, 4, 5, 6, 9, 12, 13, 14]) []))))))
def A41_L0 : ACode := .loop A41_L0b (some [3, 4, 5, 6, 9, 12, 13, 14]) [11, 25]
def A41 : AFn := .code [.t 8] (
(.seq (
.reg none [
s_ 4 (.box (.t 0)),
s_ 5 (.box (.t 1)),
s_ 6 (.box (.t 2)),
s_ 8 (.as (.c (.nils 4)))] (some [3, 4, 5, 6]) []) (
(.seq (
.reg none [
s_ 9 (.as (.c (.nils 4)))] (some [3, 4, 5, 6, 9]) []) (
(.seq (
(.seq (
.reg none [
s_ 12 (.bsl 1 4 [.nilf] [(0, .fu 75), (1, .fu 76), (2, .fu 77), (3, .fu 78)]),
s_ 13 (.len 0 (.t 12)),
s_ 14 (.mv (.c (i0_)))] (some [3, 4, 5, 6, 9, 12, 13, 14]) []) (
(.block 0 (
A41_L0) (some [9]) [11, 25])))) (
(.seq (
.reg none [
s_ 28 (.mv (.t 9)),
s_ 8 (.as (.t 28))] (some [8]) []) (
.ret)))))))))
def A44_R0a : ACode := 
.reg none [
s_ 6 (.as (.t 20))] (some [2, 4, 5, 6]) []
def A44_R0b : ACode := 
(.block 3 (
(.seq (
.reg (some [.dr [25] [], .dr [21, 25] [], .dr [25] [], .dr [21, 23] [], .dr [21, 23] [], .dr [21, 23] [], .free]) [
s_ 21 (.load false 1 (.t 5)),
s_ 22 (.mv (.t 6)),
s_ 23 (.call 80 [.t 21, .t 22]),
s_ 24 (.fad 42 (.t 2)),
s_ 25 (.load false 1 (.t 24)),
s_ 26 (.bin .mul (.t 25) (.c (.int .i64 4394000))),
s_ 27 (.bin .lss (.t 23) (.t 26))] (some [4, 27]) [2, 5]) (
(.cond (.t 27) (
(.seq (
.reg none [
n_ (.store 1 (.t 4) (.c (.bool false)))] (some []) []) (
.ret))) (
.skip))))) (some []) [23])
def A44_R0 : ACode := .rf 1 (.t 19) [20]  A44_R0a A44_R0b
def A44_R1a : ACode := 
.reg none [
s_ 5 (.alloc [.nils 2]),
n_ (.store 1 (.t 5) (.t 13))] (some [2, 3, 4, 5]) []
def A44_R1b : ACode := 
(.block 1 (
(.seq (
.reg none [
s_ 14 (.fad 0 (.t 2)),
s_ 15 (.iaa 2 12 (.t 14) (.c (.int .i64 1))),
s_ 16 (.load true 12 (.t 15)),
s_ 17 (.iaa 2 3 (.t 3) (.c (.int .i64 1))),
s_ 18 (.load true 3 (.t 17)),
s_ 19 (.call 79 [.t 16, .t 18])] (some [2, 4, 5, 19]) [3]) (
(.block 2 (
A44_R0) (some []) [6, 23])))) (some []) [6, 19, 23])
def A44_R1 : ACode := .rf 0 (.t 12) [13]  A44_R1a A44_R1b
def A44 : AFn := .code [.cell false 1 4] (
(.seq (
.reg none [
s_ 2 (.box (.t 0)),
s_ 3 (.box (.t 1)),
s_ 4 (.alloc [.bool false])] (some [2, 3, 4]) []) (
(.seq (
(.seq (
.reg none [
s_ 7 (.fad 0 (.t 2)),
s_ 8 (.iaa 2 12 (.t 7) (.c (i0_))),
s_ 9 (.load true 12 (.t 8)),
s_ 10 (.iaa 2 3 (.t 3) (.c (i0_))),
s_ 11 (.load true 3 (.t 10)),
s_ 12 (.call 79 [.t 9, .t 11])] (some [2, 3, 4, 12]) []) (
(.block 0 (
A44_R1) (some [4]) [5, 6, 19, 23])))) (
(.seq (
.reg none [
n_ (.store 1 (.t 4) (.c (.bool true)))] (some [4]) []) (
.ret)))))))
def A48 : AFn := .code [.t 8] (
(.seq (
.reg none [
s_ 4 (.box (.t 0)),
s_ 5 (.box (.t 1)),
s_ 6 (.box (.t 2)),
s_ 7 (.box (.t 3)),
s_ 8 (.as (.c (.nils 2)))] (some [4, 5, 6, 7]) []) (
(.seq (
.reg none [
s_ 10 (.load true 3 (.t 5)),
s_ 11 (.fad 0 (.t 4)),
s_ 12 (.fad 5 (.t 11)),
s_ 13 (.load false 1 (.t 12)),
s_ 14 (.call 55 [.t 10, .t 13]),
s_ 15 (.call 64 [.t 14]),
s_ 9 (.alloc [i0_, i0_]),
n_ (.store 2 (.t 9) (.t 15))] (some [6, 7, 9]) [4, 5]) (
(.seq (
.reg (some [.dr [17, 19, 20, 22, 23, 25, 26] [], .dr [16, 19, 20, 22, 23, 25, 26] [], .dr [19, 20, 22, 23, 25, 26] [], .dr [16, 17, 18, 20, 22, 23, 25, 26] [], .dr [16, 17, 18, 19, 22, 23, 25, 26] [], .dr [22, 23, 25, 26] [], .dr [16, 17, 18, 19, 20, 21, 23, 25, 26] [], .dr [16, 17, 18, 19, 20, 21, 22, 25, 26] [], .dr [25, 26] [], .dr [16, 17, 18, 19, 20, 21, 22, 23, 24, 26] [], .dr [16, 17, 18, 19, 20, 21, 22, 23, 24, 25] [], .free, .free, .free]) [
s_ 16 (.load true 2 (.t 6)),
s_ 17 (.load true 2 (.t 9)),
s_ 18 (.call 67 [.t 16, .t 17]),
s_ 19 (.load true 2 (.t 7)),
s_ 20 (.load true 2 (.t 9)),
s_ 21 (.call 67 [.t 19, .t 20]),
s_ 22 (.load true 2 (.t 7)),
s_ 23 (.load true 2 (.t 9)),
s_ 24 (.call 54 [.t 22, .t 23]),
s_ 25 (.load true 2 (.t 6)),
s_ 26 (.load true 2 (.t 9)),
s_ 27 (.call 54 [.t 25, .t 26]),
s_ 28 (.bsl 2 4 [i0_, i0_] [(0, .t 18), (1, .t 21), (2, .t 24), (3, .t 27)]),
s_ 8 (.as (.t 28))] (some [8]) [6, 7, 9]) (
.ret)))))))
def A51 : AFn := .code [.cell true 3 4] (
(.seq (
.reg none [
s_ 2 (.box (.t 0)),
s_ 4 (.alloc [i0_, i0_, i0_])] (some [1, 2, 4]) []) (
(.seq (
(.seq (
.reg none [
s_ 6 (.load true 3 (.t 2)),
s_ 7 (.call 82 [.t 6]),
s_ 8 (.un .not (.t 7)),
s_ 9 (.mv (.t 8)),
⟨some 10, .fad 2 (.t 2), some (9, false), true⟩,
⟨some 11, .load false 1 (.t 10), some (9, false), true⟩,
⟨some 12, .bin .eql (.t 11) (.c (.int .i64 3)), some (9, false), true⟩,
s_ 13 (.pick (.t 9) (.c (.bool true)) (.t 12))] (some [1, 2, 4, 13]) []) (
(.cond (.t 13) (
(.seq (
.reg none [
s_ 14 (.build [i0_, i0_, i0_] []),
n_ (.store 3 (.t 4) (.t 14))] (some [4]) []) (
.ret))) (
.skip))))) (
(.seq (
.reg none [
s_ 15 (.fad 0 (.t 2)),
s_ 16 (.load false 1 (.t 15)),
s_ 17 (.fad 1 (.t 2)),
s_ 18 (.load false 1 (.t 17)),
s_ 19 (.build [i0_, i0_] [(0, 1, .t 16), (1, 1, .t 18)]),
s_ 20 (.mv (.t 1)),
s_ 21 (.call 83 [.t 19, .t 20]),
s_ 5 (.alloc [i0_, i0_]),
n_ (.store 2 (.t 5) (.t 21))] (some [2, 4, 5]) []) (
(.seq (
.reg none [
s_ 22 (.fad 0 (.t 5)),
s_ 23 (.load false 1 (.t 22)),
s_ 24 (.fad 1 (.t 5)),
s_ 25 (.load false 1 (.t 24)),
s_ 26 (.fad 2 (.t 2)),
s_ 27 (.load false 1 (.t 26)),
s_ 28 (.bin .add (.t 27) (.c (.int .i64 1))),
s_ 29 (.build [i0_, i0_, i0_] [(0, 1, .t 23), (1, 1, .t 25), (2, 1, .t 28)]),
n_ (.store 3 (.t 4) (.t 29))] (some [4]) [2, 5]) (
.ret)))))))))
def A53 : AFn := .code [.cell true 2 3] (
(.seq (
.reg none [
s_ 2 (.box (.t 0)),
s_ 3 (.alloc [i0_, i0_])] (some [1, 2, 3]) []) (
(.seq (
.reg none [
s_ 4 (.load true 2 (.t 1)),
s_ 5 (.load true 2 (.t 2)),
s_ 6 (.call 54 [.t 4, .t 5]),
n_ (.store 2 (.t 1) (.t 6))] (some [1, 3]) [2]) (
(.seq (
.reg none [
s_ 7 (.load true 2 (.t 1)),
n_ (.store 2 (.t 3) (.t 7))] (some [3]) []) (
.ret)))))))
def A54 : AFn := .code [.cell true 2 4] (
(.seq (
.reg none [
s_ 2 (.box (.t 0)),
s_ 3 (.box (.t 1)),
s_ 4 (.alloc [i0_, i0_])] (some [2, 3, 4]) []) (
(.seq (
.reg none [
s_ 5 (.fad 0 (.t 2)),
s_ 6 (.load false 1 (.t 5)),
s_ 7 (.fad 0 (.t 3)),
s_ 8 (.load false 1 (.t 7)),
s_ 9 (.bin .add (.t 6) (.t 8)),
s_ 10 (.fad 1 (.t 2)),
s_ 11 (.load false 1 (.t 10)),
s_ 12 (.fad 1 (.t 3)),
s_ 13 (.load false 1 (.t 12)),
s_ 14 (.bin .add (.t 11) (.t 13)),
s_ 15 (.build [i0_, i0_] [(0, 1, .t 9), (1, 1, .t 14)]),
n_ (.store 2 (.t 4) (.t 15))] (some [4]) [2, 3]) (
.ret)))))
def A55 : AFn := .code [.cell true 2 4] (
(.seq (
.reg none [
s_ 2 (.box (.t 0)),
s_ 4 (.alloc [i0_, i0_])] (some [1, 2, 4]) []) (
(.seq (
.reg none [
s_ 6 (.mv (.t 1)),
s_ 7 (.fad 2 (.t 2)),
s_ 8 (.load false 1 (.t 7)),
s_ 9 (.call 86 [.t 8]),
s_ 10 (.bin .quo (.c (.int .i64 4394000)) (.t 9)),
s_ 11 (.bin .mul (.t 6) (.t 10)),
s_ 5 (.as (.t 11))] (some [2, 4, 5]) []) (
(.seq (
.reg none [
s_ 12 (.mv (.t 5)),
s_ 13 (.fad 0 (.t 2)),
s_ 14 (.load false 1 (.t 13)),
s_ 15 (.bin .mul (.t 12) (.t 14)),
s_ 16 (.mv (.t 5)),
s_ 17 (.fad 1 (.t 2)),
s_ 18 (.load false 1 (.t 17)),
s_ 19 (.bin .mul (.t 16) (.t 18)),
s_ 20 (.build [i0_, i0_] [(0, 1, .t 15), (1, 1, .t 19)]),
n_ (.store 2 (.t 4) (.t 20))] (some [4]) [2]) (
.ret)))))))
def A60 : AFn := .code [.t 2] (
(.seq (
.reg none [
s_ 1 (.box (.t 0)),
s_ 2 (.as (.c (.nilf)))] (some [1]) []) (
(.seq (
.reg none [
s_ 3 (.mkf (.func 89) [] [.t 1]),
s_ 2 (.as (.t 3))] (some [2]) []) (
.ret)))))
def A61 : AFn := .code [.t 6] (
(.seq (
.reg none [
s_ 3 (.box (.t 0)),
s_ 4 (.box (.t 1)),
s_ 5 (.box (.t 2)),
s_ 6 (.as (.c (.bool false)))] (some [3, 4, 5]) []) (
(.seq (
.reg none [
s_ 7 (.load true 2 (.t 3)),
s_ 8 (.load true 2 (.t 4)),
s_ 9 (.load true 2 (.t 5)),
s_ 10 (.call 90 [.t 7, .t 8, .t 9]),
s_ 11 (.mv (.t 10)),
⟨some 12, .load true 2 (.t 3), some (11, true), true⟩,
⟨some 13, .load true 2 (.t 4), some (11, true), true⟩,
⟨some 14, .load true 2 (.t 5), some (11, true), true⟩,
⟨some 15, .call 62 [.t 12, .t 13, .t 14], some (11, true), true⟩,
⟨some 16, .bin .eql (.t 15) (.c (i0_)), some (11, true), true⟩,
s_ 17 (.pick (.t 11) (.t 16) (.c (.bool false))),
s_ 6 (.as (.t 17))] (some [6]) [3, 4, 5]) (
.ret)))))
def A62 : AFn := .code [.t 6] (
(.seq (
.reg none [
s_ 3 (.box (.t 0)),
s_ 4 (.box (.t 1)),
s_ 5 (.box (.t 2)),
s_ 6 (.as (.c (i0_)))] (some [3, 4, 5]) []) (
(.seq (
.reg (some [.dr [11, 13, 14, 7, 8] [], .dr [10, 13, 14, 7, 8] [], .dr [13, 14, 7, 8] [], .dr [10, 11, 12, 14, 7, 8] [], .dr [10, 11, 12, 13, 7, 8] [], .dr [7, 8] [], .dr [10, 11, 12, 13, 14, 15, 8] [], .dr [10, 11, 12, 13, 14, 15, 7] [], .free, .free]) [
s_ 10 (.load true 2 (.t 4)),
s_ 11 (.load true 2 (.t 3)),
s_ 12 (.call 67 [.t 10, .t 11]),
s_ 13 (.load true 2 (.t 5)),
s_ 14 (.load true 2 (.t 3)),
s_ 15 (.call 67 [.t 13, .t 14]),
s_ 7 (.alloc [i0_, i0_]),
s_ 8 (.alloc [i0_, i0_]),
n_ (.store 2 (.t 7) (.t 12)),
n_ (.store 2 (.t 8) (.t 15))] (some [7, 8]) [3, 4, 5]) (
(.seq (
(.seq (
.reg none [
s_ 16 (.fad 0 (.t 7)),
s_ 17 (.load false 1 (.t 16)),
s_ 18 (.fad 1 (.t 8)),
s_ 19 (.load false 1 (.t 18)),
s_ 20 (.bin .mul (.t 17) (.t 19)),
s_ 21 (.fad 1 (.t 7)),
s_ 22 (.load false 1 (.t 21)),
s_ 23 (.fad 0 (.t 8)),
s_ 24 (.load false 1 (.t 23)),
s_ 25 (.bin .mul (.t 22) (.t 24)),
s_ 26 (.bin .sub (.t 20) (.t 25)),
s_ 9 (.as (.t 26))] (some [9]) [7, 8]) (
(.block 0 (
(.seq (
.reg none [
s_ 28 (.mv (.t 9)),
s_ 29 (.bin .gtr (.t 28) (.c (i0_))),
s_ 27 (.as (.t 29))] (some [9, 27]) []) (
(.cond (.t 27) (
(.seq (
.reg none [
s_ 6 (.as (.c (.int .i64 1)))] (some [6]) []) (
.ret))) (
(.seq (
.reg none [
s_ 31 (.mv (.t 9)),
s_ 32 (.bin .lss (.t 31) (.c (i0_))),
s_ 30 (.as (.t 32))] (some [30]) []) (
(.cond (.t 30) (
(.seq (
.reg none [
s_ 6 (.as (.c (.int .i64 (-1))))] (some [6]) []) (
.ret))) (
.skip))))))))) (some []) [6, 27, 30])))) (
(.seq (
.reg none [
s_ 6 (.as (.c (i0_)))] (some [6]) []) (
.ret)))))))))
def A64 : AFn := .code [.cell true 2 2] (
(.seq (
.reg none [
s_ 1 (.box (.t 0)),
s_ 2 (.alloc [i0_, i0_])] (some [1, 2]) []) (
(.seq (
.reg none [
s_ 4 (.fad 0 (.t 1)),
s_ 5 (.load false 1 (.t 4)),
s_ 6 (.fad 1 (.t 1)),
s_ 7 (.load false 1 (.t 6)),
s_ 8 (.build [i0_, i0_] [(0, 1, .t 5), (1, 1, .t 7)]),
s_ 9 (.call 91 [.t 8]),
s_ 3 (.alloc [i0_, i0_]),
n_ (.store 2 (.t 3) (.t 9))] (some [2, 3]) [1]) (
(.seq (
.reg none [
s_ 10 (.fad 0 (.t 3)),
s_ 11 (.load false 1 (.t 10)),
s_ 12 (.fad 1 (.t 3)),
s_ 13 (.load false 1 (.t 12)),
s_ 14 (.build [i0_, i0_] [(0, 1, .t 11), (1, 1, .t 13)]),
n_ (.store 2 (.t 2) (.t 14))] (some [2]) [3]) (
.ret)))))))
def A67 : AFn := .code [.cell true 2 4] (
(.seq (
.reg none [
s_ 2 (.box (.t 0)),
s_ 3 (.box (.t 1)),
s_ 4 (.alloc [i0_, i0_])] (some [2, 3, 4]) []) (
(.seq (
.reg none [
s_ 5 (.fad 0 (.t 2)),
s_ 6 (.load false 1 (.t 5)),
s_ 7 (.fad 0 (.t 3)),
s_ 8 (.load false 1 (.t 7)),
s_ 9 (.bin .sub (.t 6) (.t 8)),
s_ 10 (.fad 1 (.t 2)),
s_ 11 (.load false 1 (.t 10)),
s_ 12 (.fad 1 (.t 3)),
s_ 13 (.load false 1 (.t 12)),
s_ 14 (.bin .sub (.t 11) (.t 13)),
s_ 15 (.build [i0_, i0_] [(0, 1, .t 9), (1, 1, .t 14)]),
n_ (.store 2 (.t 4) (.t 15))] (some [4]) [2, 3]) (
.ret)))))
def A69_L0b : ACode := 
(.seq (
.reg none [
s_ 47 (.bin .lss (.t 46) (.t 45))] (some [0, 3, 4, 5, 45, 46, 47]) []) (
(.seq (
(.cond (.t 47) (
.skip) (
.exit 6))) (
(.seq (
(.block 7 (
(.seq (
.reg none [
s_ 48 (.mv (.t 46)),
s_ 11 (.as (.t 48))] (some [0, 3, 4, 5, 11, 45, 46]) []) (
(.seq (
.reg none [
s_ 49 (.load false 1 (.t 3)),
s_ 50 (.mv (.t 11)),
s_ 51 (.mv (.t 0)),
s_ 52 (.call 97 [.t 49, .t 50, .t 51])] (some [0, 3, 4, 5, 11, 45, 46, 52]) []) (
(.cond (.t 52) (
(.seq (
.reg none [
s_ 53 (.mv (.t 11)),
s_ 54 (.build [i0_, i0_, i0_] [(0, 1, .c (.int .i64 3)), (2, 1, .t 53)]),
n_ (.store 3 (.t 4) (.t 54)),
n_ (.store 1 (.t 5) (.c (.bool true)))] (some [4, 5]) []) (
.ret))) (
.skip))))))) (some [0, 3, 4, 5, 45, 46]) [52])) (
.reg none [
s_ 55 (.bin .add (.t 46) (.c (.int .i64 1))),
s_ 46 (.mv (.t 55))] (some [0, 3, 4, 5, 45, 46]) []))))))
def A69_L0 : ACode := .loop A69_L0b (some [0, 3, 4, 5, 45, 46]) [52]
def A69_L1b : ACode := 
(.seq (
.reg none [
s_ 35 (.bin .lss (.t 34) (.t 33))] (some [0, 3, 4, 5, 33, 34, 35]) []) (
(.seq (
(.cond (.t 35) (
.skip) (
.exit 4))) (
(.seq (
(.block 5 (
(.seq (
.reg none [
s_ 36 (.mv (.t 34)),
s_ 10 (.as (.t 36))] (some [0, 3, 4, 5, 10, 33, 34]) []) (
(.seq (
.reg none [
s_ 37 (.mv (.t 0)),
s_ 38 (.mv (.t 10)),
s_ 39 (.load false 1 (.t 3)),
s_ 40 (.call 97 [.t 37, .t 38, .t 39])] (some [0, 3, 4, 5, 10, 33, 34, 40]) []) (
(.cond (.t 40) (
(.seq (
.reg none [
s_ 41 (.mv (.t 10)),
s_ 42 (.build [i0_, i0_, i0_] [(0, 1, .c (.int .i64 2)), (1, 1, .t 41)]),
n_ (.store 3 (.t 4) (.t 42)),
n_ (.store 1 (.t 5) (.c (.bool true)))] (some [4, 5]) []) (
.ret))) (
.skip))))))) (some [0, 3, 4, 5, 33, 34]) [40])) (
.reg none [
s_ 43 (.bin .add (.t 34) (.c (.int .i64 1))),
s_ 34 (.mv (.t 43))] (some [0, 3, 4, 5, 33, 34]) []))))))
def A69_L1 : ACode := .loop A69_L1b (some [0, 3, 4, 5, 33, 34]) [40]
def A69_R2a : ACode := 
(.seq (
.reg none [
s_ 8 (.as (.t 18))] (some [4, 5, 6, 7, 8, 19]) []) (
.reg none [
s_ 9 (.alloc [i0_, i0_, i0_, i0_]),
n_ (.store 4 (.t 9) (.t 19))] (some [4, 5, 6, 7, 8, 9]) []))
def A69_R2b : ACode := 
(.block 3 (
(.seq (
.reg none [
s_ 20 (.fad 0 (.t 7)),
s_ 21 (.load true 2 (.t 20)),
s_ 22 (.fad 2 (.t 7)),
s_ 23 (.load true 2 (.t 22)),
s_ 24 (.fad 0 (.t 9)),
s_ 25 (.load true 2 (.t 24)),
s_ 26 (.fad 2 (.t 9)),
s_ 27 (.load true 2 (.t 26)),
s_ 28 (.call 88 [.t 21, .t 23, .t 25, .t 27])] (some [4, 5, 6, 8, 28]) [7, 9]) (
(.cond (.t 28) (
(.seq (
.reg none [
s_ 29 (.load false 1 (.t 6)),
s_ 30 (.mv (.t 8)),
s_ 31 (.build [i0_, i0_, i0_] [(0, 1, .c (.int .i64 1)), (1, 1, .t 29), (2, 1, .t 30)]),
n_ (.store 3 (.t 4) (.t 31)),
n_ (.store 1 (.t 5) (.c (.bool true)))] (some []) [6]) (
.ret))) (
.skip))))) (some []) [28])
def A69_R2 : ACode := .rf 1 (.t 17) [18, 19]  A69_R2a A69_R2b
def A69_R3a : ACode := 
(.seq (
.reg none [
s_ 6 (.alloc [i0_]),
n_ (.store 1 (.t 6) (.t 14))] (some [3, 4, 5, 6, 15]) []) (
.reg none [
s_ 7 (.alloc [i0_, i0_, i0_, i0_]),
n_ (.store 4 (.t 7) (.t 15))] (some [3, 4, 5, 6, 7]) []))
def A69_R3b : ACode := 
(.block 1 (
(.seq (
.reg none [
s_ 16 (.load false 1 (.t 3)),
s_ 17 (.call 96 [.t 16])] (some [4, 5, 6, 7, 17]) [3]) (
(.block 2 (
A69_R2) (some []) [8, 9, 28])))) (some []) [8, 9, 17, 28])
def A69_R3 : ACode := .rf 0 (.t 13) [14, 15]  A69_R3a A69_R3b
def A69 : AFn := .code [.cell true 3 4, .cell false 1 5] (
(.seq (
.reg none [
s_ 3 (.box (.t 1)),
s_ 4 (.alloc [i0_, i0_, i0_]),
s_ 5 (.alloc [.bool false])] (some [0, 3, 4, 5]) []) (
(.seq (
(.seq (
.reg none [
s_ 12 (.mv (.t 0)),
s_ 13 (.call 96 [.t 12])] (some [0, 3, 4, 5, 13]) []) (
(.block 0 (
A69_R3) (some [0, 3, 4, 5]) [6, 7, 9, 17, 28])))) (
(.seq (
(.seq (
.reg none [
s_ 32 (.mv (.t 0)),
s_ 33 (.len 0 (.t 32)),
s_ 34 (.mv (.c (i0_)))] (some [0, 3, 4, 5, 33, 34]) []) (
(.block 4 (
A69_L1) (some [0, 3, 4, 5]) [40])))) (
(.seq (
(.seq (
.reg none [
s_ 44 (.load false 1 (.t 3)),
s_ 45 (.len 0 (.t 44)),
s_ 46 (.mv (.c (i0_)))] (some [0, 3, 4, 5, 45, 46]) []) (
(.block 6 (
A69_L0) (some [4, 5]) [52])))) (
(.seq (
.reg none [
s_ 56 (.build [i0_, i0_, i0_] []),
n_ (.store 3 (.t 4) (.t 56)),
n_ (.store 1 (.t 5) (.c (.bool false)))] (some [4, 5]) []) (
.ret)))))))))))
def A70 : AFn := .code [.cell true 44 0] (
(.seq (
.reg none [
s_ 0 (.alloc [i0_, i0_, i0_, i0_, i0_, i0_, i0_, i0_, i0_, i0_, i0_, i0_, i0_, i0_, i0_, i0_, i0_, i0_, i0_, i0_, i0_, i0_, i0_, i0_, i0_, i0_, i0_, i0_, i0_, i0_, .nils 1, .nils 6, .nils 3, .nils 1, i0_, i0_, i0_, i0_, i0_, i0_, i0_, .nils 1, i0_, i0_])] (some [0]) []) (
(.seq (
.reg none [
s_ 3 (.call 98 []),
s_ 1 (.alloc [i0_, i0_, i0_, i0_, i0_, i0_, i0_, i0_, i0_, i0_, i0_, i0_, i0_, i0_, i0_, i0_, i0_, i0_, i0_, i0_, i0_, i0_, i0_, i0_, i0_, i0_, i0_, i0_, i0_, i0_, .nils 1, .nils 6, .nils 3, .nils 1, i0_, i0_, i0_, i0_, i0_, i0_, i0_, .nils 1, i0_, i0_]),
n_ (.store 44 (.t 1) (.t 3))] (some [0, 1]) []) (
(.seq (
.reg none [
s_ 2 (.as (.c (.int .i64 4394000)))] (some [0, 1, 2]) []) (
(.seq (
.reg none [
s_ 4 (.mv (.t 2)),
s_ 5 (.bin .mul (.c (.int .i64 8)) (.t 4)),
s_ 6 (.mv (.t 2)),
s_ 7 (.bin .mul (.c (.int .i64 (-4))) (.t 6)),
s_ 8 (.build [i0_, i0_] [(0, 1, .t 5), (1, 1, .t 7)]),
s_ 9 (.mv (.t 2)),
s_ 10 (.bin .mul (.c (.int .i64 12)) (.t 9)),
s_ 11 (.mv (.t 2)),
s_ 12 (.bin .mul (.c (.int .i64 (-4))) (.t 11)),
s_ 13 (.build [i0_, i0_] [(0, 1, .t 10), (1, 1, .t 12)]),
s_ 14 (.mv (.t 2)),
s_ 15 (.bin .mul (.c (.int .i64 12)) (.t 14)),
s_ 16 (.build [i0_, i0_] [(0, 1, .t 15), (1, 1, .c (i0_))]),
s_ 17 (.mv (.t 2)),
s_ 18 (.bin .mul (.c (.int .i64 8)) (.t 17)),
s_ 19 (.build [i0_, i0_] [(0, 1, .t 18), (1, 1, .c (i0_))]),
s_ 20 (.bsl 2 4 [i0_, i0_] [(0, .t 8), (1, .t 13), (2, .t 16), (3, .t 19)]),
s_ 21 (.build [.nils 2] [(0, 1, .t 20)]),
s_ 22 (.bsl 1 1 [.nils 2] [(0, .t 21)]),
s_ 23 (.fad 41 (.t 1)),
n_ (.store 1 (.t 23) (.t 22))] (some [0, 1, 2]) []) (
(.seq (
.reg none [
s_ 24 (.mv (.t 2)),
s_ 25 (.bin .mul (.c (.int .i64 25)) (.t 24)),
s_ 26 (.fad 0 (.t 1)),
s_ 27 (.iaa 2 12 (.t 26) (.c (.int .i64 1))),
s_ 28 (.fad 0 (.t 27)),
s_ 29 (.fad 0 (.t 28)),
n_ (.store 1 (.t 29) (.t 25))] (some [0, 1]) []) (
(.seq (
.reg none [
s_ 30 (.fad 42 (.t 1)),
n_ (.store 1 (.t 30) (.c (.int .i64 10)))] (some [0, 1]) []) (
(.seq (
.reg none [
s_ 31 (.load true 44 (.t 1)),
n_ (.store 44 (.t 0) (.t 31))] (some [0]) [1]) (
.ret)))))))))))))))
def A71_L0b : ACode := 
(.seq (
(.seq (
.reg none [
s_ 11 (.mv (.t 5)),
s_ 12 (.mv (.t 0)),
s_ 13 (.len 0 (.t 12)),
s_ 14 (.bin .lss (.t 11) (.t 13))] (some [0, 1, 5, 14]) []) (
(.cond (.t 14) (
.skip) (
.exit 0))))) (
(.seq (
(.block 1 (
(.seq (
.reg (some [.dr [23, 24] [], .dr [23, 24] [], .dr [23, 24] [], .dr [23, 24] [], .dr [19, 20] [], .dr [19, 20] [], .dr [19, 20] [], .dr [19, 20] [], .free]) [
s_ 17 (.mv (.t 0)),
s_ 18 (.mv (.t 5)),
s_ 19 (.ias 4 (.t 17) (.t 18)),
s_ 20 (.load true 4 (.t 19)),
s_ 21 (.mv (.t 1)),
s_ 22 (.mv (.t 5)),
s_ 23 (.ias 4 (.t 21) (.t 22)),
s_ 24 (.load true 4 (.t 23)),
s_ 25 (.eqa true [0, 0, 0, 0] (.t 20) (.t 24))] (some [0, 1, 5, 25]) []) (
(.cond (.t 25) (
(.seq (
.reg none [
s_ 4 (.as (.c (.bool false)))] (some [4]) []) (
.ret))) (
.skip))))) (some [0, 1, 5]) [4])) (
.reg none [
s_ 15 (.mv (.t 5)),
s_ 16 (.bin .add (.t 15) (.c (.int .i64 1))),
s_ 5 (.as (.t 16))] (some [0, 1, 5]) []))))
def A71_L0 : ACode := .loop A71_L0b (some [0, 1, 5]) [4]
def A71 : AFn := .code [.t 4] (
(.seq (
.reg none [
s_ 4 (.as (.c (.bool false)))] (some [0, 1]) []) (
(.seq (
(.seq (
.reg none [
s_ 6 (.mv (.t 0)),
s_ 7 (.len 0 (.t 6)),
s_ 8 (.mv (.t 1)),
s_ 9 (.len 0 (.t 8)),
s_ 10 (.bin .neq (.t 7) (.t 9))] (some [0, 1, 10]) []) (
(.cond (.t 10) (
(.seq (
.reg none [
s_ 4 (.as (.c (.bool false)))] (some [4]) []) (
.ret))) (
.skip))))) (
(.seq (
(.seq (
.reg none [
s_ 5 (.as (.c (i0_)))] (some [0, 1, 5]) []) (
(.block 0 (
A71_L0) (some []) [4, 5])))) (
(.seq (
.reg none [
s_ 4 (.as (.c (.bool true)))] (some [4]) []) (
.ret)))))))))
def A72 : AFn := .code [.t 4] (
(.seq (
.reg none [
s_ 4 (.as (.c (i0_)))] (some [0, 1]) []) (
(.seq (
.reg none [
s_ 6 (.mv (.t 0)),
s_ 7 (.mv (.t 1)),
s_ 8 (.bin .quo (.t 6) (.t 7)),
s_ 5 (.as (.t 8))] (some [0, 1, 5]) []) (
(.seq (
(.seq (
.reg none [
s_ 9 (.mv (.t 0)),
s_ 10 (.mv (.t 1)),
s_ 11 (.bin .rem (.t 9) (.t 10)),
s_ 12 (.bin .lss (.t 11) (.c (i0_)))] (some [5, 12]) []) (
(.cond (.t 12) (
.reg none [
s_ 13 (.mv (.t 5)),
s_ 14 (.bin .sub (.t 13) (.c (.int .i64 1))),
s_ 5 (.as (.t 14))] (some [5]) []) (
.skip))))) (
(.seq (
.reg none [
s_ 15 (.mv (.t 5)),
s_ 4 (.as (.t 15))] (some [4]) []) (
.ret)))))))))
def A75_L0b : ACode := 
(.seq (
.reg none [
s_ 30 (.bin .lss (.t 29) (.c (.int .i64 3)))] (some [1, 3, 4, 5, 23, 24, 28, 29, 30]) []) (
(.seq (
(.cond (.t 30) (
.skip) (
.exit 2))) (
(.seq (
(.block 3 (
(.seq (
.reg none [
s_ 31 (.mv (.t 29)),
s_ 32 (.ixa false 3 1 (.t 28) (.t 29)),
s_ 7 (.as (.t 31)),
s_ 8 (.as (.t 32))] (some [1, 3, 4, 5, 7, 8, 23, 24, 28, 29]) []) (
(.seq (
.reg none [
s_ 33 (.mv (.t 8)),
s_ 34 (.mv (.t 5)),
s_ 35 (.mv (.t 7)),
s_ 36 (.fad 44 (.t 1)),
s_ 37 (.iaa 2 3 (.t 36) (.t 34)),
s_ 38 (.iaa 3 1 (.t 37) (.t 35)),
s_ 39 (.load false 1 (.t 38)),
s_ 40 (.bin .sub (.t 33) (.t 39)),
s_ 9 (.as (.t 40))] (some [1, 3, 4, 5, 7, 9, 23, 24, 28, 29]) []) (
(.seq (
.reg none [
s_ 41 (.mv (.t 9)),
s_ 42 (.mv (.t 9)),
s_ 43 (.un .neg (.t 42)),
s_ 44 (.mx [.t 41, .t 43]),
s_ 45 (.mv (.t 4)),
s_ 46 (.bin .gtr (.t 44) (.t 45))] (some [1, 3, 4, 5, 7, 23, 24, 28, 29, 46]) []) (
(.cond (.t 46) (
.reg none [
s_ 47 (.mv (.t 3)),
s_ 48 (.mv (.t 5)),
s_ 49 (.mv (.t 7)),
s_ 50 (.build [i0_, i0_, i0_, i0_] [(0, 1, .c (.int .i64 1)), (1, 1, .t 48), (2, 1, .t 49)]),
s_ 51 (.bsl 4 1 [i0_, i0_, i0_, i0_] [(0, .t 50)]),
s_ 52 (.app 4 (.t 47) (.t 51)),
s_ 3 (.as (.t 52))] (some [1, 3, 4, 5, 23, 24, 28, 29]) []) (
.skip))))))))) (some [1, 3, 4, 5, 23, 24, 28, 29]) [7, 8, 9, 51])) (
.reg none [
s_ 53 (.bin .add (.t 29) (.c (.int .i64 1))),
s_ 29 (.mv (.t 53))] (some [1, 3, 4, 5, 23, 24, 28, 29]) []))))))
def A75_L0 : ACode := .loop A75_L0b (some [1, 3, 4, 5, 23, 24, 28, 29]) [7, 8, 9, 51]
def A75_L1b : ACode := 
(.seq (
.reg none [
s_ 25 (.bin .lss (.t 24) (.c (.int .i64 2)))] (some [1, 3, 4, 23, 24, 25]) []) (
(.seq (
(.cond (.t 25) (
.skip) (
.exit 0))) (
(.seq (
(.block 1 (
(.seq (
.reg none [
s_ 26 (.mv (.t 24)),
s_ 27 (.ixa true 2 3 (.t 23) (.t 24)),
s_ 6 (.alloc [i0_, i0_, i0_]),
s_ 5 (.as (.t 26)),
n_ (.store 3 (.t 6) (.t 27))] (some [1, 3, 4, 5, 6, 23, 24]) []) (
(.seq (
.reg none [
s_ 28 (.load true 3 (.t 6)),
s_ 29 (.mv (.c (i0_)))] (some [1, 3, 4, 5, 23, 24, 28, 29]) [6]) (
(.block 2 (
A75_L0) (some [1, 3, 4, 23, 24]) [7, 8, 9, 51])))))) (some [1, 3, 4, 23, 24]) [5, 6, 7, 8, 9, 51])) (
.reg none [
s_ 54 (.bin .add (.t 24) (.c (.int .i64 1))),
s_ 24 (.mv (.t 54))] (some [1, 3, 4, 23, 24]) []))))))
def A75_L1 : ACode := .loop A75_L1b (some [1, 3, 4, 23, 24]) [5, 6, 7, 8, 9, 51]
def A75 : AFn := .code [.t 2] (
(.seq (
.reg none [
s_ 1 (.box (.t 0)),
s_ 2 (.as (.c (.nils 4)))] (some [1]) []) (
(.seq (
.reg none [
s_ 3 (.as (.c (.nils 4)))] (some [1, 3]) []) (
(.seq (
.reg none [
s_ 10 (.fad 0 (.t 1)),
s_ 11 (.fad 35 (.t 10)),
s_ 12 (.fad 0 (.t 11)),
s_ 13 (.load false 1 (.t 12)),
s_ 4 (.as (.t 13))] (some [1, 3, 4]) []) (
(.seq (
(.seq (
.reg none [
s_ 14 (.fad 56 (.t 1)),
s_ 15 (.load false 1 (.t 14)),
s_ 16 (.call 105 [.t 15, .c (.bool true)])] (some [1, 3, 4, 16]) []) (
(.cond (.t 16) (
.reg none [
s_ 17 (.mv (.t 4)),
s_ 18 (.fad 0 (.t 1)),
s_ 19 (.fad 43 (.t 18)),
s_ 20 (.load false 1 (.t 19)),
s_ 21 (.mn [.t 17, .t 20]),
s_ 4 (.as (.t 21))] (some [1, 3, 4]) []) (
.skip))))) (
(.seq (
(.seq (
.reg none [
s_ 22 (.fad 50 (.t 1)),
s_ 23 (.load true 6 (.t 22)),
s_ 24 (.mv (.c (i0_)))] (some [1, 3, 4, 23, 24]) []) (
(.block 0 (
A75_L1) (some [3]) [5, 6, 7, 8, 9, 51])))) (
(.seq (
.reg none [
s_ 55 (.mv (.t 3)),
s_ 2 (.as (.t 55))] (some [2]) []) (
.ret)))))))))))))
def A76 : AFn := .code [.t 2] (
(.seq (
.reg none [
s_ 1 (.box (.t 0)),
s_ 2 (.as (.c (.nils 4)))] (some [1]) []) (
(.seq (
(.seq (
.reg none [
s_ 3 (.fad 0 (.t 1)),
s_ 4 (.load true 44 (.t 3)),
s_ 5 (.fad 50 (.t 1)),
s_ 6 (.load true 6 (.t 5)),
s_ 7 (.call 44 [.t 4, .t 6])] (some [7]) [1]) (
(.cond (.t 7) (
(.seq (
.reg none [
s_ 2 (.as (.c (.nils 4)))] (some [2]) []) (
.ret))) (
.skip))))) (
(.seq (
.reg none [
s_ 8 (.build [i0_, i0_, i0_, i0_] [(0, 1, .c (.int .i64 2))]),
s_ 9 (.bsl 4 1 [i0_, i0_, i0_, i0_] [(0, .t 8)]),
s_ 2 (.as (.t 9))] (some [2]) []) (
.ret)))))))
def A77_R0a : ACode := 
.reg none [
s_ 8 (.as (.t 37))] (some [3, 4, 6, 7, 8]) []
def A77_R0b : ACode := 
(.block 5 (
(.seq (
.reg none [
s_ 38 (.mv (.t 8)),
s_ 39 (.fad 0 (.t 7)),
s_ 40 (.load false 1 (.t 39)),
s_ 41 (.call 37 [.t 38, .t 40])] (some [3, 4, 6, 41]) [7]) (
(.cond (.t 41) (
(.seq (
.reg none [
s_ 42 (.load false 1 (.t 3)),
s_ 43 (.load false 1 (.t 4)),
s_ 44 (.load false 1 (.t 6)),
s_ 45 (.build [i0_, i0_, i0_, i0_] [(0, 1, .c (.int .i64 3)), (1, 1, .t 43), (3, 1, .t 44)]),
s_ 46 (.bsl 4 1 [i0_, i0_, i0_, i0_] [(0, .t 45)]),
s_ 47 (.app 4 (.t 42) (.t 46)),
n_ (.store 1 (.t 3) (.t 47))] (some []) [3, 4, 6]) (
.exit 4))) (
.skip))))) (some []) [41, 46, 47])
def A77_R0 : ACode := .rf 0 (.t 36) [37]  A77_R0a A77_R0b
def A77_L1b : ACode := 
(.seq (
.reg none [
s_ 20 (.bin .lss (.t 19) (.t 18))] (some [1, 2, 3, 4, 5, 10, 11, 17, 18, 19, 20]) []) (
(.seq (
(.cond (.t 20) (
.skip) (
.exit 2))) (
(.seq (
(.block 3 (
(.seq (
.reg none [
s_ 21 (.mv (.t 19)),
s_ 22 (.ias 1 (.t 17) (.t 19)),
s_ 23 (.load true 1 (.t 22)),
s_ 6 (.alloc [i0_]),
s_ 7 (.alloc [.nils 2]),
n_ (.store 1 (.t 6) (.t 21)),
n_ (.store 1 (.t 7) (.t 23))] (some [1, 2, 3, 4, 5, 6, 7, 10, 11, 17, 18, 19]) []) (
(.seq (
(.seq (
.reg none [
s_ 24 (.fad 56 (.t 1)),
s_ 25 (.load false 1 (.t 24)),
s_ 26 (.load false 1 (.t 6)),
s_ 27 (.ias 1 (.t 25) (.t 26)),
s_ 28 (.load false 1 (.t 27)),
s_ 29 (.un .not (.t 28))] (some [1, 2, 3, 4, 5, 6, 7, 10, 11, 17, 18, 19, 29]) []) (
(.cond (.t 29) (
.exit 3) (
.skip))))) (
(.seq (
.reg (some [.dr [35] [], .dr [30, 35] [], .dr [30, 35] [], .dr [35] [], .dr [35] [], .dr [30, 34] [], .free]) [
s_ 30 (.load false 1 (.t 4)),
s_ 31 (.fad 0 (.t 1)),
s_ 32 (.fad 0 (.t 31)),
s_ 33 (.iaa 2 12 (.t 32) (.t 30)),
s_ 34 (.load true 12 (.t 33)),
s_ 35 (.load true 3 (.t 5)),
s_ 36 (.call 79 [.t 34, .t 35])] (some [1, 2, 3, 4, 5, 6, 7, 10, 11, 17, 18, 19, 36]) []) (
(.block 4 (
A77_R0) (some [1, 2, 3, 4, 5, 10, 11, 17, 18, 19]) [8, 41, 46])))))))) (some [1, 2, 3, 4, 5, 10, 11, 17, 18, 19]) [6, 7, 8, 36, 41, 46])) (
.reg none [
s_ 48 (.bin .add (.t 19) (.c (.int .i64 1))),
s_ 19 (.mv (.t 48))] (some [1, 2, 3, 4, 5, 10, 11, 17, 18, 19]) []))))))
def A77_L1 : ACode := .loop A77_L1b (some [1, 2, 3, 4, 5, 10, 11, 17, 18, 19]) [6, 7, 8, 36, 41, 46]
def A77_L2b : ACode := 
(.seq (
.reg none [
s_ 12 (.bin .lss (.t 11) (.c (.int .i64 2)))] (some [1, 2, 3, 10, 11, 12]) []) (
(.seq (
(.cond (.t 12) (
.skip) (
.exit 0))) (
(.seq (
(.block 1 (
(.seq (
.reg none [
s_ 13 (.mv (.t 11)),
s_ 14 (.ixa true 2 3 (.t 10) (.t 11)),
s_ 4 (.alloc [i0_]),
s_ 5 (.alloc [i0_, i0_, i0_]),
n_ (.store 1 (.t 4) (.t 13)),
n_ (.store 3 (.t 5) (.t 14))] (some [1, 2, 3, 4, 5, 10, 11]) []) (
(.seq (
.reg none [
s_ 15 (.fad 0 (.t 1)),
s_ 16 (.fad 41 (.t 15)),
s_ 17 (.load false 1 (.t 16)),
s_ 18 (.len 0 (.t 17)),
s_ 19 (.mv (.c (i0_)))] (some [1, 2, 3, 4, 5, 10, 11, 17, 18, 19]) []) (
(.block 2 (
A77_L1) (some [1, 2, 3, 10, 11]) [6, 7, 8, 36, 41, 46])))))) (some [1, 2, 3, 10, 11]) [4, 5, 6, 7, 8, 36, 41, 46])) (
.reg none [
s_ 49 (.bin .add (.t 11) (.c (.int .i64 1))),
s_ 11 (.mv (.t 49))] (some [1, 2, 3, 10, 11]) []))))))
def A77_L2 : ACode := .loop A77_L2b (some [1, 2, 3, 10, 11]) [4, 5, 6, 7, 8, 36, 41, 46]
def A77 : AFn := .code [.t 2] (
(.seq (
.reg none [
s_ 1 (.box (.t 0)),
s_ 2 (.as (.c (.nils 4)))] (some [1, 2]) []) (
(.seq (
.reg none [
s_ 3 (.alloc [.nils 4])] (some [1, 2, 3]) []) (
(.seq (
(.seq (
.reg none [
s_ 9 (.fad 50 (.t 1)),
s_ 10 (.load true 6 (.t 9)),
s_ 11 (.mv (.c (i0_)))] (some [1, 2, 3, 10, 11]) []) (
(.block 0 (
A77_L2) (some [3]) [4, 5, 6, 7, 8, 36, 41, 46])))) (
(.seq (
.reg none [
s_ 50 (.load false 1 (.t 3)),
s_ 2 (.as (.t 50))] (some [2]) [3]) (
.ret)))))))))
def A78_L0b : ACode := 
(.seq (
.reg none [
s_ 10 (.bin .lss (.t 9) (.t 8))] (some [3, 7, 8, 9, 10]) []) (
(.seq (
(.cond (.t 10) (
.skip) (
.exit 0))) (
(.seq (
(.block 1 (
(.seq (
.reg none [
s_ 11 (.mv (.t 9)),
s_ 12 (.ias 1 (.t 7) (.t 9)),
s_ 13 (.load false 1 (.t 12)),
s_ 4 (.as (.t 11)),
s_ 5 (.as (.t 13))] (some [3, 4, 5, 7, 8, 9]) []) (
(.seq (
.reg none [
s_ 14 (.mv (.t 5))] (some [3, 4, 7, 8, 9, 14]) []) (
(.cond (.t 14) (
.reg none [
s_ 15 (.mv (.t 3)),
s_ 16 (.mv (.t 4)),
s_ 17 (.build [i0_, i0_, i0_, i0_] [(0, 1, .c (.int .i64 4)), (3, 1, .t 16)]),
s_ 18 (.bsl 4 1 [i0_, i0_, i0_, i0_] [(0, .t 17)]),
s_ 19 (.app 4 (.t 15) (.t 18)),
s_ 3 (.as (.t 19))] (some [3, 7, 8, 9]) []) (
.skip))))))) (some [3, 7, 8, 9]) [4, 5, 18])) (
.reg none [
s_ 20 (.bin .add (.t 9) (.c (.int .i64 1))),
s_ 9 (.mv (.t 20))] (some [3, 7, 8, 9]) []))))))
def A78_L0 : ACode := .loop A78_L0b (some [3, 7, 8, 9]) [4, 5, 18]
def A78 : AFn := .code [.t 2] (
(.seq (
.reg none [
s_ 1 (.box (.t 0)),
s_ 2 (.as (.c (.nils 4)))] (some [1]) []) (
(.seq (
.reg none [
s_ 3 (.as (.c (.nils 4)))] (some [1, 3]) []) (
(.seq (
(.seq (
.reg none [
s_ 6 (.fad 56 (.t 1)),
s_ 7 (.load false 1 (.t 6)),
s_ 8 (.len 0 (.t 7)),
s_ 9 (.mv (.c (i0_)))] (some [3, 7, 8, 9]) [1]) (
(.block 0 (
A78_L0) (some [3]) [4, 5, 18])))) (
(.seq (
.reg none [
s_ 21 (.mv (.t 3)),
s_ 2 (.as (.t 21))] (some [2]) []) (
.ret)))))))))
def A79 : AFn := .code [.t 4] (
(.seq (
.reg none [
s_ 2 (.box (.t 0)),
s_ 3 (.box (.t 1)),
s_ 4 (.as (.c (.nilf)))] (some [2, 3]) []) (
(.seq (
.reg none [
s_ 5 (.mkf (.func 106) [] [.t 3, .t 2]),
s_ 4 (.as (.t 5))] (some [4]) []) (
.ret)))))
def A80 : AFn := .code [.t 4] (
(.seq (
.reg none [
s_ 4 (.as (.c (i0_)))] (some [0, 1]) []) (
(.seq (
(.seq (
.reg none [
s_ 11 (.mv (.t 0)),
s_ 12 (.len 0 (.t 11)),
s_ 13 (.bin .eql (.t 12) (.c (i0_))),
s_ 14 (.mv (.t 13)),
⟨some 15, .mv (.t 1), some (14, false), true⟩,
⟨some 16, .len 0 (.t 15), some (14, false), true⟩,
⟨some 17, .bin .eql (.t 16) (.c (i0_)), some (14, false), true⟩,
s_ 18 (.pick (.t 14) (.c (.bool true)) (.t 17))] (some [0, 1, 18]) []) (
(.cond (.t 18) (
(.seq (
.reg none [
s_ 4 (.as (.c (i0_)))] (some [4]) []) (
.ret))) (
.skip))))) (
(.seq (
.reg none [
s_ 20 (.mv (.t 0)),
s_ 21 (.call 107 [.t 20]),
s_ 19 (.mv (.t 21)),
s_ 22 (.ext (.t 19) 0),
s_ 23 (.ext (.t 19) 1),
s_ 5 (.alloc [i0_, i0_]),
s_ 6 (.alloc [i0_, i0_]),
n_ (.store 2 (.t 5) (.t 22)),
n_ (.store 2 (.t 6) (.t 23))] (some [1, 5, 6]) []) (
(.seq (
.reg none [
s_ 25 (.mv (.t 1)),
s_ 26 (.call 107 [.t 25]),
s_ 24 (.mv (.t 26)),
s_ 27 (.ext (.t 24) 0),
s_ 28 (.ext (.t 24) 1),
s_ 7 (.alloc [i0_, i0_]),
s_ 8 (.alloc [i0_, i0_]),
n_ (.store 2 (.t 7) (.t 27)),
n_ (.store 2 (.t 8) (.t 28))] (some [5, 6, 7, 8]) []) (
(.seq (
.reg (some [.dr [30, 32, 33, 9, 10] [], .dr [29, 32, 33, 9, 10] [], .dr [32, 33, 9, 10] [], .dr [29, 30, 31, 33, 9, 10] [], .dr [29, 30, 31, 32, 9, 10] [], .dr [9, 10] [], .dr [29, 30, 31, 32, 33, 34, 10] [], .dr [29, 30, 31, 32, 33, 34, 9] [], .free, .free]) [
s_ 29 (.load true 2 (.t 7)),
s_ 30 (.load true 2 (.t 6)),
s_ 31 (.call 67 [.t 29, .t 30]),
s_ 32 (.load true 2 (.t 5)),
s_ 33 (.load true 2 (.t 8)),
s_ 34 (.call 67 [.t 32, .t 33]),
s_ 9 (.alloc [i0_, i0_]),
s_ 10 (.alloc [i0_, i0_]),
n_ (.store 2 (.t 9) (.t 31)),
n_ (.store 2 (.t 10) (.t 34))] (some [9, 10]) [5, 6, 7, 8]) (
(.seq (
.reg none [
s_ 35 (.fad 0 (.t 9)),
s_ 36 (.load false 1 (.t 35)),
s_ 37 (.fad 1 (.t 9)),
s_ 38 (.load false 1 (.t 37)),
s_ 39 (.fad 0 (.t 10)),
s_ 40 (.load false 1 (.t 39)),
s_ 41 (.fad 1 (.t 10)),
s_ 42 (.load false 1 (.t 41)),
s_ 43 (.mx [.c (i0_), .t 36, .t 38, .t 40, .t 42]),
s_ 4 (.as (.t 43))] (some [4]) [9, 10]) (
.ret)))))))))))))
def A82 : AFn := .code [.t 2] (
(.seq (
.reg none [
s_ 1 (.box (.t 0)),
s_ 2 (.as (.c (.bool false)))] (some [1]) []) (
(.seq (
(.seq (
.reg none [
s_ 6 (.fad 2 (.t 1)),
s_ 7 (.load false 1 (.t 6)),
s_ 8 (.bin .lss (.t 7) (.c (i0_))),
s_ 9 (.mv (.t 8)),
⟨some 10, .fad 2 (.t 1), some (9, false), true⟩,
⟨some 11, .load false 1 (.t 10), some (9, false), true⟩,
⟨some 12, .bin .gtr (.t 11) (.c (.int .i64 3)), some (9, false), true⟩,
s_ 13 (.pick (.t 9) (.c (.bool true)) (.t 12))] (some [1, 13]) []) (
(.cond (.t 13) (
(.seq (
.reg none [
s_ 2 (.as (.c (.bool false)))] (some [2]) []) (
.ret))) (
.skip))))) (
(.seq (
.reg none [
s_ 14 (.fad 2 (.t 1)),
s_ 15 (.load false 1 (.t 14)),
s_ 16 (.mkf (.func 86) [.t 15] []),
s_ 3 (.as (.t 16))] (some [1, 3]) []) (
(.seq (
.reg none [
s_ 17 (.mv (.t 3)),
s_ 18 (.cal (.t 17) []),
s_ 4 (.alloc [i0_]),
n_ (.store 1 (.t 4) (.t 18))] (some [1, 4]) []) (
(.seq (
.reg none [
s_ 19 (.mkf (.func 108) [] [.t 4]),
s_ 5 (.as (.t 19))] (some [1, 4, 5]) []) (
(.seq (
.reg none [
s_ 20 (.mv (.t 5)),
s_ 21 (.fad 0 (.t 1)),
s_ 22 (.load false 1 (.t 21)),
s_ 23 (.cal (.t 20) [.t 22]),
s_ 24 (.mv (.t 23)),
⟨some 25, .mv (.t 5), some (24, true), true⟩,
⟨some 26, .fad 1 (.t 1), some (24, true), true⟩,
⟨some 27, .load false 1 (.t 26), some (24, true), true⟩,
⟨some 28, .cal (.t 25) [.t 27], some (24, true), true⟩,
s_ 29 (.pick (.t 24) (.t 28) (.c (.bool false))),
s_ 30 (.mv (.t 29)),
⟨some 31, .fad 0 (.t 1), some (30, true), true⟩,
⟨some 32, .load false 1 (.t 31), some (30, true), true⟩,
⟨some 33, .fad 0 (.t 1), some (30, true), true⟩,
⟨some 34, .load false 1 (.t 33), some (30, true), true⟩,
⟨some 35, .bin .mul (.t 32) (.t 34), some (30, true), true⟩,
⟨some 36, .fad 1 (.t 1), some (30, true), true⟩,
⟨some 37, .load false 1 (.t 36), some (30, true), true⟩,
⟨some 38, .fad 1 (.t 1), some (30, true), true⟩,
⟨some 39, .load false 1 (.t 38), some (30, true), true⟩,
⟨some 40, .bin .mul (.t 37) (.t 39), some (30, true), true⟩,
⟨some 41, .bin .add (.t 35) (.t 40), some (30, true), true⟩,
⟨some 42, .load false 1 (.t 4), some (30, true), true⟩,
⟨some 43, .load false 1 (.t 4), some (30, true), true⟩,
⟨some 44, .bin .mul (.t 42) (.t 43), some (30, true), true⟩,
⟨some 45, .bin .eql (.t 41) (.t 44), some (30, true), true⟩,
s_ 46 (.pick (.t 30) (.t 45) (.c (.bool false))),
s_ 2 (.as (.t 46))] (some [2]) [1]) (
.ret)))))))))))))
def A83 : AFn := .code [.cell true 2 4] (
(.seq (
.reg none [
s_ 2 (.box (.t 0)),
s_ 4 (.alloc [i0_, i0_])] (some [1, 2, 4]) []) (
(.seq (
.reg none [
s_ 8 (.mv (.t 1)),
s_ 9 (.call 109 [.t 8]),
s_ 7 (.mv (.t 9)),
s_ 10 (.ext (.t 7) 0),
s_ 11 (.ext (.t 7) 1),
s_ 5 (.as (.t 10)),
s_ 6 (.as (.t 11))] (some [2, 4, 5, 6]) []) (
(.seq (
.reg none [
s_ 12 (.fad 0 (.t 2)),
s_ 13 (.load false 1 (.t 12)),
s_ 14 (.mv (.t 5)),
s_ 15 (.bin .mul (.t 13) (.t 14)),
s_ 16 (.fad 1 (.t 2)),
s_ 17 (.load false 1 (.t 16)),
s_ 18 (.mv (.t 6)),
s_ 19 (.bin .mul (.t 17) (.t 18)),
s_ 20 (.bin .sub (.t 15) (.t 19)),
s_ 21 (.fad 0 (.t 2)),
s_ 22 (.load false 1 (.t 21)),
s_ 23 (.mv (.t 6)),
s_ 24 (.bin .mul (.t 22) (.t 23)),
s_ 25 (.fad 1 (.t 2)),
s_ 26 (.load false 1 (.t 25)),
s_ 27 (.mv (.t 5)),
s_ 28 (.bin .mul (.t 26) (.t 27)),
s_ 29 (.bin .add (.t 24) (.t 28)),
s_ 30 (.build [i0_, i0_] [(0, 1, .t 20), (1, 1, .t 29)]),
n_ (.store 2 (.t 4) (.t 30))] (some [4]) [2]) (
.ret)))))))
def A86_L0b : ACode := 
(.seq (
.reg none [
s_ 6 (.bin .lss (.t 5) (.t 4))] (some [3, 4, 5, 6]) []) (
(.seq (
(.cond (.t 6) (
.skip) (
.exit 0))) (
(.seq (
(.block 1 (
.reg none [
s_ 7 (.mv (.t 3)),
s_ 8 (.bin .mul (.t 7) (.c (.int .i64 65))),
s_ 3 (.as (.t 8))] (some [3, 4, 5]) []) (some [3, 4, 5]) [])) (
.reg none [
s_ 9 (.bin .add (.t 5) (.c (.int .i64 1))),
s_ 5 (.mv (.t 9))] (some [3, 4, 5]) []))))))
def A86_L0 : ACode := .loop A86_L0b (some [3, 4, 5]) []
def A86 : AFn := .code [.t 2] (
(.seq (
.reg none [
s_ 2 (.as (.c (i0_)))] (some [0]) []) (
(.seq (
.reg none [
s_ 3 (.as (.c (.int .i64 1)))] (some [0, 3]) []) (
(.seq (
(.seq (
.reg none [
s_ 4 (.mv (.t 0)),
s_ 5 (.mv (.c (i0_)))] (some [3, 4, 5]) []) (
(.block 0 (
A86_L0) (some [3]) [])))) (
(.seq (
.reg none [
s_ 10 (.mv (.t 3)),
s_ 2 (.as (.t 10))] (some [2]) []) (
.ret)))))))))
def A88 : AFn := .code [.t 8] (
(.seq (
.reg none [
s_ 4 (.box (.t 0)),
s_ 5 (.box (.t 1)),
s_ 6 (.box (.t 2)),
s_ 7 (.box (.t 3)),
s_ 8 (.as (.c (.bool false)))] (some [4, 5, 6, 7]) []) (
(.seq (
.reg none [
s_ 9 (.as (.fu 111))] (some [4, 5, 6, 7, 9]) []) (
(.seq (
.reg none [
s_ 15 (.mv (.t 9)),
s_ 16 (.load true 2 (.t 4)),
s_ 17 (.load true 2 (.t 5)),
s_ 18 (.load true 2 (.t 6)),
s_ 19 (.load true 2 (.t 7)),
s_ 20 (.cal (.t 15) [.t 16, .t 17, .t 18, .t 19]),
s_ 14 (.mv (.t 20)),
s_ 21 (.ext (.t 14) 0),
s_ 22 (.ext (.t 14) 1),
s_ 10 (.as (.t 21)),
s_ 11 (.as (.t 22))] (some [4, 5, 6, 7, 9, 10, 11]) []) (
(.seq (
.reg none [
s_ 24 (.mv (.t 9)),
s_ 25 (.load true 2 (.t 6)),
s_ 26 (.load true 2 (.t 7)),
s_ 27 (.load true 2 (.t 4)),
s_ 28 (.load true 2 (.t 5)),
s_ 29 (.cal (.t 24) [.t 25, .t 26, .t 27, .t 28]),
s_ 23 (.mv (.t 29)),
s_ 30 (.ext (.t 23) 0),
s_ 31 (.ext (.t 23) 1),
s_ 12 (.as (.t 30)),
s_ 13 (.as (.t 31))] (some [10, 11, 12, 13]) [4, 5, 6, 7]) (
(.seq (
.reg none [
s_ 32 (.mv (.t 10)),
s_ 33 (.mv (.t 32)),
⟨some 34, .mv (.t 12), some (33, true), true⟩,
s_ 35 (.pick (.t 33) (.t 34) (.c (.bool false))),
s_ 36 (.mv (.t 35)),
⟨some 37, .mv (.t 11), some (36, false), true⟩,
s_ 38 (.pick (.t 36) (.c (.bool true)) (.t 37)),
s_ 39 (.mv (.t 38)),
⟨some 40, .mv (.t 13), some (39, false), true⟩,
s_ 41 (.pick (.t 39) (.c (.bool true)) (.t 40)),
s_ 8 (.as (.t 41))] (some [8]) []) (
.ret)))))))))))
def A89_L0b : ACode := 
(.seq (
.reg none [
s_ 8 (.bin .lss (.t 7) (.t 6))] (some [0, 1, 5, 6, 7, 8]) []) (
(.seq (
(.cond (.t 8) (
.skip) (
.exit 0))) (
(.seq (
(.block 1 (
(.seq (
.reg none [
s_ 9 (.mv (.t 7)),
s_ 10 (.ias 2 (.t 5) (.t 7)),
s_ 11 (.load true 2 (.t 10)),
s_ 4 (.alloc [i0_, i0_]),
s_ 3 (.as (.t 9)),
n_ (.store 2 (.t 4) (.t 11))] (some [0, 1, 3, 4, 5, 6, 7]) []) (
(.seq (
.reg (some [.dr [14, 15, 18, 19, 21, 22] [], .dr [14, 15, 18, 19, 21, 22] [], .dr [15, 18, 19, 21, 22] [], .dr [14, 18, 19] [], .dr [14, 15, 18, 19] [], .dr [14, 15, 18, 19] [], .dr [14, 15] [], .dr [14, 15] [], .dr [14, 15] [], .dr [14] [], .dr [14] [], .dr [] [], .free, .free]) [
s_ 12 (.mv (.t 0)),
s_ 13 (.mv (.t 3)),
s_ 14 (.load true 2 (.t 4)),
s_ 15 (.load false 1 (.t 1)),
s_ 16 (.mv (.t 3)),
s_ 17 (.bin .add (.t 16) (.c (.int .i64 1))),
s_ 18 (.load false 1 (.t 1)),
s_ 19 (.len 0 (.t 18)),
s_ 20 (.bin .rem (.t 17) (.t 19)),
s_ 21 (.ias 2 (.t 15) (.t 20)),
s_ 22 (.load true 2 (.t 21)),
s_ 23 (.build [i0_, i0_, i0_, i0_] [(0, 2, .t 14), (2, 2, .t 22)]),
s_ 24 (.cal (.t 12) [.t 13, .t 23]),
s_ 25 (.un .not (.t 24))] (some [0, 1, 5, 6, 7, 25]) [4]) (
(.cond (.t 25) (
.ret) (
.skip))))))) (some [0, 1, 5, 6, 7]) [3, 4, 24])) (
.reg none [
s_ 26 (.bin .add (.t 7) (.c (.int .i64 1))),
s_ 7 (.mv (.t 26))] (some [0, 1, 5, 6, 7]) []))))))
def A89_L0 : ACode := .loop A89_L0b (some [0, 1, 5, 6, 7]) [3, 4, 24]
def A89 : AFn := .code [] (
(.seq (
.reg none [
s_ 5 (.load false 1 (.t 1)),
s_ 6 (.len 0 (.t 5)),
s_ 7 (.mv (.c (i0_)))] (some [0, 1, 5, 6, 7]) []) (
(.block 0 (
A89_L0) (some []) [3, 4, 24]))))
def A90 : AFn := .code [.t 6] (
(.seq (
.reg none [
s_ 3 (.box (.t 0)),
s_ 4 (.box (.t 1)),
s_ 5 (.box (.t 2)),
s_ 6 (.as (.c (.bool false)))] (some [3, 4, 5]) []) (
(.seq (
.reg none [
s_ 10 (.load true 2 (.t 3)),
s_ 11 (.load true 2 (.t 4)),
s_ 12 (.bsl 2 2 [i0_, i0_] [(0, .t 10), (1, .t 11)]),
s_ 13 (.call 107 [.t 12]),
s_ 9 (.mv (.t 13)),
s_ 14 (.ext (.t 9) 0),
s_ 15 (.ext (.t 9) 1),
s_ 7 (.alloc [i0_, i0_]),
s_ 8 (.alloc [i0_, i0_]),
n_ (.store 2 (.t 7) (.t 14)),
n_ (.store 2 (.t 8) (.t 15))] (some [5, 7, 8]) [3, 4]) (
(.seq (
.reg none [
s_ 16 (.fad 0 (.t 5)),
s_ 17 (.load false 1 (.t 16)),
s_ 18 (.fad 0 (.t 7)),
s_ 19 (.load false 1 (.t 18)),
s_ 20 (.bin .geq (.t 17) (.t 19)),
s_ 21 (.mv (.t 20)),
⟨some 22, .fad 0 (.t 5), some (21, true), true⟩,
⟨some 23, .load false 1 (.t 22), some (21, true), true⟩,
⟨some 24, .fad 0 (.t 8), some (21, true), true⟩,
⟨some 25, .load false 1 (.t 24), some (21, true), true⟩,
⟨some 26, .bin .leq (.t 23) (.t 25), some (21, true), true⟩,
s_ 27 (.pick (.t 21) (.t 26) (.c (.bool false))),
s_ 28 (.mv (.t 27)),
⟨some 29, .fad 1 (.t 5), some (28, true), true⟩,
⟨some 30, .load false 1 (.t 29), some (28, true), true⟩,
⟨some 31, .fad 1 (.t 7), some (28, true), true⟩,
⟨some 32, .load false 1 (.t 31), some (28, true), true⟩,
⟨some 33, .bin .geq (.t 30) (.t 32), some (28, true), true⟩,
s_ 34 (.pick (.t 28) (.t 33) (.c (.bool false))),
s_ 35 (.mv (.t 34)),
⟨some 36, .fad 1 (.t 5), some (35, true), true⟩,
⟨some 37, .load false 1 (.t 36), some (35, true), true⟩,
⟨some 38, .fad 1 (.t 8), some (35, true), true⟩,
⟨some 39, .load false 1 (.t 38), some (35, true), true⟩,
⟨some 40, .bin .leq (.t 37) (.t 39), some (35, true), true⟩,
s_ 41 (.pick (.t 35) (.t 40) (.c (.bool false))),
s_ 6 (.as (.t 41))] (some [6]) [5, 7, 8]) (
.ret)))))))
def A91 : AFn := .code [.cell true 2 2] (
(.seq (
.reg none [
s_ 1 (.box (.t 0)),
s_ 2 (.alloc [i0_, i0_])] (some [1, 2]) []) (
(.seq (
.reg none [
s_ 3 (.fad 1 (.t 1)),
s_ 4 (.load false 1 (.t 3)),
s_ 5 (.un .neg (.t 4)),
s_ 6 (.fad 0 (.t 1)),
s_ 7 (.load false 1 (.t 6)),
s_ 8 (.build [i0_, i0_] [(0, 1, .t 5), (1, 1, .t 7)]),
n_ (.store 2 (.t 2) (.t 8))] (some [2]) [1]) (
.ret)))))
def A96 : AFn := .code [.t 2] (
(.seq (
.reg none [
s_ 1 (.box (.t 0)),
s_ 2 (.as (.c (.nilf)))] (some [1]) []) (
(.seq (
.reg none [
s_ 3 (.mkf (.func 112) [] [.t 1]),
s_ 2 (.as (.t 3))] (some [2]) []) (
.ret)))))
def A97 : AFn := .code [.t 6] (
(.seq (
.reg none [
s_ 6 (.as (.c (.bool false)))] (some [0, 1, 2]) []) (
(.seq (
.reg none [
s_ 7 (.mv (.t 1)),
s_ 8 (.bin .geq (.t 7) (.c (i0_))),
s_ 9 (.mv (.t 8)),
⟨some 10, .mv (.t 1), some (9, true), true⟩,
⟨some 11, .mv (.t 0), some (9, true), true⟩,
⟨some 12, .len 0 (.t 11), some (9, true), true⟩,
⟨some 13, .bin .lss (.t 10) (.t 12), some (9, true), true⟩,
s_ 14 (.pick (.t 9) (.t 13) (.c (.bool false))),
s_ 15 (.mv (.t 14)),
⟨some 16, .mv (.t 2), some (15, true), true⟩,
⟨some 17, .mv (.t 0), some (15, true), true⟩,
⟨some 18, .mv (.t 1), some (15, true), true⟩,
⟨some 19, .ias 2 (.t 17) (.t 18), some (15, true), true⟩,
⟨some 20, .load true 2 (.t 19), some (15, true), true⟩,
⟨some 21, .call 33 [.t 16, .t 20], some (15, true), true⟩,
⟨some 22, .bin .neq (.t 21) (.c (.int .i64 (-1))), some (15, true), true⟩,
s_ 23 (.pick (.t 15) (.t 22) (.c (.bool false))),
s_ 6 (.as (.t 23))] (some [6]) []) (
.ret)))))
def A98 : AFn := .code [.cell true 44 0] (
(.seq (
.reg none [
s_ 0 (.alloc [i0_, i0_, i0_, i0_, i0_, i0_, i0_, i0_, i0_, i0_, i0_, i0_, i0_, i0_, i0_, i0_, i0_, i0_, i0_, i0_, i0_, i0_, i0_, i0_, i0_, i0_, i0_, i0_, i0_, i0_, .nils 1, .nils 6, .nils 3, .nils 1, i0_, i0_, i0_, i0_, i0_, i0_, i0_, .nils 1, i0_, i0_])] (some [0]) []) (
(.seq (
.reg none [
s_ 1 (.as (.c (.int .i64 4394000)))] (some [0, 1]) []) (
(.seq (
.reg none [
s_ 4 (.build [i0_, i0_, i0_] [(0, 1, .c (.int .i64 4)), (1, 1, .c (.int .i64 3)), (2, 1, .c (.int .i64 2))]),
s_ 5 (.build [i0_, i0_, i0_] [(0, 1, .c (.int .i64 (-17))), (1, 1, .c (.int .i64 (-17))), (2, 1, .c (.int .i64 (-17)))]),
s_ 6 (.build [i0_, i0_, i0_] [(0, 1, .c (.int .i64 18)), (1, 1, .c (.int .i64 18)), (2, 1, .c (.int .i64 18))]),
s_ 7 (.build [i0_, i0_, i0_, i0_, i0_, i0_, i0_, i0_, i0_, i0_, i0_, i0_] [(2, 3, .t 4), (5, 1, .c (.int .i64 1)), (6, 3, .t 5), (9, 3, .t 6)]),
s_ 2 (.alloc [i0_, i0_, i0_, i0_, i0_, i0_, i0_, i0_, i0_, i0_, i0_, i0_]),
n_ (.store 12 (.t 2) (.t 7))] (some [0, 1, 2]) []) (
(.seq (
.reg none [
s_ 8 (.load true 12 (.t 2)),
s_ 3 (.alloc [i0_, i0_, i0_, i0_, i0_, i0_, i0_, i0_, i0_, i0_, i0_, i0_]),
n_ (.store 12 (.t 3) (.t 8))] (some [0, 1, 2, 3]) []) (
(.seq (
.reg none [
s_ 9 (.mv (.t 1)),
s_ 10 (.bin .mul (.c (.int .i64 40)) (.t 9)),
s_ 11 (.fad 0 (.t 3)),
s_ 12 (.fad 0 (.t 11)),
n_ (.store 1 (.t 12) (.t 10))] (some [0, 1, 2, 3]) []) (
(.seq (
.reg none [
s_ 13 (.load true 12 (.t 2)),
s_ 14 (.load true 12 (.t 3)),
s_ 15 (.build [i0_, i0_, i0_, i0_, i0_, i0_, i0_, i0_, i0_, i0_, i0_, i0_, i0_, i0_, i0_, i0_, i0_, i0_, i0_, i0_, i0_, i0_, i0_, i0_] [(0, 12, .t 13), (12, 12, .t 14)]),
s_ 16 (.build [i0_, i0_, i0_] []),
s_ 17 (.build [i0_, i0_, i0_] [(0, 1, .c (.int .i64 9)), (1, 1, .c (i0_)), (2, 1, .c (i0_))]),
s_ 18 (.build [i0_, i0_, i0_, i0_, i0_, i0_] [(0, 3, .t 16), (3, 3, .t 17)]),
s_ 19 (.mv (.t 1)),
s_ 20 (.bin .mul (.c (.int .i64 6)) (.t 19)),
s_ 21 (.mv (.t 1)),
s_ 22 (.bin .mul (.c (.int .i64 2)) (.t 21)),
s_ 23 (.build [i0_, i0_] [(0, 1, .t 20), (1, 1, .t 22)]),
s_ 24 (.mv (.t 1)),
s_ 25 (.bin .mul (.c (.int .i64 9)) (.t 24)),
s_ 26 (.mv (.t 1)),
s_ 27 (.bin .mul (.c (.int .i64 2)) (.t 26)),
s_ 28 (.build [i0_, i0_] [(0, 1, .t 25), (1, 1, .t 27)]),
s_ 29 (.mv (.t 1)),
s_ 30 (.bin .mul (.c (.int .i64 9)) (.t 29)),
s_ 31 (.mv (.t 1)),
s_ 32 (.bin .mul (.c (.int .i64 4)) (.t 31)),
s_ 33 (.build [i0_, i0_] [(0, 1, .t 30), (1, 1, .t 32)]),
s_ 34 (.mv (.t 1)),
s_ 35 (.bin .mul (.c (.int .i64 6)) (.t 34)),
s_ 36 (.mv (.t 1)),
s_ 37 (.bin .mul (.c (.int .i64 4)) (.t 36)),
s_ 38 (.build [i0_, i0_] [(0, 1, .t 35), (1, 1, .t 37)]),
s_ 39 (.bsl 2 4 [i0_, i0_] [(0, .t 23), (1, .t 28), (2, .t 33), (3, .t 38)]),
s_ 40 (.bsl 1 1 [.nils 2] [(0, .t 39)]),
s_ 41 (.build [i0_, i0_, i0_] [(0, 1, .c (.int .i64 8)), (1, 1, .c (.int .i64 4)), (2, 1, .c (.int .i64 2))]),
s_ 42 (.build [i0_, i0_, i0_] [(0, 1, .c (.int .i64 4)), (1, 1, .c (.int .i64 2)), (2, 1, .c (.int .i64 1))]),
s_ 43 (.build [i0_, i0_, i0_, i0_, i0_, i0_, i0_, i0_, i0_, i0_, i0_, i0_, i0_, i0_, i0_, i0_, i0_, i0_, i0_, i0_, i0_, i0_, i0_, i0_, i0_, i0_, i0_, i0_, i0_, i0_, .nils 1, .nils 6, .nils 3, .nils 1, i0_, i0_, i0_, i0_, i0_, i0_, i0_, .nils 1, i0_, i0_] [(0, 24, .t 15), (24, 6, .t 18), (30, 1, .t 40), (35, 3, .t 41), (38, 3, .t 42), (43, 1, .c (.int .i64 2))]),
n_ (.store 44 (.t 0) (.t 43))] (some [0]) [2, 3]) (
.ret)))))))))))))
def A105 : AFn := .code [.t 4] (
(.seq (
.reg none [
s_ 4 (.as (.c (.bool false)))] (some [0, 1]) []) (
(.seq (
.reg none [
s_ 5 (.mv (.t 0)),
s_ 6 (.mv (.t 1)),
s_ 7 (.call 116 [.t 5, .t 6]),
s_ 8 (.bin .geq (.t 7) (.c (i0_))),
s_ 4 (.as (.t 8))] (some [4]) []) (
.ret)))))
def A106_L0b : ACode := 
(.seq (
.reg none [
s_ 27 (.bin .lss (.t 26) (.c (.int .i64 3)))] (some [0, 2, 17, 18, 19, 25, 26, 27]) []) (
(.seq (
(.cond (.t 27) (
.skip) (
.exit 2))) (
(.seq (
(.block 3 (
(.seq (
.reg none [
s_ 28 (.ixa false 3 1 (.t 25) (.t 26)),
s_ 9 (.as (.t 28))] (some [0, 2, 9, 17, 18, 19, 25, 26]) []) (
(.seq (
.reg none [
s_ 29 (.mv (.t 0)),
s_ 30 (.mv (.t 9)),
s_ 31 (.cal (.t 29) [.t 30]),
s_ 32 (.un .not (.t 31))] (some [0, 2, 17, 18, 19, 25, 26, 32]) []) (
(.cond (.t 32) (
.ret) (
.skip))))))) (some [0, 2, 17, 18, 19, 25, 26]) [9, 31])) (
.reg none [
s_ 33 (.bin .add (.t 26) (.c (.int .i64 1))),
s_ 26 (.mv (.t 33))] (some [0, 2, 17, 18, 19, 25, 26]) []))))))
def A106_L0 : ACode := .loop A106_L0b (some [0, 2, 17, 18, 19, 25, 26]) [9, 31]
def A106_L1b : ACode := 
(.seq (
.reg none [
s_ 20 (.bin .lss (.t 19) (.t 18))] (some [0, 2, 17, 18, 19, 20]) []) (
(.seq (
(.cond (.t 20) (
.skip) (
.exit 0))) (
(.seq (
(.block 1 (
(.seq (
.reg none [
s_ 21 (.ias 3 (.t 17) (.t 19)),
s_ 22 (.load true 3 (.t 21)),
s_ 7 (.alloc [i0_, i0_, i0_]),
n_ (.store 3 (.t 7) (.t 22))] (some [0, 2, 7, 17, 18, 19]) []) (
(.seq (
.reg none [
s_ 23 (.load true 12 (.t 2)),
s_ 24 (.load true 3 (.t 7)),
s_ 25 (.call 20 [.t 23, .t 24]),
s_ 26 (.mv (.c (i0_)))] (some [0, 2, 17, 18, 19, 25, 26]) [7]) (
(.block 2 (
A106_L0) (some [0, 2, 17, 18, 19]) [9, 31])))))) (some [0, 2, 17, 18, 19]) [7, 9, 25, 31])) (
.reg none [
s_ 34 (.bin .add (.t 19) (.c (.int .i64 1))),
s_ 19 (.mv (.t 34))] (some [0, 2, 17, 18, 19]) []))))))
def A106_L1 : ACode := .loop A106_L1b (some [0, 2, 17, 18, 19]) [7, 9, 25, 31]
def A106 : AFn := .code [] (
(.seq (
.reg none [
s_ 11 (.load true 3 (.t 1)),
s_ 12 (.call 39 [.t 11]),
s_ 10 (.mv (.t 12)),
s_ 13 (.ext (.t 10) 0),
s_ 14 (.ext (.t 10) 1),
s_ 4 (.alloc [i0_, i0_, i0_]),
s_ 5 (.alloc [i0_, i0_, i0_]),
n_ (.store 3 (.t 4) (.t 13)),
n_ (.store 3 (.t 5) (.t 14))] (some [0, 2, 4, 5]) []) (
(.seq (
.reg none [
s_ 15 (.load true 3 (.t 4)),
s_ 16 (.load true 3 (.t 5)),
s_ 17 (.bsl 3 2 [i0_, i0_, i0_] [(0, .t 15), (1, .t 16)]),
s_ 18 (.len 0 (.t 17)),
s_ 19 (.mv (.c (i0_)))] (some [0, 2, 17, 18, 19]) [4, 5]) (
(.block 0 (
A106_L1) (some []) [7, 9, 25, 31]))))))
def A107 : AFn := .code [.cell true 2 2, .cell true 2 3] (
(.seq (
.reg none [
s_ 2 (.alloc [i0_, i0_]),
s_ 3 (.alloc [i0_, i0_])] (some [0, 2, 3]) []) (
(.seq (
(.seq (
.reg none [
s_ 6 (.mv (.t 0)),
s_ 7 (.len 0 (.t 6)),
s_ 8 (.bin .eql (.t 7) (.c (i0_)))] (some [0, 2, 3, 8]) []) (
(.cond (.t 8) (
(.seq (
.reg none [
s_ 9 (.build [i0_, i0_] []),
s_ 10 (.build [i0_, i0_] []),
n_ (.store 2 (.t 2) (.t 9)),
n_ (.store 2 (.t 3) (.t 10))] (some [2, 3]) []) (
.ret))) (
.skip))))) (
(.seq (
.reg none [
s_ 11 (.mv (.t 0)),
s_ 12 (.mv (.t 0)),
s_ 13 (.ias 2 (.t 12) (.c (i0_))),
s_ 14 (.load true 2 (.t 13)),
s_ 15 (.call 117 [.t 11, .t 14, .fu 118]),
s_ 4 (.alloc [i0_, i0_]),
n_ (.store 2 (.t 4) (.t 15))] (some [0, 2, 3, 4]) []) (
(.seq (
.reg none [
s_ 16 (.mv (.t 0)),
s_ 17 (.mv (.t 0)),
s_ 18 (.ias 2 (.t 17) (.c (i0_))),
s_ 19 (.load true 2 (.t 18)),
s_ 20 (.call 117 [.t 16, .t 19, .fu 119]),
s_ 5 (.alloc [i0_, i0_]),
n_ (.store 2 (.t 5) (.t 20))] (some [2, 3, 4, 5]) []) (
(.seq (
.reg (some [.dr [22] [], .dr [21] [2], .dr [22] [], .free]) [
s_ 21 (.load true 2 (.t 4)),
s_ 22 (.load true 2 (.t 5)),
n_ (.store 2 (.t 2) (.t 21)),
n_ (.store 2 (.t 3) (.t 22))] (some [2, 3]) [4, 5]) (
.ret)))))))))))
def A108 : AFn := .code [.t 3] (
(.seq (
.reg none [
s_ 3 (.as (.c (.bool false)))] (some [0, 1]) []) (
(.seq (
.reg none [
s_ 4 (.mv (.t 0)),
s_ 5 (.load false 1 (.t 1)),
s_ 6 (.un .neg (.t 5)),
s_ 7 (.bin .geq (.t 4) (.t 6)),
s_ 8 (.mv (.t 7)),
⟨some 9, .mv (.t 0), some (8, true), true⟩,
⟨some 10, .load false 1 (.t 1), some (8, true), true⟩,
⟨some 11, .bin .leq (.t 9) (.t 10), some (8, true), true⟩,
s_ 12 (.pick (.t 8) (.t 11) (.c (.bool false))),
s_ 3 (.as (.t 12))] (some [3]) []) (
.ret)))))
def A109_L0b : ACode := 
(.seq (
.reg none [
s_ 22 (.bin .lss (.t 21) (.t 20))] (some [6, 7, 20, 21, 22]) []) (
(.seq (
(.cond (.t 22) (
.skip) (
.exit 0))) (
(.seq (
(.block 1 (
.reg none [
s_ 23 (.mv (.t 7)),
s_ 24 (.load true 2 (.t 6)),
s_ 25 (.cal (.t 23) [.t 24]),
n_ (.store 2 (.t 6) (.t 25))] (some [6, 7, 20, 21]) []) (some [6, 7, 20, 21]) [])) (
.reg none [
s_ 26 (.bin .add (.t 21) (.c (.int .i64 1))),
s_ 21 (.mv (.t 26))] (some [6, 7, 20, 21]) []))))))
def A109_L0 : ACode := .loop A109_L0b (some [6, 7, 20, 21]) []
def A109 : AFn := .code [.t 2, .t 3] (
(.seq (
.reg none [
s_ 2 (.as (.c (i0_))),
s_ 3 (.as (.c (i0_)))] (some [0]) []) (
(.seq (
.reg none [
s_ 8 (.mv (.t 0)),
s_ 9 (.call 120 [.t 8]),
s_ 4 (.as (.t 9))] (some [4]) []) (
(.seq (
.reg none [
s_ 10 (.call 121 []),
s_ 11 (.mv (.t 4)),
s_ 12 (.bin .rem (.t 11) (.c (.int .i64 9))),
s_ 13 (.ixa true 9 2 (.t 10) (.t 12)),
s_ 5 (.alloc [i0_, i0_]),
n_ (.store 2 (.t 5) (.t 13))] (some [4, 5]) []) (
(.seq (
.reg none [
s_ 14 (.iaa 2 1 (.t 5) (.c (i0_))),
s_ 15 (.load false 1 (.t 14)),
s_ 16 (.iaa 2 1 (.t 5) (.c (.int .i64 1))),
s_ 17 (.load false 1 (.t 16)),
s_ 18 (.build [i0_, i0_] [(0, 1, .t 15), (1, 1, .t 17)]),
s_ 6 (.alloc [i0_, i0_]),
n_ (.store 2 (.t 6) (.t 18))] (some [4, 6]) [5]) (
(.seq (
.reg none [
s_ 7 (.as (.fu 91))] (some [4, 6, 7]) []) (
(.seq (
(.seq (
.reg none [
s_ 19 (.mv (.t 4)),
s_ 20 (.bin .quo (.t 19) (.c (.int .i64 9))),
s_ 21 (.mv (.c (i0_)))] (some [6, 7, 20, 21]) []) (
(.block 0 (
A109_L0) (some [6]) [])))) (
(.seq (
.reg (some [.dr [30] [], .dr [30] [], .dr [28] [], .dr [28] [], .dr [30] [], .free]) [
s_ 27 (.fad 0 (.t 6)),
s_ 28 (.load false 1 (.t 27)),
s_ 29 (.fad 1 (.t 6)),
s_ 30 (.load false 1 (.t 29)),
s_ 2 (.as (.t 28)),
s_ 3 (.as (.t 30))] (some [2, 3]) [6]) (
.ret)))))))))))))))
def A111 : AFn := .code [.t 8, .t 9] (
(.seq (
.reg none [
s_ 4 (.box (.t 0)),
s_ 5 (.box (.t 1)),
s_ 6 (.box (.t 2)),
s_ 7 (.box (.t 3)),
s_ 8 (.as (.c (.bool false))),
s_ 9 (.as (.c (.bool false)))] (some [4, 5, 6, 7]) []) (
(.seq (
.reg (some [.dr [13, 14, 16, 17, 18] [], .dr [12, 14, 16, 17, 18] [], .dr [12, 13, 16, 17, 18] [], .dr [16, 17, 18] [], .dr [12, 13, 14, 15, 17, 18] [], .dr [12, 13, 14, 15, 16, 18] [], .dr [12, 13, 14, 15, 16, 17] [], .free, .free, .free]) [
s_ 12 (.load true 2 (.t 4)),
s_ 13 (.load true 2 (.t 5)),
s_ 14 (.load true 2 (.t 6)),
s_ 15 (.call 62 [.t 12, .t 13, .t 14]),
s_ 16 (.load true 2 (.t 4)),
s_ 17 (.load true 2 (.t 5)),
s_ 18 (.load true 2 (.t 7)),
s_ 19 (.call 62 [.t 16, .t 17, .t 18]),
s_ 10 (.as (.t 15)),
s_ 11 (.as (.t 19))] (some [4, 5, 6, 7, 10, 11]) []) (
(.seq (
.reg none [
s_ 20 (.mv (.t 10)),
s_ 21 (.mv (.t 11)),
s_ 22 (.bin .mul (.t 20) (.t 21)),
s_ 23 (.bin .lss (.t 22) (.c (i0_))),
s_ 24 (.mv (.t 10)),
s_ 25 (.bin .eql (.t 24) (.c (i0_))),
s_ 26 (.mv (.t 25)),
⟨some 27, .load true 2 (.t 4), some (26, true), true⟩,
⟨some 28, .load true 2 (.t 5), some (26, true), true⟩,
⟨some 29, .load true 2 (.t 6), some (26, true), true⟩,
⟨some 30, .call 90 [.t 27, .t 28, .t 29], some (26, true), true⟩,
s_ 31 (.pick (.t 26) (.t 30) (.c (.bool false))),
s_ 32 (.mv (.t 31)),
⟨some 33, .mv (.t 11), some (32, false), true⟩,
⟨some 34, .bin .eql (.t 33) (.c (i0_)), some (32, false), true⟩,
⟨some 35, .mv (.t 34), some (32, false), true⟩,
⟨some 36, .load true 2 (.t 4), some (35, true), true⟩,
⟨some 37, .load true 2 (.t 5), some (35, true), true⟩,
⟨some 38, .load true 2 (.t 7), some (35, true), true⟩,
⟨some 39, .call 90 [.t 36, .t 37, .t 38], some (35, true), true⟩,
⟨some 40, .pick (.t 35) (.t 39) (.c (.bool false)), some (32, false), true⟩,
s_ 41 (.pick (.t 32) (.c (.bool true)) (.t 40)),
s_ 8 (.as (.t 23)),
s_ 9 (.as (.t 41))] (some [8, 9]) [4, 5, 6, 7]) (
.ret)))))))
def A112_L0b : ACode := 
(.seq (
.reg none [
s_ 8 (.bin .lss (.t 7) (.t 6))] (some [0, 1, 5, 6, 7, 8]) []) (
(.seq (
(.cond (.t 8) (
.skip) (
.exit 0))) (
(.seq (
(.block 1 (
(.seq (
.reg none [
s_ 9 (.mv (.t 7)),
s_ 10 (.ias 2 (.t 5) (.t 7)),
s_ 11 (.load true 2 (.t 10)),
s_ 4 (.alloc [i0_, i0_]),
s_ 3 (.as (.t 9)),
n_ (.store 2 (.t 4) (.t 11))] (some [0, 1, 3, 4, 5, 6, 7]) []) (
(.seq (
.reg (some [.dr [14, 15, 18, 19, 21, 22] [], .dr [14, 15, 18, 19, 21, 22] [], .dr [15, 18, 19, 21, 22] [], .dr [14, 18, 19] [], .dr [14, 15, 18, 19] [], .dr [14, 15, 18, 19] [], .dr [14, 15] [], .dr [14, 15] [], .dr [14, 15] [], .dr [14] [], .dr [14] [], .dr [] [], .free, .free]) [
s_ 12 (.mv (.t 0)),
s_ 13 (.mv (.t 3)),
s_ 14 (.load true 2 (.t 4)),
s_ 15 (.load false 1 (.t 1)),
s_ 16 (.mv (.t 3)),
s_ 17 (.bin .add (.t 16) (.c (.int .i64 1))),
s_ 18 (.load false 1 (.t 1)),
s_ 19 (.len 0 (.t 18)),
s_ 20 (.bin .rem (.t 17) (.t 19)),
s_ 21 (.ias 2 (.t 15) (.t 20)),
s_ 22 (.load true 2 (.t 21)),
s_ 23 (.build [i0_, i0_, i0_, i0_] [(0, 2, .t 14), (2, 2, .t 22)]),
s_ 24 (.cal (.t 12) [.t 13, .t 23]),
s_ 25 (.un .not (.t 24))] (some [0, 1, 5, 6, 7, 25]) [4]) (
(.cond (.t 25) (
.ret) (
.skip))))))) (some [0, 1, 5, 6, 7]) [3, 4, 24])) (
.reg none [
s_ 26 (.bin .add (.t 7) (.c (.int .i64 1))),
s_ 7 (.mv (.t 26))] (some [0, 1, 5, 6, 7]) []))))))
def A112_L0 : ACode := .loop A112_L0b (some [0, 1, 5, 6, 7]) [3, 4, 24]
def A112 : AFn := .code [] (
(.seq (
.reg none [
s_ 5 (.load false 1 (.t 1)),
s_ 6 (.len 0 (.t 5)),
s_ 7 (.mv (.c (i0_)))] (some [0, 1, 5, 6, 7]) []) (
(.block 0 (
A112_L0) (some []) [3, 4, 24]))))
def A116_L0b : ACode := 
(.seq (
.reg none [
s_ 9 (.bin .lss (.t 8) (.t 7))] (some [0, 1, 7, 8, 9]) []) (
(.seq (
(.cond (.t 9) (
.skip) (
.exit 0))) (
(.seq (
(.block 1 (
(.seq (
.reg none [
s_ 10 (.mv (.t 8)),
s_ 5 (.as (.t 10))] (some [0, 1, 5, 7, 8]) []) (
(.seq (
.reg none [
s_ 11 (.mv (.t 1)),
s_ 12 (.mv (.t 0)),
s_ 13 (.mv (.t 5)),
s_ 14 (.ias 1 (.t 12) (.t 13)),
s_ 15 (.load false 1 (.t 14)),
s_ 16 (.bib false (.t 11) (.t 15))] (some [0, 1, 5, 7, 8, 16]) []) (
(.cond (.t 16) (
(.seq (
.reg none [
s_ 17 (.mv (.t 5)),
s_ 4 (.as (.t 17))] (some [4]) []) (
.ret))) (
.skip))))))) (some [0, 1, 7, 8]) [4, 5])) (
.reg none [
s_ 18 (.bin .add (.t 8) (.c (.int .i64 1))),
s_ 8 (.mv (.t 18))] (some [0, 1, 7, 8]) []))))))
def A116_L0 : ACode := .loop A116_L0b (some [0, 1, 7, 8]) [4, 5]
def A116 : AFn := .code [.t 4] (
(.seq (
.reg none [
s_ 4 (.as (.c (i0_)))] (some [0, 1]) []) (
(.seq (
(.seq (
.reg none [
s_ 6 (.mv (.t 0)),
s_ 7 (.len 0 (.t 6)),
s_ 8 (.mv (.c (i0_)))] (some [0, 1, 7, 8]) []) (
(.block 0 (
A116_L0) (some []) [4, 5])))) (
(.seq (
.reg none [
s_ 4 (.as (.c (.int .i64 (-1))))] (some [4]) []) (
.ret)))))))
def A117_L0b : ACode := 
(.seq (
.reg none [
s_ 12 (.bin .lss (.t 11) (.t 10))] (some [2, 4, 6, 9, 10, 11, 12]) []) (
(.seq (
(.cond (.t 12) (
.skip) (
.exit 0))) (
(.seq (
(.block 1 (
(.seq (
.reg none [
s_ 13 (.ias 2 (.t 9) (.t 11)),
s_ 14 (.load true 2 (.t 13)),
s_ 8 (.alloc [i0_, i0_]),
n_ (.store 2 (.t 8) (.t 14))] (some [2, 4, 6, 8, 9, 10, 11]) []) (
.reg none [
s_ 15 (.mv (.t 2)),
s_ 16 (.load true 2 (.t 4)),
s_ 17 (.load true 2 (.t 8)),
s_ 18 (.cal (.t 15) [.t 16, .t 17]),
n_ (.store 2 (.t 4) (.t 18))] (some [2, 4, 6, 9, 10, 11]) [8]))) (some [2, 4, 6, 9, 10, 11]) [8])) (
.reg none [
s_ 19 (.bin .add (.t 11) (.c (.int .i64 1))),
s_ 11 (.mv (.t 19))] (some [2, 4, 6, 9, 10, 11]) []))))))
def A117_L0 : ACode := .loop A117_L0b (some [2, 4, 6, 9, 10, 11]) [8]
def A117 : AFn := .code [.cell true 2 6] (
(.seq (
.reg none [
s_ 4 (.box (.t 1)),
s_ 6 (.alloc [i0_, i0_])] (some [0, 2, 4, 6]) []) (
(.seq (
(.seq (
.reg none [
s_ 9 (.mv (.t 0)),
s_ 10 (.len 0 (.t 9)),
s_ 11 (.mv (.c (i0_)))] (some [2, 4, 6, 9, 10, 11]) []) (
(.block 0 (
A117_L0) (some [4, 6]) [8])))) (
(.seq (
.reg none [
s_ 20 (.load true 2 (.t 4)),
n_ (.store 2 (.t 6) (.t 20))] (some [6]) [4]) (
.ret)))))))
def A118 : AFn := .code [.cell true 2 4] (
(.seq (
.reg none [
s_ 2 (.box (.t 0)),
s_ 3 (.box (.t 1)),
s_ 4 (.alloc [i0_, i0_])] (some [2, 3, 4]) []) (
(.seq (
.reg none [
s_ 5 (.fad 0 (.t 2)),
s_ 6 (.load false 1 (.t 5)),
s_ 7 (.fad 0 (.t 3)),
s_ 8 (.load false 1 (.t 7)),
s_ 9 (.mn [.t 6, .t 8]),
s_ 10 (.fad 1 (.t 2)),
s_ 11 (.load false 1 (.t 10)),
s_ 12 (.fad 1 (.t 3)),
s_ 13 (.load false 1 (.t 12)),
s_ 14 (.mn [.t 11, .t 13]),
s_ 15 (.build [i0_, i0_] [(0, 1, .t 9), (1, 1, .t 14)]),
n_ (.store 2 (.t 4) (.t 15))] (some [4]) [2, 3]) (
.ret)))))
def A119 : AFn := .code [.cell true 2 4] (
(.seq (
.reg none [
s_ 2 (.box (.t 0)),
s_ 3 (.box (.t 1)),
s_ 4 (.alloc [i0_, i0_])] (some [2, 3, 4]) []) (
(.seq (
.reg none [
s_ 5 (.fad 0 (.t 2)),
s_ 6 (.load false 1 (.t 5)),
s_ 7 (.fad 0 (.t 3)),
s_ 8 (.load false 1 (.t 7)),
s_ 9 (.mx [.t 6, .t 8]),
s_ 10 (.fad 1 (.t 2)),
s_ 11 (.load false 1 (.t 10)),
s_ 12 (.fad 1 (.t 3)),
s_ 13 (.load false 1 (.t 12)),
s_ 14 (.mx [.t 11, .t 13]),
s_ 15 (.build [i0_, i0_] [(0, 1, .t 9), (1, 1, .t 14)]),
n_ (.store 2 (.t 4) (.t 15))] (some [4]) [2, 3]) (
.ret)))))
def A120 : AFn := .code [.t 2] (
(.seq (
.reg none [
s_ 2 (.as (.c (i0_)))] (some [0]) []) (
(.seq (
.reg none [
s_ 3 (.mv (.t 0)),
s_ 4 (.bin .rem (.t 3) (.c (.int .i64 36))),
s_ 0 (.as (.t 4))] (some [0]) []) (
(.seq (
(.seq (
.reg none [
s_ 5 (.mv (.t 0)),
s_ 6 (.bin .lss (.t 5) (.c (i0_)))] (some [0, 6]) []) (
(.cond (.t 6) (
.reg none [
s_ 7 (.mv (.t 0)),
s_ 8 (.bin .add (.t 7) (.c (.int .i64 36))),
s_ 0 (.as (.t 8))] (some [0]) []) (
.skip))))) (
(.seq (
.reg none [
s_ 9 (.mv (.t 0)),
s_ 2 (.as (.t 9))] (some [2]) []) (
.ret)))))))))
def A121 : AFn := .code [.cell true 18 0] (
(.seq (
.reg none [
s_ 0 (.alloc [i0_, i0_, i0_, i0_, i0_, i0_, i0_, i0_, i0_, i0_, i0_, i0_, i0_, i0_, i0_, i0_, i0_, i0_])] (some [0]) []) (
(.seq (
.reg none [
s_ 1 (.build [i0_, i0_] [(0, 1, .c (.int .i64 65)), (1, 1, .c (i0_))]),
s_ 2 (.build [i0_, i0_] [(0, 1, .c (.int .i64 63)), (1, 1, .c (.int .i64 16))]),
s_ 3 (.build [i0_, i0_] [(0, 1, .c (.int .i64 60)), (1, 1, .c (.int .i64 25))]),
s_ 4 (.build [i0_, i0_] [(0, 1, .c (.int .i64 56)), (1, 1, .c (.int .i64 33))]),
s_ 5 (.build [i0_, i0_] [(0, 1, .c (.int .i64 52)), (1, 1, .c (.int .i64 39))]),
s_ 6 (.build [i0_, i0_] [(0, 1, .c (.int .i64 39)), (1, 1, .c (.int .i64 52))]),
s_ 7 (.build [i0_, i0_] [(0, 1, .c (.int .i64 33)), (1, 1, .c (.int .i64 56))]),
s_ 8 (.build [i0_, i0_] [(0, 1, .c (.int .i64 25)), (1, 1, .c (.int .i64 60))]),
s_ 9 (.build [i0_, i0_] [(0, 1, .c (.int .i64 16)), (1, 1, .c (.int .i64 63))]),
s_ 10 (.build [i0_, i0_, i0_, i0_, i0_, i0_, i0_, i0_, i0_, i0_, i0_, i0_, i0_, i0_, i0_, i0_, i0_, i0_] [(0, 2, .t 1), (2, 2, .t 2), (4, 2, .t 3), (6, 2, .t 4), (8, 2, .t 5), (10, 2, .t 6), (12, 2, .t 7), (14, 2, .t 8), (16, 2, .t 9)]),
n_ (.store 18 (.t 0) (.t 10))] (some [0]) []) (
.ret)))))

def E : FuncId → Option AFn
  | 10 => some A10
  | 20 => some A20
  | 25 => some A25
  | 27 => some A27
  | 33 => some A33
  | 37 => some A37
  | 38 => some A38
  | 39 => some A39
  | 41 => some A41
  | 44 => some A44
  | 48 => some A48
  | 51 => some A51
  | 53 => some A53
  | 54 => some A54
  | 55 => some A55
  | 60 => some A60
  | 61 => some A61
  | 62 => some A62
  | 64 => some A64
  | 67 => some A67
  | 69 => some A69
  | 70 => some A70
  | 71 => some A71
  | 72 => some A72
  | 75 => some A75
  | 76 => some A76
  | 77 => some A77
  | 78 => some A78
  | 79 => some A79
  | 80 => some A80
  | 82 => some A82
  | 83 => some A83
  | 86 => some A86
  | 88 => some A88
  | 89 => some A89
  | 90 => some A90
  | 91 => some A91
  | 96 => some A96
  | 97 => some A97
  | 98 => some A98
  | 105 => some A105
  | 106 => some A106
  | 107 => some A107
  | 108 => some A108
  | 109 => some A109
  | 111 => some A111
  | 112 => some A112
  | 116 => some A116
  | 117 => some A117
  | 118 => some A118
  | 119 => some A119
  | 120 => some A120
  | 121 => some A121
  | _ => none
theorem E_10 : E 10 = some A10 := rfl
theorem E_20 : E 20 = some A20 := rfl
theorem E_25 : E 25 = some A25 := rfl
theorem E_27 : E 27 = some A27 := rfl
theorem E_33 : E 33 = some A33 := rfl
theorem E_37 : E 37 = some A37 := rfl
theorem E_38 : E 38 = some A38 := rfl
theorem E_39 : E 39 = some A39 := rfl
theorem E_41 : E 41 = some A41 := rfl
theorem E_44 : E 44 = some A44 := rfl
theorem E_48 : E 48 = some A48 := rfl
theorem E_51 : E 51 = some A51 := rfl
theorem E_53 : E 53 = some A53 := rfl
theorem E_54 : E 54 = some A54 := rfl
theorem E_55 : E 55 = some A55 := rfl
theorem E_60 : E 60 = some A60 := rfl
theorem E_61 : E 61 = some A61 := rfl
theorem E_62 : E 62 = some A62 := rfl
theorem E_64 : E 64 = some A64 := rfl
theorem E_67 : E 67 = some A67 := rfl
theorem E_69 : E 69 = some A69 := rfl
theorem E_71 : E 71 = some A71 := rfl
theorem E_72 : E 72 = some A72 := rfl
theorem E_75 : E 75 = some A75 := rfl
theorem E_76 : E 76 = some A76 := rfl
theorem E_77 : E 77 = some A77 := rfl
theorem E_78 : E 78 = some A78 := rfl
theorem E_79 : E 79 = some A79 := rfl
theorem E_80 : E 80 = some A80 := rfl
theorem E_82 : E 82 = some A82 := rfl
theorem E_83 : E 83 = some A83 := rfl
theorem E_86 : E 86 = some A86 := rfl
theorem E_88 : E 88 = some A88 := rfl
theorem E_89 : E 89 = some A89 := rfl
theorem E_90 : E 90 = some A90 := rfl
theorem E_91 : E 91 = some A91 := rfl
theorem E_96 : E 96 = some A96 := rfl
theorem E_97 : E 97 = some A97 := rfl
theorem E_105 : E 105 = some A105 := rfl
theorem E_106 : E 106 = some A106 := rfl
theorem E_107 : E 107 = some A107 := rfl
theorem E_108 : E 108 = some A108 := rfl
theorem E_109 : E 109 = some A109 := rfl
theorem E_111 : E 111 = some A111 := rfl
theorem E_112 : E 112 = some A112 := rfl
theorem E_116 : E 116 = some A116 := rfl
theorem E_117 : E 117 = some A117 := rfl
theorem E_118 : E 118 = some A118 := rfl
theorem E_119 : E 119 = some A119 := rfl
theorem E_120 : E 120 = some A120 := rfl
theorem E_121 : E 121 = some A121 := rfl
theorem A10_L0_eq (s : St) : K E A10_L0 s = (K E A10_L0b s).bind (loopF E A10_L0 (some [5, 6, 7, 8, 10, 11, 12]) [4]) := loop_fold rfl s
theorem A20_L0_eq (s : St) : K E A20_L0 s = (K E A20_L0b s).bind (loopF E A20_L0 (some [4, 5, 6, 7, 22, 23]) [8, 9, 37]) := loop_fold rfl s
theorem A25_L0_eq (s : St) : K E A25_L0 s = (K E A25_L0b s).bind (loopF E A25_L0 (some [4, 5, 6, 10, 11]) [7, 8]) := loop_fold rfl s
theorem A27_L0_eq (s : St) : K E A27_L0 s = (K E A27_L0b s).bind (loopF E A27_L0 (some [2, 4, 5, 7, 18, 19]) [8, 9, 31, 32]) := loop_fold rfl s
theorem A39_L0_eq (s : St) : K E A39_L0 s = (K E A39_L0b s).bind (loopF E A39_L0 (some [2, 3, 4, 5, 8, 9]) [6, 7, 16, 19]) := loop_fold rfl s
theorem A41_L0_eq (s : St) : K E A41_L0 s = (K E A41_L0b s).bind (loopF E A41_L0 (some [3, 4, 5, 6, 9, 12, 13, 14]) [11, 25]) := loop_fold rfl s
theorem A69_L0_eq (s : St) : K E A69_L0 s = (K E A69_L0b s).bind (loopF E A69_L0 (some [0, 3, 4, 5, 45, 46]) [52]) := loop_fold rfl s
theorem A69_L1_eq (s : St) : K E A69_L1 s = (K E A69_L1b s).bind (loopF E A69_L1 (some [0, 3, 4, 5, 33, 34]) [40]) := loop_fold rfl s
theorem A71_L0_eq (s : St) : K E A71_L0 s = (K E A71_L0b s).bind (loopF E A71_L0 (some [0, 1, 5]) [4]) := loop_fold rfl s
theorem A75_L0_eq (s : St) : K E A75_L0 s = (K E A75_L0b s).bind (loopF E A75_L0 (some [1, 3, 4, 5, 23, 24, 28, 29]) [7, 8, 9, 51]) := loop_fold rfl s
theorem A75_L1_eq (s : St) : K E A75_L1 s = (K E A75_L1b s).bind (loopF E A75_L1 (some [1, 3, 4, 23, 24]) [5, 6, 7, 8, 9, 51]) := loop_fold rfl s
theorem A77_L1_eq (s : St) : K E A77_L1 s = (K E A77_L1b s).bind (loopF E A77_L1 (some [1, 2, 3, 4, 5, 10, 11, 17, 18, 19]) [6, 7, 8, 36, 41, 46]) := loop_fold rfl s
theorem A77_L2_eq (s : St) : K E A77_L2 s = (K E A77_L2b s).bind (loopF E A77_L2 (some [1, 2, 3, 10, 11]) [4, 5, 6, 7, 8, 36, 41, 46]) := loop_fold rfl s
theorem A78_L0_eq (s : St) : K E A78_L0 s = (K E A78_L0b s).bind (loopF E A78_L0 (some [3, 7, 8, 9]) [4, 5, 18]) := loop_fold rfl s
theorem A86_L0_eq (s : St) : K E A86_L0 s = (K E A86_L0b s).bind (loopF E A86_L0 (some [3, 4, 5]) []) := loop_fold rfl s
theorem A89_L0_eq (s : St) : K E A89_L0 s = (K E A89_L0b s).bind (loopF E A89_L0 (some [0, 1, 5, 6, 7]) [3, 4, 24]) := loop_fold rfl s
theorem A106_L0_eq (s : St) : K E A106_L0 s = (K E A106_L0b s).bind (loopF E A106_L0 (some [0, 2, 17, 18, 19, 25, 26]) [9, 31]) := loop_fold rfl s
theorem A106_L1_eq (s : St) : K E A106_L1 s = (K E A106_L1b s).bind (loopF E A106_L1 (some [0, 2, 17, 18, 19]) [7, 9, 25, 31]) := loop_fold rfl s
theorem A109_L0_eq (s : St) : K E A109_L0 s = (K E A109_L0b s).bind (loopF E A109_L0 (some [6, 7, 20, 21]) []) := loop_fold rfl s
theorem A112_L0_eq (s : St) : K E A112_L0 s = (K E A112_L0b s).bind (loopF E A112_L0 (some [0, 1, 5, 6, 7]) [3, 4, 24]) := loop_fold rfl s
theorem A116_L0_eq (s : St) : K E A116_L0 s = (K E A116_L0b s).bind (loopF E A116_L0 (some [0, 1, 7, 8]) [4, 5]) := loop_fold rfl s
theorem A117_L0_eq (s : St) : K E A117_L0 s = (K E A117_L0b s).bind (loopF E A117_L0 (some [2, 4, 6, 9, 10, 11]) [8]) := loop_fold rfl s
end Go.Proofs.Ytnecdcaaknhgpaa

namespace Go.Geo
set_option maxRecDepth 100000
set_option maxHeartbeats 4000000
set_option linter.unusedSimpArgs false
set_option linter.unusedVariables false
open Go Go.Zv
def sgn (n : Int) : Int := if n > 0 then 1 else if n < 0 then -1 else 0
def crW (ax ay bx by_ px py : Int) : Int := w64 (w64 (w64 (bx - ax) * w64 (py - ay)) - w64 (w64 (by_ - ay) * w64 (px - ax)))
abbrev pt (p : Int × Int) : LV := .agg [.int .i64 p.1, .int .i64 p.2]
def c2 (p : Int × Int) : List LV := [.int .i64 p.1, .int .i64 p.2]
theorem get_c2 {l : List (Int × Int)} {i : Nat} {p : Int × Int} (h : l[i]? = some p) : (l.map c2)[i]? = some [.int .i64 p.1, .int .i64 p.2] := by
  rw [List.getElem?_map, h]; rfl
theorem wr_nat {n : Nat} (h : n < 9223372036854775808) : IntKind.i64.wrap (n : Int) = n := by
  simp [IntKind.wrap, IntKind.signed, IntKind.bits]; omega
theorem wr_succ {n : Nat} (h : n + 1 < 9223372036854775808) : IntKind.i64.wrap ((n : Int) + 1) = ((n + 1 : Nat) : Int) := by
  have := wr_nat h; simpa using this
def minP (a b : Int × Int) : Int × Int := (mnI a.1 b.1, mnI a.2 b.2)
def maxP (a b : Int × Int) : Int × Int := (mxI a.1 b.1, mxI a.2 b.2)
def bbL : List (Int × Int) → Int × Int
  | [] => (0, 0)
  | p :: t => (p :: t).foldl minP p
def bbH : List (Int × Int) → Int × Int
  | [] => (0, 0)
  | p :: t => (p :: t).foldl maxP p
def withinB (ax ay bx by_ px py : Int) : Bool := decide (mnI ax bx ≤ px) && (decide (px ≤ mxI ax bx) && (decide (mnI ay by_ ≤ py) && decide (py ≤ mxI ay by_)))
theorem mn_self (a : Int) : mnI a a = a := by unfold mnI; split <;> rfl
theorem mx_self (a : Int) : mxI a a = a := by unfold mxI; split <;> rfl
def onB (ax ay bx by_ px py : Int) : Bool := withinB ax ay bx by_ px py && decide (sgn (crW ax ay bx by_ px py) = 0)
def sdI (ax ay bx by_ cx cy dx dy : Int) : Int := w64 (sgn (crW ax ay bx by_ cx cy) * sgn (crW ax ay bx by_ dx dy))
def endsB (ax ay bx by_ cx cy dx dy : Int) : Bool := (decide (sgn (crW ax ay bx by_ cx cy) = 0) && withinB ax ay bx by_ cx cy) || (decide (sgn (crW ax ay bx by_ dx dy) = 0) && withinB ax ay bx by_ dx dy)
theorem wrap0 : IntKind.i64.wrap 0 = 0 := by decide
def cutB (ax ay bx by_ cx cy dx dy : Int) : Bool := (decide (sdI ax ay bx by_ cx cy dx dy < 0) && decide (sdI cx cy dx dy ax ay bx by_ < 0)) || (endsB ax ay bx by_ cx cy dx dy || endsB cx cy dx dy ax ay bx by_)
def sharedB (W S T : Int) : Bool := if W < 0 then decide (0 ≤ -S) && (decide (-S ≤ -W) && (decide (0 ≤ -T) && decide (-T ≤ -W))) else decide (0 ≤ S) && (decide (S ≤ W) && (decide (0 ≤ T) && decide (T ≤ W)))
def B (x : Int) : Prop := -500000000 ≤ x ∧ x ≤ 500000000
def cr (ax ay bx by_ px py : Int) : Int := (bx - ax) * (py - ay) - (by_ - ay) * (px - ax)
theorem mul_bd {x y A C : Int} (h1 : -A ≤ x) (h2 : x ≤ A) (h3 : -C ≤ y) (h4 : y ≤ C) : -(A * C) ≤ x * y ∧ x * y ≤ A * C := by
  have hA : 0 ≤ A := by omega
  have hC : 0 ≤ C := by omega
  have a1 : x * y ≤ A * C := by
    rcases Int.le_total 0 x with hx | hx
    · have h5 : x * y ≤ x * C := Int.mul_le_mul_of_nonneg_left h4 hx
      have h6 : x * C ≤ A * C := Int.mul_le_mul_of_nonneg_right h2 hC
      omega
    · have h5 : (-x) * (-y) ≤ (-x) * C := Int.mul_le_mul_of_nonneg_left (by omega) (by omega)
      have h6 : (-x) * C ≤ A * C := Int.mul_le_mul_of_nonneg_right (by omega) hC
      have h7 : (-x) * (-y) = x * y := by grind
      omega
  have a2 : -(A * C) ≤ x * y := by
    rcases Int.le_total 0 x with hx | hx
    · have h5 : x * (-y) ≤ x * C := Int.mul_le_mul_of_nonneg_left (by omega) hx
      have h6 : x * C ≤ A * C := Int.mul_le_mul_of_nonneg_right h2 hC
      have h7 : x * (-y) = -(x * y) := by grind
      omega
    · have h5 : (-x) * y ≤ (-x) * C := Int.mul_le_mul_of_nonneg_left h4 (by omega)
      have h6 : (-x) * C ≤ A * C := Int.mul_le_mul_of_nonneg_right (by omega) hC
      have h7 : (-x) * y = -(x * y) := by grind
      omega
  exact ⟨a2, a1⟩
theorem wprod {x y z w : Int} (h1 : -1000000000 ≤ x) (h2 : x ≤ 1000000000) (h3 : -1000000000 ≤ y) (h4 : y ≤ 1000000000) (h5 : -1000000000 ≤ z) (h6 : z ≤ 1000000000) (h7 : -1000000000 ≤ w) (h8 : w ≤ 1000000000) :
    IntKind.i64.wrap (IntKind.i64.wrap (IntKind.i64.wrap x * IntKind.i64.wrap y) - IntKind.i64.wrap (IntKind.i64.wrap z * IntKind.i64.wrap w)) = x * y - z * w ∧ -2000000000000000000 ≤ x * y - z * w ∧ x * y - z * w ≤ 2000000000000000000 := by
  obtain ⟨p1, p2⟩ := mul_bd h1 h2 h3 h4
  obtain ⟨q1, q2⟩ := mul_bd h5 h6 h7 h8
  rw [wrap_small (n := x) (by omega) (by omega), wrap_small (n := y) (by omega) (by omega), wrap_small (n := z) (by omega) (by omega), wrap_small (n := w) (by omega) (by omega)]
  rw [wrap_small (n := x * y) (by omega) (by omega), wrap_small (n := z * w) (by omega) (by omega), wrap_small (n := x * y - z * w) (by omega) (by omega)]
  exact ⟨rfl, by omega, by omega⟩
theorem crW_B {ax ay bx by_ px py : Int} (h1 : B ax) (h2 : B ay) (h3 : B bx) (h4 : B by_) (h5 : B px) (h6 : B py) : crW ax ay bx by_ px py = cr ax ay bx by_ px py := by
  unfold B at *
  exact (wprod (by omega) (by omega) (by omega) (by omega) (by omega) (by omega) (by omega) (by omega)).1
theorem mul_nn {x y : Int} : 0 ≤ x * y ↔ (0 ≤ x ∧ 0 ≤ y) ∨ (x ≤ 0 ∧ y ≤ 0) := by
  constructor
  · intro h
    rcases Int.lt_trichotomy x 0 with hx | hx | hx
    · rcases Int.lt_trichotomy y 0 with hy | hy | hy
      · right; omega
      · right; omega
      · have := Int.mul_neg_of_neg_of_pos hx hy; omega
    · subst hx
      rcases Int.le_total 0 y with hy | hy
      · left; omega
      · right; omega
    · rcases Int.lt_trichotomy y 0 with hy | hy | hy
      · have := Int.mul_neg_of_pos_of_neg hx hy; omega
      · left; omega
      · left; omega
  · rintro (⟨h1, h2⟩ | ⟨h1, h2⟩)
    · exact Int.mul_nonneg h1 h2
    · exact Int.mul_nonneg_of_nonpos_of_nonpos h1 h2
theorem bt {a b p : Int} : (mnI a b ≤ p ∧ p ≤ mxI a b) ↔ 0 ≤ (p - a) * (b - p) := by
  rw [mul_nn]; unfold mnI mxI
  constructor
  · intro h; split at h <;> split at h <;> omega
  · intro h; split <;> split <;> omega
theorem withinB_iff {ax ay bx by_ px py : Int} : withinB ax ay bx by_ px py = true ↔ 0 ≤ (px - ax) * (bx - px) ∧ 0 ≤ (py - ay) * (by_ - py) := by
  rw [← bt, ← bt]
  simp [withinB, and_assoc]
theorem sgn_eq0 {n : Int} : sgn n = 0 ↔ n = 0 := by unfold sgn; repeat' split
                                                    all_goals omega
theorem sq_pos {x : Int} (h : x ≠ 0) : 0 < x * x := by
  rcases Int.lt_trichotomy x 0 with h1 | h1 | h1
  · exact Int.mul_pos_of_neg_of_neg h1 h1
  · exact absurd h1 h
  · exact Int.mul_pos h1 h1
theorem on_key {u v U V : Int} (hc : U * v - V * u = 0) (hd : 0 ≤ u * (U - u) + v * (V - v)) (hne : U ≠ 0 ∨ V ≠ 0) : 0 ≤ u * (U - u) ∧ 0 ≤ v * (V - v) := by
  have key : (V * V) * (u * (U - u)) = (U * U) * (v * (V - v)) := by
    have e : U * v = V * u := by omega
    have : (V * V) * (u * (U - u)) = (V * u) * (V * U) - (V * u) * (V * u) := by grind
    rw [this, ← e]; grind
  have sq : ∀ x : Int, 0 ≤ x * x := fun x => by
    by_cases h : x = 0
    · subst h; simp
    · have := sq_pos h; omega
  constructor
  · refine Classical.byContradiction fun h => ?_
    have h1 : u * (U - u) < 0 := by omega
    have h2 : 0 < v * (V - v) := by omega
    have h3 : 0 ≤ (U * U) * (v * (V - v)) := Int.mul_nonneg (sq U) (by omega)
    rcases hne with hU | hV
    · have := Int.mul_pos (sq_pos hU) h2
      have h5 : (V * V) * (u * (U - u)) ≤ 0 := Int.mul_nonpos_of_nonneg_of_nonpos (sq V) (by omega)
      omega
    · have := Int.mul_neg_of_pos_of_neg (sq_pos hV) h1
      omega
  · refine Classical.byContradiction fun h => ?_
    have h1 : v * (V - v) < 0 := by omega
    have h2 : 0 < u * (U - u) := by omega
    rcases hne with hU | hV
    · have := Int.mul_neg_of_pos_of_neg (sq_pos hU) h1
      have h5 : 0 ≤ (V * V) * (u * (U - u)) := Int.mul_nonneg (sq V) (by omega)
      omega
    · have := Int.mul_pos (sq_pos hV) h2
      have h5 : (U * U) * (v * (V - v)) ≤ 0 := Int.mul_nonpos_of_nonneg_of_nonpos (sq U) (by omega)
      omega
theorem on_iff {ax ay bx by_ px py : Int} : (withinB ax ay bx by_ px py = true ∧ cr ax ay bx by_ px py = 0) ↔ (cr ax ay bx by_ px py = 0 ∧ 0 ≤ (px - ax) * (bx - px) + (py - ay) * (by_ - py) ∧ ((ax = bx ∧ ay = by_) → (px = ax ∧ py = ay))) := by
  rw [withinB_iff]
  constructor
  · rintro ⟨⟨h1, h2⟩, h3⟩
    refine ⟨h3, by omega, ?_⟩
    rintro ⟨rfl, rfl⟩
    rw [mul_nn] at h1 h2
    omega
  · rintro ⟨h3, h4, h5⟩
    refine ⟨?_, h3⟩
    by_cases he : ax = bx ∧ ay = by_
    · obtain ⟨rfl, rfl⟩ := h5 he
      obtain ⟨rfl, rfl⟩ := he
      simp
    · have := on_key (u := px - ax) (v := py - ay) (U := bx - ax) (V := by_ - ay) (by unfold cr at h3; exact h3) (by
        have e1 : bx - ax - (px - ax) = bx - px := by omega
        have e2 : by_ - ay - (py - ay) = by_ - py := by omega
        rw [e1, e2]; exact h4) (by omega)
      have e1 : bx - ax - (px - ax) = bx - px := by omega
      have e2 : by_ - ay - (py - ay) = by_ - py := by omega
      rw [e1, e2] at this; exact this
def wW (ax ay bx by_ cx cy dx dy : Int) : Int := (bx - ax) * (dy - cy) - (by_ - ay) * (dx - cx)
def sS (ax ay bx by_ cx cy dx dy : Int) : Int := (cx - ax) * (dy - cy) - (cy - ay) * (dx - cx)
def tT (ax ay bx by_ cx cy dx dy : Int) : Int := (cx - ax) * (by_ - ay) - (cy - ay) * (bx - ax)
section
variable (ax ay bx by_ cx cy dx dy : Int)
end
theorem sq_nn (x : Int) : 0 ≤ x * x := by
  by_cases h : x = 0
  · subst h; simp
  · have := sq_pos h; omega
theorem nn_of_mul {x y : Int} (hx : 0 < x) (h : 0 ≤ x * y) : 0 ≤ y := by
  rw [mul_nn] at h; omega
theorem sgn_mul_neg {x y : Int} : IntKind.i64.wrap (sgn x * sgn y) < 0 ↔ x * y < 0 := by
  have h : x * y < 0 ↔ ¬ (0 ≤ x * y) := by omega
  rw [h, mul_nn]
  unfold sgn
  repeat' split
  all_goals (simp only [Int.mul_zero, Int.zero_mul, Int.one_mul, Int.mul_one, Int.reduceMul, Int.reduceNeg])
  all_goals (first | (rw [show IntKind.i64.wrap 1 = 1 by decide]; omega) | (rw [show IntKind.i64.wrap (-1) = -1 by decide]; omega) | (rw [show IntKind.i64.wrap 0 = 0 by decide]; omega))
structure B8 (ax ay bx by_ cx cy dx dy : Int) : Prop where
  a0 : B ax
  a1 : B ay
  b0 : B bx
  b1 : B by_
  c0 : B cx
  c1 : B cy
  d0 : B dx
  d1 : B dy
theorem cutB_iff {ax ay bx by_ cx cy dx dy : Int} (h : B8 ax ay bx by_ cx cy dx dy) : cutB ax ay bx by_ cx cy dx dy = true ↔
    (cr ax ay bx by_ cx cy * cr ax ay bx by_ dx dy < 0 ∧ cr cx cy dx dy ax ay * cr cx cy dx dy bx by_ < 0) ∨
    ((cr ax ay bx by_ cx cy = 0 ∧ withinB ax ay bx by_ cx cy = true) ∨ (cr ax ay bx by_ dx dy = 0 ∧ withinB ax ay bx by_ dx dy = true)) ∨
    ((cr cx cy dx dy ax ay = 0 ∧ withinB cx cy dx dy ax ay = true) ∨ (cr cx cy dx dy bx by_ = 0 ∧ withinB cx cy dx dy bx by_ = true)) := by
  unfold cutB endsB sdI
  rw [crW_B h.a0 h.a1 h.b0 h.b1 h.c0 h.c1, crW_B h.a0 h.a1 h.b0 h.b1 h.d0 h.d1, crW_B h.c0 h.c1 h.d0 h.d1 h.a0 h.a1, crW_B h.c0 h.c1 h.d0 h.d1 h.b0 h.b1]
  simp only [Bool.or_eq_true, Bool.and_eq_true, decide_eq_true_eq, sgn_mul_neg, sgn_eq0]
theorem B8.s1 {ax ay bx by_ cx cy dx dy : Int} (h : B8 ax ay bx by_ cx cy dx dy) : B8 bx by_ ax ay cx cy dx dy := ⟨h.b0, h.b1, h.a0, h.a1, h.c0, h.c1, h.d0, h.d1⟩
theorem B8.s2 {ax ay bx by_ cx cy dx dy : Int} (h : B8 ax ay bx by_ cx cy dx dy) : B8 cx cy dx dy ax ay bx by_ := ⟨h.c0, h.c1, h.d0, h.d1, h.a0, h.a1, h.b0, h.b1⟩
theorem conv {W S a b M : Int} (h1 : 0 ≤ S) (h2 : 0 ≤ W - S) (ha : a ≤ M) (hb : b ≤ M) : W * a + S * (b - a) ≤ W * M := by
  have e : W * M - (W * a + S * (b - a)) = (W - S) * (M - a) + S * (M - b) := by grind
  have := Int.mul_nonneg h2 (show 0 ≤ M - a by omega)
  have := Int.mul_nonneg h1 (show 0 ≤ M - b by omega)
  omega
theorem w_x {ax ay bx by_ px py : Int} (hc : cr ax ay bx by_ px py = 0) (hn : bx - ax ≠ 0) (h : 0 ≤ (px - ax) * (bx - px)) : withinB ax ay bx by_ px py = true := by
  rw [withinB_iff]
  refine ⟨h, nn_of_mul (sq_pos hn) ?_⟩
  have e : (bx - ax) * (py - ay) = (by_ - ay) * (px - ax) := by unfold cr at hc; omega
  have : (bx - ax) * (bx - ax) * ((py - ay) * (by_ - py)) = ((by_ - ay) * (by_ - ay)) * ((px - ax) * (bx - px)) := by
    have : (bx - ax) * (bx - ax) * ((py - ay) * (by_ - py)) = ((bx - ax) * (py - ay)) * ((bx - ax) * (by_ - ay) - (bx - ax) * (py - ay)) := by grind
    rw [this, e]; grind
  rw [this]; exact Int.mul_nonneg (sq_nn _) h
theorem w_y {ax ay bx by_ px py : Int} (hc : cr ax ay bx by_ px py = 0) (hn : by_ - ay ≠ 0) (h : 0 ≤ (py - ay) * (by_ - py)) : withinB ax ay bx by_ px py = true := by
  have := w_x (ax := ay) (ay := ax) (bx := by_) (by_ := bx) (px := py) (py := px) (by unfold cr at *; omega) hn h
  rw [withinB_iff] at *; exact ⟨this.2, this.1⟩
theorem mn_le (a b : Int) : mnI a b ≤ a ∧ mnI a b ≤ b ∧ (mnI a b = a ∨ mnI a b = b) := by unfold mnI; split <;> omega
theorem mx_le (a b : Int) : a ≤ mxI a b ∧ b ≤ mxI a b ∧ (mxI a b = a ∨ mxI a b = b) := by unfold mxI; split <;> omega
theorem fold_min : ∀ (l : List (Int × Int)) (q : Int × Int), ((l.foldl minP q).1 ≤ q.1 ∧ (l.foldl minP q).2 ≤ q.2) ∧ (∀ p ∈ l, (l.foldl minP q).1 ≤ p.1 ∧ (l.foldl minP q).2 ≤ p.2) ∧
    ((l.foldl minP q).1 = q.1 ∨ ∃ p ∈ l, (l.foldl minP q).1 = p.1) ∧ ((l.foldl minP q).2 = q.2 ∨ ∃ p ∈ l, (l.foldl minP q).2 = p.2)
  | [], q => by simp
  | p :: l, q => by
    obtain ⟨⟨h1, h2⟩, h3, h4, h5⟩ := fold_min l (minP q p)
    have m1 := mn_le q.1 p.1
    have m2 := mn_le q.2 p.2
    simp only [List.foldl_cons]
    simp only [minP] at h1 h2 h4 h5
    refine ⟨⟨by simp only [minP] at *; omega, by simp only [minP] at *; omega⟩, fun r hr => ?_, ?_, ?_⟩
    · simp only [List.mem_cons] at hr
      rcases hr with rfl | hr
      · simp only [minP] at *; omega
      · exact h3 r hr
    · rcases h4 with h4 | ⟨r, hr, h4⟩
      · rcases m1.2.2 with m | m
        · exact .inl (by simp only [minP] at *; omega)
        · exact .inr ⟨p, by simp, by simp only [minP] at *; omega⟩
      · exact .inr ⟨r, by simp [hr], h4⟩
    · rcases h5 with h4 | ⟨r, hr, h4⟩
      · rcases m2.2.2 with m | m
        · exact .inl (by simp only [minP] at *; omega)
        · exact .inr ⟨p, by simp, by simp only [minP] at *; omega⟩
      · exact .inr ⟨r, by simp [hr], h4⟩
theorem fold_max : ∀ (l : List (Int × Int)) (q : Int × Int), (q.1 ≤ (l.foldl maxP q).1 ∧ q.2 ≤ (l.foldl maxP q).2) ∧ (∀ p ∈ l, p.1 ≤ (l.foldl maxP q).1 ∧ p.2 ≤ (l.foldl maxP q).2) ∧
    ((l.foldl maxP q).1 = q.1 ∨ ∃ p ∈ l, (l.foldl maxP q).1 = p.1) ∧ ((l.foldl maxP q).2 = q.2 ∨ ∃ p ∈ l, (l.foldl maxP q).2 = p.2)
  | [], q => by simp
  | p :: l, q => by
    obtain ⟨⟨h1, h2⟩, h3, h4, h5⟩ := fold_max l (maxP q p)
    have m1 := mx_le q.1 p.1
    have m2 := mx_le q.2 p.2
    simp only [List.foldl_cons]
    simp only [maxP] at h1 h2 h4 h5
    refine ⟨⟨by simp only [maxP] at *; omega, by simp only [maxP] at *; omega⟩, fun r hr => ?_, ?_, ?_⟩
    · simp only [List.mem_cons] at hr
      rcases hr with rfl | hr
      · simp only [maxP] at *; omega
      · exact h3 r hr
    · rcases h4 with h4 | ⟨r, hr, h4⟩
      · rcases m1.2.2 with m | m
        · exact .inl (by simp only [maxP] at *; omega)
        · exact .inr ⟨p, by simp, by simp only [maxP] at *; omega⟩
      · exact .inr ⟨r, by simp [hr], h4⟩
    · rcases h5 with h4 | ⟨r, hr, h4⟩
      · rcases m2.2.2 with m | m
        · exact .inl (by simp only [maxP] at *; omega)
        · exact .inr ⟨p, by simp, by simp only [maxP] at *; omega⟩
      · exact .inr ⟨r, by simp [hr], h4⟩
structure Box (l : List (Int × Int)) (lo hi : Int × Int) : Prop where
  b1 : ∀ p ∈ l, lo.1 ≤ p.1
  b2 : ∀ p ∈ l, lo.2 ≤ p.2
  b3 : ∀ p ∈ l, p.1 ≤ hi.1
  b4 : ∀ p ∈ l, p.2 ≤ hi.2
  m1 : ∃ p ∈ l, p.1 = lo.1
  m2 : ∃ p ∈ l, p.2 = lo.2
  m3 : ∃ p ∈ l, p.1 = hi.1
  m4 : ∃ p ∈ l, p.2 = hi.2
theorem box {l : List (Int × Int)} (h : l ≠ []) : Box l (bbL l) (bbH l) := by
  cases l with
  | nil => exact absurd rfl h
  | cons p l =>
    obtain ⟨⟨a1, a2⟩, a3, a4, a5⟩ := fold_min (p :: l) p
    obtain ⟨⟨c1, c2⟩, c3, c4, c5⟩ := fold_max (p :: l) p
    refine ⟨fun q hq => (a3 q hq).1, fun q hq => (a3 q hq).2, fun q hq => (c3 q hq).1, fun q hq => (c3 q hq).2, ?_, ?_, ?_, ?_⟩
    · rcases a4 with a | ⟨r, hr, a⟩
      · exact ⟨p, by simp, a.symm⟩
      · exact ⟨r, hr, a.symm⟩
    · rcases a5 with a | ⟨r, hr, a⟩
      · exact ⟨p, by simp, a.symm⟩
      · exact ⟨r, hr, a.symm⟩
    · rcases c4 with a | ⟨r, hr, a⟩
      · exact ⟨p, by simp, a.symm⟩
      · exact ⟨r, hr, a.symm⟩
    · rcases c5 with a | ⟨r, hr, a⟩
      · exact ⟨p, by simp, a.symm⟩
      · exact ⟨r, hr, a.symm⟩
def gapZ (lo hi lo' hi' : Int × Int) : Int := mxI (mxI (mxI (mxI 0 (lo'.1 - hi.1)) (lo'.2 - hi.2)) (lo.1 - hi'.1)) (lo.2 - hi'.2)
end Go.Geo

namespace Go.Proofs.Ytnecdcaaknhgpaa.G
set_option maxRecDepth 100000
set_option maxHeartbeats 4000000
set_option linter.unusedSimpArgs false
set_option linter.unusedVariables false
open Go Go.Zv
open Go.Geo
theorem c54 (ax ay bx by_ : Int) : pc E 54 [.agg [.int .i64 ax, .int .i64 ay], .agg [.int .i64 bx, .int .i64 by_]] = some (.agg [.int .i64 (w64 (ax + bx)), .int .i64 (w64 (ay + by_))]) := by
  rw [pc_eq]; simp +contextual -implicitDefEqProofs (maxSteps := 2000000) only [go_sem, ↓reduceIte, E_54, A54]
theorem c67 (ax ay bx by_ : Int) : pc E 67 [.agg [.int .i64 ax, .int .i64 ay], .agg [.int .i64 bx, .int .i64 by_]] = some (.agg [.int .i64 (w64 (ax - bx)), .int .i64 (w64 (ay - by_))]) := by
  rw [pc_eq]; simp +contextual -implicitDefEqProofs (maxSteps := 2000000) only [go_sem, ↓reduceIte, E_67, A67]
theorem c62 (ax ay bx by_ px py : Int) : pc E 62 [.agg [.int .i64 ax, .int .i64 ay], .agg [.int .i64 bx, .int .i64 by_], .agg [.int .i64 px, .int .i64 py]] = some (.int .i64 (sgn (crW ax ay bx by_ px py))) := by
  rw [pc_eq]; simp +contextual -implicitDefEqProofs (maxSteps := 2000000) only [go_sem, ↓reduceIte, E_62, A62, c67, decide_eq_true_eq]
  unfold sgn crW; split <;> (try split) <;> rfl
theorem c118 (ax ay bx by_ : Int) : pc E 118 [.agg [.int .i64 ax, .int .i64 ay], .agg [.int .i64 bx, .int .i64 by_]] = some (.agg [.int .i64 (mnI ax bx), .int .i64 (mnI ay by_)]) := by
  rw [pc_eq]; simp +contextual -implicitDefEqProofs (maxSteps := 2000000) only [go_sem, ↓reduceIte, E_118, A118]
theorem c119 (ax ay bx by_ : Int) : pc E 119 [.agg [.int .i64 ax, .int .i64 ay], .agg [.int .i64 bx, .int .i64 by_]] = some (.agg [.int .i64 (mxI ax bx), .int .i64 (mxI ay by_)]) := by
  rw [pc_eq]; simp +contextual -implicitDefEqProofs (maxSteps := 2000000) only [go_sem, ↓reduceIte, E_119, A119]
theorem fold_loop (l : List (Int × Int)) (hl : l.length < 9223372036854775808) (f : FuncId) (g : Int × Int → Int × Int → Int × Int) (hg : ∀ ax ay bx by_, pc E f [.agg [.int .i64 ax, .int .i64 ay], .agg [.int .i64 bx, .int .i64 by_]] = some (.agg [.int .i64 (g (ax, ay) (bx, by_)).1, .int .i64 (g (ax, ay) (bx, by_)).2])) :
    ∀ (k i : Nat) (ax ay : Int), i + k = l.length → (K E A117_L0 ⟨[(2, .fn (.func f) [] []), (4, .ptr 1024 0), (6, .ptr 1536 0), (9, .vs (l.map c2)), (10, .int .i64 l.length), (11, .int .i64 i)], [],
      [(1536, .box [.int .i64 0, .int .i64 0]), (1024, .box [.int .i64 ax, .int .i64 ay])], 0⟩).bind (blockR 0 (some [4, 6]) [8]) =
      some (.ex .nrm ⟨[(4, .ptr 1024 0), (6, .ptr 1536 0)], [], [(1536, .box [.int .i64 0, .int .i64 0]), (1024, .box [.int .i64 ((l.drop i).foldl g (ax, ay)).1, .int .i64 ((l.drop i).foldl g (ax, ay)).2])], 0⟩)
  | 0, i, ax, ay, h => by
    have hi : ¬ ((i : Int) < l.length) := by omega
    have hd : l.drop i = [] := List.drop_of_length_le (by omega)
    rw [A117_L0_eq, hd]
    simp +contextual -implicitDefEqProofs (maxSteps := 2000000) only [go_sem, ↓reduceIte, A117_L0b, hi, List.foldl_nil]
  | k + 1, i, ax, ay, h => by
    have hi : ((i : Int) < l.length) := by omega
    have hget : l[i]? = some (l[i]'(by omega)) := List.getElem?_eq_getElem _
    generalize l[i]'(by omega) = p at hget
    have hg2 := get_c2 hget
    have hw := wr_succ (n := i) (by omega)
    have h0 : (0 : Int) ≤ (i : Int) := by omega
    have hd : l.drop i = p :: l.drop (i + 1) := by
      have hlt : i < l.length := by omega
      rw [List.drop_eq_getElem_cons hlt]
      rw [List.getElem?_eq_getElem hlt] at hget
      simp only [Option.some.injEq] at hget
      rw [hget]
    rw [A117_L0_eq, hd]
    simp +contextual -implicitDefEqProofs (maxSteps := 2000000) only [go_sem, ↓reduceIte, A117_L0b, hi, hg2, hg, h0, hw, List.foldl_cons]
    rw [fold_loop l hl f g hg k (i + 1) _ _ (by omega)]
theorem c117 (l : List (Int × Int)) (hl : l.length < 9223372036854775808) (ax ay : Int) (f : FuncId) (g : Int × Int → Int × Int → Int × Int) (hg : ∀ ax ay bx by_, pc E f [.agg [.int .i64 ax, .int .i64 ay], .agg [.int .i64 bx, .int .i64 by_]] = some (.agg [.int .i64 (g (ax, ay) (bx, by_)).1, .int .i64 (g (ax, ay) (bx, by_)).2])) :
    pc E 117 [.vs (l.map c2), .agg [.int .i64 ax, .int .i64 ay], .fn (.func f) [] []] = some (pt (l.foldl g (ax, ay))) := by
  have := fold_loop l hl f g hg l.length 0 ax ay (by omega)
  simp only [Int.ofNat_zero, Int.natCast_zero, List.drop_zero] at this
  rw [pc_eq]; simp +contextual -implicitDefEqProofs (maxSteps := 2000000) only [go_sem, ↓reduceIte, E_117, A117, List.length_map, this]
theorem c107 (l : List (Int × Int)) (hl : l.length < 9223372036854775808) : pc E 107 [.vs (l.map c2)] = some (.tup [pt (bbL l), pt (bbH l)]) := by
  cases l with
  | nil =>
    rw [pc_eq]; simp +contextual -implicitDefEqProofs only [E_107, A107, go_sem, ↓reduceIte, List.map_nil, bbL, bbH, Int.ofNat_zero, Int.natCast_zero]
  | cons p t =>
    have h1 := c117 (p :: t) hl p.1 p.2 118 minP (fun ax ay bx by_ => c118 ax ay bx by_)
    have h2 := c117 (p :: t) hl p.1 p.2 119 maxP (fun ax ay bx by_ => c119 ax ay bx by_)
    have hz : ¬ (((p :: t).length : Int) = 0) := by simp only [List.length_cons]; omega
    simp only [List.map_cons, c2, List.length_cons] at h1 h2 hz
    rw [pc_eq]; simp +contextual -implicitDefEqProofs only [E_107, A107, go_sem, ↓reduceIte, List.map_cons, c2, bbL, bbH, List.length_map, hz, h1, h2]
theorem c107_2 (ax ay bx by_ : Int) : pc E 107 [.vs [[.int .i64 ax, .int .i64 ay], [.int .i64 bx, .int .i64 by_]]] = some (.tup [pt (bbL [(ax, ay), (bx, by_)]), pt (bbH [(ax, ay), (bx, by_)])]) :=
  c107 [(ax, ay), (bx, by_)] (by simp)
theorem c90 (ax ay bx by_ px py : Int) : pc E 90 [.agg [.int .i64 ax, .int .i64 ay], .agg [.int .i64 bx, .int .i64 by_], .agg [.int .i64 px, .int .i64 py]] = some (.bool (withinB ax ay bx by_ px py)) := by
  rw [pc_eq]; simp +contextual -implicitDefEqProofs (maxSteps := 2000000) only [go_sem, ↓reduceIte, E_90, A90, c107_2, bbL, bbH, List.foldl_cons, List.foldl_nil, minP, maxP, mn_self, mx_self, withinB]
  repeat' split
  all_goals (try simp_all)
  all_goals (try (intros; omega))
theorem c61 (ax ay bx by_ px py : Int) : pc E 61 [.agg [.int .i64 ax, .int .i64 ay], .agg [.int .i64 bx, .int .i64 by_], .agg [.int .i64 px, .int .i64 py]] = some (.bool (onB ax ay bx by_ px py)) := by
  rw [pc_eq]; simp +contextual -implicitDefEqProofs (maxSteps := 2000000) only [go_sem, ↓reduceIte, E_61, A61, c90, c62, onB]
  repeat' split
  all_goals simp_all [Bool.beq_eq_decide_eq]
theorem c111 (ax ay bx by_ cx cy dx dy : Int) : pc E 111 [.agg [.int .i64 ax, .int .i64 ay], .agg [.int .i64 bx, .int .i64 by_], .agg [.int .i64 cx, .int .i64 cy], .agg [.int .i64 dx, .int .i64 dy]] =
    some (.tup [.bool (decide (sdI ax ay bx by_ cx cy dx dy < 0)), .bool (endsB ax ay bx by_ cx cy dx dy)]) := by
  rw [pc_eq]; simp +contextual -implicitDefEqProofs (maxSteps := 2000000) only [go_sem, ↓reduceIte, E_111, A111, c90, c62, sdI, endsB]
  repeat' split
  all_goals (try simp_all [wrap0])
  all_goals (try (intros; omega))
  all_goals (try rfl)
theorem c88 (ax ay bx by_ cx cy dx dy : Int) : pc E 88 [.agg [.int .i64 ax, .int .i64 ay], .agg [.int .i64 bx, .int .i64 by_], .agg [.int .i64 cx, .int .i64 cy], .agg [.int .i64 dx, .int .i64 dy]] = some (.bool (cutB ax ay bx by_ cx cy dx dy)) := by
  rw [pc_eq]; simp +contextual -implicitDefEqProofs (maxSteps := 2000000) only [go_sem, ↓reduceIte, E_88, A88, c111, cutB]
  repeat' split
  all_goals (try simp_all)
  all_goals (try (intros; omega))
  all_goals (try rfl)
end Go.Proofs.Ytnecdcaaknhgpaa.G

namespace Go.Geo
set_option maxRecDepth 100000
set_option maxHeartbeats 4000000
set_option linter.unusedSimpArgs false
set_option linter.unusedVariables false
open Go Go.Zv
abbrev Pt := Int × Int
def eds : List Pt → List (Pt × Pt)
  | [] => []
  | p :: t => (p :: t).zip (t ++ [p])
theorem eds_len (l : List Pt) : (eds l).length = l.length := by cases l <;> simp [eds]
theorem eds_get {l : List Pt} {k : Nat} {e : Pt × Pt} (h : (eds l)[k]? = some e) : k < l.length ∧ l[k]? = some e.1 ∧ l[(k + 1) % l.length]? = some e.2 := by
  cases l with
  | nil => simp [eds] at h
  | cons p t =>
    have hk : k < (eds (p :: t)).length := (List.getElem?_eq_some_iff.1 h).1
    rw [eds_len] at hk
    refine ⟨hk, ?_⟩
    simp only [eds] at h
    rw [List.getElem?_zip_eq_some] at h
    refine ⟨h.1, ?_⟩
    have h2 := h.2
    simp only [List.length_cons] at hk ⊢
    by_cases e1 : k = t.length
    · subst e1
      rw [Nat.mod_self]
      rw [List.getElem?_append_right (by omega)] at h2
      simpa using h2
    · rw [Nat.mod_eq_of_lt (by omega)]
      rw [List.getElem?_append_left (by omega)] at h2
      simpa using h2
theorem mod_nat {k n : Nat} (hk : k < n) (hn : n ≤ 1000000000) : (((k + 1 : Nat) : Int)).tmod (n : Int) = (((k + 1) % n : Nat) : Int) ∧ ¬ ((n : Int) = 0) ∧ ((n : Int) == 0) = false ∧ (0 : Int) ≤ (((k + 1) % n : Nat) : Int) ∧ (((k + 1) % n : Nat) : Int) < n := by
  have h := Nat.mod_lt (k + 1) (show n > 0 by omega)
  refine ⟨?_, by omega, by simp; omega, by omega, by omega⟩
  rw [Int.tmod_eq_emod_of_nonneg (by omega)]; rfl
theorem wr_k {k : Nat} (h : k ≤ 1000000000) : IntKind.i64.wrap (((k : Nat) : Int) + 1) = ((k + 1 : Nat) : Int) := wr_succ (by omega)
def arF (x : Int) (e : Pt × Pt) : Int := w64 (x + w64 (w64 (e.1.1 * e.2.2) - w64 (e.1.2 * e.2.1)))
def areaW (l : List Pt) : Int := (eds l).foldl arF 0
abbrev oriE (a b p : Pt) : Int := sgn (crW a.1 a.2 b.1 b.2 p.1 p.2)
def onE (p : Pt) (e : Pt × Pt) : Bool := onB e.1.1 e.1.2 e.2.1 e.2.2 p.1 p.2
def flE (p : Pt) (e : Pt × Pt) : Bool := (decide (p.2 < e.1.2) != decide (p.2 < e.2.2)) && (decide (0 < sgn (crW e.1.1 e.1.2 e.2.1 e.2.2 p.1 p.2)) == decide (e.1.2 < e.2.2))
def parF (p : Pt) (b : Bool) (e : Pt × Pt) : Bool := b != flE p e
def locI (l : List Pt) (p : Pt) : Int := if (eds l).any (onE p) = true then 0 else if (eds l).foldl (parF p) false = true then 1 else -1
end Go.Geo

namespace Go.Geo
set_option maxRecDepth 100000
set_option maxHeartbeats 4000000
set_option linter.unusedSimpArgs false
set_option linter.unusedVariables false
open Go Go.Zv
def mayB (p : Pt) : Bool := decide (mxI p.1 p.2 ≤ 439400000) && decide (-439400000 ≤ mnI p.1 p.2)
def ptn (l : List Pt) (k : Nat) : Pt := l.getD (k % l.length) (0, 0)
def adjB (n i k : Nat) : Bool := decide (k = i) || (decide (k = (i + 1) % n) || decide (i = (k + 1) % n))
def cutE (e f : Pt × Pt) : Bool := cutB e.1.1 e.1.2 e.2.1 e.2.2 f.1.1 f.1.2 f.2.1 f.2.2
def edn (l : List Pt) (k : Nat) : Pt × Pt := (ptn l k, ptn l (k + 1))
def bad2 (l : List Pt) (i k : Nat) : Bool := !adjB l.length i k && cutE (edn l i) (edn l k)
def bad1 (l : List Pt) (i : Nat) : Bool := decide (oriE (ptn l i) (ptn l (i + 1)) (ptn l (i + 2)) = 0) || (List.range l.length).any (bad2 l i)
def simB (l : List Pt) : Bool := !(List.range l.length).any (bad1 l)
def valB (l : List Pt) : Bool := decide (3 ≤ l.length) && (decide (l.length ≤ 12) && (l.all mayB && (simB l && decide (0 < areaW l))))
theorem ptn_get {l : List Pt} {k : Nat} (h : k < l.length) : l[k]? = some (ptn l k) := by
  unfold ptn; rw [Nat.mod_eq_of_lt h, List.getElem?_eq_getElem h]; simp [List.getD, h]
theorem ptn_mod {l : List Pt} {k : Nat} (h : 0 < l.length) : l[k % l.length]? = some (ptn l k) := by
  have := ptn_get (l := l) (Nat.mod_lt k h)
  rw [this]; unfold ptn; rw [Nat.mod_mod]
theorem edn_get {l : List Pt} {k : Nat} (h : k < l.length) : (eds l)[k]? = some (edn l k) := by
  have hk : k < (eds l).length := by rw [eds_len]; exact h
  obtain ⟨e, he⟩ : ∃ e, (eds l)[k]? = some e := ⟨_, List.getElem?_eq_getElem hk⟩
  obtain ⟨_, h1, h2⟩ := eds_get he
  rw [ptn_get h] at h1
  rw [ptn_mod (by omega)] at h2
  simp only [Option.some.injEq] at h1 h2
  rw [he]; unfold edn; rw [h1, h2]
theorem range_get {n k : Nat} (h : k < n) : (List.range n)[k]? = some k := by simp [h]
end Go.Geo

namespace Go.Proofs.Ytnecdcaaknhgpaa.G
set_option maxRecDepth 100000
set_option maxHeartbeats 4000000
set_option linter.unusedSimpArgs false
set_option linter.unusedVariables false
open Go Go.Zv
open Go.Geo
theorem c60 (x : List (List LV)) (h : LV.closeds [.vs x] = true) : pc E 60 [.vs x] = some (.fn (.func 89) [] [.fp [.vs x]]) := by
  rw [pc_eq]; simp +contextual -implicitDefEqProofs (maxSteps := 2000000) only [go_sem, ↓reduceIte, E_60, A60, h]
theorem cl_c2 (l : List Pt) : LV.closeds [.vs (l.map c2)] = true := rfl
theorem c60' (l : List Pt) : pc E 60 [.vs (l.map c2)] = some (.fn (.func 89) [] [.fp [.vs (l.map c2)]]) := c60 _ (cl_c2 l)
abbrev FR28 (l : List Pt) : Env := [(3, .ptr 768 0), (4, .ptr 1024 0), (5, .ptr 1280 0), (11, .fn (Fn.func 89) [] [.fp [.vs (l.map c2)]])]
theorem c33 (l : List Pt) (hl : l.length ≤ 1000000000) (px py : Int) : pc E 33 [.vs (l.map c2), .agg [.int .i64 px, .int .i64 py]] = some (.int .i64 (locI l (px, py))) := by
  have h57 := c60' l
  have lp := loop_leave (fun S => (K E A89_L0 S).bind (blockR 0 (some []) [3, 4, 24]))
    (fun k (x : Bool) => ⟨[(0, .yl 1024000), (1, .fp [.vs (l.map c2)]), (5, .vs (l.map c2)), (6, .int .i64 l.length), (7, .int .i64 k)], [FR28 l, [(0, .yl 1024000)]], [(1024000, .loop (FR28 l) [12, 13] A33_R0a A33_R0b LSt.ready AEx.nrm), (1280, .box [.bool x]), (1024, .box [.int .i64 0]), (768, .box [.int .i64 px, .int .i64 py])], 1⟩)
    (eds l) (parF (px, py)) (onE (px, py)) (fun o => ∃ (k : Int) (x : Bool), o = some (.ex .ret ⟨[(0, .yl 1024000), (1, .fp [.vs (l.map c2)]), (5, .vs (l.map c2)), (6, .int .i64 l.length), (7, .int .i64 k), (25, .bool true)], [FR28 l, [(0, .yl 1024000)]], [(1024000, .loop (FR28 l) [12, 13] A33_R0a A33_R0b LSt.done AEx.ret), (1280, .box [.bool x]), (1024, .box [.int .i64 0]), (768, .box [.int .i64 px, .int .i64 py])], 1⟩))
    (fun x => some (.ex .nrm ⟨[], [FR28 l, [(0, .yl 1024000)]], [(1024000, .loop (FR28 l) [12, 13] A33_R0a A33_R0b LSt.ready AEx.nrm), (1280, .box [.bool x]), (1024, .box [.int .i64 0]), (768, .box [.int .i64 px, .int .i64 py])], 1⟩))
    (fun x => by
      rw [eds_len]
      show (K E A89_L0 _).bind _ = _
      rw [A89_L0_eq]; simp +contextual -implicitDefEqProofs (maxSteps := 2000000) only [go_sem, ↓reduceIte, A89_L0b, Int.lt_irrefl])
    (fun k e x hk he => by
      obtain ⟨hk', g1, g2⟩ := eds_get he
      have g1 := get_c2 g1
      have g2 := get_c2 g2
      obtain ⟨m1, m2, m3, m4, m5⟩ := mod_nat hk' hl
      have hw := wr_k (k := k) (by omega)
      have h1 : (k : Int) < l.length := by omega
      have h0 : (0 : Int) ≤ k := by omega
      obtain ⟨⟨ax, ay⟩, ⟨bx, by_⟩⟩ := e
      have o1 := c61 ax ay bx by_ px py
      have o2 := c62 ax ay bx by_ px py
      refine ⟨fun hp => ⟨k, x, ?_⟩, fun hp => ?_⟩
      · simp only [onE] at hp
        rw [hp] at o1
        show (K E A89_L0 _).bind _ = _
        rw [A89_L0_eq]
        simp +contextual -implicitDefEqProofs (maxSteps := 2000000) only [go_sem, ↓reduceIte, A89_L0b, A33_R0a, A33_R0b, List.length_map, h0, h1, g1, g2, m1, m2, m3, m4, m5, hw, o1]
      · simp only [onE] at hp
        rw [hp] at o1
        show (K E A89_L0 _).bind _ = (K E A89_L0 _).bind _
        conv => lhs; rw [A89_L0_eq]
        simp only [parF, flE]
        generalize sgn (crW ax ay bx by_ px py) = s at *
        by_cases d1 : py < ay <;> by_cases d2 : py < by_ <;> by_cases d3 : 0 < s <;> by_cases d4 : ay < by_ <;> cases x <;>
          simp +contextual -implicitDefEqProofs (maxSteps := 2000000) only [go_sem, ↓reduceIte, A89_L0b, A33_R0a, A33_R0b, List.length_map, h0, h1, g1, g2, m1, m2, m3, m4, m5, hw, o1, o2, d1, d2, d3, d4, decide_true, decide_false, bne_self_eq_false, beq_self_eq_true, Bool.and_true, Bool.and_false])
    false
  simp only [Int.natCast_zero, Int.ofNat_zero] at lp
  unfold locI
  cases ha : (eds l).any (onE (px, py)) with
  | true =>
    obtain ⟨k, x, lq⟩ := lp.1 ha
    rw [pc_eq]; simp +contextual -implicitDefEqProofs (maxSteps := 2000000) only [go_sem, ↓reduceIte, E_33, A33, h57, E_89, A89, A33_R0, List.length_map, lq]
  | false =>
    have lq := lp.2 ha
    cases hb : (eds l).foldl (parF (px, py)) false <;> rw [hb] at lq <;> rw [pc_eq] <;> simp +contextual -implicitDefEqProofs (maxSteps := 2000000) only [go_sem, ↓reduceIte, E_33, A33, h57, E_89, A89, A33_R0, List.length_map, lq]
abbrev FR67 (l : List Pt) : Env := [(1, .ptr 256 0), (2, .ptr 512 0), (3, .ptr 768 0), (11, .fn (Fn.func 89) [] [.fp [.vs (l.map c2)]])]
abbrev FI67 (l : List Pt) : Env := [(2, .ptr 512 0), (3, .ptr 768 0), (4, .ptr 2098176 0), (5, .ptr 2098432 0), (28, .fn (Fn.func 89) [] [.fp [.vs (l.map c2)]])]
abbrev FF67 (l : List Pt) (k ax ay bx by_ k1 : Int) (k1m : Nat) : List Env := [FI67 l, [(0, .yl 3121153)], [(0, .yl 1024000)], [(23, .agg [.int .i64 ax, .int .i64 ay, .int .i64 bx, .int .i64 by_]), (22, .agg [.int .i64 bx, .int .i64 by_]), (21, .fp [.int .i64 bx, .int .i64 by_]), (20, .int .i64 k1m), (19, .int .i64 l.length), (18, .vs (l.map c2)), (17, .int .i64 k1), (16, .int .i64 k), (15, .vs (l.map c2)), (14, .agg [.int .i64 ax, .int .i64 ay]), (13, .int .i64 k), (12, .yl 1024000), (0, .yl 1024000), (1, .fp [.vs (l.map c2)]), (3, .int .i64 k), (4, .ptr 1049600 0), (5, .vs (l.map c2)), (6, .int .i64 l.length), (7, .int .i64 k)], FR67 l, [(0, .yl 1024000)]]
end Go.Proofs.Ytnecdcaaknhgpaa.G

namespace Go.Geo
set_option maxRecDepth 100000
set_option maxHeartbeats 4000000
set_option linter.unusedSimpArgs false
set_option linter.unusedVariables false
open Go Go.Zv
theorem eds_range (l : List Pt) : eds l = (List.range l.length).map (edn l) := by
  apply List.ext_getElem?
  intro i
  by_cases h : i < l.length
  · rw [edn_get h, List.getElem?_map, range_get h]; rfl
  · rw [List.getElem?_eq_none (by rw [eds_len]; omega), List.getElem?_eq_none (by simp; omega)]
def rotL (r : Nat) (l : List Pt) : List Pt := (List.range l.length).map fun i => ptn l (i + r)
end Go.Geo

namespace Go.Geo
set_option maxRecDepth 100000
set_option maxHeartbeats 4000000
set_option linter.unusedSimpArgs false
set_option linter.unusedVariables false
open Go Go.Zv
def rc (fx fy l w X Y : Int) : List Pt := [(fx + w * Y, fy - w * X), (fx + l * X + w * Y, fy + l * Y - w * X), (fx + l * X - w * Y, fy + l * Y + w * X), (fx - w * Y, fy + w * X)]
structure RCok (fx fy l w X Y R : Int) : Prop where
  l0 : 0 < l
  w0 : 0 < w
  R0 : 0 < R
  n : X * X + Y * Y = R
  b : ∀ p ∈ rc fx fy l w X Y, (-439400000 ≤ p.1 ∧ p.1 ≤ 439400000) ∧ (-439400000 ≤ p.2 ∧ p.2 ≤ 439400000)
end Go.Geo

namespace Go.Geo
set_option maxRecDepth 100000
set_option maxHeartbeats 4000000
set_option linter.unusedSimpArgs false
set_option linter.unusedVariables false
open Go Go.Zv
theorem w64_add (x y : Int) : w64 (w64 x + y) = w64 (x + y) := by
  simp only [w64, IntKind.wrap, IntKind.signed, IntKind.bits]; simp; omega
end Go.Geo

namespace Go.Geo
set_option maxRecDepth 100000
set_option maxHeartbeats 4000000
set_option linter.unusedSimpArgs false
set_option linter.unusedVariables false
open Go Go.Zv
def adjM (n i k : Nat) : Bool := decide (k % n = i % n) || (decide (k % n = (i + 1) % n) || decide (i % n = (k + 1) % n))
def badM (l : List Pt) (i k : Nat) : Bool := !adjM l.length i k && cutE (edn l i) (edn l k)
def badN (l : List Pt) (i : Nat) : Bool := decide (oriE (ptn l i) (ptn l (i + 1)) (ptn l (i + 2)) = 0) || ((List.range l.length).map (badM l i)).any id
theorem ptn_per (l : List Pt) (k : Nat) : ptn l (k + l.length) = ptn l k := by unfold ptn; rw [Nat.add_mod_right]
end Go.Geo

namespace Go.Geo
set_option maxRecDepth 100000
set_option maxHeartbeats 4000000
set_option linter.unusedSimpArgs false
set_option linter.unusedVariables false
open Go Go.Zv
theorem w64_sub (x y : Int) : w64 (w64 x - y) = w64 (x - y) := by
  have := w64_add x (-y); rw [Int.sub_eq_add_neg, Int.sub_eq_add_neg]; exact this
theorem w64_add' (x y : Int) : w64 (x + w64 y) = w64 (x + y) := by rw [Int.add_comm, w64_add, Int.add_comm]
theorem w64_neg (x : Int) : w64 (-w64 x) = w64 (-x) := by
  simp only [w64, IntKind.wrap, IntKind.signed, IntKind.bits]; simp; omega
theorem w64_sub' (x y : Int) : w64 (x - w64 y) = w64 (x - y) := by
  rw [Int.sub_eq_add_neg, ← w64_add' x (-w64 y), w64_neg, w64_add', ← Int.sub_eq_add_neg]
def dE (e : Pt × Pt) : Int := e.1.1 * e.2.2 - e.1.2 * e.2.1
theorem arF_d (x : Int) (e : Pt × Pt) : arF x e = w64 (x + dE e) := by
  unfold arF dE
  rw [w64_sub, w64_sub', w64_add']
theorem fold_d (l : List (Pt × Pt)) : ∀ x : Int, w64 (l.foldl arF x) = w64 (x + (l.map dE).sum) := by
  induction l with
  | nil => intro x; simp
  | cons e l ih => intro x; rw [List.foldl_cons, ih, arF_d, w64_add, List.map_cons, List.sum_cons, Int.add_assoc]
theorem w64_idem (x : Int) : w64 (w64 x) = w64 x := by have := w64_add x 0; simpa using this
theorem areaW_sum (l : List Pt) : areaW l = w64 ((eds l).map dE).sum := by
  have h := fold_d (eds l) 0
  rw [Int.zero_add] at h
  rw [← h]
  unfold areaW
  cases hl : eds l with
  | nil => rfl
  | cons e t =>
    have : ∀ (t : List (Pt × Pt)) (x : Int), w64 x = x → w64 (t.foldl arF x) = t.foldl arF x := by
      intro t
      induction t with
      | nil => intro x hx; exact hx
      | cons f t ih => intro x hx; rw [List.foldl_cons]; exact ih _ (by rw [arF_d, w64_idem])
    exact (this (e :: t) 0 (by decide)).symm
def swE (e : Pt × Pt) : Pt × Pt := (e.2, e.1)
end Go.Geo

namespace Go.Geo
set_option maxRecDepth 100000
set_option maxHeartbeats 4000000
set_option linter.unusedSimpArgs false
set_option linter.unusedVariables false
open Go Go.Zv
/-! Winding numbers over the rationals -/
abbrev Q2 := Rat × Rat
def xq (u v : Q2) : Rat := u.1 * v.2 - u.2 * v.1
def dq (u v : Q2) : Rat := u.1 * v.1 + u.2 * v.2
def sq (a x : Q2) : Q2 := (a.1 - x.1, a.2 - x.2)
def hit (d u v : Q2) : Int := if 0 < xq d u then (if 0 < xq d v then 0 else if xq u v < 0 then -1 else 0) else if 0 < xq d v then (if 0 < xq u v then 1 else 0) else 0
def OnV (u v : Q2) : Prop := xq u v = 0 ∧ dq u v ≤ 0
def Wd (d e u : Q2) : Int := if 0 < xq d u then (if 0 < xq e u then 0 else 1) else 0
theorem r_sq_nn (x : Rat) : 0 ≤ x * x := by
  rcases Rat.le_total (a := 0) (b := x) with h | h
  · exact Rat.mul_nonneg h h
  · have : 0 ≤ (-x) * (-x) := Rat.mul_nonneg (by grind) (by grind)
    grind
theorem r_sq_pos {x : Rat} (h : x ≠ 0) : 0 < x * x := by
  rcases Rat.le_total (a := 0) (b := x) with h1 | h1
  · exact Rat.mul_pos (by grind) (by grind)
  · have : 0 < (-x) * (-x) := Rat.mul_pos (by grind) (by grind)
    grind
theorem dq_nn (u : Q2) : 0 ≤ dq u u := by
  have h1 := r_sq_nn u.1
  have h2 := r_sq_nn u.2
  unfold dq; grind
theorem dq_pos {u : Q2} (h : u ≠ (0, 0)) : 0 < dq u u := by
  have h1 := r_sq_nn u.1
  have h2 := r_sq_nn u.2
  by_cases e1 : u.1 = 0
  · have e2 : u.2 ≠ 0 := fun e2 => h (Prod.ext e1 e2)
    have := r_sq_pos e2
    unfold dq; grind
  · have := r_sq_pos e1
    unfold dq; grind
theorem pm (p s : Rat) : (0 < p ∧ 0 < s ∧ 0 < p * s) ∨ (0 < p ∧ ¬ 0 < s ∧ p * s ≤ 0) ∨ (¬ 0 < p ∧ 0 < s ∧ p * s ≤ 0) ∨ (¬ 0 < p ∧ ¬ 0 < s ∧ 0 ≤ p * s) := by
  by_cases h1 : 0 < p <;> by_cases h2 : 0 < s
  · exact .inl ⟨h1, h2, Rat.mul_pos h1 h2⟩
  · have : 0 ≤ p * (-s) := Rat.mul_nonneg (by grind) (by grind)
    exact .inr (.inl ⟨h1, h2, by grind⟩)
  · have : 0 ≤ (-p) * s := Rat.mul_nonneg (by grind) (by grind)
    exact .inr (.inr (.inl ⟨h1, h2, by grind⟩))
  · have : 0 ≤ (-p) * (-s) := Rat.mul_nonneg (by grind) (by grind)
    exact .inr (.inr (.inr ⟨h1, h2, by grind⟩))
theorem pos_iff_of_mul {U q k p : Rat} (hU : 0 < U) (hk : 0 < k) (h : U * q = k * p) : 0 < q ↔ 0 < p := by
  constructor
  · intro hq
    have := Rat.mul_pos hU hq
    rw [h] at this
    exact (Rat.mul_pos_iff_of_pos_left hk).1 this
  · intro hp
    have := Rat.mul_pos hk hp
    rw [← h] at this
    exact (Rat.mul_pos_iff_of_pos_left hU).1 this
theorem wedge {d e u v : Q2} (h : 0 < xq d e) (n : ¬ OnV u v) : hit d u v - hit e u v = Wd d e v - Wd d e u := by
  have id1 : xq d e * xq u v = xq d u * xq e v - xq d v * xq e u := by unfold xq; grind
  have id2 : dq u u * xq d v = dq u v * xq d u + dq d u * xq u v := by unfold xq dq; grind
  have id3 : dq u u * xq e v = dq u v * xq e u + dq e u * xq u v := by unfold xq dq; grind
  by_cases c0 : xq u v = 0
  · have hk : 0 < dq u v := by
      refine Classical.byContradiction fun hk => n ⟨c0, by grind⟩
    have hU : 0 < dq u u := by
      refine dq_pos fun e => ?_
      subst e
      unfold dq at hk; grind
    rw [c0] at id2 id3
    have e1 := pos_iff_of_mul (q := xq d v) (p := xq d u) hU hk (by grind)
    have e2 := pos_iff_of_mul (q := xq e v) (p := xq e u) hU hk (by grind)
    unfold hit Wd
    rw [c0]
    by_cases h1 : 0 < xq d u <;> by_cases h2 : 0 < xq e u <;> simp [h1, h2, e1, e2]
  · unfold hit Wd
    generalize xq d u = p at *
    generalize xq d v = q at *
    generalize xq e u = r at *
    generalize xq e v = s at *
    generalize xq u v = c at *
    generalize xq d e = D at *
    have hc : (0 < c ∧ 0 < D * c ∧ ¬ c < 0) ∨ (¬ 0 < c ∧ D * c < 0 ∧ c < 0) := by
      rcases Rat.le_total (a := 0) (b := c) with h1 | h1
      · left; have : 0 < c := by grind
        exact ⟨this, Rat.mul_pos h this, by grind⟩
      · right; have : 0 < -c := by grind
        have h2 := Rat.mul_pos h this
        exact ⟨by grind, by grind, by grind⟩
    rw [id1] at hc
    rcases pm p s with ⟨a1, a2, a3⟩ | ⟨a1, a2, a3⟩ | ⟨a1, a2, a3⟩ | ⟨a1, a2, a3⟩ <;> rcases pm q r with ⟨b1, b2, b3⟩ | ⟨b1, b2, b3⟩ | ⟨b1, b2, b3⟩ | ⟨b1, b2, b3⟩ <;> rcases hc with ⟨k1, k2, k3⟩ | ⟨k1, k2, k3⟩ <;> simp only [a1, a2, b1, b2, k1, k3, if_true, if_false] <;> first | rfl | (exfalso; grind)
def Path (p q : Q2) (es : List (Q2 × Q2)) : Prop := ∀ f : Q2 → Int, (es.map fun e => f e.2 - f e.1).sum = f q - f p
def OnE (x : Q2) (e : Q2 × Q2) : Prop := OnV (sq e.1 x) (sq e.2 x)
def wn (d x : Q2) (es : List (Q2 × Q2)) : Int := (es.map fun e => hit d (sq e.1 x) (sq e.2 x)).sum
theorem sum_sub (l : List (Q2 × Q2)) (f g : Q2 × Q2 → Int) : (l.map f).sum - (l.map g).sum = (l.map fun e => f e - g e).sum := by
  induction l with
  | nil => rfl
  | cons a l ih => simp only [List.map_cons, List.sum_cons, ← ih]; omega
theorem wn_wedge {p q d e x : Q2} {es : List (Q2 × Q2)} (hp : Path p q es) (h : 0 < xq d e) (n : ∀ g ∈ es, ¬ OnE x g) : wn d x es - wn e x es = Wd d e (sq q x) - Wd d e (sq p x) := by
  unfold wn
  rw [sum_sub, ← hp (fun u => Wd d e (sq u x))]
  congr 1
  exact List.map_congr_left fun g hg => wedge h (n g hg)
theorem xq_swap (u v : Q2) : xq u v = -xq v u := by unfold xq; grind
theorem wn_dir1 {p d e x : Q2} {es : List (Q2 × Q2)} (hp : Path p p es) (h : xq d e ≠ 0) (n : ∀ g ∈ es, ¬ OnE x g) : wn d x es = wn e x es := by
  by_cases h1 : 0 < xq d e
  · have := wn_wedge hp h1 n; omega
  · have h2 : 0 < xq e d := by rw [xq_swap]; grind
    have := wn_wedge hp h2 n; omega
theorem wn_dir {p d e x : Q2} {es : List (Q2 × Q2)} (hp : Path p p es) (hd : d ≠ (0, 0)) (he : e ≠ (0, 0)) (n : ∀ g ∈ es, ¬ OnE x g) : wn d x es = wn e x es := by
  by_cases h : xq d e = 0
  · have h1 : xq d (-d.2, d.1) ≠ 0 := by
      have := dq_pos hd
      unfold dq at this; unfold xq; grind
    have h2 : xq (-d.2, d.1) e ≠ 0 := by
      have k1 := dq_pos hd
      have k2 := dq_pos he
      have k3 : dq d e * dq d e + xq d e * xq d e = dq d d * dq e e := by unfold dq xq; grind
      have k4 := Rat.mul_pos k1 k2
      rw [← k3, h] at k4
      intro hx
      have : dq d e = 0 := by unfold dq; unfold xq at hx; grind
      rw [this] at k4
      grind
    rw [wn_dir1 hp h1 n, wn_dir1 hp h2 n]
  · exact wn_dir1 hp h n
end Go.Geo

namespace Go.Geo
set_option maxRecDepth 100000
set_option maxHeartbeats 4000000
set_option linter.unusedSimpArgs false
set_option linter.unusedVariables false
open Go Go.Zv
theorem r_inv {x : Rat} (h : x ≠ 0) : x * x⁻¹ = 1 := Rat.mul_inv_cancel x h
def onp (a b : Q2) (s : Rat) : Q2 := (a.1 + s * (b.1 - a.1), a.2 + s * (b.2 - a.2))
theorem on_of_param {a b : Q2} {s : Rat} (h0 : 0 ≤ s) (h1 : s ≤ 1) : OnE (onp a b s) (a, b) := by
  have h2 : 0 ≤ s * (1 - s) := Rat.mul_nonneg h0 (by grind)
  have h3 := Rat.mul_nonneg h2 (dq_nn (sq b a))
  unfold OnE OnV onp
  unfold dq sq at *
  unfold xq
  simp only at *
  constructor
  · grind
  · grind
theorem on_param {x a b : Q2} (h : OnE x (a, b)) : ∃ s : Rat, 0 ≤ s ∧ s ≤ 1 ∧ x = onp a b s := by
  obtain ⟨hc, hd⟩ := h
  simp only at hc hd
  have k1 := dq_nn (sq a x)
  have k2 := dq_nn (sq b x)
  by_cases hw : sq b a = (0, 0)
  · refine ⟨0, by grind, by grind, ?_⟩
    simp only [sq, Prod.mk.injEq] at hw
    have e : dq (sq a x) (sq a x) = 0 := by
      have e2 : dq (sq a x) (sq b x) = dq (sq a x) (sq a x) := by unfold dq sq; grind
      grind
    have e3 : sq a x = (0, 0) := by
      refine Classical.byContradiction fun h => ?_
      have := dq_pos h
      grind
    simp only [sq, Prod.mk.injEq] at e3
    refine Prod.ext ?_ ?_ <;> simp only [onp] <;> grind
  · have hN := dq_pos hw
    have hi := r_inv (x := dq (sq b a) (sq b a)) (by grind)
    have hp : 0 < (dq (sq b a) (sq b a))⁻¹ := Rat.inv_pos.2 hN
    generalize hNe : dq (sq b a) (sq b a) = N at *
    have hk0 : 0 ≤ -dq (sq a x) (sq b a) := by
      have : -dq (sq a x) (sq b a) = dq (sq a x) (sq a x) - dq (sq a x) (sq b x) := by unfold dq sq; grind
      grind
    have hk1 : 0 ≤ N + dq (sq a x) (sq b a) := by
      have : N + dq (sq a x) (sq b a) = dq (sq b x) (sq b x) - dq (sq a x) (sq b x) := by rw [← hNe]; unfold dq sq; grind
      grind
    refine ⟨-dq (sq a x) (sq b a) * N⁻¹, Rat.mul_nonneg hk0 (by grind), ?_, ?_⟩
    · have := Rat.mul_nonneg hk1 (show 0 ≤ N⁻¹ by grind)
      grind
    · have e1 : N * (a.1 - x.1) = dq (sq a x) (sq b a) * (b.1 - a.1) := by
        rw [← hNe]; unfold dq sq; unfold xq sq at hc; grind
      have e2 : N * (a.2 - x.2) = dq (sq a x) (sq b a) * (b.2 - a.2) := by
        rw [← hNe]; unfold dq sq; unfold xq sq at hc; grind
      generalize dq (sq a x) (sq b a) = k at *
      generalize N⁻¹ = M at *
      refine Prod.ext ?_ ?_ <;> simp only [onp] <;> grind
def Meets (a b x y : Q2) : Prop := ∃ z, OnE z (a, b) ∧ OnE z (x, y)
theorem on_left (x y : Q2) : OnE x (x, y) := by
  unfold OnE OnV xq dq sq; simp only; constructor <;> grind
theorem on_right (x y : Q2) : OnE y (x, y) := by
  unfold OnE OnV xq dq sq; simp only; constructor <;> grind
theorem sq_ne {x y : Q2} (h : x ≠ y) : sq y x ≠ (0, 0) := by
  intro e
  simp only [sq, Prod.mk.injEq] at e
  exact h (Prod.ext (by grind) (by grind))
end Go.Geo

namespace Go.Geo
set_option maxRecDepth 100000
set_option maxHeartbeats 4000000
set_option linter.unusedSimpArgs false
set_option linter.unusedVariables false
open Go Go.Zv
def edg (a : Nat → Q2) (k : Nat) : Q2 × Q2 := (a k, a (k + 1))
def chn (a : Nat → Q2) (i m : Nat) : List (Q2 × Q2) := (List.range m).map fun k => edg a (i + k)
theorem chn_snoc (a : Nat → Q2) (i m : Nat) : chn a i (m + 1) = chn a i m ++ [edg a (i + m)] := by
  unfold chn
  rw [List.range_succ, List.map_append]; rfl
theorem chn_path (a : Nat → Q2) (i m : Nat) : Path (a i) (a (i + m)) (chn a i m) := by
  intro f
  induction m with
  | zero => simp [chn]
  | succ m ih =>
    rw [chn_snoc, List.map_append, List.sum_append, ih]
    simp only [edg, List.map_cons, List.map_nil, List.sum_cons, List.sum_nil]
    rw [show i + (m + 1) = i + m + 1 by omega]; omega
structure Simp (a : Nat → Q2) (n : Nat) : Prop where
  n3 : 3 ≤ n
  per : ∀ k, a (k + n) = a k
  nc : ∀ i, xq (sq (a (i + 1)) (a i)) (sq (a (i + 2)) (a (i + 1))) ≠ 0
  dj : ∀ i m, 2 ≤ m → m + 2 ≤ n → ∀ z, OnE z (edg a i) → ¬ OnE z (edg a (i + m))
section
variable {a : Nat → Q2} {n : Nat}
def Lc (a : Nat → Q2) (n i : Nat) : Int := wn (sq (a (i + 1)) (a i)) (a i) (chn a i n)
def lft (a : Nat → Q2) (i : Nat) : Int := if 0 < xq (sq (a (i + 1)) (a i)) (sq (a (i + 2)) (a (i + 1))) then 1 else 0
theorem onp0 (a b : Q2) : onp a b 0 = a := by refine Prod.ext ?_ ?_ <;> simp only [onp] <;> grind
theorem onp1 (a b : Q2) : onp a b 1 = b := by refine Prod.ext ?_ ?_ <;> simp only [onp] <;> grind
end
end Go.Geo

namespace Go.Geo
set_option maxRecDepth 100000
set_option maxHeartbeats 4000000
set_option linter.unusedSimpArgs false
set_option linter.unusedVariables false
open Go Go.Zv
section
variable {a : Nat → Q2} {n : Nat}
end
end Go.Geo

namespace Go.Geo
set_option maxRecDepth 100000
set_option maxHeartbeats 4000000
set_option linter.unusedSimpArgs false
set_option linter.unusedVariables false
open Go Go.Zv
def cnt (L : List (Rat × Int)) (t : Rat) : Int := (L.map fun p => if t < p.1 then p.2 else 0).sum
def mom (L : List (Rat × Int)) (m : Rat) : Rat := (L.map fun p => if m < p.1 then (p.2 : Rat) * (p.1 - m) else 0).sum
def above (L : List (Rat × Int)) (m : Rat) : Nat := (L.filter fun p => decide (m < p.1)).length
def qp (p : Pt) : Q2 := ((p.1 : Rat), (p.2 : Rat))
def qe (e : Pt × Pt) : Q2 × Q2 := (qp e.1, qp e.2)
def spn (e : Pt × Pt) (k : Int) : Int := (if k < e.2.2 then 1 else 0) - (if k < e.1.2 then 1 else 0)
def gX (e : Pt × Pt) (y : Rat) : Rat := e.1.1 * (y - e.1.2) + (e.2.1 - e.1.1) * ((e.2.2 : Rat) - e.1.2)⁻¹ * ((y - e.1.2) * (y - e.1.2)) / 2
def xr (e : Pt × Pt) (k : Int) : Rat := gX e (k + 1) - gX e k
def rowL (es : List (Pt × Pt)) (k : Int) : List (Rat × Int) := es.map fun e => (xr e k, spn e k)
theorem sum_cast (l : List Int) : ((l.sum : Int) : Rat) = (l.map fun x : Int => (x : Rat)).sum := by
  induction l with
  | nil => rfl
  | cons a l ih => simp only [List.sum_cons, List.map_cons, Rat.intCast_add, ih]
end Go.Geo

namespace Go.Geo
set_option maxRecDepth 100000
set_option maxHeartbeats 4000000
set_option linter.unusedSimpArgs false
set_option linter.unusedVariables false
open Go Go.Zv
theorem mul_neg_iff {x y : Rat} : x * y < 0 ↔ (x < 0 ∧ 0 < y) ∨ (0 < x ∧ y < 0) := by
  constructor
  · intro h
    rcases Rat.le_total (a := 0) (b := x) with hx | hx
    · right
      have hy : y < 0 := by
        refine Classical.byContradiction fun hn => ?_
        have := Rat.mul_nonneg hx (show 0 ≤ y by grind)
        grind
      refine ⟨?_, hy⟩
      refine Classical.byContradiction fun hn => ?_
      have : x = 0 := by grind
      rw [this] at h; grind
    · left
      have hy : 0 < y := by
        refine Classical.byContradiction fun hn => ?_
        have := Rat.mul_nonneg (show 0 ≤ -x by grind) (show 0 ≤ -y by grind)
        grind
      refine ⟨?_, hy⟩
      refine Classical.byContradiction fun hn => ?_
      have : x = 0 := by grind
      rw [this] at h; grind
  · rintro (⟨h1, h2⟩ | ⟨h1, h2⟩)
    · have := Rat.mul_pos (show 0 < -x by grind) h2; grind
    · have := Rat.mul_pos h1 (show 0 < -y by grind); grind
theorem meets_half {a b c d : Q2} (h : Meets a b c d) (hn : ¬ xq (sq b a) (sq c a) * xq (sq b a) (sq d a) < 0) : OnE c (a, b) ∨ OnE d (a, b) ∨ OnE a (c, d) ∨ OnE b (c, d) := by
  obtain ⟨z, z1, z2⟩ := h
  obtain ⟨t, t0, t1, ht⟩ := on_param z2
  by_cases e0 : t = 0
  · left; rw [ht, e0, onp0] at z1; exact z1
  by_cases e1 : t = 1
  · right; left; rw [ht, e1, onp1] at z1; exact z1
  obtain ⟨s, s0, s1, hs⟩ := on_param z1
  have hz : xq (sq b a) (sq z a) = 0 := by rw [hs]; unfold xq sq onp; grind
  have hz2 : (1 - t) * xq (sq b a) (sq c a) + t * xq (sq b a) (sq d a) = 0 := by rw [← hz, ht]; unfold xq sq onp; grind
  rw [mul_neg_iff] at hn
  have hc : xq (sq b a) (sq c a) = 0 ∧ xq (sq b a) (sq d a) = 0 := by
    generalize xq (sq b a) (sq c a) = o1 at *
    generalize xq (sq b a) (sq d a) = o2 at *
    have p0 : 0 < t := by grind
    have p1 : 0 < 1 - t := by grind
    by_cases h1 : 0 < o1
    · have := Rat.mul_pos p1 h1
      have h2 : 0 ≤ o2 := by grind
      have := Rat.mul_nonneg t0 h2
      grind
    · by_cases h2 : o1 < 0
      · have := Rat.mul_pos p1 (show 0 < -o1 by grind)
        have h2 : 0 ≤ -o2 := by grind
        have := Rat.mul_nonneg t0 h2
        grind
      · have e : o1 = 0 := by grind
        refine ⟨e, ?_⟩
        rw [e] at hz2
        have hi := r_inv (x := t) e0
        generalize t⁻¹ = M at *; grind
  refine Classical.byContradiction fun hno => ?_
  have hab : a ≠ b := fun e => by
    refine hno (.inr (.inr (.inl ?_)))
    have : z = a := by rw [hs, e]; refine Prod.ext ?_ ?_ <;> simp only [onp] <;> grind
    rw [← this]; exact z2
  have hN := dq_pos (sq_ne hab)
  have hi := r_inv (x := dq (sq b a) (sq b a)) (by grind)
  obtain ⟨c1, c2⟩ := hc
  -- the others' places on the line
  have par : ∀ p : Q2, xq (sq b a) (sq p a) = 0 → ∃ k, p = onp a b k := fun p hp => by
    refine ⟨dq (sq p a) (sq b a) * (dq (sq b a) (sq b a))⁻¹, ?_⟩
    have i1 : dq (sq b a) (sq b a) * (p.1 - a.1) = dq (sq p a) (sq b a) * (b.1 - a.1) := by unfold dq sq; unfold xq sq at hp; grind
    have i2 : dq (sq b a) (sq b a) * (p.2 - a.2) = dq (sq p a) (sq b a) * (b.2 - a.2) := by unfold dq sq; unfold xq sq at hp; grind
    generalize dq (sq b a) (sq b a) = N at *
    generalize dq (sq p a) (sq b a) = m at *
    generalize N⁻¹ = M at *
    refine Prod.ext ?_ ?_ <;> simp only [onp] <;> grind
  obtain ⟨k1, e1'⟩ := par c c1
  obtain ⟨k2, e2'⟩ := par d c2
  have n1 : ¬ (0 ≤ k1 ∧ k1 ≤ 1) := fun ⟨x, y⟩ => hno (.inl (by rw [e1']; exact on_of_param x y))
  have n2 : ¬ (0 ≤ k2 ∧ k2 ≤ 1) := fun ⟨x, y⟩ => hno (.inr (.inl (by rw [e2']; exact on_of_param x y)))
  have hs2 : s = (1 - t) * k1 + t * k2 := by
    rw [ht, e1', e2'] at hs
    unfold onp at hs; simp only [Prod.mk.injEq] at hs
    obtain ⟨q1, q2⟩ := hs
    have w1 : (s - ((1 - t) * k1 + t * k2)) * (b.1 - a.1) = 0 := by grind
    have w2 : (s - ((1 - t) * k1 + t * k2)) * (b.2 - a.2) = 0 := by grind
    have w3 : (s - ((1 - t) * k1 + t * k2)) * dq (sq b a) (sq b a) = 0 := by unfold dq sq; grind
    generalize dq (sq b a) (sq b a) = N at *
    generalize N⁻¹ = M at *
    grind
  have n3 : ¬ k1 * k2 ≤ 0 := fun hk => by
    refine hno (.inr (.inr (.inl ?_)))
    rw [e1', e2']
    have := Rat.mul_nonneg (show 0 ≤ -(k1 * k2) by grind) (dq_nn (sq b a))
    unfold OnE OnV xq dq sq onp; unfold dq sq at this; simp only at this ⊢
    constructor <;> grind
  have p0 : 0 < t := by grind
  have p1 : 0 < 1 - t := by grind
  by_cases q1 : 0 ≤ k1
  · have q2 : 0 ≤ k2 := by
      refine Classical.byContradiction fun hk => n3 ?_
      have := Rat.mul_nonneg q1 (show 0 ≤ -k2 by grind)
      grind
    have := Rat.mul_pos p1 (show 0 < k1 - 1 by grind)
    have := Rat.mul_pos p0 (show 0 < k2 - 1 by grind)
    grind
  · have q2 : k2 < 0 := by
      refine Classical.byContradiction fun hk => n3 ?_
      have := Rat.mul_nonneg (show 0 ≤ -k1 by grind) (show 0 ≤ k2 by grind)
      grind
    have := Rat.mul_pos p1 (show 0 < -k1 by grind)
    have := Rat.mul_pos p0 (show 0 < -k2 by grind)
    grind
theorem meets_comm {a b c d : Q2} : Meets a b c d ↔ Meets c d a b := ⟨fun ⟨z, h1, h2⟩ => ⟨z, h2, h1⟩, fun ⟨z, h1, h2⟩ => ⟨z, h2, h1⟩⟩
theorem meets_cases {a b c d : Q2} (h : Meets a b c d) : (xq (sq b a) (sq c a) * xq (sq b a) (sq d a) < 0 ∧ xq (sq d c) (sq a c) * xq (sq d c) (sq b c) < 0) ∨ OnE c (a, b) ∨ OnE d (a, b) ∨ OnE a (c, d) ∨ OnE b (c, d) := by
  by_cases h1 : xq (sq b a) (sq c a) * xq (sq b a) (sq d a) < 0
  · by_cases h2 : xq (sq d c) (sq a c) * xq (sq d c) (sq b c) < 0
    · exact .inl ⟨h1, h2⟩
    · rcases meets_half (meets_comm.1 h) h2 with h | h | h | h
      · exact .inr (.inr (.inr (.inl h)))
      · exact .inr (.inr (.inr (.inr h)))
      · exact .inr (.inl h)
      · exact .inr (.inr (.inl h))
  · exact .inr (meets_half h h1)
theorem meets_proper {a b c d : Q2} (h1 : xq (sq b a) (sq c a) * xq (sq b a) (sq d a) < 0) (h2 : xq (sq d c) (sq a c) * xq (sq d c) (sq b c) < 0) : Meets a b c d := by
  have i1 : xq (sq d c) (sq a c) - xq (sq d c) (sq b c) = xq (sq b a) (sq d a) - xq (sq b a) (sq c a) := by unfold xq sq; grind
  have j1 : (xq (sq b a) (sq d a) - xq (sq b a) (sq c a)) * (a.1 - c.1) + xq (sq d c) (sq a c) * (b.1 - a.1) = -xq (sq b a) (sq c a) * (d.1 - c.1) := by unfold xq sq; grind
  have j2 : (xq (sq b a) (sq d a) - xq (sq b a) (sq c a)) * (a.2 - c.2) + xq (sq d c) (sq a c) * (b.2 - a.2) = -xq (sq b a) (sq c a) * (d.2 - c.2) := by unfold xq sq; grind
  rw [mul_neg_iff] at h1 h2
  generalize xq (sq b a) (sq c a) = o1 at *
  generalize xq (sq b a) (sq d a) = o2 at *
  generalize xq (sq d c) (sq a c) = o3 at *
  generalize xq (sq d c) (sq b c) = o4 at *
  have hne : o2 - o1 ≠ 0 := by grind
  have hi := r_inv hne
  have key : 0 ≤ o3 * (o2 - o1)⁻¹ ∧ 0 ≤ -o4 * (o2 - o1)⁻¹ ∧ 0 ≤ -o1 * (o2 - o1)⁻¹ ∧ 0 ≤ o2 * (o2 - o1)⁻¹ := by
    rcases h2 with ⟨u, v⟩ | ⟨u, v⟩
    · have hM : 0 < (o1 - o2)⁻¹ := Rat.inv_pos.2 (by grind)
      have e : (o2 - o1)⁻¹ = -(o1 - o2)⁻¹ := by
        have i2 := r_inv (x := o1 - o2) (by grind)
        generalize (o1 - o2)⁻¹ = A at *
        generalize (o2 - o1)⁻¹ = C at *
        grind
      have m1 := Rat.mul_nonneg (show 0 ≤ -o3 by grind) (show 0 ≤ (o1 - o2)⁻¹ by grind)
      have m2 := Rat.mul_nonneg (show 0 ≤ o4 by grind) (show 0 ≤ (o1 - o2)⁻¹ by grind)
      have m3 := Rat.mul_nonneg (show 0 ≤ o1 by grind) (show 0 ≤ (o1 - o2)⁻¹ by grind)
      have m4 := Rat.mul_nonneg (show 0 ≤ -o2 by grind) (show 0 ≤ (o1 - o2)⁻¹ by grind)
      rw [e]
      generalize (o1 - o2)⁻¹ = A at *
      exact ⟨by grind, by grind, by grind, by grind⟩
    · have hM : 0 < (o2 - o1)⁻¹ := Rat.inv_pos.2 (by grind)
      exact ⟨Rat.mul_nonneg (by grind) (by grind), Rat.mul_nonneg (by grind) (by grind), Rat.mul_nonneg (by grind) (by grind), Rat.mul_nonneg (by grind) (by grind)⟩
  obtain ⟨m1, m2, m3, m4⟩ := key
  generalize (o2 - o1)⁻¹ = M at *
  have ez : onp a b (o3 * M) = onp c d (-o1 * M) := by refine Prod.ext ?_ ?_ <;> simp only [onp] <;> grind
  have k1 : o3 * M + -o4 * M = 1 := by rw [← hi, ← i1]; grind
  have k2 : -o1 * M + o2 * M = 1 := by rw [← hi]; grind
  have l1 : o3 * M ≤ 1 := by rw [← k1]; grind
  have l2 : -o1 * M ≤ 1 := by rw [← k2]; grind
  refine ⟨onp a b (o3 * M), on_of_param m1 l1, ?_⟩
  rw [ez]; exact on_of_param m3 l2
/-! whole points -/
theorem xq_int (a b p : Pt) : xq (sq (qp b) (qp a)) (sq (qp p) (qp a)) = ((cr a.1 a.2 b.1 b.2 p.1 p.2 : Int) : Rat) := by
  unfold xq sq qp cr
  simp only [Rat.intCast_sub, Rat.intCast_mul]
theorem xq_int' (a b p : Pt) : xq (sq (qp a) (qp p)) (sq (qp b) (qp p)) = ((cr a.1 a.2 b.1 b.2 p.1 p.2 : Int) : Rat) := by
  rw [← xq_int]; unfold xq sq; grind
theorem onE_int (p a b : Pt) : OnE (qp p) (qp a, qp b) ↔ (withinB a.1 a.2 b.1 b.2 p.1 p.2 = true ∧ cr a.1 a.2 b.1 b.2 p.1 p.2 = 0) := by
  rw [on_iff]
  unfold OnE OnV
  simp only
  rw [xq_int']
  have hd : dq (sq (qp a) (qp p)) (sq (qp b) (qp p)) = ((-((p.1 - a.1) * (b.1 - p.1) + (p.2 - a.2) * (b.2 - p.2)) : Int) : Rat) := by
    unfold dq sq qp
    simp only [Rat.intCast_sub, Rat.intCast_mul, Rat.intCast_add, Rat.intCast_neg]; grind
  rw [hd, Rat.intCast_nonpos, Rat.intCast_eq_zero_iff]
  constructor
  · rintro ⟨h1, h2⟩
    refine ⟨h1, by omega, ?_⟩
    rintro ⟨e1, e2⟩
    rw [← e1, ← e2] at h2
    have s1 := sq_nn (p.1 - a.1)
    have s2 := sq_nn (p.2 - a.2)
    have : (p.1 - a.1) * (a.1 - p.1) = -((p.1 - a.1) * (p.1 - a.1)) := by grind
    have : (p.2 - a.2) * (a.2 - p.2) = -((p.2 - a.2) * (p.2 - a.2)) := by grind
    constructor
    · refine Classical.byContradiction fun hn => ?_
      have := sq_pos (x := p.1 - a.1) (by omega)
      omega
    · refine Classical.byContradiction fun hn => ?_
      have := sq_pos (x := p.2 - a.2) (by omega)
      omega
  · rintro ⟨h1, h2, _⟩
    exact ⟨h1, by omega⟩
abbrev B2 (p : Pt) : Prop := B p.1 ∧ B p.2
theorem B8_of {a b c d : Pt} (ha : B2 a) (hb : B2 b) (hc : B2 c) (hd : B2 d) : B8 a.1 a.2 b.1 b.2 c.1 c.2 d.1 d.2 := ⟨ha.1, ha.2, hb.1, hb.2, hc.1, hc.2, hd.1, hd.2⟩
theorem i_neg (x y : Int) : (x : Rat) * y < 0 ↔ x * y < 0 := by rw [← Rat.intCast_mul, Rat.intCast_neg_iff]
theorem cut_meets {a b c d : Pt} (ha : B2 a) (hb : B2 b) (hc : B2 c) (hd : B2 d) : cutE (a, b) (c, d) = true ↔ Meets (qp a) (qp b) (qp c) (qp d) := by
  unfold cutE
  rw [cutB_iff (B8_of ha hb hc hd)]
  constructor
  · rintro (⟨h1, h2⟩ | (⟨h1, h2⟩ | ⟨h1, h2⟩) | (⟨h1, h2⟩ | ⟨h1, h2⟩))
    · refine meets_proper ?_ ?_
      · rw [xq_int, xq_int, i_neg]; exact h1
      · rw [xq_int, xq_int, i_neg]; exact h2
    · exact ⟨qp c, (onE_int c a b).2 ⟨h2, h1⟩, on_left _ _⟩
    · exact ⟨qp d, (onE_int d a b).2 ⟨h2, h1⟩, on_right _ _⟩
    · exact ⟨qp a, on_left _ _, (onE_int a c d).2 ⟨h2, h1⟩⟩
    · exact ⟨qp b, on_right _ _, (onE_int b c d).2 ⟨h2, h1⟩⟩
  · intro h
    rcases meets_cases h with ⟨h1, h2⟩ | h | h | h | h
    · rw [xq_int, xq_int, i_neg] at h1 h2
      exact .inl ⟨h1, h2⟩
    · have := (onE_int c a b).1 h; exact .inr (.inl (.inl ⟨this.2, this.1⟩))
    · have := (onE_int d a b).1 h; exact .inr (.inl (.inr ⟨this.2, this.1⟩))
    · have := (onE_int a c d).1 h; exact .inr (.inr (.inl ⟨this.2, this.1⟩))
    · have := (onE_int b c d).1 h; exact .inr (.inr (.inr ⟨this.2, this.1⟩))
theorem onE_meets {p : Pt} {e : Pt × Pt} (hp : B2 p) (h1 : B2 e.1) (h2 : B2 e.2) : onE p e = true ↔ OnE (qp p) (qe e) := by
  have := onE_int p e.1 e.2
  rw [show qe e = (qp e.1, qp e.2) from rfl, this]
  unfold onE onB
  rw [crW_B h1.1 h1.2 h2.1 h2.2 hp.1 hp.2]
  simp [sgn_eq0]
end Go.Geo

namespace Go.Geo
set_option maxRecDepth 100000
set_option maxHeartbeats 4000000
set_option linter.unusedSimpArgs false
set_option linter.unusedVariables false
open Go Go.Zv
def pqf (l : List Pt) (k : Nat) : Q2 := qp (ptn l k)
theorem eds_chn (l : List Pt) : (eds l).map qe = chn (pqf l) 0 l.length := by
  rw [eds_range, List.map_map]
  unfold chn
  exact List.map_congr_left fun k _ => by simp only [Function.comp_apply, Nat.zero_add]; rfl
theorem mayB_B {p : Pt} (h : mayB p = true) : (-439400000 ≤ p.1 ∧ p.1 ≤ 439400000) ∧ (-439400000 ≤ p.2 ∧ p.2 ≤ 439400000) := by
  unfold mayB mxI mnI at h
  simp only [Bool.and_eq_true, decide_eq_true_eq] at h
  split at h <;> split at h <;> omega
theorem mayB_B2 {p : Pt} (h : mayB p = true) : B2 p := by
  have := mayB_B h
  unfold B2 B; omega
theorem ptn_mem {l : List Pt} (k : Nat) (h : 0 < l.length) : ptn l k ∈ l := List.mem_of_getElem? (ptn_mod (l := l) (k := k) h)
theorem ptn_B {l : List Pt} (hm : l.all mayB = true) (h : 0 < l.length) (k : Nat) : B2 (ptn l k) := mayB_B2 (List.all_eq_true.1 hm _ (ptn_mem k h))
structure Val (l : List Pt) : Prop where
  n3 : 3 ≤ l.length
  n12 : l.length ≤ 12
  may : l.all mayB = true
  sim : simB l = true
  area : 0 < areaW l
theorem dE_bd {a b : Pt} (ha : mayB a = true) (hb : mayB b = true) : -386144720000000000 ≤ dE (a, b) ∧ dE (a, b) ≤ 386144720000000000 := by
  obtain ⟨⟨a1, a2⟩, a3, a4⟩ := mayB_B ha
  obtain ⟨⟨b1, b2⟩, b3, b4⟩ := mayB_B hb
  have p := mul_bd a1 a2 b3 b4
  have q := mul_bd a3 a4 b1 b2
  unfold dE; simp only; omega
theorem sum_bd (l : List Int) (K : Int) (h : ∀ x ∈ l, -K ≤ x ∧ x ≤ K) : -(K * l.length) ≤ l.sum ∧ l.sum ≤ K * l.length := by
  induction l with
  | nil => simp
  | cons a l ih =>
    have := ih fun x hx => h x (by simp [hx])
    have := h a (by simp)
    simp only [List.sum_cons, List.length_cons]
    have e : K * ((l.length + 1 : Nat) : Int) = K * l.length + K := by rw [Int.natCast_add, Int.mul_add]; simp
    rw [e]; omega
theorem areaW_val {l : List Pt} (h12 : l.length ≤ 12) (hm : l.all mayB = true) : areaW l = ((eds l).map dE).sum := by
  rw [areaW_sum]
  have := sum_bd ((eds l).map dE) 386144720000000000 (fun x hx => by
    obtain ⟨e, he, rfl⟩ := List.mem_map.1 hx
    obtain ⟨i, hi⟩ := List.getElem?_of_mem he
    obtain ⟨h1, h2, h3⟩ := eds_get hi
    exact dE_bd (List.all_eq_true.1 hm _ (List.mem_of_getElem? h2)) (List.all_eq_true.1 hm _ (List.mem_of_getElem? h3)))
  rw [List.length_map, eds_len] at this
  exact wrap_small (by omega) (by omega)
theorem d10 : ((1, 0) : Q2) ≠ (0, 0) := by intro e; simp only [Prod.mk.injEq] at e; exact absurd e.1 (by decide)
theorem fl_hit {p : Pt} {e : Pt × Pt} (hp : B2 p) (h1 : B2 e.1) (h2 : B2 e.2) (hn : ¬ OnE (qp p) (qe e)) : flE p e = decide (hit (1, 0) (sq (qp e.1) (qp p)) (sq (qp e.2) (qp p)) % 2 = 1) := by
  have y1 : 0 < xq (1, 0) (sq (qp e.1) (qp p)) ↔ p.2 < e.1.2 := by
    have : xq (1, 0) (sq (qp e.1) (qp p)) = ((e.1.2 - p.2 : Int) : Rat) := by unfold xq sq qp; rw [Rat.intCast_sub]; grind
    rw [this, Rat.intCast_pos]; omega
  have y2 : 0 < xq (1, 0) (sq (qp e.2) (qp p)) ↔ p.2 < e.2.2 := by
    have : xq (1, 0) (sq (qp e.2) (qp p)) = ((e.2.2 - p.2 : Int) : Rat) := by unfold xq sq qp; rw [Rat.intCast_sub]; grind
    rw [this, Rat.intCast_pos]; omega
  have hon : ¬ (withinB e.1.1 e.1.2 e.2.1 e.2.2 p.1 p.2 = true ∧ cr e.1.1 e.1.2 e.2.1 e.2.2 p.1 p.2 = 0) := fun h => hn ((onE_int p e.1 e.2).2 h)
  unfold flE hit
  rw [crW_B h1.1 h1.2 h2.1 h2.2 hp.1 hp.2, xq_int']
  simp only [y1, y2, Rat.intCast_pos, Rat.intCast_neg_iff]
  have s1 : 0 < sgn (cr e.1.1 e.1.2 e.2.1 e.2.2 p.1 p.2) ↔ 0 < cr e.1.1 e.1.2 e.2.1 e.2.2 p.1 p.2 := by unfold sgn; repeat' split
                                                                                                        all_goals omega
  simp only [s1]
  by_cases a : p.2 < e.1.2 <;> by_cases b : p.2 < e.2.2
  · simp [a, b]
  · have c : ¬ e.1.2 < e.2.2 := by omega
    have hne : cr e.1.1 e.1.2 e.2.1 e.2.2 p.1 p.2 ≠ 0 := fun hc => hon ⟨w_y hc (by omega) (by rw [mul_nn]; omega), hc⟩
    by_cases d : cr e.1.1 e.1.2 e.2.1 e.2.2 p.1 p.2 < 0
    · have d' : ¬ 0 < cr e.1.1 e.1.2 e.2.1 e.2.2 p.1 p.2 := by omega
      simp [a, b, c, d, d']
    · have d' : 0 < cr e.1.1 e.1.2 e.2.1 e.2.2 p.1 p.2 := by omega
      simp [a, b, c, d, d']
  · have c : e.1.2 < e.2.2 := by omega
    by_cases d : 0 < cr e.1.1 e.1.2 e.2.1 e.2.2 p.1 p.2
    · simp [a, b, c, d]
    · simp [a, b, c, d]
  · simp [a, b]
theorem par_fold (p : Pt) (es : List (Pt × Pt)) (f : Pt × Pt → Int) (h : ∀ e ∈ es, flE p e = decide (f e % 2 = 1)) : ∀ b : Bool, es.foldl (parF p) b = (b != decide ((es.map f).sum % 2 = 1)) := by
  induction es with
  | nil => intro b; simp
  | cons e l ih =>
    intro b
    rw [List.foldl_cons, ih (fun x hx => h x (by simp [hx]))]
    unfold parF
    rw [h e (by simp), List.map_cons, List.sum_cons]
    have e1 : (f e + (l.map f).sum) % 2 = 1 ↔ ((f e % 2 = 1) ↔ ¬ (l.map f).sum % 2 = 1) := by omega
    simp only [e1]
    by_cases a : f e % 2 = 1 <;> by_cases c : (l.map f).sum % 2 = 1 <;> cases b <;> simp [a, c]
theorem locI_wn {l : List Pt} {p : Pt} (hm : l.all mayB = true) (hp : B2 p) : locI l p = if (eds l).any (onE p) = true then 0 else if wn (1, 0) (qp p) ((eds l).map qe) % 2 = 1 then 1 else -1 := by
  unfold locI
  by_cases h : (eds l).any (onE p) = true
  · rw [if_pos h, if_pos h]
  · rw [if_neg h, if_neg h]
    have hB : ∀ e ∈ eds l, B2 e.1 ∧ B2 e.2 := fun e he => by
      obtain ⟨i, hi⟩ := List.getElem?_of_mem he
      obtain ⟨h1, h2, h3⟩ := eds_get hi
      exact ⟨mayB_B2 (List.all_eq_true.1 hm _ (List.mem_of_getElem? h2)), mayB_B2 (List.all_eq_true.1 hm _ (List.mem_of_getElem? h3))⟩
    have hoff : ∀ e ∈ eds l, ¬ OnE (qp p) (qe e) := fun e he ho => by
      apply h
      rw [List.any_eq_true]
      exact ⟨e, he, (onE_meets hp (hB e he).1 (hB e he).2).2 ho⟩
    rw [par_fold p (eds l) (fun e => hit (1, 0) (sq (qp e.1) (qp p)) (sq (qp e.2) (qp p))) (fun e he => fl_hit hp (hB e he).1 (hB e he).2 (hoff e he))]
    unfold wn
    rw [List.map_map]
    simp only [Bool.false_bne, decide_eq_true_eq]
    rfl
end Go.Geo

namespace Go.Geo
set_option maxRecDepth 100000
set_option maxHeartbeats 4000000
set_option linter.unusedSimpArgs false
set_option linter.unusedVariables false
open Go Go.Zv
/-! rigid motions of the plane -/
structure Mot where
  c : Rat
  s : Rat
  x : Rat
  y : Rat
  h : c * c + s * s = 1
def Mot.lin (M : Mot) (v : Q2) : Q2 := (M.c * v.1 - M.s * v.2, M.s * v.1 + M.c * v.2)
def Mot.app (M : Mot) (v : Q2) : Q2 := (M.c * v.1 - M.s * v.2 + M.x, M.s * v.1 + M.c * v.2 + M.y)
def Mot.back (M : Mot) (v : Q2) : Q2 := (M.c * (v.1 - M.x) + M.s * (v.2 - M.y), M.c * (v.2 - M.y) - M.s * (v.1 - M.x))
section
variable (M : Mot)
theorem Mot.app_back (z : Q2) : M.app (M.back z) = z := by
  have := M.h
  refine Prod.ext ?_ ?_ <;> simp only [Mot.app, Mot.back] <;> grind
theorem Mot.sq_app (a b : Q2) : sq (M.app a) (M.app b) = M.lin (sq a b) := by
  refine Prod.ext ?_ ?_ <;> simp only [Mot.app, Mot.lin, sq] <;> grind
theorem Mot.xq_lin (u v : Q2) : xq (M.lin u) (M.lin v) = xq u v := by
  have := M.h
  unfold xq Mot.lin; simp only
  have e : (M.c * u.1 - M.s * u.2) * (M.s * v.1 + M.c * v.2) - (M.s * u.1 + M.c * u.2) * (M.c * v.1 - M.s * v.2) = (M.c * M.c + M.s * M.s) * (u.1 * v.2 - u.2 * v.1) := by grind
  rw [e, this]; grind
theorem Mot.dq_lin (u v : Q2) : dq (M.lin u) (M.lin v) = dq u v := by
  have := M.h
  unfold dq Mot.lin; simp only
  have e : (M.c * u.1 - M.s * u.2) * (M.c * v.1 - M.s * v.2) + (M.s * u.1 + M.c * u.2) * (M.s * v.1 + M.c * v.2) = (M.c * M.c + M.s * M.s) * (u.1 * v.1 + u.2 * v.2) := by grind
  rw [e, this]; grind
theorem Mot.hit_lin (d u v : Q2) : hit (M.lin d) (M.lin u) (M.lin v) = hit d u v := by
  unfold hit; simp only [Mot.xq_lin]
theorem Mot.on_app (z a b : Q2) : OnE (M.app z) (M.app a, M.app b) ↔ OnE z (a, b) := by
  unfold OnE OnV; simp only [Mot.sq_app, Mot.xq_lin, Mot.dq_lin]
theorem Mot.meets_app (a b c d : Q2) : Meets (M.app a) (M.app b) (M.app c) (M.app d) ↔ Meets a b c d := by
  constructor
  · rintro ⟨z, h1, h2⟩
    rw [← M.app_back z, M.on_app] at h1 h2
    exact ⟨_, h1, h2⟩
  · rintro ⟨z, h1, h2⟩
    exact ⟨M.app z, (M.on_app ..).2 h1, (M.on_app ..).2 h2⟩
end
theorem ptn_map {l : List Pt} (f : Pt → Pt) (h : 0 < l.length) (k : Nat) : ptn (l.map f) k = f (ptn l k) := by
  have h1 := ptn_mod (l := l.map f) (k := k) (by simpa using h)
  rw [List.length_map, List.getElem?_map, ptn_mod h] at h1
  simpa using h1.symm
theorem eds_map (f : Pt → Pt) (l : List Pt) : eds (l.map f) = (eds l).map fun e => (f e.1, f e.2) := by
  by_cases h : 0 < l.length
  · rw [eds_range, eds_range, List.length_map, List.map_map]
    refine List.map_congr_left fun k _ => ?_
    simp only [Function.comp_apply, edn, ptn_map f h]
  · have : l = [] := List.length_eq_zero_iff.1 (by omega)
    subst this; rfl
theorem tel_r (g : Nat → Rat) (n : Nat) : ((List.range n).map fun k => g (k + 1) - g k).sum = g n - g 0 := by
  induction n with
  | zero => simp only [List.range_zero, List.map_nil, List.sum_nil]; grind
  | succ n ih =>
    rw [List.range_succ, List.map_append, List.sum_append, ih]
    simp only [List.map_cons, List.map_nil, List.sum_cons, List.sum_nil]; grind
theorem eds_tel_r (l : List Pt) (g : Pt → Rat) : ((eds l).map fun e => g e.2 - g e.1).sum = 0 := by
  rw [eds_range, List.map_map]
  have := tel_r (fun k => g (ptn l k)) l.length
  have e : ptn l l.length = ptn l 0 := by have := ptn_per l 0; rwa [Nat.zero_add] at this
  rw [e] at this
  have e2 : g (ptn l 0) - g (ptn l 0) = 0 := by grind
  rw [e2] at this
  exact this
theorem eds_mem {l : List Pt} {e : Pt × Pt} (h : e ∈ eds l) : e.1 ∈ l ∧ e.2 ∈ l := by
  obtain ⟨i, hi⟩ := List.getElem?_of_mem h
  obtain ⟨h1, h2, h3⟩ := eds_get hi
  exact ⟨List.mem_of_getElem? h2, List.mem_of_getElem? h3⟩
theorem dE_xq (e : Pt × Pt) : ((dE e : Int) : Rat) = xq (qp e.1) (qp e.2) := by
  unfold dE xq qp; rw [Rat.intCast_sub, Rat.intCast_mul, Rat.intCast_mul]
theorem any_congr2 {α : Type} {l : List α} {f g : α → Bool} (h : ∀ x ∈ l, f x = g x) : l.any f = l.any g := by
  rw [Bool.eq_iff_iff, List.any_eq_true, List.any_eq_true]
  exact ⟨fun ⟨x, hx, hp⟩ => ⟨x, hx, by rw [← h x hx]; exact hp⟩, fun ⟨x, hx, hp⟩ => ⟨x, hx, by rw [h x hx]; exact hp⟩⟩
structure Moved (M : Mot) (f : Pt → Pt) (l : List Pt) : Prop where
  may : l.all mayB = true
  may' : (l.map f).all mayB = true
  mv : ∀ p ∈ l, qp (f p) = M.app (qp p)
section
variable {M : Mot} {f : Pt → Pt} {l : List Pt}
theorem Moved.area (h : Moved M f l) : ((eds (l.map f)).map dE).sum = ((eds l).map dE).sum := by
  rw [← Rat.intCast_inj, sum_cast, sum_cast, eds_map, List.map_map, List.map_map, List.map_map]
  have h0 := eds_tel_r l (fun p => xq (M.x, M.y) (M.lin (qp p)))
  have : ((eds l).map (((fun x : Int => (x : Rat)) ∘ dE) ∘ fun e => (f e.1, f e.2))) = (eds l).map fun e => ((dE e : Int) : Rat) + (xq (M.x, M.y) (M.lin (qp e.2)) - xq (M.x, M.y) (M.lin (qp e.1))) := by
    refine List.map_congr_left fun e he => ?_
    obtain ⟨h1, h2⟩ := eds_mem he
    simp only [Function.comp_apply]
    rw [dE_xq, dE_xq]
    simp only
    rw [h.mv _ h1, h.mv _ h2, ← M.xq_lin (qp e.1)]
    unfold xq Mot.app Mot.lin; simp only; grind
  rw [this]
  have add : ∀ (m : List (Pt × Pt)) (u v : Pt × Pt → Rat), (m.map fun e => u e + v e).sum = (m.map u).sum + (m.map v).sum := by
    intro m u v
    induction m with
    | nil => simp only [List.map_nil, List.sum_nil]; grind
    | cons e m ih => simp only [List.map_cons, List.sum_cons, ih]; grind
  rw [add, h0]
  have : ((eds l).map ((fun x : Int => (x : Rat)) ∘ dE)) = (eds l).map fun e => ((dE e : Int) : Rat) := rfl
  rw [this]; grind
theorem Moved.pt (h : Moved M f l) (h0 : 0 < l.length) (k : Nat) : qp (ptn (l.map f) k) = M.app (qp (ptn l k)) := by
  rw [ptn_map f h0, h.mv _ (ptn_mem k h0)]
theorem Moved.len (_h : Moved M f l) : (l.map f).length = l.length := List.length_map ..
theorem Moved.sim (h : Moved M f l) : simB (l.map f) = simB l := by
  by_cases h0 : 0 < l.length
  · have hb := ptn_B h.may h0
    have hb' := ptn_B h.may' (by rw [h.len]; exact h0)
    have hori : ∀ i, decide (oriE (ptn (l.map f) i) (ptn (l.map f) (i + 1)) (ptn (l.map f) (i + 2)) = 0) = decide (oriE (ptn l i) (ptn l (i + 1)) (ptn l (i + 2)) = 0) := fun i => by
      unfold oriE
      rw [crW_B (hb i).1 (hb i).2 (hb (i + 1)).1 (hb (i + 1)).2 (hb (i + 2)).1 (hb (i + 2)).2, crW_B (hb' i).1 (hb' i).2 (hb' (i + 1)).1 (hb' (i + 1)).2 (hb' (i + 2)).1 (hb' (i + 2)).2]
      have e : cr (ptn (l.map f) i).1 (ptn (l.map f) i).2 (ptn (l.map f) (i + 1)).1 (ptn (l.map f) (i + 1)).2 (ptn (l.map f) (i + 2)).1 (ptn (l.map f) (i + 2)).2 = cr (ptn l i).1 (ptn l i).2 (ptn l (i + 1)).1 (ptn l (i + 1)).2 (ptn l (i + 2)).1 (ptn l (i + 2)).2 := by
        rw [← Rat.intCast_inj, ← xq_int, ← xq_int, h.pt h0, h.pt h0, h.pt h0, M.sq_app, M.sq_app, M.xq_lin]
      rw [e]
    have hcut : ∀ i k, cutE (edn (l.map f) i) (edn (l.map f) k) = cutE (edn l i) (edn l k) := fun i k => by
      unfold edn
      rw [Bool.eq_iff_iff, cut_meets (hb' _) (hb' _) (hb' _) (hb' _), cut_meets (hb _) (hb _) (hb _) (hb _), h.pt h0, h.pt h0, h.pt h0, h.pt h0, M.meets_app]
    have h2 : ∀ i, bad2 (l.map f) i = bad2 l i := fun i => funext fun k => by unfold bad2; rw [h.len, hcut]
    have h1 : bad1 (l.map f) = bad1 l := funext fun i => by unfold bad1; rw [hori, h2, h.len]
    unfold simB
    rw [h1, h.len]
  · have : l = [] := List.length_eq_zero_iff.1 (by omega)
    subst this; rfl
theorem Moved.areaW (h : Moved M f l) (h12 : l.length ≤ 12) : areaW (l.map f) = areaW l := by
  rw [areaW_val (by rw [h.len]; exact h12) h.may', areaW_val h12 h.may, h.area]
theorem Moved.loc (h : Moved M f l) {p : Pt} (hp : B2 p) (hp' : B2 (f p)) (hm : qp (f p) = M.app (qp p)) : locI (l.map f) (f p) = locI l p := by
  have hbe : ∀ e ∈ eds l, (B2 e.1 ∧ B2 e.2) ∧ B2 (f e.1) ∧ B2 (f e.2) := fun e he => by
    obtain ⟨h1, h2⟩ := eds_mem he
    refine ⟨⟨mayB_B2 (List.all_eq_true.1 h.may _ h1), mayB_B2 (List.all_eq_true.1 h.may _ h2)⟩, mayB_B2 (List.all_eq_true.1 h.may' _ ?_), mayB_B2 (List.all_eq_true.1 h.may' _ ?_)⟩
    · exact List.mem_map.2 ⟨_, h1, rfl⟩
    · exact List.mem_map.2 ⟨_, h2, rfl⟩
  have hqe : ∀ e ∈ eds l, qe (f e.1, f e.2) = (M.app (qp e.1), M.app (qp e.2)) := fun e he => by
    obtain ⟨h1, h2⟩ := eds_mem he
    unfold qe; simp only; rw [h.mv _ h1, h.mv _ h2]
  have hon : ∀ e ∈ eds l, onE (f p) (f e.1, f e.2) = onE p e := fun e he => by
    obtain ⟨⟨b1, b2⟩, b3, b4⟩ := hbe e he
    rw [Bool.eq_iff_iff, onE_meets hp' b3 b4, onE_meets hp b1 b2, hqe e he, hm, M.on_app]
    rfl
  rw [locI_wn h.may' hp', locI_wn h.may hp]
  have e1 : (eds (l.map f)).any (onE (f p)) = (eds l).any (onE p) := by
    rw [eds_map, List.any_map]
    exact any_congr2 fun e he => hon e he
  rw [e1]
  by_cases ho : (eds l).any (onE p) = true
  · rw [if_pos ho, if_pos ho]
  · rw [if_neg ho, if_neg ho]
    have hoff : ∀ e ∈ eds l, ¬ OnE (qp p) (qe e) := fun e he hx => ho (by
      rw [List.any_eq_true]
      exact ⟨e, he, (onE_meets hp (hbe e he).1.1 (hbe e he).1.2).2 hx⟩)
    have e2 : wn (1, 0) (qp (f p)) ((eds (l.map f)).map qe) = wn (1, 0) (qp p) ((eds l).map qe) := by
      have hd : ∃ d : Q2, M.lin d = (1, 0) := ⟨(M.c, -M.s), by
        have := M.h
        refine Prod.ext ?_ ?_ <;> simp only [Mot.lin] <;> grind⟩
      obtain ⟨d, hd⟩ := hd
      have hdn : d ≠ (0, 0) := fun e => by
        rw [e] at hd
        refine d10 ?_
        rw [← hd]
        refine Prod.ext ?_ ?_ <;> simp only [Mot.lin] <;> grind
      have hp0 : Path (pqf l 0) (pqf l 0) ((eds l).map qe) := by
        have := chn_path (pqf l) 0 l.length
        rw [← eds_chn, Nat.zero_add] at this
        have e : pqf l l.length = pqf l 0 := by unfold pqf; rw [show l.length = 0 + l.length by omega, ptn_per]
        rw [e] at this
        exact this
      rw [wn_dir hp0 d10 hdn (fun g hg => by
        obtain ⟨e, he, rfl⟩ := List.mem_map.1 hg
        exact hoff e he)]
      rw [← hd, hm, eds_map]
      unfold wn
      rw [List.map_map, List.map_map, List.map_map]
      congr 1
      refine List.map_congr_left fun e he => ?_
      simp only [Function.comp_apply]
      rw [hqe e he]
      simp only
      rw [M.sq_app, M.sq_app, M.hit_lin]; rfl
    rw [e2]
end
end Go.Geo

namespace Go.Geo
set_option maxRecDepth 100000
set_option maxHeartbeats 4000000
set_option linter.unusedSimpArgs false
set_option linter.unusedVariables false
open Go Go.Zv
theorem tmod_pos {x n : Int} (h : 0 ≤ x) : x.tmod n = x % n := Int.tmod_eq_emod_of_nonneg h
theorem tmod36 (q : Int) : (if q.tmod 36 < 0 then q.tmod 36 + 36 else q.tmod 36) = q % 36 := by
  by_cases h : 0 ≤ q
  · rw [tmod_pos h]; split <;> omega
  · obtain ⟨p, rfl⟩ : ∃ p : Int, q = -p := ⟨-q, by omega⟩
    rw [Int.neg_tmod, tmod_pos (by omega)]
    split <;> omega
theorem tb36 (q : Int) : -36 < q.tmod 36 ∧ q.tmod 36 < 36 := ⟨Int.lt_tmod_of_pos q (by omega), Int.tmod_lt_of_pos q (by omega)⟩
def cs : Nat → Int × Int
  | 0 => (65, 0) | 1 => (63, 16) | 2 => (60, 25) | 3 => (56, 33) | 4 => (52, 39) | 5 => (39, 52) | 6 => (33, 56) | 7 => (25, 60) | 8 => (16, 63)
  | 9 => (0, 65) | 10 => (-16, 63) | 11 => (-25, 60) | 12 => (-33, 56) | 13 => (-39, 52) | 14 => (-52, 39) | 15 => (-56, 33) | 16 => (-60, 25) | 17 => (-63, 16)
  | 18 => (-65, 0) | 19 => (-63, -16) | 20 => (-60, -25) | 21 => (-56, -33) | 22 => (-52, -39) | 23 => (-39, -52) | 24 => (-33, -56) | 25 => (-25, -60) | 26 => (-16, -63)
  | 27 => (0, -65) | 28 => (16, -63) | 29 => (25, -60) | 30 => (33, -56) | 31 => (39, -52) | 32 => (52, -39) | 33 => (56, -33) | 34 => (60, -25) | 35 => (63, -16)
  | _ => (65, 0)
def csI (q : Int) : Int × Int := cs (q % 36).toNat
theorem cases36 {k : Int} (h1 : 0 ≤ k) (h2 : k < 36) : k = 0 ∨ k = 1 ∨ k = 2 ∨ k = 3 ∨ k = 4 ∨ k = 5 ∨ k = 6 ∨ k = 7 ∨ k = 8 ∨ k = 9 ∨ k = 10 ∨ k = 11 ∨ k = 12 ∨ k = 13 ∨ k = 14 ∨ k = 15 ∨ k = 16 ∨ k = 17 ∨ k = 18 ∨ k = 19 ∨ k = 20 ∨ k = 21 ∨ k = 22 ∨ k = 23 ∨ k = 24 ∨ k = 25 ∨ k = 26 ∨ k = 27 ∨ k = 28 ∨ k = 29 ∨ k = 30 ∨ k = 31 ∨ k = 32 ∨ k = 33 ∨ k = 34 ∨ k = 35 := by omega
theorem csI_facts (q : Int) : (-65 ≤ (csI q).1 ∧ (csI q).1 ≤ 65) ∧ (-65 ≤ (csI q).2 ∧ (csI q).2 ≤ 65) ∧ (csI q).1 * (csI q).1 + (csI q).2 * (csI q).2 = 4225 ∧ (csI (-q)).1 = (csI q).1 ∧ (csI (-q)).2 = -(csI q).2 := by
  have h1 : 0 ≤ q % 36 := by omega
  have h2 : q % 36 < 36 := by omega
  have h3 : (-q) % 36 = (36 - q % 36) % 36 := by omega
  unfold csI
  rw [h3]
  generalize q % 36 = k at *
  rcases cases36 h1 h2 with rfl | rfl | rfl | rfl | rfl | rfl | rfl | rfl | rfl | rfl | rfl | rfl | rfl | rfl | rfl | rfl | rfl | rfl | rfl | rfl | rfl | rfl | rfl | rfl | rfl | rfl | rfl | rfl | rfl | rfl | rfl | rfl | rfl | rfl | rfl | rfl <;> decide
def rx (q : Int) (p : Pt) : Int := p.1 * (csI q).1 - p.2 * (csI q).2
def ry (q : Int) (p : Pt) : Int := p.1 * (csI q).2 + p.2 * (csI q).1
def exB (q : Int) (p : Pt) : Bool := decide ((rx q p).tmod 65 = 0) && decide ((ry q p).tmod 65 = 0)
def rqP (q : Int) (p : Pt) : Pt := ((rx q p).tdiv 65, (ry q p).tdiv 65)
def rzP (q : Int) (p : Pt) : Pt := if exB q p = true then rqP q p else (0, 0)
def rMot (q : Int) : Mot where
  c := (((csI q).1 : Int) : Rat) / 65
  s := (((csI q).2 : Int) : Rat) / 65
  x := 0
  y := 0
  h := by
    have h := (csI_facts q).2.2.1
    have h2 : (((csI q).1 * (csI q).1 + (csI q).2 * (csI q).2 : Int) : Rat) = ((4225 : Int) : Rat) := by rw [h]
    rw [Rat.intCast_add, Rat.intCast_mul, Rat.intCast_mul] at h2
    have : ((4225 : Int) : Rat) = 4225 := rfl
    grind
end Go.Geo

namespace Go.Geo
set_option maxRecDepth 100000
set_option maxHeartbeats 4000000
set_option linter.unusedSimpArgs false
set_option linter.unusedVariables false
open Go Go.Zv
end Go.Geo

namespace Go.Geo
set_option maxRecDepth 100000
set_option maxHeartbeats 4000000
set_option linter.unusedSimpArgs false
set_option linter.unusedVariables false
open Go Go.Zv
/-! intersections of polygons -/
def beyB (e : Pt × Pt) (l : List Pt) : Bool := l.all fun p => decide (oriE e.1 e.2 p < 0)
def insB (p : List Pt) (i : Int) (q : List Pt) : Bool := decide (0 ≤ i) && (decide (i < p.length) && decide (locI q (ptn p i.toNat) ≠ -1))
def fcJ (a b : List Pt) (i : Nat) : Option Nat := (List.range b.length).find? fun j => cutE (edn a i) (edn b j)
def fcE (a b : List Pt) : Option Nat := (List.range a.length).find? fun i => (fcJ a b i).isSome
def fcA (a b : List Pt) : Option Nat := (List.range a.length).find? fun i => insB a i b
def FC (a b : List Pt) : Option (Int × Int × Int) :=
  match fcE a b with
  | some i => Option.map (fun j : Nat => ((1 : Int), (i : Int), (j : Int))) (fcJ a b i)
  | none => match fcA a b with
    | some i => some (2, (i : Int), 0)
    | none => Option.map (fun j : Nat => ((3 : Int), (0 : Int), (j : Int))) (fcA b a)
def sepAt (a b : List Pt) (d : Int) : Bool := decide (0 ≤ d ∧ d < a.length) && beyB (edn a d.toNat) b
def isepB (a b : List Pt) (o d : Int) : Bool := if o = 1 then sepAt b a d else decide (o = 0) && sepAt a b d
def icnB (a b : List Pt) (k i j : Int) : Bool :=
  if k = 1 then decide (0 ≤ i ∧ i < a.length) && (decide (0 ≤ j ∧ j < b.length) && cutE (edn a i.toNat) (edn b j.toNat))
  else if k = 2 then decide (j = 0) && insB a i b
  else if k = 3 then decide (i = 0) && insB b j a
  else false
def rgtE (l : List Pt) (i k : Nat) : Bool := decide (oriE (ptn l i) (ptn l (i + 1)) (ptn l k) < 0)
def cvxB (l : List Pt) : Bool := !(List.range l.length).any fun i => (List.range l.length).any (rgtE l i)
end Go.Geo

/- The engine, part 33: a loop that leaves at the first index of a kind. -/
namespace Go.Zv
set_option autoImplicit false
theorem loop_first (G : St → Option Out) (S : Nat → St) (n : Nat) (P : Nat → Bool) (R : Nat → Option Out → Prop) (e : Option Out)
    (stop : G (S n) = e)
    (step : ∀ k, k < n → (P k = true → R k (G (S k))) ∧ (P k = false → G (S k) = G (S (k + 1)))) :
    (∀ j, (List.range n).find? P = some j → R j (G (S 0))) ∧ ((List.range n).find? P = none → G (S 0) = e) := by
  have h := loop_P (σ := Unit) G (fun k _ => S k) n (fun _ _ => True)
    (fun k _ o => (∀ j, k ≤ j → j < n → P j = true → (∀ i, k ≤ i → i < j → P i = false) → R j o) ∧ ((∀ j, k ≤ j → j < n → P j = false) → o = e))
    (fun _ _ => ⟨fun j h1 h2 => by omega, fun _ => stop⟩) (fun k _ hk _ => by
      have hs := step k hk
      cases hp : P k with
      | true =>
        left
        refine ⟨fun j h1 h2 h3 h4 => ?_, fun h => by have := h k (Nat.le_refl _) hk; rw [hp] at this; cases this⟩
        by_cases e : j = k
        · subst e; exact hs.1 hp
        · have := h4 k (Nat.le_refl _) (by omega); rw [hp] at this; cases this
      | false =>
        right
        refine ⟨(), trivial, hs.2 hp, fun o ho => ⟨fun j h1 h2 h3 h4 => ?_, fun h => ho.2 fun j h1 h2 => h j (by omega) h2⟩⟩
        by_cases e : j = k
        · subst e; rw [hp] at h3; cases h3
        · exact ho.1 j (by omega) h2 h3 fun i h5 h6 => h4 i (by omega) h6) 0 () (by omega) trivial
  refine ⟨fun j hj => ?_, fun hn => ?_⟩
  · rw [List.find?_range_eq_some] at hj
    obtain ⟨h1, h2, h3⟩ := hj
    exact h.1 j (by omega) (List.mem_range.1 h2) h1 fun i _ hi => by have := h3 i hi; simpa using this
  · rw [List.find?_eq_none] at hn
    exact h.2 fun j _ hj => by have := hn j (List.mem_range.2 hj); simpa using this
end Go.Zv

namespace Go.Proofs.Ytnecdcaaknhgpaa.G
set_option maxRecDepth 100000
set_option maxHeartbeats 4000000
set_option linter.unusedSimpArgs false
set_option linter.unusedVariables false
open Go Go.Zv
open Go.Geo
def trP (p q : Pt) : Pt := (w64 (q.1 + p.1), w64 (q.2 + p.2))
abbrev FR40 (l : List Pt) : List Env := [[(6, .fn (Fn.func 95) [] [.ptr 768 0]), (5, .vs (l.map c2)), (0, .vs (l.map c2)), (3, .ptr 768 0)]]
theorem c120 (q : Int) : pc E 120 [.int .i64 q] = some (.int .i64 (q % 36)) := by
  have h := tmod36 q
  have hb := tb36 q
  have w : IntKind.i64.wrap (q.tmod 36 + 36) = q.tmod 36 + 36 := wrap_small (by omega) (by omega)
  by_cases hc : q.tmod 36 < 0
  · rw [if_pos hc] at h
    have w2 : IntKind.i64.wrap (q % 36) = q % 36 := wrap_small (by omega) (by omega)
    rw [pc_eq]; simp +contextual -implicitDefEqProofs (maxSteps := 2000000) only [go_sem, ↓reduceIte, E_120, A120, hc, w, h, w2]
  · rw [if_neg hc] at h
    rw [h] at hc
    rw [pc_eq]; simp +contextual -implicitDefEqProofs (maxSteps := 2000000) only [go_sem, ↓reduceIte, E_120, A120, h, hc]
theorem c121 : pc E 121 [] = some (.agg [.int .i64 65, .int .i64 0, .int .i64 63, .int .i64 16, .int .i64 60, .int .i64 25, .int .i64 56, .int .i64 33, .int .i64 52, .int .i64 39, .int .i64 39, .int .i64 52, .int .i64 33, .int .i64 56, .int .i64 25, .int .i64 60, .int .i64 16, .int .i64 63]) := by
  rw [pc_eq]; simp +contextual -implicitDefEqProofs (maxSteps := 2000000) only [go_sem, ↓reduceIte, E_121, A121]
theorem c91 (x y : Int) (h1 : -1000000000000 ≤ y) (h2 : y ≤ 1000000000000) : pc E 91 [.agg [.int .i64 x, .int .i64 y]] = some (.agg [.int .i64 (-y), .int .i64 x]) := by
  have w : IntKind.i64.wrap (0 - y) = -y := by rw [wrap_small (by omega) (by omega)]; omega
  rw [pc_eq]; simp +contextual -implicitDefEqProofs (maxSteps := 2000000) only [go_sem, ↓reduceIte, E_91, A91, w]
theorem left_ok (x y : Int) (h1 : -65 ≤ y) (h2 : y ≤ 65) : pc E 91 [.agg [.int .i64 x, .int .i64 y]] = some (.agg [.int .i64 (-y), .int .i64 x]) := c91 x y (by omega) (by omega)
theorem c109 (q : Int) : pc E 109 [.int .i64 q] = some (.tup [.int .i64 (csI q).1, .int .i64 (csI q).2]) := by
  have h := c120 q
  have h1 : 0 ≤ q % 36 := by omega
  have h2 : q % 36 < 36 := by omega
  unfold csI
  generalize q % 36 = k at *
  rcases cases36 h1 h2 with rfl | rfl | rfl | rfl | rfl | rfl | rfl | rfl | rfl | rfl | rfl | rfl | rfl | rfl | rfl | rfl | rfl | rfl | rfl | rfl | rfl | rfl | rfl | rfl | rfl | rfl | rfl | rfl | rfl | rfl | rfl | rfl | rfl | rfl | rfl | rfl <;>
    (rw [pc_eq]; simp +contextual -implicitDefEqProofs (maxSteps := 2000000) only [go_sem, ↓reduceIte, E_109, A109, h, c121, A109_L0_eq, A109_L0b, Int.reduceTDiv, Int.reduceTMod, left_ok, Int.neg_neg]) <;> rfl
theorem c83 (x y q : Int) (hx : -1000000000 ≤ x ∧ x ≤ 1000000000) (hy : -1000000000 ≤ y ∧ y ≤ 1000000000) : pc E 83 [.agg [.int .i64 x, .int .i64 y], .int .i64 q] = some (.agg [.int .i64 (rx q (x, y)), .int .i64 (ry q (x, y))]) := by
  have h := c109 q
  obtain ⟨f1, f2, _⟩ := csI_facts q
  unfold rx ry
  simp only
  generalize (csI q).1 = c at *
  generalize (csI q).2 = s at *
  have m1 := mul_bd hx.1 hx.2 f1.1 f1.2
  have m2 := mul_bd hx.1 hx.2 f2.1 f2.2
  have m3 := mul_bd hy.1 hy.2 f1.1 f1.2
  have m4 := mul_bd hy.1 hy.2 f2.1 f2.2
  have w1 : IntKind.i64.wrap (x * c) = x * c := wrap_small (by omega) (by omega)
  have w2 : IntKind.i64.wrap (x * s) = x * s := wrap_small (by omega) (by omega)
  have w3 : IntKind.i64.wrap (y * c) = y * c := wrap_small (by omega) (by omega)
  have w4 : IntKind.i64.wrap (y * s) = y * s := wrap_small (by omega) (by omega)
  have w5 : IntKind.i64.wrap (x * c - y * s) = x * c - y * s := wrap_small (by omega) (by omega)
  have w6 : IntKind.i64.wrap (x * s + y * c) = x * s + y * c := wrap_small (by omega) (by omega)
  rw [pc_eq]; simp +contextual -implicitDefEqProofs (maxSteps := 2000000) only [go_sem, ↓reduceIte, E_83, A83, h, w1, w2, w3, w4, w5, w6]
abbrev FR43 (l : List Pt) : List Env := [[(9, .fn (Fn.func 93) [] [.ptr 768 0, .ptr 1536 0]), (8, .vs (l.map c2)), (0, .vs (l.map c2)), (3, .ptr 768 0), (6, .ptr 1536 0)]]
def Bd9 (l : List Pt) : Prop := ∀ p ∈ l, (-1000000000 ≤ p.1 ∧ p.1 ≤ 1000000000) ∧ (-1000000000 ≤ p.2 ∧ p.2 ≤ 1000000000)
theorem c96 (l : List Pt) : pc E 96 [.vs (l.map c2)] = some (.fn (.func 112) [] [.fp [.vs (l.map c2)]]) := by
  have h := cl_c2 l
  rw [pc_eq]; simp +contextual -implicitDefEqProofs (maxSteps := 2000000) only [go_sem, ↓reduceIte, E_96, A96, h]
abbrev FR47 (l : List Pt) : Env := [(3, .ptr 768 0), (4, .ptr 1024 0), (5, .ptr 1280 0), (9, .fn (Fn.func 112) [] [.fp [.vs (l.map c2)]])]
theorem c97 (p q : List Pt) (hq : q.length ≤ 1000000000) (i : Int) : pc E 97 [.vs (p.map c2), .int .i64 i, .vs (q.map c2)] = some (.bool (insB p i q)) := by
  unfold insB
  by_cases h1 : 0 ≤ i
  · by_cases h2 : i < p.length
    · have hi : i.toNat < p.length := by omega
      have g := get_c2 (ptn_get hi)
      have o1 := c33 q hq (ptn p i.toNat).1 (ptn p i.toNat).2
      rw [show ((ptn p i.toNat).1, (ptn p i.toNat).2) = ptn p i.toNat from rfl] at o1
      have e : ((i.toNat : Nat) : Int) = i := by omega
      generalize locI q (ptn p i.toNat) = lo at *
      have hn : (lo != -1) = decide (lo ≠ -1) := by rw [bne, Bool.beq_eq_decide_eq, decide_not]
      rw [pc_eq]; simp +contextual -implicitDefEqProofs (maxSteps := 2000000) only [go_sem, ↓reduceIte, E_97, A97, h1, h2, List.length_map, g, e, o1, hn, decide_true, Bool.true_and]
    · rw [pc_eq]; simp +contextual -implicitDefEqProofs (maxSteps := 2000000) only [go_sem, ↓reduceIte, E_97, A97, h1, h2, List.length_map, decide_true, decide_false, Bool.true_and, Bool.false_and]
  · rw [pc_eq]; simp +contextual -implicitDefEqProofs (maxSteps := 2000000) only [go_sem, ↓reduceIte, E_97, A97, h1, List.length_map, decide_true, decide_false, Bool.false_and]
abbrev FR17 (a : List Pt) : Env := [(0, .vs (a.map c2)), (3, .ptr 768 0), (4, .ptr 1024 0), (5, .ptr 1280 0), (13, .fn (Fn.func 112) [] [.fp [.vs (a.map c2)]])]
abbrev FI17 (b : List Pt) : Env := [(4, .ptr 1024 0), (5, .ptr 1280 0), (6, .ptr 2098688 0), (7, .ptr 2098944 0), (17, .fn (Fn.func 112) [] [.fp [.vs (b.map c2)]])]
abbrev FF17 (a b : List Pt) (k ax ay bx by_ k1 : Int) (k1m : Nat) : List Env := [FI17 b, [(0, .yl 3121153)], [(0, .yl 1024000)], [(23, .agg [.int .i64 ax, .int .i64 ay, .int .i64 bx, .int .i64 by_]), (22, .agg [.int .i64 bx, .int .i64 by_]), (21, .fp [.int .i64 bx, .int .i64 by_]), (20, .int .i64 k1m), (19, .int .i64 a.length), (18, .vs (a.map c2)), (17, .int .i64 k1), (16, .int .i64 k), (15, .vs (a.map c2)), (14, .agg [.int .i64 ax, .int .i64 ay]), (13, .int .i64 k), (12, .yl 1024000), (0, .yl 1024000), (1, .fp [.vs (a.map c2)]), (3, .int .i64 k), (4, .ptr 1049600 0), (5, .vs (a.map c2)), (6, .int .i64 a.length), (7, .int .i64 k)], FR17 a, [(0, .yl 1024000)]]
abbrev OO17 (a b : List Pt) (k ax ay bx by_ : Int) (st : LSt) (pe : AEx) (ok : Bool) (c0 c1 c2' : Int) : Heap := [(3121153, .loop (FI17 b) [18, 19] A69_R2a A69_R2b st pe), (2098944, .box [.int .i64 ax, .int .i64 ay, .int .i64 bx, .int .i64 by_]), (2098688, .box [.int .i64 k]), (1049600, .box [.int .i64 ax, .int .i64 ay]), (1024000, .loop (FR17 a) [14, 15] A69_R3a A69_R3b LSt.busy AEx.nrm), (1280, .box [.bool ok]), (1024, .box [.int .i64 c0, .int .i64 c1, .int .i64 c2']), (768, .box [.vs (b.map c2)])]
theorem in17 (a b : List Pt) (hb : b.length ≤ 1000000000) (k : Nat) (ax ay bx by_ k1 : Int) (k1m : Nat) (he : edn a k = ((ax, ay), (bx, by_))) :
    (∀ j, fcJ a b k = some j → (K E A112_L0 ⟨[(0, .yl 3121153), (1, .fp [.vs (b.map c2)]), (5, .vs (b.map c2)), (6, .int .i64 b.length), (7, .int .i64 0)], FF17 a b k ax ay bx by_ k1 k1m, OO17 a b k ax ay bx by_ .ready .nrm false 0 0 0, 3⟩).bind (blockR 0 (some []) [3, 4, 24]) =
      some (.ex .ret ⟨[(0, .yl 3121153), (1, .fp [.vs (b.map c2)]), (5, .vs (b.map c2)), (6, .int .i64 b.length), (7, .int .i64 j), (25, .bool true)], FF17 a b k ax ay bx by_ k1 k1m, OO17 a b k ax ay bx by_ .done .ret true 1 k j, 3⟩)) ∧
    (fcJ a b k = none → (K E A112_L0 ⟨[(0, .yl 3121153), (1, .fp [.vs (b.map c2)]), (5, .vs (b.map c2)), (6, .int .i64 b.length), (7, .int .i64 0)], FF17 a b k ax ay bx by_ k1 k1m, OO17 a b k ax ay bx by_ .ready .nrm false 0 0 0, 3⟩).bind (blockR 0 (some []) [3, 4, 24]) =
      some (.ex .nrm ⟨[], FF17 a b k ax ay bx by_ k1 k1m, OO17 a b k ax ay bx by_ .ready .nrm false 0 0 0, 3⟩)) := by
  have lp := loop_first (fun S => (K E A112_L0 S).bind (blockR 0 (some []) [3, 4, 24]))
    (fun j => ⟨[(0, .yl 3121153), (1, .fp [.vs (b.map c2)]), (5, .vs (b.map c2)), (6, .int .i64 b.length), (7, .int .i64 j)], FF17 a b k ax ay bx by_ k1 k1m, OO17 a b k ax ay bx by_ .ready .nrm false 0 0 0, 3⟩)
    b.length (fun j => cutE (edn a k) (edn b j))
    (fun j o => o = some (.ex .ret ⟨[(0, .yl 3121153), (1, .fp [.vs (b.map c2)]), (5, .vs (b.map c2)), (6, .int .i64 b.length), (7, .int .i64 j), (25, .bool true)], FF17 a b k ax ay bx by_ k1 k1m, OO17 a b k ax ay bx by_ .done .ret true 1 k j, 3⟩))
    (some (.ex .nrm ⟨[], FF17 a b k ax ay bx by_ k1 k1m, OO17 a b k ax ay bx by_ .ready .nrm false 0 0 0, 3⟩))
    (by
      show (K E A112_L0 _).bind _ = _
      rw [A112_L0_eq]; simp +contextual -implicitDefEqProofs (maxSteps := 2000000) only [go_sem, ↓reduceIte, A112_L0b, Int.lt_irrefl])
    (fun j hj => by
      rw [he]
      obtain ⟨_, g1, g2⟩ := eds_get (edn_get hj)
      have g1 := get_c2 g1
      have g2 := get_c2 g2
      obtain ⟨m1, m2, m3, m4, m5⟩ := mod_nat hj hb
      have hw := wr_k (k := j) (by omega)
      have h1 : (j : Int) < b.length := by omega
      have h0 : (0 : Int) ≤ j := by omega
      generalize edn b j = e at *
      obtain ⟨⟨cx, cy⟩, ⟨dx, dy⟩⟩ := e
      have o1 := c88 ax ay bx by_ cx cy dx dy
      unfold cutE
      simp only
      refine ⟨fun hp => ?_, fun hp => ?_⟩
      · rw [hp] at o1
        show (K E A112_L0 _).bind _ = _
        rw [A112_L0_eq]
        simp +contextual -implicitDefEqProofs (maxSteps := 2000000) only [go_sem, ↓reduceIte, OO17, FF17, FI17, FR17, A112_L0b, A69_R2a, A69_R2b, List.length_map, h0, h1, g1, g2, m1, m2, m3, m4, m5, hw, o1]
      · rw [hp] at o1
        show (K E A112_L0 _).bind _ = (K E A112_L0 _).bind _
        conv => lhs; rw [A112_L0_eq]
        simp +contextual -implicitDefEqProofs (maxSteps := 2000000) only [go_sem, ↓reduceIte, OO17, FF17, FI17, FR17, A112_L0b, A69_R2a, A69_R2b, List.length_map, h0, h1, g1, g2, m1, m2, m3, m4, m5, hw, o1])
  simp only [Int.natCast_zero, Int.ofNat_zero] at lp
  exact lp
abbrev O17 (b : List Pt) (ok : Bool) (c0 c1 c2' : Int) : Heap := [(1280, .box [.bool ok]), (1024, .box [.int .i64 c0, .int .i64 c1, .int .i64 c2']), (768, .box [.vs (b.map c2)])]
theorem out17 (a b : List Pt) (ha : a.length ≤ 1000000000) (hb : b.length ≤ 1000000000) :
    (∀ i, fcE a b = some i → ∀ j, fcJ a b i = some j → (K E A112_L0 ⟨[(0, .yl 1024000), (1, .fp [.vs (a.map c2)]), (5, .vs (a.map c2)), (6, .int .i64 a.length), (7, .int .i64 0)], [FR17 a, [(0, .yl 1024000)]], (1024000, .loop (FR17 a) [14, 15] A69_R3a A69_R3b LSt.ready AEx.nrm) :: O17 b false 0 0 0, 1⟩).bind (blockR 0 (some []) [3, 4, 24]) =
      some (.ex .ret ⟨[(0, .yl 1024000), (1, .fp [.vs (a.map c2)]), (5, .vs (a.map c2)), (6, .int .i64 a.length), (7, .int .i64 i), (25, .bool true)], [FR17 a, [(0, .yl 1024000)]], (1024000, .loop (FR17 a) [14, 15] A69_R3a A69_R3b LSt.done AEx.ret) :: O17 b true 1 i j, 1⟩)) ∧
    (fcE a b = none → (K E A112_L0 ⟨[(0, .yl 1024000), (1, .fp [.vs (a.map c2)]), (5, .vs (a.map c2)), (6, .int .i64 a.length), (7, .int .i64 0)], [FR17 a, [(0, .yl 1024000)]], (1024000, .loop (FR17 a) [14, 15] A69_R3a A69_R3b LSt.ready AEx.nrm) :: O17 b false 0 0 0, 1⟩).bind (blockR 0 (some []) [3, 4, 24]) =
      some (.ex .nrm ⟨[], [FR17 a, [(0, .yl 1024000)]], (1024000, .loop (FR17 a) [14, 15] A69_R3a A69_R3b LSt.ready AEx.nrm) :: O17 b false 0 0 0, 1⟩)) := by
  have h45 := c96 b
  have lp := loop_first (fun S => (K E A112_L0 S).bind (blockR 0 (some []) [3, 4, 24]))
    (fun k => ⟨[(0, .yl 1024000), (1, .fp [.vs (a.map c2)]), (5, .vs (a.map c2)), (6, .int .i64 a.length), (7, .int .i64 k)], [FR17 a, [(0, .yl 1024000)]], (1024000, .loop (FR17 a) [14, 15] A69_R3a A69_R3b LSt.ready AEx.nrm) :: O17 b false 0 0 0, 1⟩)
    a.length (fun i => (fcJ a b i).isSome)
    (fun i o => ∀ j, fcJ a b i = some j → o = some (.ex .ret ⟨[(0, .yl 1024000), (1, .fp [.vs (a.map c2)]), (5, .vs (a.map c2)), (6, .int .i64 a.length), (7, .int .i64 i), (25, .bool true)], [FR17 a, [(0, .yl 1024000)]], (1024000, .loop (FR17 a) [14, 15] A69_R3a A69_R3b LSt.done AEx.ret) :: O17 b true 1 i j, 1⟩))
    (some (.ex .nrm ⟨[], [FR17 a, [(0, .yl 1024000)]], (1024000, .loop (FR17 a) [14, 15] A69_R3a A69_R3b LSt.ready AEx.nrm) :: O17 b false 0 0 0, 1⟩))
    (by
      show (K E A112_L0 _).bind _ = _
      rw [A112_L0_eq]; simp +contextual -implicitDefEqProofs (maxSteps := 2000000) only [go_sem, ↓reduceIte, A112_L0b, Int.lt_irrefl])
    (fun k hk => by
      obtain ⟨_, g1, g2⟩ := eds_get (edn_get hk)
      have g1 := get_c2 g1
      have g2 := get_c2 g2
      obtain ⟨m1, m2, m3, m4, m5⟩ := mod_nat hk ha
      have hw := wr_k (k := k) (by omega)
      have h1 : (k : Int) < a.length := by omega
      have h0 : (0 : Int) ≤ k := by omega
      have q := in17 a b hb k (edn a k).1.1 (edn a k).1.2 (edn a k).2.1 (edn a k).2.2 (k + 1 : Nat) ((k + 1) % a.length) rfl
      generalize fcJ a b k = ff at *
      generalize edn a k = e at *
      obtain ⟨⟨ax, ay⟩, ⟨bx, by_⟩⟩ := e
      simp only at g1 g2 q
      cases ff with
      | some j =>
        refine ⟨fun _ j' hj => ?_, fun h => (by cases h)⟩
        cases hj
        have q := q.1 j rfl
        simp only [OO17, FF17, FI17, FR17, A69_R2a, A69_R2b, A69_R3a, A69_R3b, A69_R2] at q
        show (K E A112_L0 _).bind _ = _
        rw [A112_L0_eq]
        simp +contextual -implicitDefEqProofs (maxSteps := 2000000) only [go_sem, ↓reduceIte, O17, FR17, A112_L0b, A69_R2a, A69_R2b, A69_R3a, A69_R3b, A69_R2, List.length_map, h0, h1, g1, g2, m1, m2, m3, m4, m5, hw, h45, E_112, A112, q]
      | none =>
        refine ⟨fun h => (by cases h), fun _ => ?_⟩
        have q := q.2 rfl
        simp only [OO17, FF17, FI17, FR17, A69_R2a, A69_R2b, A69_R3a, A69_R3b, A69_R2] at q
        show (K E A112_L0 _).bind _ = (K E A112_L0 _).bind _
        conv => lhs; rw [A112_L0_eq]
        simp +contextual -implicitDefEqProofs (maxSteps := 2000000) only [go_sem, ↓reduceIte, O17, FR17, A112_L0b, A69_R2a, A69_R2b, A69_R3a, A69_R3b, A69_R2, List.length_map, h0, h1, g1, g2, m1, m2, m3, m4, m5, hw, h45, E_112, A112, q])
  simp only [Int.natCast_zero, Int.ofNat_zero] at lp
  exact lp
theorem l17_1 (a b : List Pt) (ha : a.length ≤ 1000000000) (hb : b.length ≤ 1000000000) :
    (∀ i, fcA a b = some i → (K E A69_L1 ⟨[(0, .vs (a.map c2)), (3, .ptr 768 0), (4, .ptr 1024 0), (5, .ptr 1280 0), (33, .int .i64 a.length), (34, .int .i64 0)], [], O17 b false 0 0 0, 0⟩).bind (blockR 4 (some [0, 3, 4, 5]) [40]) = some (.ex .ret ⟨[(4, .ptr 1024 0), (5, .ptr 1280 0)], [], O17 b true 2 i 0, 0⟩)) ∧
    (fcA a b = none → (K E A69_L1 ⟨[(0, .vs (a.map c2)), (3, .ptr 768 0), (4, .ptr 1024 0), (5, .ptr 1280 0), (33, .int .i64 a.length), (34, .int .i64 0)], [], O17 b false 0 0 0, 0⟩).bind (blockR 4 (some [0, 3, 4, 5]) [40]) = some (.ex .nrm ⟨[(0, .vs (a.map c2)), (3, .ptr 768 0), (4, .ptr 1024 0), (5, .ptr 1280 0)], [], O17 b false 0 0 0, 0⟩)) := by
  have lp := loop_first (fun S => (K E A69_L1 S).bind (blockR 4 (some [0, 3, 4, 5]) [40]))
    (fun k => ⟨[(0, .vs (a.map c2)), (3, .ptr 768 0), (4, .ptr 1024 0), (5, .ptr 1280 0), (33, .int .i64 a.length), (34, .int .i64 k)], [], O17 b false 0 0 0, 0⟩)
    a.length (fun i => insB a i b)
    (fun i o => o = some (.ex .ret ⟨[(4, .ptr 1024 0), (5, .ptr 1280 0)], [], O17 b true 2 i 0, 0⟩))
    (some (.ex .nrm ⟨[(0, .vs (a.map c2)), (3, .ptr 768 0), (4, .ptr 1024 0), (5, .ptr 1280 0)], [], O17 b false 0 0 0, 0⟩))
    (by
      show (K E A69_L1 _).bind _ = _
      rw [A69_L1_eq]; simp +contextual -implicitDefEqProofs (maxSteps := 2000000) only [go_sem, ↓reduceIte, A69_L1b, Int.lt_irrefl])
    (fun k hk => by
      have hw := wr_k (k := k) (by omega)
      have h1 : (k : Int) < a.length := by omega
      have o1 := c97 a b hb k
      refine ⟨fun hp => ?_, fun hp => ?_⟩
      · rw [hp] at o1
        show (K E A69_L1 _).bind _ = _
        rw [A69_L1_eq]
        simp +contextual -implicitDefEqProofs (maxSteps := 2000000) only [go_sem, ↓reduceIte, O17, A69_L1b, h1, hw, o1]
      · rw [hp] at o1
        show (K E A69_L1 _).bind _ = (K E A69_L1 _).bind _
        conv => lhs; rw [A69_L1_eq]
        simp +contextual -implicitDefEqProofs (maxSteps := 2000000) only [go_sem, ↓reduceIte, O17, A69_L1b, h1, hw, o1])
  simp only [Int.natCast_zero, Int.ofNat_zero] at lp
  exact lp
theorem l17_0 (a b : List Pt) (ha : a.length ≤ 1000000000) (hb : b.length ≤ 1000000000) :
    (∀ i, fcA b a = some i → (K E A69_L0 ⟨[(0, .vs (a.map c2)), (3, .ptr 768 0), (4, .ptr 1024 0), (5, .ptr 1280 0), (45, .int .i64 b.length), (46, .int .i64 0)], [], O17 b false 0 0 0, 0⟩).bind (blockR 6 (some [4, 5]) [52]) = some (.ex .ret ⟨[(4, .ptr 1024 0), (5, .ptr 1280 0)], [], O17 b true 3 0 i, 0⟩)) ∧
    (fcA b a = none → (K E A69_L0 ⟨[(0, .vs (a.map c2)), (3, .ptr 768 0), (4, .ptr 1024 0), (5, .ptr 1280 0), (45, .int .i64 b.length), (46, .int .i64 0)], [], O17 b false 0 0 0, 0⟩).bind (blockR 6 (some [4, 5]) [52]) = some (.ex .nrm ⟨[(4, .ptr 1024 0), (5, .ptr 1280 0)], [], O17 b false 0 0 0, 0⟩)) := by
  have lp := loop_first (fun S => (K E A69_L0 S).bind (blockR 6 (some [4, 5]) [52]))
    (fun k => ⟨[(0, .vs (a.map c2)), (3, .ptr 768 0), (4, .ptr 1024 0), (5, .ptr 1280 0), (45, .int .i64 b.length), (46, .int .i64 k)], [], O17 b false 0 0 0, 0⟩)
    b.length (fun i => insB b i a)
    (fun i o => o = some (.ex .ret ⟨[(4, .ptr 1024 0), (5, .ptr 1280 0)], [], O17 b true 3 0 i, 0⟩))
    (some (.ex .nrm ⟨[(4, .ptr 1024 0), (5, .ptr 1280 0)], [], O17 b false 0 0 0, 0⟩))
    (by
      show (K E A69_L0 _).bind _ = _
      rw [A69_L0_eq]; simp +contextual -implicitDefEqProofs (maxSteps := 2000000) only [go_sem, ↓reduceIte, A69_L0b, Int.lt_irrefl])
    (fun k hk => by
      have hw := wr_k (k := k) (by omega)
      have h1 : (k : Int) < b.length := by omega
      have o1 := c97 b a ha k
      refine ⟨fun hp => ?_, fun hp => ?_⟩
      · rw [hp] at o1
        show (K E A69_L0 _).bind _ = _
        rw [A69_L0_eq]
        simp +contextual -implicitDefEqProofs (maxSteps := 2000000) only [go_sem, ↓reduceIte, O17, A69_L0b, h1, hw, o1]
      · rw [hp] at o1
        show (K E A69_L0 _).bind _ = (K E A69_L0 _).bind _
        conv => lhs; rw [A69_L0_eq]
        simp +contextual -implicitDefEqProofs (maxSteps := 2000000) only [go_sem, ↓reduceIte, O17, A69_L0b, h1, hw, o1])
  simp only [Int.natCast_zero, Int.ofNat_zero] at lp
  exact lp
def conV : Option (Int × Int × Int) → LV
  | some (k, i, j) => .tup [.agg [.int .i64 k, .int .i64 i, .int .i64 j], .bool true]
  | none => .tup [.agg [.int .i64 0, .int .i64 0, .int .i64 0], .bool false]
theorem c69 (a b : List Pt) (ha : a.length ≤ 1000000000) (hb : b.length ≤ 1000000000) : pc E 69 [.vs (a.map c2), .vs (b.map c2)] = some (conV (FC a b)) := by
  have h45 := c96 a
  have q3 := out17 a b ha hb
  have q1 := l17_1 a b ha hb
  have q0 := l17_0 a b ha hb
  simp only [FR17, O17] at q3 q1 q0
  unfold FC
  cases h1 : fcE a b with
  | some i =>
    have hs : ∃ j, fcJ a b i = some j := by
      unfold fcE at h1
      rw [List.find?_range_eq_some] at h1
      exact Option.isSome_iff_exists.1 h1.1
    obtain ⟨j, hj⟩ := hs
    have q := q3.1 i h1 j hj
    simp only [hj, Option.map_some, conV]
    rw [pc_eq]; simp +contextual -implicitDefEqProofs (maxSteps := 2000000) only [go_sem, ↓reduceIte, E_69, A69, h45, E_112, A112, A69_R3, List.length_map, q]
  | none =>
    have q := q3.2 h1
    simp only
    cases h2 : fcA a b with
    | some i =>
      have r := q1.1 i h2
      simp only [conV]
      rw [pc_eq]; simp +contextual -implicitDefEqProofs (maxSteps := 2000000) only [go_sem, ↓reduceIte, E_69, A69, h45, E_112, A112, A69_R3, List.length_map, q, r]
    | none =>
      have r := q1.2 h2
      cases h3 : fcA b a with
      | some j =>
        have s := q0.1 j h3
        simp only [Option.map_some, conV]
        rw [pc_eq]; simp +contextual -implicitDefEqProofs (maxSteps := 2000000) only [go_sem, ↓reduceIte, E_69, A69, h45, E_112, A112, A69_R3, List.length_map, q, r, s]
      | none =>
        have s := q0.2 h3
        simp only [Option.map_none, conV]
        rw [pc_eq]; simp +contextual -implicitDefEqProofs (maxSteps := 2000000) only [go_sem, ↓reduceIte, E_69, A69, h45, E_112, A112, A69_R3, List.length_map, q, r, s]
theorem c37 (a b : List Pt) (ha : a.length ≤ 1000000000) (hb : b.length ≤ 1000000000) : pc E 37 [.vs (a.map c2), .vs (b.map c2)] = some (.bool (FC a b).isSome) := by
  have h := c69 a b ha hb
  cases hf : FC a b with
  | none => rw [hf] at h; simp only [conV] at h; rw [pc_eq]; simp +contextual -implicitDefEqProofs (maxSteps := 2000000) only [go_sem, ↓reduceIte, E_37, A37, h, Option.isSome_none]
  | some t => obtain ⟨k, i, j⟩ := t; rw [hf] at h; simp only [conV] at h; rw [pc_eq]; simp +contextual -implicitDefEqProofs (maxSteps := 2000000) only [go_sem, ↓reduceIte, E_37, A37, h, Option.isSome_some]
end Go.Proofs.Ytnecdcaaknhgpaa.G

namespace Go.Geo
set_option maxRecDepth 100000
set_option maxHeartbeats 4000000
set_option linter.unusedSimpArgs false
set_option linter.unusedVariables false
open Go Go.Zv
/-! the parts of a cell: names, numbers, polygons -/
def c1 (n : Int) : List LV := [.int .i64 n]
def t1 (s : List UInt8) : List LV := [.str s]
def p1 (l : List Pt) : List LV := [.vs (l.map c2)]
def letB (c : UInt8) : Bool := (decide ((97 : Int) ≤ c.toNat) && decide ((c.toNat : Int) ≤ 122)) || (decide ((65 : Int) ≤ c.toNat) && decide ((c.toNat : Int) ≤ 90))
def badC (c : UInt8) : Bool := !letB c && (!decide ((c.toNat : Int) = 95) && (decide ((c.toNat : Int) < 48) || decide ((57 : Int) < c.toNat)))
def nameB (s : List UInt8) : Bool := decide (1 ≤ s.length) && (decide (s.length ≤ 12) && (letB (s.getD 0 0) && !(s.drop 1).any badC))
def ulB (l : List Int) (b : Int) (i : Nat) : Bool := (decide (l.getD i 0 < 0) || decide (b ≤ l.getD i 0)) || (List.range i).any fun k => decide (l.getD k 0 = l.getD i 0)
def unlB (l : List Int) (b : Int) : Bool := !(List.range l.length).any (ulB l b)
def nmB (l : List (List UInt8)) (i : Nat) : Bool := !nameB (l.getD i []) || (List.range i).any fun k => decide (l.getD k [] = l.getD i [])
def nmsB (l : List (List UInt8)) : Bool := !(List.range l.length).any (nmB l)
def polB (l : List (List Pt)) : Bool := decide (l.length ≤ 16) && l.all valB
def shpI (l : List Pt) (i : Nat) : Bool := ((decide ((ptn l i).1 < -10) || decide (10 < (ptn l i).1)) || (decide ((ptn l i).2 < -10) || decide (10 < (ptn l i).2))) || (List.range l.length).any fun k => decide (oriE (ptn l i) (ptn l (i + 1)) (ptn l k) < 0)
def shpB (l : List Pt) : Bool := decide (l.length ≤ 4) && (valB l && !(List.range l.length).any (shpI l))
structure Plc where
  nm : List UInt8
  x : Int
  y : Int
  dx : Int
  dy : Int
  dn : Int
structure Prt where
  nm : List UInt8
  sh : List Pt
  at_ : Int
def plv (p : Plc) : List LV := [.str p.nm, .int .i64 p.x, .int .i64 p.y, .int .i64 p.dx, .int .i64 p.dy, .int .i64 p.dn]
def prv (p : Prt) : List LV := [.str p.nm, .vs (p.sh.map c2), .int .i64 p.at_]
instance : Inhabited Plc := ⟨⟨[], 0, 0, 0, 0, 0⟩⟩
instance : Inhabited Prt := ⟨⟨[], [], 0⟩⟩
def dirB (x y : Int) : Bool := decide (-274625 ≤ x) && (decide (x ≤ 274625) && (decide (-274625 ≤ y) && (decide (y ≤ 274625) && decide (x * x + y * y = 75418890625))))
def badP (p : Plc) : Bool := !decide (p.x.tmod 16 = 0) || (!decide (p.y.tmod 16 = 0) || (decide (373490000 < mxI p.x p.y) || (decide (mnI p.x p.y < -373490000) || (!decide (p.dn = 3) || !dirB p.dx p.dy))))
def plcB (l : List Plc) : Bool := !l.any badP && (decide (l.length ≤ 16) && nmsB (l.map (·.nm)))
def prtB (l : List Prt) (m : Int) : Bool := (!l.any fun p => !shpB p.sh) && (decide (l.length ≤ 8) && (nmsB (l.map (·.nm)) && unlB (l.map (·.at_)) m))
def bouB (v a j : Int) : Bool := decide (1 ≤ v) && (decide (v ≤ 8) && (decide (1 ≤ a) && (decide (a ≤ 4) && (decide (1 ≤ j) && decide (j ≤ 2)))))
theorem getD_of {α : Type} {l : List α} {i : Nat} (d : α) (h : i < l.length) : l[i]? = some (l.getD i d) := by
  rw [List.getD_eq_getElem?_getD, List.getElem?_eq_getElem h]; rfl
end Go.Geo

namespace Go.Proofs.Ytnecdcaaknhgpaa.G
set_option maxRecDepth 100000
set_option maxHeartbeats 4000000
set_option linter.unusedSimpArgs false
set_option linter.unusedVariables false
open Go Go.Zv
open Go.Geo
end Go.Proofs.Ytnecdcaaknhgpaa.G

namespace Go.Proofs.Ytnecdcaaknhgpaa.R
set_option maxRecDepth 100000
set_option maxHeartbeats 4000000
set_option linter.unusedSimpArgs false
set_option linter.unusedVariables false
open Go Go.Zv
open Go.Geo
theorem c54 (ax ay bx by_ : Int) : pc E 54 [.agg [.int .i64 ax, .int .i64 ay], .agg [.int .i64 bx, .int .i64 by_]] = some (.agg [.int .i64 (w64 (ax + bx)), .int .i64 (w64 (ay + by_))]) := by
  rw [pc_eq]; simp +contextual -implicitDefEqProofs (maxSteps := 2000000) only [go_sem, ↓reduceIte, E_54, A54]
theorem c67 (ax ay bx by_ : Int) : pc E 67 [.agg [.int .i64 ax, .int .i64 ay], .agg [.int .i64 bx, .int .i64 by_]] = some (.agg [.int .i64 (w64 (ax - bx)), .int .i64 (w64 (ay - by_))]) := by
  rw [pc_eq]; simp +contextual -implicitDefEqProofs (maxSteps := 2000000) only [go_sem, ↓reduceIte, E_67, A67]
theorem c62 (ax ay bx by_ px py : Int) : pc E 62 [.agg [.int .i64 ax, .int .i64 ay], .agg [.int .i64 bx, .int .i64 by_], .agg [.int .i64 px, .int .i64 py]] = some (.int .i64 (sgn (crW ax ay bx by_ px py))) := by
  rw [pc_eq]; simp +contextual -implicitDefEqProofs (maxSteps := 2000000) only [go_sem, ↓reduceIte, E_62, A62, c67, decide_eq_true_eq]
  unfold sgn crW; split <;> (try split) <;> rfl
theorem c118 (ax ay bx by_ : Int) : pc E 118 [.agg [.int .i64 ax, .int .i64 ay], .agg [.int .i64 bx, .int .i64 by_]] = some (.agg [.int .i64 (mnI ax bx), .int .i64 (mnI ay by_)]) := by
  rw [pc_eq]; simp +contextual -implicitDefEqProofs (maxSteps := 2000000) only [go_sem, ↓reduceIte, E_118, A118]
theorem c119 (ax ay bx by_ : Int) : pc E 119 [.agg [.int .i64 ax, .int .i64 ay], .agg [.int .i64 bx, .int .i64 by_]] = some (.agg [.int .i64 (mxI ax bx), .int .i64 (mxI ay by_)]) := by
  rw [pc_eq]; simp +contextual -implicitDefEqProofs (maxSteps := 2000000) only [go_sem, ↓reduceIte, E_119, A119]
theorem fold_loop (l : List (Int × Int)) (hl : l.length < 9223372036854775808) (f : FuncId) (g : Int × Int → Int × Int → Int × Int) (hg : ∀ ax ay bx by_, pc E f [.agg [.int .i64 ax, .int .i64 ay], .agg [.int .i64 bx, .int .i64 by_]] = some (.agg [.int .i64 (g (ax, ay) (bx, by_)).1, .int .i64 (g (ax, ay) (bx, by_)).2])) :
    ∀ (k i : Nat) (ax ay : Int), i + k = l.length → (K E A117_L0 ⟨[(2, .fn (.func f) [] []), (4, .ptr 1024 0), (6, .ptr 1536 0), (9, .vs (l.map c2)), (10, .int .i64 l.length), (11, .int .i64 i)], [],
      [(1536, .box [.int .i64 0, .int .i64 0]), (1024, .box [.int .i64 ax, .int .i64 ay])], 0⟩).bind (blockR 0 (some [4, 6]) [8]) =
      some (.ex .nrm ⟨[(4, .ptr 1024 0), (6, .ptr 1536 0)], [], [(1536, .box [.int .i64 0, .int .i64 0]), (1024, .box [.int .i64 ((l.drop i).foldl g (ax, ay)).1, .int .i64 ((l.drop i).foldl g (ax, ay)).2])], 0⟩)
  | 0, i, ax, ay, h => by
    have hi : ¬ ((i : Int) < l.length) := by omega
    have hd : l.drop i = [] := List.drop_of_length_le (by omega)
    rw [A117_L0_eq, hd]
    simp +contextual -implicitDefEqProofs (maxSteps := 2000000) only [go_sem, ↓reduceIte, A117_L0b, hi, List.foldl_nil]
  | k + 1, i, ax, ay, h => by
    have hi : ((i : Int) < l.length) := by omega
    have hget : l[i]? = some (l[i]'(by omega)) := List.getElem?_eq_getElem _
    generalize l[i]'(by omega) = p at hget
    have hg2 := get_c2 hget
    have hw := wr_succ (n := i) (by omega)
    have h0 : (0 : Int) ≤ (i : Int) := by omega
    have hd : l.drop i = p :: l.drop (i + 1) := by
      have hlt : i < l.length := by omega
      rw [List.drop_eq_getElem_cons hlt]
      rw [List.getElem?_eq_getElem hlt] at hget
      simp only [Option.some.injEq] at hget
      rw [hget]
    rw [A117_L0_eq, hd]
    simp +contextual -implicitDefEqProofs (maxSteps := 2000000) only [go_sem, ↓reduceIte, A117_L0b, hi, hg2, hg, h0, hw, List.foldl_cons]
    rw [fold_loop l hl f g hg k (i + 1) _ _ (by omega)]
theorem c117 (l : List (Int × Int)) (hl : l.length < 9223372036854775808) (ax ay : Int) (f : FuncId) (g : Int × Int → Int × Int → Int × Int) (hg : ∀ ax ay bx by_, pc E f [.agg [.int .i64 ax, .int .i64 ay], .agg [.int .i64 bx, .int .i64 by_]] = some (.agg [.int .i64 (g (ax, ay) (bx, by_)).1, .int .i64 (g (ax, ay) (bx, by_)).2])) :
    pc E 117 [.vs (l.map c2), .agg [.int .i64 ax, .int .i64 ay], .fn (.func f) [] []] = some (pt (l.foldl g (ax, ay))) := by
  have := fold_loop l hl f g hg l.length 0 ax ay (by omega)
  simp only [Int.ofNat_zero, Int.natCast_zero, List.drop_zero] at this
  rw [pc_eq]; simp +contextual -implicitDefEqProofs (maxSteps := 2000000) only [go_sem, ↓reduceIte, E_117, A117, List.length_map, this]
theorem c107 (l : List (Int × Int)) (hl : l.length < 9223372036854775808) : pc E 107 [.vs (l.map c2)] = some (.tup [pt (bbL l), pt (bbH l)]) := by
  cases l with
  | nil =>
    rw [pc_eq]; simp +contextual -implicitDefEqProofs only [E_107, A107, go_sem, ↓reduceIte, List.map_nil, bbL, bbH, Int.ofNat_zero, Int.natCast_zero]
  | cons p t =>
    have h1 := c117 (p :: t) hl p.1 p.2 118 minP (fun ax ay bx by_ => c118 ax ay bx by_)
    have h2 := c117 (p :: t) hl p.1 p.2 119 maxP (fun ax ay bx by_ => c119 ax ay bx by_)
    have hz : ¬ (((p :: t).length : Int) = 0) := by simp only [List.length_cons]; omega
    simp only [List.map_cons, c2, List.length_cons] at h1 h2 hz
    rw [pc_eq]; simp +contextual -implicitDefEqProofs only [E_107, A107, go_sem, ↓reduceIte, List.map_cons, c2, bbL, bbH, List.length_map, hz, h1, h2]
theorem c107_2 (ax ay bx by_ : Int) : pc E 107 [.vs [[.int .i64 ax, .int .i64 ay], [.int .i64 bx, .int .i64 by_]]] = some (.tup [pt (bbL [(ax, ay), (bx, by_)]), pt (bbH [(ax, ay), (bx, by_)])]) :=
  c107 [(ax, ay), (bx, by_)] (by simp)
theorem c90 (ax ay bx by_ px py : Int) : pc E 90 [.agg [.int .i64 ax, .int .i64 ay], .agg [.int .i64 bx, .int .i64 by_], .agg [.int .i64 px, .int .i64 py]] = some (.bool (withinB ax ay bx by_ px py)) := by
  rw [pc_eq]; simp +contextual -implicitDefEqProofs (maxSteps := 2000000) only [go_sem, ↓reduceIte, E_90, A90, c107_2, bbL, bbH, List.foldl_cons, List.foldl_nil, minP, maxP, mn_self, mx_self, withinB]
  repeat' split
  all_goals (try simp_all)
  all_goals (try (intros; omega))
theorem c61 (ax ay bx by_ px py : Int) : pc E 61 [.agg [.int .i64 ax, .int .i64 ay], .agg [.int .i64 bx, .int .i64 by_], .agg [.int .i64 px, .int .i64 py]] = some (.bool (onB ax ay bx by_ px py)) := by
  rw [pc_eq]; simp +contextual -implicitDefEqProofs (maxSteps := 2000000) only [go_sem, ↓reduceIte, E_61, A61, c90, c62, onB]
  repeat' split
  all_goals simp_all [Bool.beq_eq_decide_eq]
theorem c111 (ax ay bx by_ cx cy dx dy : Int) : pc E 111 [.agg [.int .i64 ax, .int .i64 ay], .agg [.int .i64 bx, .int .i64 by_], .agg [.int .i64 cx, .int .i64 cy], .agg [.int .i64 dx, .int .i64 dy]] =
    some (.tup [.bool (decide (sdI ax ay bx by_ cx cy dx dy < 0)), .bool (endsB ax ay bx by_ cx cy dx dy)]) := by
  rw [pc_eq]; simp +contextual -implicitDefEqProofs (maxSteps := 2000000) only [go_sem, ↓reduceIte, E_111, A111, c90, c62, sdI, endsB]
  repeat' split
  all_goals (try simp_all [wrap0])
  all_goals (try (intros; omega))
  all_goals (try rfl)
theorem c88 (ax ay bx by_ cx cy dx dy : Int) : pc E 88 [.agg [.int .i64 ax, .int .i64 ay], .agg [.int .i64 bx, .int .i64 by_], .agg [.int .i64 cx, .int .i64 cy], .agg [.int .i64 dx, .int .i64 dy]] = some (.bool (cutB ax ay bx by_ cx cy dx dy)) := by
  rw [pc_eq]; simp +contextual -implicitDefEqProofs (maxSteps := 2000000) only [go_sem, ↓reduceIte, E_88, A88, c111, cutB]
  repeat' split
  all_goals (try simp_all)
  all_goals (try (intros; omega))
  all_goals (try rfl)
end Go.Proofs.Ytnecdcaaknhgpaa.R

namespace Go.Geo
set_option maxRecDepth 100000
set_option maxHeartbeats 4000000
set_option linter.unusedSimpArgs false
set_option linter.unusedVariables false
open Go Go.Zv
def rbad2 (l : List Pt) (i j : Nat) : Bool := (decide (i ≠ 0) || decide (i + 2 + j ≠ l.length - 1)) && cutE (edn l i) (edn l (i + 2 + j))
def rbad1 (l : List Pt) (i : Nat) : Bool := decide (oriE (ptn l i) (ptn l (i + 1)) (ptn l (i + 2)) = 0) || (List.range (l.length - (i + 2))).any (rbad2 l i)
end Go.Geo

namespace Go.Proofs.Ytnecdcaaknhgpaa.R
set_option maxRecDepth 100000
set_option maxHeartbeats 4000000
set_option linter.unusedSimpArgs false
set_option linter.unusedVariables false
open Go Go.Zv
open Go.Geo
end Go.Proofs.Ytnecdcaaknhgpaa.R

namespace Go.Proofs.Ytnecdcaaknhgpaa.G
set_option maxRecDepth 100000
set_option maxHeartbeats 4000000
set_option linter.unusedSimpArgs false
set_option linter.unusedVariables false
open Go Go.Zv
open Go.Geo
end Go.Proofs.Ytnecdcaaknhgpaa.G

namespace Go.Proofs.Ytnecdcaaknhgpaa.G
set_option maxRecDepth 100000
set_option maxHeartbeats 4000000
set_option linter.unusedSimpArgs false
set_option linter.unusedVariables false
open Go Go.Zv
open Go.Geo
end Go.Proofs.Ytnecdcaaknhgpaa.G

namespace Go.Proofs.Ytnecdcaaknhgpaa.G
set_option maxRecDepth 100000
set_option maxHeartbeats 4000000
set_option linter.unusedSimpArgs false
set_option linter.unusedVariables false
open Go Go.Zv
open Go.Geo
def nm1 (l : List Plc) (k : Nat) : List (List LV) := (l.take k).map fun p => t1 p.nm
end Go.Proofs.Ytnecdcaaknhgpaa.G

namespace Go.Proofs.Ytnecdcaaknhgpaa.G
set_option maxRecDepth 100000
set_option maxHeartbeats 4000000
set_option linter.unusedSimpArgs false
set_option linter.unusedVariables false
open Go Go.Zv
open Go.Geo
def pn1 (l : List Prt) (k : Nat) : List (List LV) := (l.take k).map fun p => t1 p.nm
def pa1 (l : List Prt) (k : Nat) : List (List LV) := (l.take k).map fun p => c1 p.at_
end Go.Proofs.Ytnecdcaaknhgpaa.G

namespace Go.Geo
set_option maxRecDepth 100000
set_option maxHeartbeats 4000000
set_option linter.unusedSimpArgs false
set_option linter.unusedVariables false
open Go Go.Zv
/-! a polygon cut in two -/
section
variable {a : List Pt} {k : Nat}
def cut1 (a : List Pt) (k : Nat) : List Pt := a.take (k + 1)
def cut2 (a : List Pt) (k : Nat) : List Pt := ptn a 0 :: a.drop k
end
end Go.Geo

namespace Go.Geo
set_option maxRecDepth 100000
set_option maxHeartbeats 4000000
set_option linter.unusedSimpArgs false
set_option linter.unusedVariables false
open Go Go.Zv
end Go.Geo

namespace Go.Geo
set_option maxRecDepth 100000
set_option maxHeartbeats 4000000
set_option linter.unusedSimpArgs false
set_option linter.unusedVariables false
open Go Go.Zv
end Go.Geo

namespace Go.Geo
set_option maxRecDepth 100000
set_option maxHeartbeats 4000000
set_option linter.unusedSimpArgs false
set_option linter.unusedVariables false
open Go Go.Zv
end Go.Geo

namespace Go.Proofs.Ytnecdcaaknhgpaa.G
set_option maxRecDepth 100000
set_option maxHeartbeats 4000000
set_option linter.unusedSimpArgs false
set_option linter.unusedVariables false
open Go Go.Zv
open Go.Geo
def gapI (l m : List (Int × Int)) : Int := if l = [] ∨ m = [] then 0 else
  mxI (mxI (mxI (mxI 0 (w64 ((bbL m).1 - (bbH l).1))) (w64 ((bbL m).2 - (bbH l).2))) (w64 ((bbL l).1 - (bbH m).1))) (w64 ((bbL l).2 - (bbH m).2))
theorem c80 (l m : List (Int × Int)) (hl : l.length < 9223372036854775808) (hm : m.length < 9223372036854775808) : pc E 80 [.vs (l.map c2), .vs (m.map c2)] = some (.int .i64 (gapI l m)) := by
  have e1 : ∀ l : List (Int × Int), (((l.length : Nat) : Int) = 0) = (l = []) := fun l => by
    rw [eq_iff_iff]; constructor
    · intro h; exact List.eq_nil_of_length_eq_zero (by omega)
    · intro h; subst h; rfl
  rw [pc_eq]; simp +contextual -implicitDefEqProofs (maxSteps := 2000000) only [go_sem, ↓reduceIte, E_80, A80, c107 l hl, c107 m hm, List.length_map, e1, c67, gapI]
  repeat' split
  all_goals (try simp_all)
end Go.Proofs.Ytnecdcaaknhgpaa.G

/- The engine, part 32: a call without free variables, evaluated with fuel. -/
namespace Go.Zv
set_option autoImplicit false
theorem pc_of_run {E : FuncId → Option AFn} (n : Nat) {f : FuncId} {args : List LV} {v : LV} (h : pureCall (run E n) f args = some v) : pc E f args = some v :=
  (nice_pure f args).mono (fun _ _ h => Run_iff.2 ⟨n, h⟩) h
end Go.Zv

namespace Go.Proofs.Ytnecdcaaknhgpaa
set_option maxRecDepth 100000
set_option maxHeartbeats 4000000
set_option linter.unusedSimpArgs false
set_option linter.unusedVariables false
open Go Go.Zv
theorem wr_nat {n : Nat} (h : n < 9223372036854775808) : IntKind.i64.wrap (n : Int) = n := by
  simp [IntKind.wrap, IntKind.signed, IntKind.bits]; omega
theorem wr_succ {n : Nat} (h : n + 1 < 9223372036854775808) : IntKind.i64.wrap ((n : Int) + 1) = ((n + 1 : Nat) : Int) := by
  have := wr_nat h; simpa using this
theorem tmod_pos {x n : Int} (h : 0 ≤ x) : x.tmod n = x % n := Int.tmod_eq_emod_of_nonneg h
theorem tmod36 (q : Int) : (if q.tmod 36 < 0 then q.tmod 36 + 36 else q.tmod 36) = q % 36 := by
  by_cases h : 0 ≤ q
  · rw [tmod_pos h]; split <;> omega
  · obtain ⟨p, rfl⟩ : ∃ p : Int, q = -p := ⟨-q, by omega⟩
    rw [Int.neg_tmod, tmod_pos (by omega)]
    split <;> omega
theorem tb36 (q : Int) : -36 < q.tmod 36 ∧ q.tmod 36 < 36 := ⟨Int.lt_tmod_of_pos q (by omega), Int.tmod_lt_of_pos q (by omega)⟩
theorem c120 (q : Int) : pc E 120 [.int .i64 q] = some (.int .i64 (q % 36)) := by
  have h := tmod36 q
  have hb := tb36 q
  have w : IntKind.i64.wrap (q.tmod 36 + 36) = q.tmod 36 + 36 := wrap_small (by omega) (by omega)
  by_cases hc : q.tmod 36 < 0
  · rw [if_pos hc] at h
    have w2 : IntKind.i64.wrap (q % 36) = q % 36 := wrap_small (by omega) (by omega)
    rw [pc_eq]; simp +contextual -implicitDefEqProofs (maxSteps := 2000000) only [go_sem, ↓reduceIte, E_120, A120, hc, w, h, w2]
  · rw [if_neg hc] at h
    rw [h] at hc
    rw [pc_eq]; simp +contextual -implicitDefEqProofs (maxSteps := 2000000) only [go_sem, ↓reduceIte, E_120, A120, h, hc]
theorem c121 : pc E 121 [] = some (.agg [.int .i64 65, .int .i64 0, .int .i64 63, .int .i64 16, .int .i64 60, .int .i64 25, .int .i64 56, .int .i64 33, .int .i64 52, .int .i64 39, .int .i64 39, .int .i64 52, .int .i64 33, .int .i64 56, .int .i64 25, .int .i64 60, .int .i64 16, .int .i64 63]) := by
  rw [pc_eq]; simp +contextual -implicitDefEqProofs (maxSteps := 2000000) only [go_sem, ↓reduceIte, E_121, A121]
theorem c91 (x y : Int) (h1 : -1000000000000 ≤ y) (h2 : y ≤ 1000000000000) : pc E 91 [.agg [.int .i64 x, .int .i64 y]] = some (.agg [.int .i64 (-y), .int .i64 x]) := by
  have w : IntKind.i64.wrap (0 - y) = -y := by rw [wrap_small (by omega) (by omega)]; omega
  rw [pc_eq]; simp +contextual -implicitDefEqProofs (maxSteps := 2000000) only [go_sem, ↓reduceIte, E_91, A91, w]
def cs : Nat → Int × Int
  | 0 => (65, 0) | 1 => (63, 16) | 2 => (60, 25) | 3 => (56, 33) | 4 => (52, 39) | 5 => (39, 52) | 6 => (33, 56) | 7 => (25, 60) | 8 => (16, 63)
  | 9 => (0, 65) | 10 => (-16, 63) | 11 => (-25, 60) | 12 => (-33, 56) | 13 => (-39, 52) | 14 => (-52, 39) | 15 => (-56, 33) | 16 => (-60, 25) | 17 => (-63, 16)
  | 18 => (-65, 0) | 19 => (-63, -16) | 20 => (-60, -25) | 21 => (-56, -33) | 22 => (-52, -39) | 23 => (-39, -52) | 24 => (-33, -56) | 25 => (-25, -60) | 26 => (-16, -63)
  | 27 => (0, -65) | 28 => (16, -63) | 29 => (25, -60) | 30 => (33, -56) | 31 => (39, -52) | 32 => (52, -39) | 33 => (56, -33) | 34 => (60, -25) | 35 => (63, -16)
  | _ => (65, 0)
def csI (q : Int) : Int × Int := cs (q % 36).toNat
theorem cases36 {k : Int} (h1 : 0 ≤ k) (h2 : k < 36) : k = 0 ∨ k = 1 ∨ k = 2 ∨ k = 3 ∨ k = 4 ∨ k = 5 ∨ k = 6 ∨ k = 7 ∨ k = 8 ∨ k = 9 ∨ k = 10 ∨ k = 11 ∨ k = 12 ∨ k = 13 ∨ k = 14 ∨ k = 15 ∨ k = 16 ∨ k = 17 ∨ k = 18 ∨ k = 19 ∨ k = 20 ∨ k = 21 ∨ k = 22 ∨ k = 23 ∨ k = 24 ∨ k = 25 ∨ k = 26 ∨ k = 27 ∨ k = 28 ∨ k = 29 ∨ k = 30 ∨ k = 31 ∨ k = 32 ∨ k = 33 ∨ k = 34 ∨ k = 35 := by omega
theorem left_ok (x y : Int) (h1 : -65 ≤ y) (h2 : y ≤ 65) : pc E 91 [.agg [.int .i64 x, .int .i64 y]] = some (.agg [.int .i64 (-y), .int .i64 x]) := c91 x y (by omega) (by omega)
end Go.Proofs.Ytnecdcaaknhgpaa

namespace Go.Proofs.Ytnecdcaaknhgpaa
set_option maxRecDepth 100000
set_option maxHeartbeats 4000000
set_option linter.unusedSimpArgs false
set_option linter.unusedVariables false
open Go Go.Zv
theorem c109 (q : Int) : pc E 109 [.int .i64 q] = some (.tup [.int .i64 (csI q).1, .int .i64 (csI q).2]) := by
  have h := c120 q
  have h1 : 0 ≤ q % 36 := by omega
  have h2 : q % 36 < 36 := by omega
  unfold csI
  generalize q % 36 = k at *
  rcases cases36 h1 h2 with rfl | rfl | rfl | rfl | rfl | rfl | rfl | rfl | rfl | rfl | rfl | rfl | rfl | rfl | rfl | rfl | rfl | rfl | rfl | rfl | rfl | rfl | rfl | rfl | rfl | rfl | rfl | rfl | rfl | rfl | rfl | rfl | rfl | rfl | rfl | rfl <;>
    (rw [pc_eq]; simp +contextual -implicitDefEqProofs (maxSteps := 2000000) only [go_sem, ↓reduceIte, E_109, A109, h, c121, A109_L0_eq, A109_L0b, Int.reduceTDiv, Int.reduceTMod, left_ok, Int.neg_neg]) <;> rfl
end Go.Proofs.Ytnecdcaaknhgpaa

namespace Go.Proofs.Ytnecdcaaknhgpaa
set_option maxRecDepth 100000
set_option maxHeartbeats 4000000
set_option linter.unusedSimpArgs false
set_option linter.unusedVariables false
open Go Go.Zv
theorem sq_nn (x : Int) : 0 ≤ x * x := by
  rcases Int.lt_or_le x 0 with h | h
  · have := Int.mul_nonneg (show 0 ≤ -x by omega) (show 0 ≤ -x by omega); rwa [Int.neg_mul_neg] at this
  · exact Int.mul_nonneg h h
theorem sq_lt {r x : Int} (hr : 0 ≤ r) (h : r < x) : r * r < x * x := by
  have h1 : r * r ≤ r * x := Int.mul_le_mul_of_nonneg_left (by omega) hr
  have h2 : r * x < x * x := Int.mul_lt_mul_of_pos_right h (by omega)
  omega
theorem abs_of_sq {x r : Int} (hr : 0 ≤ r) (h : x * x ≤ r * r) : -r ≤ x ∧ x ≤ r := by
  constructor
  · refine Int.not_lt.1 fun hx => ?_
    have h1 : r * r < (-x) * (-x) := sq_lt hr (by omega)
    rw [Int.neg_mul_neg] at h1; omega
  · refine Int.not_lt.1 fun hx => ?_
    have h1 : r * r < x * x := sq_lt hr hx
    omega
structure VD (x y r : Int) : Prop where
  r0 : 0 ≤ r
  eq : x * x + y * y = r * r
theorem VD.x {x y r : Int} (h : VD x y r) : -r ≤ x ∧ x ≤ r := abs_of_sq h.r0 (by have := sq_nn y; have := h.eq; omega)
theorem VD.y {x y r : Int} (h : VD x y r) : -r ≤ y ∧ y ≤ r := abs_of_sq h.r0 (by have := sq_nn x; have := h.eq; omega)
theorem cs_norm (k : Nat) : (cs k).1 * (cs k).1 + (cs k).2 * (cs k).2 = 65 * 65 := by
  unfold cs; split <;> rfl
theorem csI_norm (q : Int) : (csI q).1 * (csI q).1 + (csI q).2 * (csI q).2 = 65 * 65 := cs_norm _
theorem csV (q : Int) : VD (csI q).1 (csI q).2 65 := ⟨by omega, csI_norm q⟩
theorem VD.mul {x y r c s t : Int} (h : VD x y r) (k : VD c s t) : VD (x * c - y * s) (x * s + y * c) (r * t) := by
  refine ⟨Int.mul_nonneg h.r0 k.r0, ?_⟩
  have e : (x * c - y * s) * (x * c - y * s) + (x * s + y * c) * (x * s + y * c) = (x * x + y * y) * (c * c + s * s) := by grind
  rw [e, h.eq, k.eq]; grind
theorem c86_0 : pc E 86 [.int .i64 0] = some (.int .i64 1) := by rw [pc_eq]; simp +contextual -implicitDefEqProofs (maxSteps := 2000000) only [go_sem, ↓reduceIte, E_86, A86, A86_L0_eq, A86_L0b]
theorem c86_1 : pc E 86 [.int .i64 1] = some (.int .i64 65) := by rw [pc_eq]; simp +contextual -implicitDefEqProofs (maxSteps := 2000000) only [go_sem, ↓reduceIte, E_86, A86, A86_L0_eq, A86_L0b]
theorem c86_2 : pc E 86 [.int .i64 2] = some (.int .i64 4225) := by rw [pc_eq]; simp +contextual -implicitDefEqProofs (maxSteps := 2000000) only [go_sem, ↓reduceIte, E_86, A86, A86_L0_eq, A86_L0b]
theorem c86_3 : pc E 86 [.int .i64 3] = some (.int .i64 274625) := by rw [pc_eq]; simp +contextual -implicitDefEqProofs (maxSteps := 2000000) only [go_sem, ↓reduceIte, E_86, A86, A86_L0_eq, A86_L0b]
def p65 : Nat → Int
  | 0 => 1 | 1 => 65 | 2 => 4225 | _ => 274625
theorem c86 (n : Nat) (h : n ≤ 3) : pc E 86 [.int .i64 n] = some (.int .i64 (p65 n)) := by
  rcases (show n = 0 ∨ n = 1 ∨ n = 2 ∨ n = 3 by omega) with rfl | rfl | rfl | rfl
  · exact c86_0
  · exact c86_1
  · exact c86_2
  · exact c86_3
theorem p65_bd (n : Nat) : 1 ≤ p65 n ∧ p65 n ≤ 274625 := by unfold p65; split <;> omega
theorem p65_succ {n : Nat} (h : n ≤ 2) : p65 n * 65 = p65 (n + 1) := by
  rcases (show n = 0 ∨ n = 1 ∨ n = 2 by omega) with rfl | rfl | rfl <;> rfl
theorem mul_bd {x y A C : Int} (h1 : -A ≤ x) (h2 : x ≤ A) (h3 : -C ≤ y) (h4 : y ≤ C) : -(A * C) ≤ x * y ∧ x * y ≤ A * C := by
  have a1 : 0 ≤ A := by omega
  have b1 : 0 ≤ C := by omega
  have e1 := Int.mul_nonneg (show 0 ≤ A - x by omega) (show 0 ≤ C + y by omega)
  have e2 := Int.mul_nonneg (show 0 ≤ A + x by omega) (show 0 ≤ C - y by omega)
  have e3 := Int.mul_nonneg (show 0 ≤ A - x by omega) (show 0 ≤ C - y by omega)
  have e4 := Int.mul_nonneg (show 0 ≤ A + x by omega) (show 0 ≤ C + y by omega)
  constructor <;> grind
theorem c83 (x y q : Int) (hx : -274625 ≤ x ∧ x ≤ 274625) (hy : -274625 ≤ y ∧ y ≤ 274625) : pc E 83 [.agg [.int .i64 x, .int .i64 y], .int .i64 q] = some (.agg [.int .i64 (x * (csI q).1 - y * (csI q).2), .int .i64 (x * (csI q).2 + y * (csI q).1)]) := by
  have h := c109 q
  have v := csV q
  have b1 := v.x
  have b2 := v.y
  generalize (csI q).1 = c at *
  generalize (csI q).2 = s at *
  have m1 := mul_bd hx.1 hx.2 b1.1 b1.2
  have m2 := mul_bd hx.1 hx.2 b2.1 b2.2
  have m3 := mul_bd hy.1 hy.2 b1.1 b1.2
  have m4 := mul_bd hy.1 hy.2 b2.1 b2.2
  have w1 : IntKind.i64.wrap (x * c) = x * c := wrap_small (by omega) (by omega)
  have w2 : IntKind.i64.wrap (x * s) = x * s := wrap_small (by omega) (by omega)
  have w3 : IntKind.i64.wrap (y * c) = y * c := wrap_small (by omega) (by omega)
  have w4 : IntKind.i64.wrap (y * s) = y * s := wrap_small (by omega) (by omega)
  have w5 : IntKind.i64.wrap (x * c - y * s) = x * c - y * s := wrap_small (by omega) (by omega)
  have w6 : IntKind.i64.wrap (x * s + y * c) = x * s + y * c := wrap_small (by omega) (by omega)
  rw [pc_eq]; simp +contextual -implicitDefEqProofs (maxSteps := 2000000) only [go_sem, ↓reduceIte, E_83, A83, h, w1, w2, w3, w4, w5, w6]
end Go.Proofs.Ytnecdcaaknhgpaa
