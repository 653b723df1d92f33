/- Part of the proof: the evaluation of the program's code and its tie to the machine, or what functions of the program compute over it. -/
import Derived.Test.YtnecdcaaknhgpaaEng6
set_option maxRecDepth 100000
set_option maxHeartbeats 4000000
set_option linter.unusedSimpArgs false
set_option linter.unusedVariables false
namespace Go.Proofs.Ytnecdcaaknhgpaa
open Go Go.Zv
def A13_L0b : ACode :=
(.seq (
(.seq (
.reg none [
s_ 130 (.mv (.t 21)),
s_ 131 (.bin .lss (.t 130) (.c (.int .i64 6)))] (some [2, 3, 4, 7, 8, 9, 13, 18, 19, 20, 21, 131]) []) (
(.cond (.t 131) (
.skip) (
.exit 14))))) (
(.seq (
(.block 15 (
.reg (some [.free, .free, .dr [] [], .dr [] [], .free, .free, .free, .dr [152, 154, 156] [], .dr [152, 154, 156] [], .dr [152, 154, 156] [], .dr [143, 152, 154, 156] [], .dr [143, 152, 154, 156] [], .dr [143, 148, 152, 154, 156] [], .dr [143, 148, 152, 154, 156] [], .dr [152, 154, 156] [], .dr [152, 154, 156] [], .dr [152, 154, 156] [], .dr [143, 148, 150] [], .dr [143, 148, 150] [], .dr [143, 148, 150, 152] [], .dr [143, 148, 150] [], .dr [143, 148, 150] [], .dr [143, 148, 150] [], .free, .free, .free, .free]) [
s_ 134 (.mv (.t 20)),
s_ 135 (.mv (.t 134)),
⟨some 136, .mv (.t 2), some (135, false), true⟩,
⟨some 137, .mv (.t 19), some (135, false), true⟩,
⟨some 138, .ias 1 (.t 136) (.t 137), some (135, false), true⟩,
⟨some 139, .load false 1 (.t 138), some (135, false), true⟩,
⟨some 140, .mv (.t 139), some (135, false), true⟩,
⟨some 141, .mv (.t 18), some (140, true), true⟩,
⟨some 142, .iaa 2 1 (.t 9) (.t 141), some (140, true), true⟩,
⟨some 143, .load false 1 (.t 142), some (140, true), true⟩,
⟨some 144, .mv (.t 21), some (140, true), true⟩,
⟨some 145, .bin .quo (.t 144) (.c (.int .i64 3)), some (140, true), true⟩,
⟨some 146, .mv (.t 21), some (140, true), true⟩,
⟨some 147, .bin .rem (.t 146) (.c (.int .i64 3)), some (140, true), true⟩,
⟨some 148, .ias 3 (.t 143) (.t 145), some (140, true), true⟩,
⟨some 149, .iaa 3 1 (.t 148) (.t 147), some (140, true), true⟩,
⟨some 150, .load false 1 (.t 149), some (140, true), true⟩,
⟨some 151, .fad 41 (.t 3), some (140, true), true⟩,
⟨some 152, .load false 1 (.t 151), some (140, true), true⟩,
⟨some 153, .mv (.t 19), some (140, true), true⟩,
⟨some 154, .ias 1 (.t 152) (.t 153), some (140, true), true⟩,
⟨some 155, .fad 0 (.t 154), some (140, true), true⟩,
⟨some 156, .load false 1 (.t 155), some (140, true), true⟩,
⟨some 157, .call 37 [.t 150, .t 156], some (140, true), true⟩,
⟨some 158, .pick (.t 140) (.t 157) (.c (.bool false)), some (135, false), true⟩,
s_ 159 (.pick (.t 135) (.c (.bool true)) (.t 158)),
s_ 20 (.as (.t 159))] (some [2, 3, 4, 7, 8, 9, 13, 18, 19, 20, 21]) []) (some [2, 3, 4, 7, 8, 9, 13, 18, 19, 20, 21]) [])) (
.reg none [
s_ 132 (.mv (.t 21)),
s_ 133 (.bin .add (.t 132) (.c (.int .i64 1))),
s_ 21 (.as (.t 133))] (some [2, 3, 4, 7, 8, 9, 13, 18, 19, 20, 21]) []))))
def A13_L0 : ACode := .loop A13_L0b (some [2, 3, 4, 7, 8, 9, 13, 18, 19, 20, 21]) []
def A13_L1b : ACode :=
(.seq (
(.seq (
.reg none [
s_ 123 (.mv (.t 19)),
s_ 124 (.fad 41 (.t 3)),
s_ 125 (.load false 1 (.t 124)),
s_ 126 (.len 0 (.t 125)),
s_ 127 (.bin .lss (.t 123) (.t 126))] (some [2, 3, 4, 7, 8, 9, 13, 18, 19, 127]) []) (
(.cond (.t 127) (
.skip) (
.exit 12))))) (
(.seq (
(.block 13 (
(.seq (
.reg none [
s_ 20 (.as (.c (.bool false)))] (some [2, 3, 4, 7, 8, 9, 13, 18, 19, 20]) []) (
(.seq (
(.seq (
.reg none [
s_ 21 (.as (.c (i0_)))] (some [2, 3, 4, 7, 8, 9, 13, 18, 19, 20, 21]) []) (
(.block 14 (
A13_L0) (some [2, 3, 4, 7, 8, 9, 13, 18, 19, 20]) [21])))) (
(.seq (
.reg none [
s_ 160 (.mv (.t 20)),
s_ 161 (.mv (.t 8)),
s_ 162 (.mv (.t 18)),
s_ 163 (.mv (.t 19)),
s_ 164 (.build [i0_, i0_, i0_, i0_] [(0, 1, .c (.int .i64 3)), (1, 1, .t 162), (3, 1, .t 163)]),
s_ 165 (.call 43 [.t 161, .t 164]),
s_ 166 (.bib true (.t 160) (.t 165))] (some [2, 3, 4, 7, 8, 9, 13, 18, 19, 166]) []) (
(.cond (.t 166) (
(.seq (
.reg none [
s_ 6 (.as (.c (.bool false)))] (some [6]) []) (
.ret))) (
.skip))))))))) (some [2, 3, 4, 7, 8, 9, 13, 18, 19]) [6, 20, 21, 157, 165])) (
.reg none [
s_ 128 (.mv (.t 19)),
s_ 129 (.bin .add (.t 128) (.c (.int .i64 1))),
s_ 19 (.as (.t 129))] (some [2, 3, 4, 7, 8, 9, 13, 18, 19]) []))))
def A13_L1 : ACode := .loop A13_L1b (some [2, 3, 4, 7, 8, 9, 13, 18, 19]) [6, 20, 21, 157, 165]
def A13_L2b : ACode :=
(.seq (
(.seq (
.reg none [
s_ 119 (.mv (.t 18)),
s_ 120 (.bin .lss (.t 119) (.c (.int .i64 2)))] (some [2, 3, 4, 7, 8, 9, 13, 18, 120]) []) (
(.cond (.t 120) (
.skip) (
.exit 10))))) (
(.seq (
(.block 11 (
(.seq (
.reg none [
s_ 19 (.as (.c (i0_)))] (some [2, 3, 4, 7, 8, 9, 13, 18, 19]) []) (
(.block 12 (
A13_L1) (some [2, 3, 4, 7, 8, 9, 13, 18]) [6, 19, 20, 21, 157, 165])))) (some [2, 3, 4, 7, 8, 9, 13, 18]) [6, 19, 20, 21, 157, 165])) (
.reg none [
s_ 121 (.mv (.t 18)),
s_ 122 (.bin .add (.t 121) (.c (.int .i64 1))),
s_ 18 (.as (.t 122))] (some [2, 3, 4, 7, 8, 9, 13, 18]) []))))
def A13_L2 : ACode := .loop A13_L2b (some [2, 3, 4, 7, 8, 9, 13, 18]) [6, 19, 20, 21, 157, 165]
def A13_L3b : ACode :=
(.seq (
(.seq (
.reg none [
s_ 97 (.mv (.t 17)),
s_ 98 (.bin .lss (.t 97) (.c (.int .i64 3)))] (some [2, 3, 4, 7, 8, 9, 13, 14, 15, 16, 17, 98]) []) (
(.cond (.t 98) (
.skip) (
.exit 8))))) (
(.seq (
(.block 9 (
.reg (some [.free, .free, .dr [111, 114, 116] [], .dr [111, 114, 116] [], .dr [104, 111, 114, 116] [], .dr [104, 107, 111, 114, 116] [], .dr [111, 114, 116] [], .dr [111, 114, 116] [], .dr [111, 114, 116] [], .dr [104, 107, 109] [], .dr [104, 107, 109] [], .dr [104, 107, 109, 111] [], .dr [104, 107, 109, 111, 114] [], .dr [104, 107, 109] [], .dr [104, 107, 109] [], .dr [104, 107, 109] [], .free, .free, .free]) [
s_ 101 (.mv (.t 13)),
s_ 102 (.mv (.t 101)),
⟨some 103, .iaa 2 1 (.t 9) (.c (i0_)), some (102, false), true⟩,
⟨some 104, .load false 1 (.t 103), some (102, false), true⟩,
⟨some 105, .mv (.t 14), some (102, false), true⟩,
⟨some 106, .mv (.t 15), some (102, false), true⟩,
⟨some 107, .ias 3 (.t 104) (.t 105), some (102, false), true⟩,
⟨some 108, .iaa 3 1 (.t 107) (.t 106), some (102, false), true⟩,
⟨some 109, .load false 1 (.t 108), some (102, false), true⟩,
⟨some 110, .iaa 2 1 (.t 9) (.c (.int .i64 1)), some (102, false), true⟩,
⟨some 111, .load false 1 (.t 110), some (102, false), true⟩,
⟨some 112, .mv (.t 16), some (102, false), true⟩,
⟨some 113, .mv (.t 17), some (102, false), true⟩,
⟨some 114, .ias 3 (.t 111) (.t 112), some (102, false), true⟩,
⟨some 115, .iaa 3 1 (.t 114) (.t 113), some (102, false), true⟩,
⟨some 116, .load false 1 (.t 115), some (102, false), true⟩,
⟨some 117, .call 37 [.t 109, .t 116], some (102, false), true⟩,
s_ 118 (.pick (.t 102) (.c (.bool true)) (.t 117)),
s_ 13 (.as (.t 118))] (some [2, 3, 4, 7, 8, 9, 13, 14, 15, 16, 17]) []) (some [2, 3, 4, 7, 8, 9, 13, 14, 15, 16, 17]) [])) (
.reg none [
s_ 99 (.mv (.t 17)),
s_ 100 (.bin .add (.t 99) (.c (.int .i64 1))),
s_ 17 (.as (.t 100))] (some [2, 3, 4, 7, 8, 9, 13, 14, 15, 16, 17]) []))))
def A13_L3 : ACode := .loop A13_L3b (some [2, 3, 4, 7, 8, 9, 13, 14, 15, 16, 17]) []
def A13_L4b : ACode :=
(.seq (
(.seq (
.reg none [
s_ 93 (.mv (.t 16)),
s_ 94 (.bin .lss (.t 93) (.c (.int .i64 2)))] (some [2, 3, 4, 7, 8, 9, 13, 14, 15, 16, 94]) []) (
(.cond (.t 94) (
.skip) (
.exit 6))))) (
(.seq (
(.block 7 (
(.seq (
.reg none [
s_ 17 (.as (.c (i0_)))] (some [2, 3, 4, 7, 8, 9, 13, 14, 15, 16, 17]) []) (
(.block 8 (
A13_L3) (some [2, 3, 4, 7, 8, 9, 13, 14, 15, 16]) [17])))) (some [2, 3, 4, 7, 8, 9, 13, 14, 15, 16]) [17])) (
.reg none [
s_ 95 (.mv (.t 16)),
s_ 96 (.bin .add (.t 95) (.c (.int .i64 1))),
s_ 16 (.as (.t 96))] (some [2, 3, 4, 7, 8, 9, 13, 14, 15, 16]) []))))
def A13_L4 : ACode := .loop A13_L4b (some [2, 3, 4, 7, 8, 9, 13, 14, 15, 16]) [17]
def A13_L5b : ACode :=
(.seq (
(.seq (
.reg none [
s_ 89 (.mv (.t 15)),
s_ 90 (.bin .lss (.t 89) (.c (.int .i64 3)))] (some [2, 3, 4, 7, 8, 9, 13, 14, 15, 90]) []) (
(.cond (.t 90) (
.skip) (
.exit 4))))) (
(.seq (
(.block 5 (
(.seq (
.reg none [
s_ 16 (.as (.c (i0_)))] (some [2, 3, 4, 7, 8, 9, 13, 14, 15, 16]) []) (
(.block 6 (
A13_L4) (some [2, 3, 4, 7, 8, 9, 13, 14, 15]) [16, 17])))) (some [2, 3, 4, 7, 8, 9, 13, 14, 15]) [16, 17])) (
.reg none [
s_ 91 (.mv (.t 15)),
s_ 92 (.bin .add (.t 91) (.c (.int .i64 1))),
s_ 15 (.as (.t 92))] (some [2, 3, 4, 7, 8, 9, 13, 14, 15]) []))))
def A13_L5 : ACode := .loop A13_L5b (some [2, 3, 4, 7, 8, 9, 13, 14, 15]) [16, 17]
def A13_L6b : ACode :=
(.seq (
(.seq (
.reg none [
s_ 85 (.mv (.t 14)),
s_ 86 (.bin .lss (.t 85) (.c (.int .i64 2)))] (some [2, 3, 4, 7, 8, 9, 13, 14, 86]) []) (
(.cond (.t 86) (
.skip) (
.exit 2))))) (
(.seq (
(.block 3 (
(.seq (
.reg none [
s_ 15 (.as (.c (i0_)))] (some [2, 3, 4, 7, 8, 9, 13, 14, 15]) []) (
(.block 4 (
A13_L5) (some [2, 3, 4, 7, 8, 9, 13, 14]) [15, 16, 17])))) (some [2, 3, 4, 7, 8, 9, 13, 14]) [15, 16, 17])) (
.reg none [
s_ 87 (.mv (.t 14)),
s_ 88 (.bin .add (.t 87) (.c (.int .i64 1))),
s_ 14 (.as (.t 88))] (some [2, 3, 4, 7, 8, 9, 13, 14]) []))))
def A13_L6 : ACode := .loop A13_L6b (some [2, 3, 4, 7, 8, 9, 13, 14]) [15, 16, 17]
def A13_L7b : ACode :=
(.seq (
(.seq (
.reg none [
s_ 39 (.mv (.t 10)),
s_ 40 (.bin .lss (.t 39) (.c (.int .i64 2)))] (some [2, 3, 4, 7, 8, 9, 10, 40]) []) (
(.cond (.t 40) (
.skip) (
.exit 0))))) (
(.seq (
(.block 1 (
(.seq (
.reg none [
s_ 44 (.mv (.t 10)),
s_ 45 (.iaa 2 3 (.t 4) (.t 44)),
s_ 46 (.load true 3 (.t 45)),
s_ 47 (.call 39 [.t 46]),
s_ 43 (.mv (.t 47)),
s_ 48 (.ext (.t 43) 0),
s_ 49 (.ext (.t 43) 1),
s_ 11 (.alloc [i0_, i0_, i0_]),
s_ 12 (.alloc [i0_, i0_, i0_]),
n_ (.store 3 (.t 11) (.t 48)),
n_ (.store 3 (.t 12) (.t 49))] (some [2, 3, 4, 7, 8, 9, 10, 11, 12]) []) (
(.seq (
(.seq (
.reg (some [.dr [54] [], .dr [54] [], .dr [54] [], .dr [54] [], .dr [53] [], .free, .free, .free, .dr [62] [], .dr [62] [], .dr [62] [], .dr [62] [], .dr [61] [], .free, .free, .free]) [
s_ 50 (.mv (.t 10)),
s_ 51 (.fad 0 (.t 3)),
s_ 52 (.iaa 2 12 (.t 51) (.t 50)),
s_ 53 (.load true 12 (.t 52)),
s_ 54 (.load true 3 (.t 11)),
s_ 55 (.call 17 [.t 53, .t 54]),
s_ 56 (.un .not (.t 55)),
s_ 57 (.mv (.t 56)),
⟨some 58, .mv (.t 10), some (57, false), true⟩,
⟨some 59, .fad 0 (.t 3), some (57, false), true⟩,
⟨some 60, .iaa 2 12 (.t 59) (.t 58), some (57, false), true⟩,
⟨some 61, .load true 12 (.t 60), some (57, false), true⟩,
⟨some 62, .load true 3 (.t 12), some (57, false), true⟩,
⟨some 63, .call 17 [.t 61, .t 62], some (57, false), true⟩,
⟨some 64, .un .not (.t 63), some (57, false), true⟩,
s_ 65 (.pick (.t 57) (.c (.bool true)) (.t 64))] (some [2, 3, 4, 7, 8, 9, 10, 11, 12, 65]) []) (
(.cond (.t 65) (
(.seq (
.reg none [
s_ 6 (.as (.c (.bool false)))] (some [6]) []) (
.ret))) (
.skip))))) (
.reg (some [.loc, .loc, .loc, .loc, .loc, .loc, .loc, .loc, .loc, .dr [73, 74, 75, 79, 80, 81, 82] [], .dr [69, 74, 79, 80] [], .dr [69, 73, 79, 80] [], .dr [69, 79, 80] [], .dr [69, 73, 74, 75, 80] [], .dr [69, 73, 74, 75, 79] [], .dr [69] [], .dr [69] [], .free, .free, .free]) [
s_ 66 (.mv (.t 10)),
s_ 67 (.mv (.t 10)),
s_ 68 (.iaa 2 1 (.t 9) (.t 67)),
s_ 70 (.mv (.t 10)),
s_ 71 (.fad 0 (.t 3)),
s_ 72 (.iaa 2 12 (.t 71) (.t 70)),
s_ 76 (.mv (.t 10)),
s_ 77 (.fad 0 (.t 3)),
s_ 78 (.iaa 2 12 (.t 77) (.t 76)),
s_ 69 (.load false 1 (.t 68)),
s_ 73 (.load true 12 (.t 72)),
s_ 74 (.load true 3 (.t 11)),
s_ 75 (.call 20 [.t 73, .t 74]),
s_ 79 (.load true 12 (.t 78)),
s_ 80 (.load true 3 (.t 12)),
s_ 81 (.call 20 [.t 79, .t 80]),
s_ 82 (.bsl 3 2 [.nils 2, .nils 2, .nils 2] [(0, .t 75), (1, .t 81)]),
s_ 83 (.app 3 (.t 69) (.t 82)),
s_ 84 (.iaa 2 1 (.t 9) (.t 66)),
n_ (.store 1 (.t 84) (.t 83))] (some [2, 3, 4, 7, 8, 9, 10]) [11, 12]))))) (some [2, 3, 4, 7, 8, 9, 10]) [6, 11, 12, 47, 55, 63, 75, 81, 82, 83])) (
.reg none [
s_ 41 (.mv (.t 10)),
s_ 42 (.bin .add (.t 41) (.c (.int .i64 1))),
s_ 10 (.as (.t 42))] (some [2, 3, 4, 7, 8, 9, 10]) []))))
def A13_L7 : ACode := .loop A13_L7b (some [2, 3, 4, 7, 8, 9, 10]) [6, 11, 12, 47, 55, 63, 75, 81, 82, 83]
def A13 : AFn := .code [.t 6] (
(.seq (
.reg none [
s_ 3 (.box (.t 0)),
s_ 4 (.box (.t 1)),
s_ 6 (.as (.c (.bool false)))] (some [2, 3, 4]) []) (
(.seq (
.reg none [
s_ 22 (.call 38 []),
s_ 7 (.as (.t 22))] (some [2, 3, 4, 7]) []) (
(.seq (
(.seq (
.reg none [
s_ 23 (.load true 44 (.t 3)),
s_ 24 (.load true 6 (.t 4)),
s_ 25 (.mv (.t 2)),
s_ 26 (.call 40 [.t 23, .t 24, .t 25]),
s_ 27 (.un .not (.t 26))] (some [2, 3, 4, 7, 27]) []) (
(.cond (.t 27) (
(.seq (
.reg none [
s_ 28 (.mv (.t 7)),
s_ 6 (.as (.t 28))] (some [6]) []) (
.ret))) (
.skip))))) (
(.seq (
.reg none [
s_ 29 (.fad 42 (.t 3)),
s_ 30 (.load false 1 (.t 29)),
s_ 31 (.mx [.c (.int .i64 1), .t 30]),
s_ 32 (.fad 42 (.t 3)),
n_ (.store 1 (.t 32) (.t 31))] (some [2, 3, 4, 7]) []) (
(.seq (
.reg none [
s_ 33 (.load true 44 (.t 3)),
s_ 34 (.load true 6 (.t 4)),
s_ 35 (.load true 6 (.t 4)),
s_ 36 (.mv (.t 2)),
s_ 37 (.call 41 [.t 33, .t 34, .t 35, .t 36]),
s_ 8 (.as (.t 37))] (some [2, 3, 4, 7, 8]) []) (
(.seq (
.reg none [
s_ 38 (.build [.nils 3, .nils 3] []),
s_ 9 (.alloc [.nils 3, .nils 3]),
n_ (.store 2 (.t 9) (.t 38))] (some [2, 3, 4, 7, 8, 9]) []) (
(.seq (
(.seq (
.reg none [
s_ 10 (.as (.c (i0_)))] (some [2, 3, 4, 7, 8, 9, 10]) []) (
(.block 0 (
A13_L7) (some [2, 3, 4, 7, 8, 9]) [6, 10, 11, 12, 47, 55, 63, 75, 81, 82, 83])))) (
(.seq (
.reg none [
s_ 13 (.as (.c (.bool false)))] (some [2, 3, 4, 7, 8, 9, 13]) []) (
(.seq (
(.seq (
.reg none [
s_ 14 (.as (.c (i0_)))] (some [2, 3, 4, 7, 8, 9, 13, 14]) []) (
(.block 2 (
A13_L6) (some [2, 3, 4, 7, 8, 9, 13]) [14, 15, 16, 17])))) (
(.seq (
(.seq (
.reg none [
s_ 18 (.as (.c (i0_)))] (some [2, 3, 4, 7, 8, 9, 13, 18]) []) (
(.block 10 (
A13_L2) (some [3, 4, 7, 13]) [6, 18, 19, 20, 21, 157, 165])))) (
(.seq (
.reg none [
s_ 167 (.mv (.t 7)),
s_ 168 (.mv (.t 167)),
⟨some 169, .mv (.t 13), some (168, true), true⟩,
⟨some 170, .un .not (.t 169), some (168, true), true⟩,
⟨some 171, .mv (.t 170), some (168, true), true⟩,
⟨some 172, .load true 44 (.t 3), some (171, false), true⟩,
⟨some 173, .load true 6 (.t 4), some (171, false), true⟩,
⟨some 174, .call 44 [.t 172, .t 173], some (171, false), true⟩,
⟨some 175, .un .not (.t 174), some (171, false), true⟩,
⟨some 176, .pick (.t 171) (.c (.bool true)) (.t 175), some (168, true), true⟩,
s_ 177 (.pick (.t 168) (.t 176) (.c (.bool false))),
s_ 6 (.as (.t 177))] (some [6]) [3, 4]) (
.ret)))))))))))))))))))))))
def A16_L0b : ACode :=
(.seq (
(.seq (
.reg none [
s_ 33 (.mv (.t 4)),
s_ 34 (.bin .lss (.t 33) (.c (.int .i64 3)))] (some [1, 3, 4, 34]) []) (
(.cond (.t 34) (
.skip) (
.exit 0))))) (
(.seq (
(.block 1 (
(.seq (
(.seq (
.reg (some [.dr [] [], .dr [] [], .free, .free, .free, .free, .dr [] [], .dr [] [], .free, .free, .free, .free, .free, .dr [] [], .dr [] [], .free, .free, .free, .free, .free, .dr [] [], .dr [] [], .free, .free, .free, .free, .free, .dr [] [], .dr [] [], .free, .free, .free, .free, .free, .dr [] [], .dr [] [], .free, .free, .free, .free, .free, .dr [85] [], .dr [85] [], .dr [85] [], .dr [85] [], .dr [81] [], .dr [81] [], .dr [81] [], .dr [81] [], .free, .free]) [
s_ 37 (.mv (.t 4)),
s_ 38 (.fad 2 (.t 1)),
s_ 39 (.iaa 3 1 (.t 38) (.t 37)),
s_ 40 (.load false 1 (.t 39)),
s_ 41 (.bin .lss (.t 40) (.c (.int .i64 1))),
s_ 42 (.mv (.t 41)),
⟨some 43, .mv (.t 4), some (42, false), true⟩,
⟨some 44, .fad 2 (.t 1), some (42, false), true⟩,
⟨some 45, .iaa 3 1 (.t 44) (.t 43), some (42, false), true⟩,
⟨some 46, .load false 1 (.t 45), some (42, false), true⟩,
⟨some 47, .bin .gtr (.t 46) (.c (.int .i64 40)), some (42, false), true⟩,
s_ 48 (.pick (.t 42) (.c (.bool true)) (.t 47)),
s_ 49 (.mv (.t 48)),
⟨some 50, .mv (.t 4), some (49, false), true⟩,
⟨some 51, .fad 6 (.t 1), some (49, false), true⟩,
⟨some 52, .iaa 3 1 (.t 51) (.t 50), some (49, false), true⟩,
⟨some 53, .load false 1 (.t 52), some (49, false), true⟩,
⟨some 54, .bin .lss (.t 53) (.c (.int .i64 (-17))), some (49, false), true⟩,
s_ 55 (.pick (.t 49) (.c (.bool true)) (.t 54)),
s_ 56 (.mv (.t 55)),
⟨some 57, .mv (.t 4), some (56, false), true⟩,
⟨some 58, .fad 6 (.t 1), some (56, false), true⟩,
⟨some 59, .iaa 3 1 (.t 58) (.t 57), some (56, false), true⟩,
⟨some 60, .load false 1 (.t 59), some (56, false), true⟩,
⟨some 61, .bin .gtr (.t 60) (.c (.int .i64 18)), some (56, false), true⟩,
s_ 62 (.pick (.t 56) (.c (.bool true)) (.t 61)),
s_ 63 (.mv (.t 62)),
⟨some 64, .mv (.t 4), some (63, false), true⟩,
⟨some 65, .fad 9 (.t 1), some (63, false), true⟩,
⟨some 66, .iaa 3 1 (.t 65) (.t 64), some (63, false), true⟩,
⟨some 67, .load false 1 (.t 66), some (63, false), true⟩,
⟨some 68, .bin .lss (.t 67) (.c (.int .i64 (-17))), some (63, false), true⟩,
s_ 69 (.pick (.t 63) (.c (.bool true)) (.t 68)),
s_ 70 (.mv (.t 69)),
⟨some 71, .mv (.t 4), some (70, false), true⟩,
⟨some 72, .fad 9 (.t 1), some (70, false), true⟩,
⟨some 73, .iaa 3 1 (.t 72) (.t 71), some (70, false), true⟩,
⟨some 74, .load false 1 (.t 73), some (70, false), true⟩,
⟨some 75, .bin .gtr (.t 74) (.c (.int .i64 18)), some (70, false), true⟩,
s_ 76 (.pick (.t 70) (.c (.bool true)) (.t 75)),
s_ 77 (.mv (.t 76)),
⟨some 78, .mv (.t 4), some (77, false), true⟩,
⟨some 79, .fad 6 (.t 1), some (77, false), true⟩,
⟨some 80, .iaa 3 1 (.t 79) (.t 78), some (77, false), true⟩,
⟨some 81, .load false 1 (.t 80), some (77, false), true⟩,
⟨some 82, .mv (.t 4), some (77, false), true⟩,
⟨some 83, .fad 9 (.t 1), some (77, false), true⟩,
⟨some 84, .iaa 3 1 (.t 83) (.t 82), some (77, false), true⟩,
⟨some 85, .load false 1 (.t 84), some (77, false), true⟩,
⟨some 86, .bin .gtr (.t 81) (.t 85), some (77, false), true⟩,
s_ 87 (.pick (.t 77) (.c (.bool true)) (.t 86))] (some [1, 3, 4, 87]) []) (
(.cond (.t 87) (
(.seq (
.reg none [
s_ 2 (.as (.c (.bool false)))] (some [2]) []) (
.ret))) (
.skip))))) (
.reg none [
s_ 88 (.mv (.t 3)),
s_ 89 (.mv (.t 4)),
s_ 90 (.fad 2 (.t 1)),
s_ 91 (.iaa 3 1 (.t 90) (.t 89)),
s_ 92 (.load false 1 (.t 91)),
s_ 93 (.bin .add (.t 88) (.t 92)),
s_ 3 (.as (.t 93))] (some [1, 3, 4]) []))) (some [1, 3, 4]) [2])) (
.reg none [
s_ 35 (.mv (.t 4)),
s_ 36 (.bin .add (.t 35) (.c (.int .i64 1))),
s_ 4 (.as (.t 36))] (some [1, 3, 4]) []))))
def A16_L0 : ACode := .loop A16_L0b (some [1, 3, 4]) [2]
def A16 : AFn := .code [.t 2] (
(.seq (
.reg none [
s_ 1 (.box (.t 0)),
s_ 2 (.as (.c (.bool false)))] (some [1]) []) (
(.seq (
(.seq (
.reg none [
s_ 5 (.load true 12 (.t 1)),
s_ 6 (.call 46 [.t 5]),
s_ 7 (.mv (.t 6)),
⟨some 8, .fad 5 (.t 1), some (7, false), true⟩,
⟨some 9, .load false 1 (.t 8), some (7, false), true⟩,
⟨some 10, .bin .lss (.t 9) (.c (.int .i64 1)), some (7, false), true⟩,
s_ 11 (.pick (.t 7) (.c (.bool true)) (.t 10)),
s_ 12 (.mv (.t 11)),
⟨some 13, .fad 5 (.t 1), some (12, false), true⟩,
⟨some 14, .load false 1 (.t 13), some (12, false), true⟩,
⟨some 15, .bin .gtr (.t 14) (.c (.int .i64 4)), some (12, false), true⟩,
s_ 16 (.pick (.t 12) (.c (.bool true)) (.t 15)),
s_ 17 (.mv (.t 16)),
⟨some 18, .fad 0 (.t 1), some (17, false), true⟩,
⟨some 19, .fad 0 (.t 18), some (17, false), true⟩,
⟨some 20, .load false 1 (.t 19), some (17, false), true⟩,
⟨some 21, .bin .rem (.t 20) (.c (.int .i64 16)), some (17, false), true⟩,
⟨some 22, .bin .neq (.t 21) (.c (i0_)), some (17, false), true⟩,
s_ 23 (.pick (.t 17) (.c (.bool true)) (.t 22)),
s_ 24 (.mv (.t 23)),
⟨some 25, .fad 0 (.t 1), some (24, false), true⟩,
⟨some 26, .fad 1 (.t 25), some (24, false), true⟩,
⟨some 27, .load false 1 (.t 26), some (24, false), true⟩,
⟨some 28, .bin .rem (.t 27) (.c (.int .i64 16)), some (24, false), true⟩,
⟨some 29, .bin .neq (.t 28) (.c (i0_)), some (24, false), true⟩,
s_ 30 (.pick (.t 24) (.c (.bool true)) (.t 29))] (some [1, 30]) []) (
(.cond (.t 30) (
(.seq (
.reg none [
s_ 2 (.as (.c (.bool false)))] (some [2]) []) (
.ret))) (
.skip))))) (
(.seq (
.reg none [
s_ 31 (.fad 5 (.t 1)),
s_ 32 (.load false 1 (.t 31)),
s_ 3 (.as (.t 32))] (some [1, 3]) []) (
(.seq (
(.seq (
.reg none [
s_ 4 (.as (.c (i0_)))] (some [1, 3, 4]) []) (
(.block 0 (
A16_L0) (some [1, 3]) [2, 4])))) (
(.seq (
.reg none [
s_ 94 (.fad 0 (.t 1)),
s_ 95 (.fad 0 (.t 94)),
s_ 96 (.load false 1 (.t 95)),
s_ 97 (.call 47 [.t 96]),
s_ 98 (.mv (.t 3)),
s_ 99 (.bin .mul (.t 98) (.c (.int .i64 4394000))),
s_ 100 (.bin .add (.t 97) (.t 99)),
s_ 101 (.bin .leq (.t 100) (.c (.int .i64 439400000))),
s_ 102 (.mv (.t 101)),
⟨some 103, .fad 0 (.t 1), some (102, true), true⟩,
⟨some 104, .fad 1 (.t 103), some (102, true), true⟩,
⟨some 105, .load false 1 (.t 104), some (102, true), true⟩,
⟨some 106, .call 47 [.t 105], some (102, true), true⟩,
⟨some 107, .mv (.t 3), some (102, true), true⟩,
⟨some 108, .bin .mul (.t 107) (.c (.int .i64 4394000)), some (102, true), true⟩,
⟨some 109, .bin .add (.t 106) (.t 108), some (102, true), true⟩,
⟨some 110, .bin .leq (.t 109) (.c (.int .i64 439400000)), some (102, true), true⟩,
s_ 111 (.pick (.t 102) (.t 110) (.c (.bool false))),
s_ 2 (.as (.t 111))] (some [2]) [1]) (
.ret)))))))))))
def A17_L0b : ACode :=
(.seq (
.reg none [
s_ 9 (.bin .lss (.t 8) (.c (.int .i64 3)))] (some [2, 7, 8, 9]) []) (
(.seq (
(.cond (.t 9) (
.skip) (
.exit 0))) (
(.seq (
(.block 1 (
(.seq (
.reg none [
s_ 10 (.mv (.t 8)),
s_ 11 (.ixa false 3 1 (.t 7) (.t 8)),
s_ 5 (.as (.t 10)),
s_ 6 (.as (.t 11))] (some [2, 5, 6, 7, 8]) []) (
(.seq (
.reg none [
s_ 12 (.mv (.t 6)),
s_ 13 (.mv (.t 5)),
s_ 14 (.fad 6 (.t 2)),
s_ 15 (.iaa 3 1 (.t 14) (.t 13)),
s_ 16 (.load false 1 (.t 15)),
s_ 17 (.bin .lss (.t 12) (.t 16)),
s_ 18 (.mv (.t 17)),
⟨some 19, .mv (.t 6), some (18, false), true⟩,
⟨some 20, .mv (.t 5), some (18, false), true⟩,
⟨some 21, .fad 9 (.t 2), some (18, false), true⟩,
⟨some 22, .iaa 3 1 (.t 21) (.t 20), some (18, false), true⟩,
⟨some 23, .load false 1 (.t 22), some (18, false), true⟩,
⟨some 24, .bin .gtr (.t 19) (.t 23), some (18, false), true⟩,
s_ 25 (.pick (.t 18) (.c (.bool true)) (.t 24))] (some [2, 7, 8, 25]) []) (
(.cond (.t 25) (
(.seq (
.reg none [
s_ 4 (.as (.c (.bool false)))] (some [4]) []) (
.ret))) (
.skip))))))) (some [2, 7, 8]) [4, 5, 6])) (
.reg none [
s_ 26 (.bin .add (.t 8) (.c (.int .i64 1))),
s_ 8 (.mv (.t 26))] (some [2, 7, 8]) []))))))
def A17_L0 : ACode := .loop A17_L0b (some [2, 7, 8]) [4, 5, 6]
def A17 : AFn := .code [.t 4] (
(.seq (
.reg none [
s_ 2 (.box (.t 0)),
s_ 3 (.box (.t 1)),
s_ 4 (.as (.c (.bool false)))] (some [2, 3]) []) (
(.seq (
(.seq (
.reg none [
s_ 7 (.load true 3 (.t 3)),
s_ 8 (.mv (.c (i0_)))] (some [2, 7, 8]) [3]) (
(.block 0 (
A17_L0) (some []) [4, 5, 6])))) (
(.seq (
.reg none [
s_ 4 (.as (.c (.bool true)))] (some [4]) []) (
.ret)))))))
def A18_L0b : ACode :=
(.seq (
(.seq (
.reg none [
s_ 6 (.mv (.t 5)),
s_ 7 (.bin .lss (.t 6) (.c (.int .i64 3)))] (some [2, 3, 5, 7]) []) (
(.cond (.t 7) (
.skip) (
.exit 0))))) (
(.seq (
(.block 1 (
(.seq (
.reg (some [.dr [16] [], .dr [16] [], .dr [16] [], .dr [12] [], .dr [12] [], .dr [12] [], .dr [12] [], .free, .free, .dr [25] [], .dr [25] [], .dr [25] [], .dr [21] [], .dr [21] [], .dr [21] [], .dr [21] [], .free, .free]) [
s_ 10 (.mv (.t 5)),
s_ 11 (.iaa 3 1 (.t 3) (.t 10)),
s_ 12 (.load false 1 (.t 11)),
s_ 13 (.mv (.t 5)),
s_ 14 (.fad 6 (.t 2)),
s_ 15 (.iaa 3 1 (.t 14) (.t 13)),
s_ 16 (.load false 1 (.t 15)),
s_ 17 (.bin .lss (.t 12) (.t 16)),
s_ 18 (.mv (.t 17)),
⟨some 19, .mv (.t 5), some (18, false), true⟩,
⟨some 20, .iaa 3 1 (.t 3) (.t 19), some (18, false), true⟩,
⟨some 21, .load false 1 (.t 20), some (18, false), true⟩,
⟨some 22, .mv (.t 5), some (18, false), true⟩,
⟨some 23, .fad 9 (.t 2), some (18, false), true⟩,
⟨some 24, .iaa 3 1 (.t 23) (.t 22), some (18, false), true⟩,
⟨some 25, .load false 1 (.t 24), some (18, false), true⟩,
⟨some 26, .bin .gtr (.t 21) (.t 25), some (18, false), true⟩,
s_ 27 (.pick (.t 18) (.c (.bool true)) (.t 26))] (some [2, 3, 5, 27]) []) (
(.cond (.t 27) (
(.seq (
.reg none [
s_ 4 (.as (.c (.bool false)))] (some [4]) []) (
.ret))) (
.skip))))) (some [2, 3, 5]) [4])) (
.reg none [
s_ 8 (.mv (.t 5)),
s_ 9 (.bin .add (.t 8) (.c (.int .i64 1))),
s_ 5 (.as (.t 9))] (some [2, 3, 5]) []))))
def A18_L0 : ACode := .loop A18_L0b (some [2, 3, 5]) [4]
def A18 : AFn := .code [.t 4] (
(.seq (
.reg none [
s_ 2 (.box (.t 0)),
s_ 3 (.box (.t 1)),
s_ 4 (.as (.c (.bool false)))] (some [2, 3]) []) (
(.seq (
(.seq (
.reg none [
s_ 5 (.as (.c (i0_)))] (some [2, 3, 5]) []) (
(.block 0 (
A18_L0) (some []) [4, 5])))) (
(.seq (
.reg none [
s_ 4 (.as (.c (.bool true)))] (some [4]) []) (
.ret)))))))
def A20_L0b : ACode :=
(.seq (
.reg none [
s_ 24 (.bin .lss (.t 23) (.c (.int .i64 3)))] (some [4, 5, 6, 7, 22, 23, 24]) []) (
(.seq (
(.cond (.t 24) (
.skip) (
.exit 0))) (
(.seq (
(.block 1 (
(.seq (
.reg none [
s_ 25 (.mv (.t 23)),
s_ 26 (.ixa true 3 3 (.t 22) (.t 23)),
s_ 9 (.alloc [i0_, i0_, i0_]),
s_ 8 (.as (.t 25)),
n_ (.store 3 (.t 9) (.t 26))] (some [4, 5, 6, 7, 8, 9, 22, 23]) []) (
.reg (some [.loc, .loc, .loc, .loc, .loc, .loc, .dr [29, 32, 36] [], .dr [28, 32, 36] [], .dr [28, 29, 36] [], .dr [28, 29, 32] [], .free, .free, .free]) [
s_ 27 (.mv (.t 8)),
s_ 30 (.mv (.t 8)),
s_ 31 (.iaa 4 2 (.t 7) (.t 30)),
s_ 33 (.mv (.t 8)),
s_ 34 (.bin .add (.t 33) (.c (.int .i64 1))),
s_ 35 (.iaa 4 2 (.t 7) (.t 34)),
s_ 28 (.load true 15 (.t 6)),
s_ 29 (.load true 3 (.t 9)),
s_ 32 (.load true 2 (.t 31)),
s_ 36 (.load true 2 (.t 35)),
s_ 37 (.call 48 [.t 28, .t 29, .t 32, .t 36]),
s_ 38 (.iaa 3 1 (.t 5) (.t 27)),
n_ (.store 1 (.t 38) (.t 37))] (some [4, 5, 6, 7, 22, 23]) [9]))) (some [4, 5, 6, 7, 22, 23]) [8, 9, 37])) (
.reg none [
s_ 39 (.bin .add (.t 23) (.c (.int .i64 1))),
s_ 23 (.mv (.t 39))] (some [4, 5, 6, 7, 22, 23]) []))))))
def A20_L0 : ACode := .loop A20_L0b (some [4, 5, 6, 7, 22, 23]) [8, 9, 37]
def A20 : AFn := .code [.cell true 3 4] (
(.seq (
.reg none [
s_ 2 (.box (.t 0)),
s_ 3 (.box (.t 1)),
s_ 4 (.alloc [.nils 2, .nils 2, .nils 2])] (some [2, 3, 4]) []) (
(.seq (
.reg none [
s_ 5 (.alloc [.nils 2, .nils 2, .nils 2])] (some [2, 3, 4, 5]) []) (
(.seq (
.reg none [
s_ 10 (.load true 12 (.t 2)),
s_ 11 (.load true 3 (.t 3)),
s_ 12 (.build [i0_, i0_, i0_, i0_, i0_, i0_, i0_, i0_, i0_, i0_, i0_, i0_, i0_, i0_, i0_] [(0, 12, .t 10), (12, 3, .t 11)]),
s_ 6 (.alloc [i0_, i0_, i0_, i0_, i0_, i0_, i0_, i0_, i0_, i0_, i0_, i0_, i0_, i0_, i0_]),
n_ (.store 15 (.t 6) (.t 12))] (some [4, 5, 6]) [2, 3]) (
(.seq (
.reg none [
s_ 13 (.fad 0 (.t 6)),
s_ 14 (.load true 12 (.t 13)),
s_ 15 (.fad 12 (.t 6)),
s_ 16 (.load true 3 (.t 15)),
s_ 17 (.call 27 [.t 14, .t 16]),
s_ 7 (.alloc [i0_, i0_, i0_, i0_, i0_, i0_, i0_, i0_]),
n_ (.store 8 (.t 7) (.t 17))] (some [4, 5, 6, 7]) []) (
(.seq (
(.seq (
.reg none [
s_ 18 (.fad 0 (.t 6)),
s_ 19 (.load true 12 (.t 18)),
s_ 20 (.fad 12 (.t 6)),
s_ 21 (.load true 3 (.t 20)),
s_ 22 (.call 25 [.t 19, .t 21]),
s_ 23 (.mv (.c (i0_)))] (some [4, 5, 6, 7, 22, 23]) []) (
(.block 0 (
A20_L0) (some [4, 5]) [8, 9, 37])))) (
(.seq (
.reg none [
s_ 40 (.load true 3 (.t 5)),
n_ (.store 3 (.t 4) (.t 40))] (some [4]) [5]) (
.ret)))))))))))))
def A25_L0b : ACode :=
(.seq (
.reg none [
s_ 12 (.bin .lss (.t 11) (.c (.int .i64 3)))] (some [4, 5, 6, 10, 11, 12]) []) (
(.seq (
(.cond (.t 12) (
.skip) (
.exit 0))) (
(.seq (
(.block 1 (
(.seq (
.reg none [
s_ 13 (.mv (.t 11)),
s_ 14 (.ixa false 3 1 (.t 10) (.t 11)),
s_ 7 (.as (.t 13)),
s_ 8 (.as (.t 14))] (some [4, 5, 6, 7, 8, 10, 11]) []) (
(.seq (
.reg none [
s_ 15 (.load true 3 (.t 6)),
s_ 16 (.mv (.t 8)),
s_ 17 (.call 51 [.t 15, .t 16]),
n_ (.store 3 (.t 6) (.t 17))] (some [4, 5, 6, 7, 10, 11]) []) (
.reg none [
s_ 18 (.mv (.t 7)),
s_ 19 (.load true 3 (.t 6)),
s_ 20 (.iaa 3 3 (.t 5) (.t 18)),
n_ (.store 3 (.t 20) (.t 19))] (some [4, 5, 6, 10, 11]) []))))) (some [4, 5, 6, 10, 11]) [7, 8])) (
.reg none [
s_ 21 (.bin .add (.t 11) (.c (.int .i64 1))),
s_ 11 (.mv (.t 21))] (some [4, 5, 6, 10, 11]) []))))))
def A25_L0 : ACode := .loop A25_L0b (some [4, 5, 6, 10, 11]) [7, 8]
def A25 : AFn := .code [.cell true 9 4] (
(.seq (
.reg none [
s_ 2 (.box (.t 0)),
s_ 3 (.box (.t 1)),
s_ 4 (.alloc [i0_, i0_, i0_, i0_, i0_, i0_, i0_, i0_, i0_])] (some [3, 4]) [2]) (
(.seq (
.reg none [
s_ 5 (.alloc [i0_, i0_, i0_, i0_, i0_, i0_, i0_, i0_, i0_])] (some [3, 4, 5]) []) (
(.seq (
.reg none [
s_ 9 (.build [i0_, i0_, i0_] [(0, 1, .c (.int .i64 1))]),
s_ 6 (.alloc [i0_, i0_, i0_]),
n_ (.store 3 (.t 6) (.t 9))] (some [3, 4, 5, 6]) []) (
(.seq (
(.seq (
.reg none [
s_ 10 (.load true 3 (.t 3)),
s_ 11 (.mv (.c (i0_)))] (some [4, 5, 6, 10, 11]) [3]) (
(.block 0 (
A25_L0) (some [4, 5]) [7, 8, 17])))) (
(.seq (
.reg none [
s_ 22 (.load true 9 (.t 5)),
n_ (.store 9 (.t 4) (.t 22))] (some [4]) [5]) (
.ret)))))))))))
def A27_L0b : ACode :=
(.seq (
.reg none [
s_ 20 (.bin .lss (.t 19) (.c (.int .i64 3)))] (some [2, 4, 5, 7, 18, 19, 20]) []) (
(.seq (
(.cond (.t 20) (
.skip) (
.exit 0))) (
(.seq (
(.block 1 (
(.seq (
.reg none [
s_ 21 (.mv (.t 19)),
s_ 22 (.ixa true 3 3 (.t 18) (.t 19)),
s_ 9 (.alloc [i0_, i0_, i0_]),
s_ 8 (.as (.t 21)),
n_ (.store 3 (.t 9) (.t 22))] (some [2, 4, 5, 7, 8, 9, 18, 19]) []) (
.reg (some [.loc, .loc, .loc, .loc, .loc, .loc, .dr [30] [], .dr [26] [], .free, .free, .free, .free]) [
s_ 23 (.mv (.t 8)),
s_ 24 (.bin .add (.t 23) (.c (.int .i64 1))),
s_ 25 (.mv (.t 7)),
s_ 27 (.mv (.t 8)),
s_ 28 (.fad 2 (.t 2)),
s_ 29 (.iaa 3 1 (.t 28) (.t 27)),
s_ 26 (.load true 3 (.t 9)),
s_ 30 (.load false 1 (.t 29)),
s_ 31 (.call 55 [.t 26, .t 30]),
s_ 32 (.cal (.t 25) [.t 31]),
s_ 33 (.iaa 4 2 (.t 5) (.t 24)),
n_ (.store 2 (.t 33) (.t 32))] (some [2, 4, 5, 7, 18, 19]) [9]))) (some [2, 4, 5, 7, 18, 19]) [8, 9, 31, 32])) (
.reg none [
s_ 34 (.bin .add (.t 19) (.c (.int .i64 1))),
s_ 19 (.mv (.t 34))] (some [2, 4, 5, 7, 18, 19]) []))))))
def A27_L0 : ACode := .loop A27_L0b (some [2, 4, 5, 7, 18, 19]) [8, 9, 31, 32]
def A27 : AFn := .code [.cell true 8 4] (
(.seq (
.reg none [
s_ 2 (.box (.t 0)),
s_ 3 (.box (.t 1)),
s_ 4 (.alloc [i0_, i0_, i0_, i0_, i0_, i0_, i0_, i0_])] (some [2, 3, 4]) []) (
(.seq (
.reg none [
s_ 10 (.fad 0 (.t 2)),
s_ 11 (.load true 2 (.t 10)),
s_ 12 (.build [i0_, i0_, i0_, i0_, i0_, i0_, i0_, i0_] [(0, 2, .t 11)]),
s_ 5 (.alloc [i0_, i0_, i0_, i0_, i0_, i0_, i0_, i0_]),
n_ (.store 8 (.t 5) (.t 12))] (some [2, 3, 4, 5]) []) (
(.seq (
.reg none [
s_ 13 (.fad 0 (.t 2)),
s_ 14 (.load true 2 (.t 13)),
s_ 6 (.alloc [i0_, i0_]),
n_ (.store 2 (.t 6) (.t 14))] (some [2, 3, 4, 5, 6]) []) (
(.seq (
.reg none [
s_ 15 (.mkf (.func 53) [] [.t 6]),
s_ 7 (.as (.t 15))] (some [2, 3, 4, 5, 7]) []) (
(.seq (
(.seq (
.reg none [
s_ 16 (.load true 12 (.t 2)),
s_ 17 (.load true 3 (.t 3)),
s_ 18 (.call 25 [.t 16, .t 17]),
s_ 19 (.mv (.c (i0_)))] (some [2, 4, 5, 7, 18, 19]) [3]) (
(.block 0 (
A27_L0) (some [4, 5]) [8, 9, 31, 32])))) (
(.seq (
.reg none [
s_ 35 (.load true 8 (.t 5)),
n_ (.store 8 (.t 4) (.t 35))] (some [4]) [5]) (
.ret)))))))))))))
def A30 : AFn := .code [.t 2] (
(.seq (
.reg none [
s_ 1 (.box (.t 0)),
s_ 2 (.as (.c (.bool false)))] (some [1]) []) (
(.seq (
.reg none [
s_ 3 (.as (.c (.int .i64 439400000)))] (some [1, 3]) []) (
(.seq (
.reg none [
s_ 4 (.fad 0 (.t 1)),
s_ 5 (.load false 1 (.t 4)),
s_ 6 (.mv (.t 3)),
s_ 7 (.un .neg (.t 6)),
s_ 8 (.bin .geq (.t 5) (.t 7)),
s_ 9 (.mv (.t 8)),
⟨some 10, .fad 0 (.t 1), some (9, true), true⟩,
⟨some 11, .load false 1 (.t 10), some (9, true), true⟩,
⟨some 12, .mv (.t 3), some (9, true), true⟩,
⟨some 13, .bin .leq (.t 11) (.t 12), some (9, true), true⟩,
s_ 14 (.pick (.t 9) (.t 13) (.c (.bool false))),
s_ 15 (.mv (.t 14)),
⟨some 16, .fad 1 (.t 1), some (15, true), true⟩,
⟨some 17, .load false 1 (.t 16), some (15, true), true⟩,
⟨some 18, .mv (.t 3), some (15, true), true⟩,
⟨some 19, .un .neg (.t 18), some (15, true), true⟩,
⟨some 20, .bin .geq (.t 17) (.t 19), some (15, true), true⟩,
s_ 21 (.pick (.t 15) (.t 20) (.c (.bool false))),
s_ 22 (.mv (.t 21)),
⟨some 23, .fad 1 (.t 1), some (22, true), true⟩,
⟨some 24, .load false 1 (.t 23), some (22, true), true⟩,
⟨some 25, .mv (.t 3), some (22, true), true⟩,
⟨some 26, .bin .leq (.t 24) (.t 25), some (22, true), true⟩,
s_ 27 (.pick (.t 22) (.t 26) (.c (.bool false))),
s_ 2 (.as (.t 27))] (some [2]) [1]) (
.ret)))))))
def A33_R0a : ACode :=
.reg none [
s_ 7 (.alloc [i0_, i0_, i0_, i0_]),
n_ (.store 4 (.t 7) (.t 13))] (some [3, 4, 5, 7]) []
def A33_R0b : ACode :=
(.block 1 (
(.seq (
.reg (some [.dr [17, 8, 9] [], .dr [17, 8, 9] [], .dr [15, 8, 9] [], .dr [15, 8, 9] [], .dr [15, 17, 9] [], .dr [15, 17, 8] [], .dr [17] [8], .free]) [
s_ 14 (.iaa 2 2 (.t 7) (.c (i0_))),
s_ 15 (.load true 2 (.t 14)),
s_ 16 (.iaa 2 2 (.t 7) (.c (.int .i64 1))),
s_ 17 (.load true 2 (.t 16)),
s_ 8 (.alloc [i0_, i0_]),
s_ 9 (.alloc [i0_, i0_]),
n_ (.store 2 (.t 8) (.t 15)),
n_ (.store 2 (.t 9) (.t 17))] (some [3, 4, 5, 8, 9]) [7]) (
(.seq (
(.seq (
.reg none [
s_ 18 (.load true 2 (.t 8)),
s_ 19 (.load true 2 (.t 9)),
s_ 20 (.load true 2 (.t 3)),
s_ 21 (.call 61 [.t 18, .t 19, .t 20])] (some [3, 4, 5, 8, 9, 21]) []) (
(.cond (.t 21) (
(.seq (
.reg none [
n_ (.store 1 (.t 4) (.c (i0_)))] (some []) []) (
.ret))) (
.skip))))) (
(.seq (
(.seq (
.reg none [
s_ 22 (.fad 1 (.t 8)),
s_ 23 (.load false 1 (.t 22)),
s_ 24 (.fad 1 (.t 3)),
s_ 25 (.load false 1 (.t 24)),
s_ 26 (.bin .gtr (.t 23) (.t 25)),
s_ 27 (.fad 1 (.t 9)),
s_ 28 (.load false 1 (.t 27)),
s_ 29 (.fad 1 (.t 3)),
s_ 30 (.load false 1 (.t 29)),
s_ 31 (.bin .gtr (.t 28) (.t 30)),
s_ 32 (.bib false (.t 26) (.t 31))] (some [3, 5, 8, 9, 32]) []) (
(.cond (.t 32) (
.exit 1) (
.skip))))) (
(.seq (
.reg (some [.dr [34, 35, 39, 41] [], .dr [33, 35, 39, 41] [], .dr [33, 34, 39, 41] [], .dr [39, 41] [], .dr [39, 41] [], .dr [33, 34, 35, 36, 41] [], .dr [33, 34, 35, 36, 41] [], .dr [33, 34, 35, 36, 39] [], .dr [33, 34, 35, 36, 39] [], .dr [33, 34, 35, 36] [], .free]) [
s_ 33 (.load true 2 (.t 8)),
s_ 34 (.load true 2 (.t 9)),
s_ 35 (.load true 2 (.t 3)),
s_ 36 (.call 62 [.t 33, .t 34, .t 35]),
s_ 37 (.bin .gtr (.t 36) (.c (i0_))),
s_ 38 (.fad 1 (.t 9)),
s_ 39 (.load false 1 (.t 38)),
s_ 40 (.fad 1 (.t 8)),
s_ 41 (.load false 1 (.t 40)),
s_ 42 (.bin .gtr (.t 39) (.t 41)),
s_ 43 (.bib false (.t 37) (.t 42))] (some [5, 43]) [3, 8, 9]) (
(.cond (.t 43) (
.reg none [
s_ 44 (.load false 1 (.t 5)),
s_ 45 (.un .not (.t 44)),
n_ (.store 1 (.t 5) (.t 45))] (some []) [5]) (
.skip))))))))))) (some []) [8, 9, 21, 36])
def A33_R0 : ACode := .rf 0 (.t 11) [12, 13]  A33_R0a A33_R0b
def A33 : AFn := .code [.cell false 1 4] (
(.seq (
.reg none [
s_ 3 (.box (.t 1)),
s_ 4 (.alloc [i0_])] (some [0, 3, 4]) []) (
(.seq (
.reg none [
s_ 5 (.alloc [.bool false]),
n_ (.store 1 (.t 5) (.c (.bool false)))] (some [0, 3, 4, 5]) []) (
(.seq (
(.seq (
.reg none [
s_ 10 (.mv (.t 0)),
s_ 11 (.call 60 [.t 10])] (some [3, 4, 5, 11]) []) (
(.block 0 (
A33_R0) (some [4, 5]) [7, 8, 9, 21, 36])))) (
(.seq (
(.seq (
.reg none [
s_ 46 (.load false 1 (.t 5))] (some [4, 46]) [5]) (
(.cond (.t 46) (
(.seq (
.reg none [
n_ (.store 1 (.t 4) (.c (.int .i64 1)))] (some [4]) []) (
.ret))) (
.skip))))) (
(.seq (
.reg none [
n_ (.store 1 (.t 4) (.c (.int .i64 (-1))))] (some [4]) []) (
.ret)))))))))))
def A37 : AFn := .code [.t 4] (
(.seq (
.reg none [
s_ 4 (.as (.c (.bool false)))] (some [0, 1]) []) (
(.seq (
.reg none [
s_ 8 (.mv (.t 0)),
s_ 9 (.mv (.t 1)),
s_ 10 (.call 69 [.t 8, .t 9]),
s_ 7 (.mv (.t 10)),
s_ 11 (.ext (.t 7) 0),
s_ 12 (.ext (.t 7) 1),
s_ 5 (.alloc [i0_, i0_, i0_]),
n_ (.store 3 (.t 5) (.t 11)),
s_ 6 (.as (.t 12))] (some [6]) [5]) (
(.seq (
.reg none [
s_ 13 (.mv (.t 6)),
s_ 4 (.as (.t 13))] (some [4]) []) (
.ret)))))))
def A38 : AFn := .code [.t 0] (
(.seq (
.reg none [
s_ 0 (.as (.c (.bool false)))] (some []) []) (
(.seq (
.reg none [
s_ 11 (.call 70 []),
s_ 1 (.alloc [i0_, i0_, i0_, i0_, i0_, i0_, i0_, i0_, i0_, i0_, i0_, i0_, i0_, i0_, i0_, i0_, i0_, i0_, i0_, i0_, i0_, i0_, i0_, i0_, i0_, i0_, i0_, i0_, i0_, i0_, .nils 1, .nils 6, .nils 3, .nils 1, i0_, i0_, i0_, i0_, i0_, i0_, i0_, .nils 1, i0_, i0_]),
n_ (.store 44 (.t 1) (.t 11))] (some [1]) []) (
(.seq (
.reg none [
s_ 12 (.build [i0_, i0_, i0_] []),
s_ 13 (.build [i0_, i0_, i0_] [(0, 1, .c (.int .i64 108)), (1, 1, .c (i0_)), (2, 1, .c (i0_))]),
s_ 14 (.build [i0_, i0_, i0_, i0_, i0_, i0_] [(0, 3, .t 12), (3, 3, .t 13)]),
s_ 2 (.alloc [i0_, i0_, i0_, i0_, i0_, i0_]),
n_ (.store 6 (.t 2) (.t 14))] (some [1, 2]) []) (
(.seq (
.reg none [
s_ 15 (.load true 6 (.t 2)),
s_ 3 (.alloc [i0_, i0_, i0_, i0_, i0_, i0_]),
n_ (.store 6 (.t 3) (.t 15))] (some [1, 2, 3]) []) (
(.seq (
.reg none [
s_ 16 (.iaa 2 3 (.t 3) (.c (i0_))),
s_ 17 (.iaa 3 1 (.t 16) (.c (.int .i64 2))),
n_ (.store 1 (.t 17) (.c (.int .i64 9)))] (some [1, 2, 3]) []) (
(.seq (
.reg none [
s_ 18 (.iaa 2 3 (.t 3) (.c (.int .i64 1))),
s_ 19 (.iaa 3 1 (.t 18) (.c (i0_))),
n_ (.store 1 (.t 19) (.c (.int .i64 105)))] (some [1, 2, 3]) []) (
(.seq (
.reg none [
s_ 21 (.build [i0_, i0_, i0_] [(0, 1, .c (.int .i64 (-1))), (1, 1, .c (.int .i64 12)), (2, 1, .c (.int .i64 13))]),
s_ 22 (.call 39 [.t 21]),
s_ 20 (.mv (.t 22)),
s_ 23 (.ext (.t 20) 0),
s_ 24 (.ext (.t 20) 1),
s_ 4 (.alloc [i0_, i0_, i0_]),
s_ 5 (.alloc [i0_, i0_, i0_]),
n_ (.store 3 (.t 4) (.t 23)),
n_ (.store 3 (.t 5) (.t 24))] (some [1, 2, 3, 4, 5]) []) (
(.seq (
.reg none [
s_ 25 (.load true 44 (.t 1)),
s_ 26 (.load true 6 (.t 2)),
s_ 27 (.load true 6 (.t 2)),
s_ 28 (.bsl 1 1 [.bool false] [(0, .c (.bool false))]),
s_ 29 (.call 41 [.t 25, .t 26, .t 27, .t 28]),
s_ 6 (.as (.t 29))] (some [1, 2, 3, 4, 5, 6]) []) (
(.seq (
.reg none [
s_ 30 (.load true 44 (.t 1)),
s_ 31 (.load true 6 (.t 2)),
s_ 32 (.load true 6 (.t 2)),
s_ 33 (.bsl 1 1 [.bool false] [(0, .c (.bool true))]),
s_ 34 (.call 41 [.t 30, .t 31, .t 32, .t 33]),
s_ 7 (.as (.t 34))] (some [1, 2, 3, 4, 5, 6, 7]) []) (
(.seq (
.reg none [
s_ 35 (.load true 44 (.t 1)),
s_ 36 (.load true 6 (.t 2)),
s_ 37 (.load true 6 (.t 3)),
s_ 38 (.bsl 1 1 [.bool false] [(0, .c (.bool false))]),
s_ 39 (.call 41 [.t 35, .t 36, .t 37, .t 38]),
s_ 8 (.as (.t 39))] (some [1, 2, 3, 4, 5, 6, 7, 8]) []) (
(.seq (
.reg none [
s_ 40 (.load true 44 (.t 1)),
s_ 41 (.load true 6 (.t 2)),
s_ 42 (.load true 6 (.t 3)),
s_ 43 (.bsl 1 1 [.bool false] [(0, .c (.bool true))]),
s_ 44 (.call 41 [.t 40, .t 41, .t 42, .t 43]),
s_ 9 (.as (.t 44))] (some [1, 2, 4, 5, 6, 7, 8, 9]) [3]) (
(.seq (
.reg none [
s_ 45 (.fad 42 (.t 1)),
n_ (.store 1 (.t 45) (.c (.int .i64 16)))] (some [1, 2, 4, 5, 6, 7, 8, 9]) []) (
(.seq (
.reg none [
s_ 46 (.load true 44 (.t 1)),
s_ 47 (.load true 6 (.t 2)),
s_ 48 (.load true 6 (.t 2)),
s_ 49 (.bsl 1 1 [.bool false] [(0, .c (.bool false))]),
s_ 50 (.call 41 [.t 46, .t 47, .t 48, .t 49]),
s_ 10 (.as (.t 50))] (some [1, 2, 4, 5, 6, 7, 8, 9, 10]) []) (
(.seq (
.reg none [
s_ 51 (.load true 3 (.t 4)),
s_ 52 (.build [i0_, i0_, i0_] [(0, 1, .c (.int .i64 (-1))), (1, 1, .c (.int .i64 1)), (2, 1, .c (.int .i64 1))]),
s_ 53 (.eqa false [0, 0, 0] (.t 51) (.t 52)),
s_ 54 (.mv (.t 53)),
⟨some 55, .load true 3 (.t 5), some (54, true), true⟩,
⟨some 56, .build [i0_, i0_, i0_] [(0, 1, .c (i0_)), (1, 1, .c (.int .i64 1)), (2, 1, .c (.int .i64 2))], some (54, true), true⟩,
⟨some 57, .eqa false [0, 0, 0] (.t 55) (.t 56), some (54, true), true⟩,
s_ 58 (.pick (.t 54) (.t 57) (.c (.bool false))),
s_ 59 (.mv (.t 58)),
⟨some 60, .mv (.t 6), some (59, true), true⟩,
⟨some 61, .len 0 (.t 60), some (59, true), true⟩,
⟨some 62, .bin .eql (.t 61) (.c (i0_)), some (59, true), true⟩,
s_ 63 (.pick (.t 59) (.t 62) (.c (.bool false))),
s_ 64 (.mv (.t 63)),
⟨some 65, .mv (.t 7), some (64, true), true⟩,
⟨some 66, .build [i0_, i0_, i0_, i0_] [(0, 1, .c (.int .i64 3))], some (64, true), true⟩,
⟨some 67, .build [i0_, i0_, i0_, i0_] [(0, 1, .c (.int .i64 4))], some (64, true), true⟩,
⟨some 68, .bsl 4 2 [i0_, i0_, i0_, i0_] [(0, .t 66), (1, .t 67)], some (64, true), true⟩,
⟨some 69, .call 71 [.t 65, .t 68], some (64, true), true⟩,
s_ 70 (.pick (.t 64) (.t 69) (.c (.bool false))),
s_ 71 (.mv (.t 70)),
⟨some 72, .mv (.t 8), some (71, true), true⟩,
⟨some 73, .build [i0_, i0_, i0_, i0_] [(0, 1, .c (.int .i64 1)), (2, 1, .c (.int .i64 2))], some (71, true), true⟩,
⟨some 74, .bsl 4 1 [i0_, i0_, i0_, i0_] [(0, .t 73)], some (71, true), true⟩,
⟨some 75, .call 71 [.t 72, .t 74], some (71, true), true⟩,
s_ 76 (.pick (.t 71) (.t 75) (.c (.bool false))),
s_ 77 (.mv (.t 76)),
⟨some 78, .mv (.t 9), some (77, true), true⟩,
⟨some 79, .build [i0_, i0_, i0_, i0_] [(0, 1, .c (.int .i64 1)), (2, 1, .c (.int .i64 2))], some (77, true), true⟩,
⟨some 80, .build [i0_, i0_, i0_, i0_] [(0, 1, .c (.int .i64 1)), (1, 1, .c (.int .i64 1))], some (77, true), true⟩,
⟨some 81, .build [i0_, i0_, i0_, i0_] [(0, 1, .c (.int .i64 3))], some (77, true), true⟩,
⟨some 82, .build [i0_, i0_, i0_, i0_] [(0, 1, .c (.int .i64 4))], some (77, true), true⟩,
⟨some 83, .bsl 4 4 [i0_, i0_, i0_, i0_] [(0, .t 79), (1, .t 80), (2, .t 81), (3, .t 82)], some (77, true), true⟩,
⟨some 84, .call 71 [.t 78, .t 83], some (77, true), true⟩,
s_ 85 (.pick (.t 77) (.t 84) (.c (.bool false))),
s_ 86 (.mv (.t 85)),
⟨some 87, .load true 44 (.t 1), some (86, true), true⟩,
⟨some 88, .load true 6 (.t 2), some (86, true), true⟩,
⟨some 89, .call 44 [.t 87, .t 88], some (86, true), true⟩,
⟨some 90, .un .not (.t 89), some (86, true), true⟩,
s_ 91 (.pick (.t 86) (.t 90) (.c (.bool false))),
s_ 92 (.mv (.t 91)),
⟨some 93, .mv (.t 10), some (92, true), true⟩,
⟨some 94, .build [i0_, i0_, i0_, i0_] [(0, 1, .c (.int .i64 2))], some (92, true), true⟩,
⟨some 95, .bsl 4 1 [i0_, i0_, i0_, i0_] [(0, .t 94)], some (92, true), true⟩,
⟨some 96, .call 71 [.t 93, .t 95], some (92, true), true⟩,
s_ 97 (.pick (.t 92) (.t 96) (.c (.bool false))),
s_ 0 (.as (.t 97))] (some [0]) [1, 2, 4, 5]) (
.ret)))))))))))))))))))))))))))))
def A39_L0b : ACode :=
(.seq (
.reg none [
s_ 10 (.bin .lss (.t 9) (.c (.int .i64 3)))] (some [2, 3, 4, 5, 8, 9, 10]) []) (
(.seq (
(.cond (.t 10) (
.skip) (
.exit 0))) (
(.seq (
(.block 1 (
(.seq (
.reg none [
s_ 11 (.mv (.t 9)),
s_ 12 (.ixa false 3 1 (.t 8) (.t 9)),
s_ 6 (.as (.t 11)),
s_ 7 (.as (.t 12))] (some [2, 3, 4, 5, 6, 7, 8, 9]) []) (
.reg (some [.dr [16, 19] [], .dr [16, 19] [], .dr [] [], .dr [] [], .dr [16] [], .dr [16] [], .dr [] [], .dr [] [], .dr [19] [], .dr [] [], .free, .free]) [
s_ 13 (.mv (.t 6)),
s_ 14 (.mv (.t 6)),
s_ 15 (.mv (.t 7)),
s_ 16 (.call 72 [.t 15, .c (.int .i64 12)]),
s_ 17 (.mv (.t 7)),
s_ 18 (.un .neg (.t 17)),
s_ 19 (.call 72 [.t 18, .c (.int .i64 12)]),
s_ 20 (.un .neg (.t 19)),
s_ 21 (.iaa 3 1 (.t 4) (.t 13)),
n_ (.store 1 (.t 21) (.t 16)),
s_ 22 (.iaa 3 1 (.t 5) (.t 14)),
n_ (.store 1 (.t 22) (.t 20))] (some [2, 3, 4, 5, 8, 9]) []))) (some [2, 3, 4, 5, 8, 9]) [6, 7, 16, 19])) (
.reg none [
s_ 23 (.bin .add (.t 9) (.c (.int .i64 1))),
s_ 9 (.mv (.t 23))] (some [2, 3, 4, 5, 8, 9]) []))))))
def A39_L0 : ACode := .loop A39_L0b (some [2, 3, 4, 5, 8, 9]) [6, 7, 16, 19]
def A39 : AFn := .code [.cell true 3 2, .cell true 3 3] (
(.seq (
.reg none [
s_ 1 (.box (.t 0)),
s_ 2 (.alloc [i0_, i0_, i0_]),
s_ 3 (.alloc [i0_, i0_, i0_])] (some [1, 2, 3]) []) (
(.seq (
.reg none [
s_ 4 (.alloc [i0_, i0_, i0_]),
s_ 5 (.alloc [i0_, i0_, i0_])] (some [1, 2, 3, 4, 5]) []) (
(.seq (
(.seq (
.reg none [
s_ 8 (.load true 3 (.t 1)),
s_ 9 (.mv (.c (i0_)))] (some [2, 3, 4, 5, 8, 9]) [1]) (
(.block 0 (
A39_L0) (some [2, 3, 4, 5]) [6, 7, 16, 19])))) (
(.seq (
.reg (some [.dr [25] [], .dr [24] [2], .dr [25] [], .free]) [
s_ 24 (.load true 3 (.t 4)),
s_ 25 (.load true 3 (.t 5)),
n_ (.store 3 (.t 2) (.t 24)),
n_ (.store 3 (.t 3) (.t 25))] (some [2, 3]) [4, 5]) (
.ret)))))))))
def A40 : AFn := .code [.t 6] (
(.seq (
.reg none [
s_ 3 (.box (.t 0)),
s_ 4 (.box (.t 1)),
s_ 6 (.as (.c (.bool false)))] (some [2, 3, 4]) []) (
(.seq (
(.seq (
.reg none [
s_ 7 (.fad 30 (.t 3)),
s_ 8 (.load false 1 (.t 7)),
s_ 9 (.len 0 (.t 8)),
s_ 10 (.bin .gtr (.t 9) (.c (.int .i64 16))),
s_ 11 (.mv (.t 10)),
⟨some 12, .fad 41 (.t 3), some (11, false), true⟩,
⟨some 13, .load false 1 (.t 12), some (11, false), true⟩,
⟨some 14, .len 0 (.t 13), some (11, false), true⟩,
⟨some 15, .bin .gtr (.t 14) (.c (.int .i64 16)), some (11, false), true⟩,
s_ 16 (.pick (.t 11) (.c (.bool true)) (.t 15)),
s_ 17 (.mv (.t 16)),
⟨some 18, .fad 31 (.t 3), some (17, false), true⟩,
⟨some 19, .load false 1 (.t 18), some (17, false), true⟩,
⟨some 20, .len 0 (.t 19), some (17, false), true⟩,
⟨some 21, .bin .gtr (.t 20) (.c (.int .i64 16)), some (17, false), true⟩,
s_ 22 (.pick (.t 17) (.c (.bool true)) (.t 21)),
s_ 23 (.mv (.t 22)),
⟨some 24, .fad 32 (.t 3), some (23, false), true⟩,
⟨some 25, .load false 1 (.t 24), some (23, false), true⟩,
⟨some 26, .len 0 (.t 25), some (23, false), true⟩,
⟨some 27, .bin .gtr (.t 26) (.c (.int .i64 8)), some (23, false), true⟩,
s_ 28 (.pick (.t 23) (.c (.bool true)) (.t 27)),
s_ 29 (.mv (.t 28)),
⟨some 30, .fad 33 (.t 3), some (29, false), true⟩,
⟨some 31, .load false 1 (.t 30), some (29, false), true⟩,
⟨some 32, .len 0 (.t 31), some (29, false), true⟩,
⟨some 33, .bin .gtr (.t 32) (.c (.int .i64 16)), some (29, false), true⟩,
s_ 34 (.pick (.t 29) (.c (.bool true)) (.t 33))] (some [2, 3, 4, 34]) []) (
(.cond (.t 34) (
(.seq (
.reg none [
s_ 6 (.as (.c (.bool false)))] (some [6]) []) (
.ret))) (
.skip))))) (
(.seq (
.reg none [
s_ 35 (.load true 44 (.t 3)),
s_ 36 (.call 73 [.t 35]),
s_ 37 (.mv (.t 36)),
⟨some 38, .mv (.t 2), some (37, true), true⟩,
⟨some 39, .len 0 (.t 38), some (37, true), true⟩,
⟨some 40, .fad 41 (.t 3), some (37, true), true⟩,
⟨some 41, .load false 1 (.t 40), some (37, true), true⟩,
⟨some 42, .len 0 (.t 41), some (37, true), true⟩,
⟨some 43, .bin .eql (.t 39) (.t 42), some (37, true), true⟩,
s_ 44 (.pick (.t 37) (.t 43) (.c (.bool false))),
s_ 45 (.mv (.t 44)),
⟨some 46, .fad 0 (.t 3), some (45, true), true⟩,
⟨some 47, .iaa 2 12 (.t 46) (.c (i0_)), some (45, true), true⟩,
⟨some 48, .load true 12 (.t 47), some (45, true), true⟩,
⟨some 49, .iaa 2 3 (.t 4) (.c (i0_)), some (45, true), true⟩,
⟨some 50, .load true 3 (.t 49), some (45, true), true⟩,
⟨some 51, .call 74 [.t 48, .t 50], some (45, true), true⟩,
s_ 52 (.pick (.t 45) (.t 51) (.c (.bool false))),
s_ 53 (.mv (.t 52)),
⟨some 54, .fad 0 (.t 3), some (53, true), true⟩,
⟨some 55, .iaa 2 12 (.t 54) (.c (.int .i64 1)), some (53, true), true⟩,
⟨some 56, .load true 12 (.t 55), some (53, true), true⟩,
⟨some 57, .iaa 2 3 (.t 4) (.c (.int .i64 1)), some (53, true), true⟩,
⟨some 58, .load true 3 (.t 57), some (53, true), true⟩,
⟨some 59, .call 74 [.t 56, .t 58], some (53, true), true⟩,
s_ 60 (.pick (.t 53) (.t 59) (.c (.bool false))),
s_ 6 (.as (.t 60))] (some [6]) [3, 4]) (
.ret)))))))
def A41_L0b : ACode :=
(.seq (
.reg none [
s_ 15 (.bin .lss (.t 14) (.t 13))] (some [3, 4, 5, 6, 9, 12, 13, 14, 15]) []) (
(.seq (
(.cond (.t 15) (
.skip) (
.exit 0))) (
(.seq (
(.block 1 (
(.seq (
.reg none [
s_ 16 (.ias 1 (.t 12) (.t 14)),
s_ 17 (.load false 1 (.t 16)),
s_ 11 (.as (.t 17))] (some [3, 4, 5, 6, 9, 11, 12, 13, 14]) []) (
.reg none [
s_ 18 (.mv (.t 9)),
s_ 19 (.mv (.t 11)),
s_ 20 (.load true 44 (.t 4)),
s_ 21 (.load true 6 (.t 5)),
s_ 22 (.load true 6 (.t 6)),
s_ 23 (.mv (.t 3)),
s_ 24 (.build [i0_, i0_, i0_, i0_, i0_, i0_, i0_, i0_, i0_, i0_, i0_, i0_, i0_, i0_, i0_, i0_, i0_, i0_, i0_, i0_, i0_, i0_, i0_, i0_, i0_, i0_, i0_, i0_, i0_, i0_, .nils 1, .nils 6, .nils 3, .nils 1, i0_, i0_, i0_, i0_, i0_, i0_, i0_, .nils 1, i0_, i0_, i0_, i0_, i0_, i0_, i0_, i0_, i0_, i0_, i0_, i0_, i0_, i0_, .nils 1] [(0, 44, .t 20), (44, 6, .t 21), (50, 6, .t 22), (56, 1, .t 23)]),
s_ 25 (.cal (.t 19) [.t 24]),
s_ 26 (.app 4 (.t 18) (.t 25)),
s_ 9 (.as (.t 26))] (some [3, 4, 5, 6, 9, 12, 13, 14]) []))) (some [3, 4, 5, 6, 9, 12, 13, 14]) [11, 25])) (
.reg none [
s_ 27 (.bin .add (.t 14) (.c (.int .i64 1))),
s_ 14 (.mv (.t 27))] (some [3, 4, 5, 6, 9, 12, 13, 14]) []))))))
def A41_L0 : ACode := .loop A41_L0b (some [3, 4, 5, 6, 9, 12, 13, 14]) [11, 25]
def A41 : AFn := .code [.t 8] (
(.seq (
.reg none [
s_ 4 (.box (.t 0)),
s_ 5 (.box (.t 1)),
s_ 6 (.box (.t 2)),
s_ 8 (.as (.c (.nils 4)))] (some [3, 4, 5, 6]) []) (
(.seq (
.reg none [
s_ 9 (.as (.c (.nils 4)))] (some [3, 4, 5, 6, 9]) []) (
(.seq (
(.seq (
.reg none [
s_ 12 (.bsl 1 4 [.nilf] [(0, .fu 75), (1, .fu 76), (2, .fu 77), (3, .fu 78)]),
s_ 13 (.len 0 (.t 12)),
s_ 14 (.mv (.c (i0_)))] (some [3, 4, 5, 6, 9, 12, 13, 14]) []) (
(.block 0 (
A41_L0) (some [9]) [11, 25])))) (
(.seq (
.reg none [
s_ 28 (.mv (.t 9)),
s_ 8 (.as (.t 28))] (some [8]) []) (
.ret)))))))))
def A43_L0b : ACode :=
(.seq (
(.seq (
.reg none [
s_ 6 (.mv (.t 5)),
s_ 7 (.mv (.t 0)),
s_ 8 (.len 0 (.t 7)),
s_ 9 (.bin .lss (.t 6) (.t 8))] (some [0, 3, 5, 9]) []) (
(.cond (.t 9) (
.skip) (
.exit 0))))) (
(.seq (
(.block 1 (
(.seq (
.reg (some [.dr [16] [], .dr [16] [], .dr [16] [], .dr [16] [], .dr [14, 15] [], .free]) [
s_ 12 (.mv (.t 0)),
s_ 13 (.mv (.t 5)),
s_ 14 (.ias 4 (.t 12) (.t 13)),
s_ 15 (.load true 4 (.t 14)),
s_ 16 (.load true 4 (.t 3)),
s_ 17 (.eqa false [0, 0, 0, 0] (.t 15) (.t 16))] (some [0, 3, 5, 17]) []) (
(.cond (.t 17) (
(.seq (
.reg none [
s_ 4 (.as (.c (.bool true)))] (some [4]) []) (
.ret))) (
.skip))))) (some [0, 3, 5]) [4])) (
.reg none [
s_ 10 (.mv (.t 5)),
s_ 11 (.bin .add (.t 10) (.c (.int .i64 1))),
s_ 5 (.as (.t 11))] (some [0, 3, 5]) []))))
def A43_L0 : ACode := .loop A43_L0b (some [0, 3, 5]) [4]
def A43 : AFn := .code [.t 4] (
(.seq (
.reg none [
s_ 3 (.box (.t 1)),
s_ 4 (.as (.c (.bool false)))] (some [0, 3]) []) (
(.seq (
(.seq (
.reg none [
s_ 5 (.as (.c (i0_)))] (some [0, 3, 5]) []) (
(.block 0 (
A43_L0) (some []) [4, 5])))) (
(.seq (
.reg none [
s_ 4 (.as (.c (.bool false)))] (some [4]) []) (
.ret)))))))
def A44_R0a : ACode :=
.reg none [
s_ 6 (.as (.t 20))] (some [2, 4, 5, 6]) []
def A44_R0b : ACode :=
(.block 3 (
(.seq (
.reg (some [.dr [25] [], .dr [21, 25] [], .dr [25] [], .dr [21, 23] [], .dr [21, 23] [], .dr [21, 23] [], .free]) [
s_ 21 (.load false 1 (.t 5)),
s_ 22 (.mv (.t 6)),
s_ 23 (.call 80 [.t 21, .t 22]),
s_ 24 (.fad 42 (.t 2)),
s_ 25 (.load false 1 (.t 24)),
s_ 26 (.bin .mul (.t 25) (.c (.int .i64 4394000))),
s_ 27 (.bin .lss (.t 23) (.t 26))] (some [4, 27]) [2, 5]) (
(.cond (.t 27) (
(.seq (
.reg none [
n_ (.store 1 (.t 4) (.c (.bool false)))] (some []) []) (
.ret))) (
.skip))))) (some []) [23])
def A44_R0 : ACode := .rf 1 (.t 19) [20]  A44_R0a A44_R0b
def A44_R1a : ACode :=
.reg none [
s_ 5 (.alloc [.nils 2]),
n_ (.store 1 (.t 5) (.t 13))] (some [2, 3, 4, 5]) []
def A44_R1b : ACode :=
(.block 1 (
(.seq (
.reg none [
s_ 14 (.fad 0 (.t 2)),
s_ 15 (.iaa 2 12 (.t 14) (.c (.int .i64 1))),
s_ 16 (.load true 12 (.t 15)),
s_ 17 (.iaa 2 3 (.t 3) (.c (.int .i64 1))),
s_ 18 (.load true 3 (.t 17)),
s_ 19 (.call 79 [.t 16, .t 18])] (some [2, 4, 5, 19]) [3]) (
(.block 2 (
A44_R0) (some []) [6, 23])))) (some []) [6, 19, 23])
def A44_R1 : ACode := .rf 0 (.t 12) [13]  A44_R1a A44_R1b
def A44 : AFn := .code [.cell false 1 4] (
(.seq (
.reg none [
s_ 2 (.box (.t 0)),
s_ 3 (.box (.t 1)),
s_ 4 (.alloc [.bool false])] (some [2, 3, 4]) []) (
(.seq (
(.seq (
.reg none [
s_ 7 (.fad 0 (.t 2)),
s_ 8 (.iaa 2 12 (.t 7) (.c (i0_))),
s_ 9 (.load true 12 (.t 8)),
s_ 10 (.iaa 2 3 (.t 3) (.c (i0_))),
s_ 11 (.load true 3 (.t 10)),
s_ 12 (.call 79 [.t 9, .t 11])] (some [2, 3, 4, 12]) []) (
(.block 0 (
A44_R1) (some [4]) [5, 6, 19, 23])))) (
(.seq (
.reg none [
n_ (.store 1 (.t 4) (.c (.bool true)))] (some [4]) []) (
.ret)))))))
def A46 : AFn := .code [.t 2] (
(.seq (
.reg none [
s_ 1 (.box (.t 0)),
s_ 2 (.as (.c (.bool false)))] (some [1]) []) (
(.seq (
.reg none [
s_ 3 (.fad 0 (.t 1)),
s_ 4 (.fad 0 (.t 3)),
s_ 5 (.load false 1 (.t 4)),
s_ 6 (.bin .gtr (.t 5) (.c (.int .i64 1000000000))),
s_ 7 (.mv (.t 6)),
⟨some 8, .fad 0 (.t 1), some (7, false), true⟩,
⟨some 9, .fad 0 (.t 8), some (7, false), true⟩,
⟨some 10, .load false 1 (.t 9), some (7, false), true⟩,
⟨some 11, .bin .lss (.t 10) (.c (.int .i64 (-1000000000))), some (7, false), true⟩,
s_ 12 (.pick (.t 7) (.c (.bool true)) (.t 11)),
s_ 13 (.mv (.t 12)),
⟨some 14, .fad 0 (.t 1), some (13, false), true⟩,
⟨some 15, .fad 1 (.t 14), some (13, false), true⟩,
⟨some 16, .load false 1 (.t 15), some (13, false), true⟩,
⟨some 17, .bin .gtr (.t 16) (.c (.int .i64 1000000000)), some (13, false), true⟩,
s_ 18 (.pick (.t 13) (.c (.bool true)) (.t 17)),
s_ 19 (.mv (.t 18)),
⟨some 20, .fad 0 (.t 1), some (19, false), true⟩,
⟨some 21, .fad 1 (.t 20), some (19, false), true⟩,
⟨some 22, .load false 1 (.t 21), some (19, false), true⟩,
⟨some 23, .bin .lss (.t 22) (.c (.int .i64 (-1000000000))), some (19, false), true⟩,
s_ 24 (.pick (.t 19) (.c (.bool true)) (.t 23)),
s_ 2 (.as (.t 24))] (some [2]) [1]) (
.ret)))))
def A47 : AFn := .code [.t 2] (
(.seq (
.reg none [
s_ 2 (.as (.c (i0_)))] (some [0]) []) (
(.seq (
(.seq (
.reg none [
s_ 3 (.mv (.t 0)),
s_ 4 (.bin .lss (.t 3) (.c (i0_)))] (some [0, 4]) []) (
(.cond (.t 4) (
(.seq (
.reg none [
s_ 5 (.mv (.t 0)),
s_ 6 (.un .neg (.t 5)),
s_ 2 (.as (.t 6))] (some [2]) []) (
.ret))) (
.skip))))) (
(.seq (
.reg none [
s_ 7 (.mv (.t 0)),
s_ 2 (.as (.t 7))] (some [2]) []) (
.ret)))))))
def A48 : AFn := .code [.t 8] (
(.seq (
.reg none [
s_ 4 (.box (.t 0)),
s_ 5 (.box (.t 1)),
s_ 6 (.box (.t 2)),
s_ 7 (.box (.t 3)),
s_ 8 (.as (.c (.nils 2)))] (some [4, 5, 6, 7]) []) (
(.seq (
.reg none [
s_ 10 (.load true 3 (.t 5)),
s_ 11 (.fad 0 (.t 4)),
s_ 12 (.fad 5 (.t 11)),
s_ 13 (.load false 1 (.t 12)),
s_ 14 (.call 55 [.t 10, .t 13]),
s_ 15 (.call 64 [.t 14]),
s_ 9 (.alloc [i0_, i0_]),
n_ (.store 2 (.t 9) (.t 15))] (some [6, 7, 9]) [4, 5]) (
(.seq (
.reg (some [.dr [17, 19, 20, 22, 23, 25, 26] [], .dr [16, 19, 20, 22, 23, 25, 26] [], .dr [19, 20, 22, 23, 25, 26] [], .dr [16, 17, 18, 20, 22, 23, 25, 26] [], .dr [16, 17, 18, 19, 22, 23, 25, 26] [], .dr [22, 23, 25, 26] [], .dr [16, 17, 18, 19, 20, 21, 23, 25, 26] [], .dr [16, 17, 18, 19, 20, 21, 22, 25, 26] [], .dr [25, 26] [], .dr [16, 17, 18, 19, 20, 21, 22, 23, 24, 26] [], .dr [16, 17, 18, 19, 20, 21, 22, 23, 24, 25] [], .free, .free, .free]) [
s_ 16 (.load true 2 (.t 6)),
s_ 17 (.load true 2 (.t 9)),
s_ 18 (.call 67 [.t 16, .t 17]),
s_ 19 (.load true 2 (.t 7)),
s_ 20 (.load true 2 (.t 9)),
s_ 21 (.call 67 [.t 19, .t 20]),
s_ 22 (.load true 2 (.t 7)),
s_ 23 (.load true 2 (.t 9)),
s_ 24 (.call 54 [.t 22, .t 23]),
s_ 25 (.load true 2 (.t 6)),
s_ 26 (.load true 2 (.t 9)),
s_ 27 (.call 54 [.t 25, .t 26]),
s_ 28 (.bsl 2 4 [i0_, i0_] [(0, .t 18), (1, .t 21), (2, .t 24), (3, .t 27)]),
s_ 8 (.as (.t 28))] (some [8]) [6, 7, 9]) (
.ret)))))))
def A51 : AFn := .code [.cell true 3 4] (
(.seq (
.reg none [
s_ 2 (.box (.t 0)),
s_ 4 (.alloc [i0_, i0_, i0_])] (some [1, 2, 4]) []) (
(.seq (
(.seq (
.reg none [
s_ 6 (.load true 3 (.t 2)),
s_ 7 (.call 82 [.t 6]),
s_ 8 (.un .not (.t 7)),
s_ 9 (.mv (.t 8)),
⟨some 10, .fad 2 (.t 2), some (9, false), true⟩,
⟨some 11, .load false 1 (.t 10), some (9, false), true⟩,
⟨some 12, .bin .eql (.t 11) (.c (.int .i64 3)), some (9, false), true⟩,
s_ 13 (.pick (.t 9) (.c (.bool true)) (.t 12))] (some [1, 2, 4, 13]) []) (
(.cond (.t 13) (
(.seq (
.reg none [
s_ 14 (.build [i0_, i0_, i0_] []),
n_ (.store 3 (.t 4) (.t 14))] (some [4]) []) (
.ret))) (
.skip))))) (
(.seq (
.reg none [
s_ 15 (.fad 0 (.t 2)),
s_ 16 (.load false 1 (.t 15)),
s_ 17 (.fad 1 (.t 2)),
s_ 18 (.load false 1 (.t 17)),
s_ 19 (.build [i0_, i0_] [(0, 1, .t 16), (1, 1, .t 18)]),
s_ 20 (.mv (.t 1)),
s_ 21 (.call 83 [.t 19, .t 20]),
s_ 5 (.alloc [i0_, i0_]),
n_ (.store 2 (.t 5) (.t 21))] (some [2, 4, 5]) []) (
(.seq (
.reg none [
s_ 22 (.fad 0 (.t 5)),
s_ 23 (.load false 1 (.t 22)),
s_ 24 (.fad 1 (.t 5)),
s_ 25 (.load false 1 (.t 24)),
s_ 26 (.fad 2 (.t 2)),
s_ 27 (.load false 1 (.t 26)),
s_ 28 (.bin .add (.t 27) (.c (.int .i64 1))),
s_ 29 (.build [i0_, i0_, i0_] [(0, 1, .t 23), (1, 1, .t 25), (2, 1, .t 28)]),
n_ (.store 3 (.t 4) (.t 29))] (some [4]) [2, 5]) (
.ret)))))))))
def A53 : AFn := .code [.cell true 2 3] (
(.seq (
.reg none [
s_ 2 (.box (.t 0)),
s_ 3 (.alloc [i0_, i0_])] (some [1, 2, 3]) []) (
(.seq (
.reg none [
s_ 4 (.load true 2 (.t 1)),
s_ 5 (.load true 2 (.t 2)),
s_ 6 (.call 54 [.t 4, .t 5]),
n_ (.store 2 (.t 1) (.t 6))] (some [1, 3]) [2]) (
(.seq (
.reg none [
s_ 7 (.load true 2 (.t 1)),
n_ (.store 2 (.t 3) (.t 7))] (some [3]) []) (
.ret)))))))
def A54 : AFn := .code [.cell true 2 4] (
(.seq (
.reg none [
s_ 2 (.box (.t 0)),
s_ 3 (.box (.t 1)),
s_ 4 (.alloc [i0_, i0_])] (some [2, 3, 4]) []) (
(.seq (
.reg none [
s_ 5 (.fad 0 (.t 2)),
s_ 6 (.load false 1 (.t 5)),
s_ 7 (.fad 0 (.t 3)),
s_ 8 (.load false 1 (.t 7)),
s_ 9 (.bin .add (.t 6) (.t 8)),
s_ 10 (.fad 1 (.t 2)),
s_ 11 (.load false 1 (.t 10)),
s_ 12 (.fad 1 (.t 3)),
s_ 13 (.load false 1 (.t 12)),
s_ 14 (.bin .add (.t 11) (.t 13)),
s_ 15 (.build [i0_, i0_] [(0, 1, .t 9), (1, 1, .t 14)]),
n_ (.store 2 (.t 4) (.t 15))] (some [4]) [2, 3]) (
.ret)))))
def A55 : AFn := .code [.cell true 2 4] (
(.seq (
.reg none [
s_ 2 (.box (.t 0)),
s_ 4 (.alloc [i0_, i0_])] (some [1, 2, 4]) []) (
(.seq (
.reg none [
s_ 6 (.mv (.t 1)),
s_ 7 (.fad 2 (.t 2)),
s_ 8 (.load false 1 (.t 7)),
s_ 9 (.call 86 [.t 8]),
s_ 10 (.bin .quo (.c (.int .i64 4394000)) (.t 9)),
s_ 11 (.bin .mul (.t 6) (.t 10)),
s_ 5 (.as (.t 11))] (some [2, 4, 5]) []) (
(.seq (
.reg none [
s_ 12 (.mv (.t 5)),
s_ 13 (.fad 0 (.t 2)),
s_ 14 (.load false 1 (.t 13)),
s_ 15 (.bin .mul (.t 12) (.t 14)),
s_ 16 (.mv (.t 5)),
s_ 17 (.fad 1 (.t 2)),
s_ 18 (.load false 1 (.t 17)),
s_ 19 (.bin .mul (.t 16) (.t 18)),
s_ 20 (.build [i0_, i0_] [(0, 1, .t 15), (1, 1, .t 19)]),
n_ (.store 2 (.t 4) (.t 20))] (some [4]) [2]) (
.ret)))))))
def A60 : AFn := .code [.t 2] (
(.seq (
.reg none [
s_ 1 (.box (.t 0)),
s_ 2 (.as (.c (.nilf)))] (some [1]) []) (
(.seq (
.reg none [
s_ 3 (.mkf (.func 89) [] [.t 1]),
s_ 2 (.as (.t 3))] (some [2]) []) (
.ret)))))
def A61 : AFn := .code [.t 6] (
(.seq (
.reg none [
s_ 3 (.box (.t 0)),
s_ 4 (.box (.t 1)),
s_ 5 (.box (.t 2)),
s_ 6 (.as (.c (.bool false)))] (some [3, 4, 5]) []) (
(.seq (
.reg none [
s_ 7 (.load true 2 (.t 3)),
s_ 8 (.load true 2 (.t 4)),
s_ 9 (.load true 2 (.t 5)),
s_ 10 (.call 90 [.t 7, .t 8, .t 9]),
s_ 11 (.mv (.t 10)),
⟨some 12, .load true 2 (.t 3), some (11, true), true⟩,
⟨some 13, .load true 2 (.t 4), some (11, true), true⟩,
⟨some 14, .load true 2 (.t 5), some (11, true), true⟩,
⟨some 15, .call 62 [.t 12, .t 13, .t 14], some (11, true), true⟩,
⟨some 16, .bin .eql (.t 15) (.c (i0_)), some (11, true), true⟩,
s_ 17 (.pick (.t 11) (.t 16) (.c (.bool false))),
s_ 6 (.as (.t 17))] (some [6]) [3, 4, 5]) (
.ret)))))
def A62 : AFn := .code [.t 6] (
(.seq (
.reg none [
s_ 3 (.box (.t 0)),
s_ 4 (.box (.t 1)),
s_ 5 (.box (.t 2)),
s_ 6 (.as (.c (i0_)))] (some [3, 4, 5]) []) (
(.seq (
.reg (some [.dr [11, 13, 14, 7, 8] [], .dr [10, 13, 14, 7, 8] [], .dr [13, 14, 7, 8] [], .dr [10, 11, 12, 14, 7, 8] [], .dr [10, 11, 12, 13, 7, 8] [], .dr [7, 8] [], .dr [10, 11, 12, 13, 14, 15, 8] [], .dr [10, 11, 12, 13, 14, 15, 7] [], .free, .free]) [
s_ 10 (.load true 2 (.t 4)),
s_ 11 (.load true 2 (.t 3)),
s_ 12 (.call 67 [.t 10, .t 11]),
s_ 13 (.load true 2 (.t 5)),
s_ 14 (.load true 2 (.t 3)),
s_ 15 (.call 67 [.t 13, .t 14]),
s_ 7 (.alloc [i0_, i0_]),
s_ 8 (.alloc [i0_, i0_]),
n_ (.store 2 (.t 7) (.t 12)),
n_ (.store 2 (.t 8) (.t 15))] (some [7, 8]) [3, 4, 5]) (
(.seq (
(.seq (
.reg none [
s_ 16 (.fad 0 (.t 7)),
s_ 17 (.load false 1 (.t 16)),
s_ 18 (.fad 1 (.t 8)),
s_ 19 (.load false 1 (.t 18)),
s_ 20 (.bin .mul (.t 17) (.t 19)),
s_ 21 (.fad 1 (.t 7)),
s_ 22 (.load false 1 (.t 21)),
s_ 23 (.fad 0 (.t 8)),
s_ 24 (.load false 1 (.t 23)),
s_ 25 (.bin .mul (.t 22) (.t 24)),
s_ 26 (.bin .sub (.t 20) (.t 25)),
s_ 9 (.as (.t 26))] (some [9]) [7, 8]) (
(.block 0 (
(.seq (
.reg none [
s_ 28 (.mv (.t 9)),
s_ 29 (.bin .gtr (.t 28) (.c (i0_))),
s_ 27 (.as (.t 29))] (some [9, 27]) []) (
(.cond (.t 27) (
(.seq (
.reg none [
s_ 6 (.as (.c (.int .i64 1)))] (some [6]) []) (
.ret))) (
(.seq (
.reg none [
s_ 31 (.mv (.t 9)),
s_ 32 (.bin .lss (.t 31) (.c (i0_))),
s_ 30 (.as (.t 32))] (some [30]) []) (
(.cond (.t 30) (
(.seq (
.reg none [
s_ 6 (.as (.c (.int .i64 (-1))))] (some [6]) []) (
.ret))) (
.skip))))))))) (some []) [6, 27, 30])))) (
(.seq (
.reg none [
s_ 6 (.as (.c (i0_)))] (some [6]) []) (
.ret)))))))))
def A64 : AFn := .code [.cell true 2 2] (
(.seq (
.reg none [
s_ 1 (.box (.t 0)),
s_ 2 (.alloc [i0_, i0_])] (some [1, 2]) []) (
(.seq (
.reg none [
s_ 4 (.fad 0 (.t 1)),
s_ 5 (.load false 1 (.t 4)),
s_ 6 (.fad 1 (.t 1)),
s_ 7 (.load false 1 (.t 6)),
s_ 8 (.build [i0_, i0_] [(0, 1, .t 5), (1, 1, .t 7)]),
s_ 9 (.call 91 [.t 8]),
s_ 3 (.alloc [i0_, i0_]),
n_ (.store 2 (.t 3) (.t 9))] (some [2, 3]) [1]) (
(.seq (
.reg none [
s_ 10 (.fad 0 (.t 3)),
s_ 11 (.load false 1 (.t 10)),
s_ 12 (.fad 1 (.t 3)),
s_ 13 (.load false 1 (.t 12)),
s_ 14 (.build [i0_, i0_] [(0, 1, .t 11), (1, 1, .t 13)]),
n_ (.store 2 (.t 2) (.t 14))] (some [2]) [3]) (
.ret)))))))
def A67 : AFn := .code [.cell true 2 4] (
(.seq (
.reg none [
s_ 2 (.box (.t 0)),
s_ 3 (.box (.t 1)),
s_ 4 (.alloc [i0_, i0_])] (some [2, 3, 4]) []) (
(.seq (
.reg none [
s_ 5 (.fad 0 (.t 2)),
s_ 6 (.load false 1 (.t 5)),
s_ 7 (.fad 0 (.t 3)),
s_ 8 (.load false 1 (.t 7)),
s_ 9 (.bin .sub (.t 6) (.t 8)),
s_ 10 (.fad 1 (.t 2)),
s_ 11 (.load false 1 (.t 10)),
s_ 12 (.fad 1 (.t 3)),
s_ 13 (.load false 1 (.t 12)),
s_ 14 (.bin .sub (.t 11) (.t 13)),
s_ 15 (.build [i0_, i0_] [(0, 1, .t 9), (1, 1, .t 14)]),
n_ (.store 2 (.t 4) (.t 15))] (some [4]) [2, 3]) (
.ret)))))
def A69_L0b : ACode :=
(.seq (
.reg none [
s_ 47 (.bin .lss (.t 46) (.t 45))] (some [0, 3, 4, 5, 45, 46, 47]) []) (
(.seq (
(.cond (.t 47) (
.skip) (
.exit 6))) (
(.seq (
(.block 7 (
(.seq (
.reg none [
s_ 48 (.mv (.t 46)),
s_ 11 (.as (.t 48))] (some [0, 3, 4, 5, 11, 45, 46]) []) (
(.seq (
.reg none [
s_ 49 (.load false 1 (.t 3)),
s_ 50 (.mv (.t 11)),
s_ 51 (.mv (.t 0)),
s_ 52 (.call 97 [.t 49, .t 50, .t 51])] (some [0, 3, 4, 5, 11, 45, 46, 52]) []) (
(.cond (.t 52) (
(.seq (
.reg none [
s_ 53 (.mv (.t 11)),
s_ 54 (.build [i0_, i0_, i0_] [(0, 1, .c (.int .i64 3)), (2, 1, .t 53)]),
n_ (.store 3 (.t 4) (.t 54)),
n_ (.store 1 (.t 5) (.c (.bool true)))] (some [4, 5]) []) (
.ret))) (
.skip))))))) (some [0, 3, 4, 5, 45, 46]) [52])) (
.reg none [
s_ 55 (.bin .add (.t 46) (.c (.int .i64 1))),
s_ 46 (.mv (.t 55))] (some [0, 3, 4, 5, 45, 46]) []))))))
def A69_L0 : ACode := .loop A69_L0b (some [0, 3, 4, 5, 45, 46]) [52]
def A69_L1b : ACode :=
(.seq (
.reg none [
s_ 35 (.bin .lss (.t 34) (.t 33))] (some [0, 3, 4, 5, 33, 34, 35]) []) (
(.seq (
(.cond (.t 35) (
.skip) (
.exit 4))) (
(.seq (
(.block 5 (
(.seq (
.reg none [
s_ 36 (.mv (.t 34)),
s_ 10 (.as (.t 36))] (some [0, 3, 4, 5, 10, 33, 34]) []) (
(.seq (
.reg none [
s_ 37 (.mv (.t 0)),
s_ 38 (.mv (.t 10)),
s_ 39 (.load false 1 (.t 3)),
s_ 40 (.call 97 [.t 37, .t 38, .t 39])] (some [0, 3, 4, 5, 10, 33, 34, 40]) []) (
(.cond (.t 40) (
(.seq (
.reg none [
s_ 41 (.mv (.t 10)),
s_ 42 (.build [i0_, i0_, i0_] [(0, 1, .c (.int .i64 2)), (1, 1, .t 41)]),
n_ (.store 3 (.t 4) (.t 42)),
n_ (.store 1 (.t 5) (.c (.bool true)))] (some [4, 5]) []) (
.ret))) (
.skip))))))) (some [0, 3, 4, 5, 33, 34]) [40])) (
.reg none [
s_ 43 (.bin .add (.t 34) (.c (.int .i64 1))),
s_ 34 (.mv (.t 43))] (some [0, 3, 4, 5, 33, 34]) []))))))
def A69_L1 : ACode := .loop A69_L1b (some [0, 3, 4, 5, 33, 34]) [40]
def A69_R2a : ACode :=
(.seq (
.reg none [
s_ 8 (.as (.t 18))] (some [4, 5, 6, 7, 8, 19]) []) (
.reg none [
s_ 9 (.alloc [i0_, i0_, i0_, i0_]),
n_ (.store 4 (.t 9) (.t 19))] (some [4, 5, 6, 7, 8, 9]) []))
def A69_R2b : ACode :=
(.block 3 (
(.seq (
.reg none [
s_ 20 (.fad 0 (.t 7)),
s_ 21 (.load true 2 (.t 20)),
s_ 22 (.fad 2 (.t 7)),
s_ 23 (.load true 2 (.t 22)),
s_ 24 (.fad 0 (.t 9)),
s_ 25 (.load true 2 (.t 24)),
s_ 26 (.fad 2 (.t 9)),
s_ 27 (.load true 2 (.t 26)),
s_ 28 (.call 88 [.t 21, .t 23, .t 25, .t 27])] (some [4, 5, 6, 8, 28]) [7, 9]) (
(.cond (.t 28) (
(.seq (
.reg none [
s_ 29 (.load false 1 (.t 6)),
s_ 30 (.mv (.t 8)),
s_ 31 (.build [i0_, i0_, i0_] [(0, 1, .c (.int .i64 1)), (1, 1, .t 29), (2, 1, .t 30)]),
n_ (.store 3 (.t 4) (.t 31)),
n_ (.store 1 (.t 5) (.c (.bool true)))] (some []) [6]) (
.ret))) (
.skip))))) (some []) [28])
def A69_R2 : ACode := .rf 1 (.t 17) [18, 19]  A69_R2a A69_R2b
def A69_R3a : ACode :=
(.seq (
.reg none [
s_ 6 (.alloc [i0_]),
n_ (.store 1 (.t 6) (.t 14))] (some [3, 4, 5, 6, 15]) []) (
.reg none [
s_ 7 (.alloc [i0_, i0_, i0_, i0_]),
n_ (.store 4 (.t 7) (.t 15))] (some [3, 4, 5, 6, 7]) []))
def A69_R3b : ACode :=
(.block 1 (
(.seq (
.reg none [
s_ 16 (.load false 1 (.t 3)),
s_ 17 (.call 96 [.t 16])] (some [4, 5, 6, 7, 17]) [3]) (
(.block 2 (
A69_R2) (some []) [8, 9, 28])))) (some []) [8, 9, 17, 28])
def A69_R3 : ACode := .rf 0 (.t 13) [14, 15]  A69_R3a A69_R3b
def A69 : AFn := .code [.cell true 3 4, .cell false 1 5] (
(.seq (
.reg none [
s_ 3 (.box (.t 1)),
s_ 4 (.alloc [i0_, i0_, i0_]),
s_ 5 (.alloc [.bool false])] (some [0, 3, 4, 5]) []) (
(.seq (
(.seq (
.reg none [
s_ 12 (.mv (.t 0)),
s_ 13 (.call 96 [.t 12])] (some [0, 3, 4, 5, 13]) []) (
(.block 0 (
A69_R3) (some [0, 3, 4, 5]) [6, 7, 9, 17, 28])))) (
(.seq (
(.seq (
.reg none [
s_ 32 (.mv (.t 0)),
s_ 33 (.len 0 (.t 32)),
s_ 34 (.mv (.c (i0_)))] (some [0, 3, 4, 5, 33, 34]) []) (
(.block 4 (
A69_L1) (some [0, 3, 4, 5]) [40])))) (
(.seq (
(.seq (
.reg none [
s_ 44 (.load false 1 (.t 3)),
s_ 45 (.len 0 (.t 44)),
s_ 46 (.mv (.c (i0_)))] (some [0, 3, 4, 5, 45, 46]) []) (
(.block 6 (
A69_L0) (some [4, 5]) [52])))) (
(.seq (
.reg none [
s_ 56 (.build [i0_, i0_, i0_] []),
n_ (.store 3 (.t 4) (.t 56)),
n_ (.store 1 (.t 5) (.c (.bool false)))] (some [4, 5]) []) (
.ret)))))))))))
def A70 : AFn := .code [.cell true 44 0] (
(.seq (
.reg none [
s_ 0 (.alloc [i0_, i0_, i0_, i0_, i0_, i0_, i0_, i0_, i0_, i0_, i0_, i0_, i0_, i0_, i0_, i0_, i0_, i0_, i0_, i0_, i0_, i0_, i0_, i0_, i0_, i0_, i0_, i0_, i0_, i0_, .nils 1, .nils 6, .nils 3, .nils 1, i0_, i0_, i0_, i0_, i0_, i0_, i0_, .nils 1, i0_, i0_])] (some [0]) []) (
(.seq (
.reg none [
s_ 3 (.call 98 []),
s_ 1 (.alloc [i0_, i0_, i0_, i0_, i0_, i0_, i0_, i0_, i0_, i0_, i0_, i0_, i0_, i0_, i0_, i0_, i0_, i0_, i0_, i0_, i0_, i0_, i0_, i0_, i0_, i0_, i0_, i0_, i0_, i0_, .nils 1, .nils 6, .nils 3, .nils 1, i0_, i0_, i0_, i0_, i0_, i0_, i0_, .nils 1, i0_, i0_]),
n_ (.store 44 (.t 1) (.t 3))] (some [0, 1]) []) (
(.seq (
.reg none [
s_ 2 (.as (.c (.int .i64 4394000)))] (some [0, 1, 2]) []) (
(.seq (
.reg none [
s_ 4 (.mv (.t 2)),
s_ 5 (.bin .mul (.c (.int .i64 8)) (.t 4)),
s_ 6 (.mv (.t 2)),
s_ 7 (.bin .mul (.c (.int .i64 (-4))) (.t 6)),
s_ 8 (.build [i0_, i0_] [(0, 1, .t 5), (1, 1, .t 7)]),
s_ 9 (.mv (.t 2)),
s_ 10 (.bin .mul (.c (.int .i64 12)) (.t 9)),
s_ 11 (.mv (.t 2)),
s_ 12 (.bin .mul (.c (.int .i64 (-4))) (.t 11)),
s_ 13 (.build [i0_, i0_] [(0, 1, .t 10), (1, 1, .t 12)]),
s_ 14 (.mv (.t 2)),
s_ 15 (.bin .mul (.c (.int .i64 12)) (.t 14)),
s_ 16 (.build [i0_, i0_] [(0, 1, .t 15), (1, 1, .c (i0_))]),
s_ 17 (.mv (.t 2)),
s_ 18 (.bin .mul (.c (.int .i64 8)) (.t 17)),
s_ 19 (.build [i0_, i0_] [(0, 1, .t 18), (1, 1, .c (i0_))]),
s_ 20 (.bsl 2 4 [i0_, i0_] [(0, .t 8), (1, .t 13), (2, .t 16), (3, .t 19)]),
s_ 21 (.build [.nils 2] [(0, 1, .t 20)]),
s_ 22 (.bsl 1 1 [.nils 2] [(0, .t 21)]),
s_ 23 (.fad 41 (.t 1)),
n_ (.store 1 (.t 23) (.t 22))] (some [0, 1, 2]) []) (
(.seq (
.reg none [
s_ 24 (.mv (.t 2)),
s_ 25 (.bin .mul (.c (.int .i64 25)) (.t 24)),
s_ 26 (.fad 0 (.t 1)),
s_ 27 (.iaa 2 12 (.t 26) (.c (.int .i64 1))),
s_ 28 (.fad 0 (.t 27)),
s_ 29 (.fad 0 (.t 28)),
n_ (.store 1 (.t 29) (.t 25))] (some [0, 1]) []) (
(.seq (
.reg none [
s_ 30 (.fad 42 (.t 1)),
n_ (.store 1 (.t 30) (.c (.int .i64 10)))] (some [0, 1]) []) (
(.seq (
.reg none [
s_ 31 (.load true 44 (.t 1)),
n_ (.store 44 (.t 0) (.t 31))] (some [0]) [1]) (
.ret)))))))))))))))
def A71_L0b : ACode :=
(.seq (
(.seq (
.reg none [
s_ 11 (.mv (.t 5)),
s_ 12 (.mv (.t 0)),
s_ 13 (.len 0 (.t 12)),
s_ 14 (.bin .lss (.t 11) (.t 13))] (some [0, 1, 5, 14]) []) (
(.cond (.t 14) (
.skip) (
.exit 0))))) (
(.seq (
(.block 1 (
(.seq (
.reg (some [.dr [23, 24] [], .dr [23, 24] [], .dr [23, 24] [], .dr [23, 24] [], .dr [19, 20] [], .dr [19, 20] [], .dr [19, 20] [], .dr [19, 20] [], .free]) [
s_ 17 (.mv (.t 0)),
s_ 18 (.mv (.t 5)),
s_ 19 (.ias 4 (.t 17) (.t 18)),
s_ 20 (.load true 4 (.t 19)),
s_ 21 (.mv (.t 1)),
s_ 22 (.mv (.t 5)),
s_ 23 (.ias 4 (.t 21) (.t 22)),
s_ 24 (.load true 4 (.t 23)),
s_ 25 (.eqa true [0, 0, 0, 0] (.t 20) (.t 24))] (some [0, 1, 5, 25]) []) (
(.cond (.t 25) (
(.seq (
.reg none [
s_ 4 (.as (.c (.bool false)))] (some [4]) []) (
.ret))) (
.skip))))) (some [0, 1, 5]) [4])) (
.reg none [
s_ 15 (.mv (.t 5)),
s_ 16 (.bin .add (.t 15) (.c (.int .i64 1))),
s_ 5 (.as (.t 16))] (some [0, 1, 5]) []))))
def A71_L0 : ACode := .loop A71_L0b (some [0, 1, 5]) [4]
def A71 : AFn := .code [.t 4] (
(.seq (
.reg none [
s_ 4 (.as (.c (.bool false)))] (some [0, 1]) []) (
(.seq (
(.seq (
.reg none [
s_ 6 (.mv (.t 0)),
s_ 7 (.len 0 (.t 6)),
s_ 8 (.mv (.t 1)),
s_ 9 (.len 0 (.t 8)),
s_ 10 (.bin .neq (.t 7) (.t 9))] (some [0, 1, 10]) []) (
(.cond (.t 10) (
(.seq (
.reg none [
s_ 4 (.as (.c (.bool false)))] (some [4]) []) (
.ret))) (
.skip))))) (
(.seq (
(.seq (
.reg none [
s_ 5 (.as (.c (i0_)))] (some [0, 1, 5]) []) (
(.block 0 (
A71_L0) (some []) [4, 5])))) (
(.seq (
.reg none [
s_ 4 (.as (.c (.bool true)))] (some [4]) []) (
.ret)))))))))
def A72 : AFn := .code [.t 4] (
(.seq (
.reg none [
s_ 4 (.as (.c (i0_)))] (some [0, 1]) []) (
(.seq (
.reg none [
s_ 6 (.mv (.t 0)),
s_ 7 (.mv (.t 1)),
s_ 8 (.bin .quo (.t 6) (.t 7)),
s_ 5 (.as (.t 8))] (some [0, 1, 5]) []) (
(.seq (
(.seq (
.reg none [
s_ 9 (.mv (.t 0)),
s_ 10 (.mv (.t 1)),
s_ 11 (.bin .rem (.t 9) (.t 10)),
s_ 12 (.bin .lss (.t 11) (.c (i0_)))] (some [5, 12]) []) (
(.cond (.t 12) (
.reg none [
s_ 13 (.mv (.t 5)),
s_ 14 (.bin .sub (.t 13) (.c (.int .i64 1))),
s_ 5 (.as (.t 14))] (some [5]) []) (
.skip))))) (
(.seq (
.reg none [
s_ 15 (.mv (.t 5)),
s_ 4 (.as (.t 15))] (some [4]) []) (
.ret)))))))))
def A73_L0b : ACode :=
(.seq (
(.seq (
.reg none [
s_ 7 (.mv (.t 3)),
s_ 8 (.bin .lss (.t 7) (.c (.int .i64 2)))] (some [1, 3, 8]) []) (
(.cond (.t 8) (
.skip) (
.exit 0))))) (
(.seq (
(.block 1 (
(.seq (
.reg none [
s_ 11 (.mv (.t 3)),
s_ 12 (.fad 0 (.t 1)),
s_ 13 (.iaa 2 12 (.t 12) (.t 11)),
s_ 14 (.load true 12 (.t 13)),
s_ 4 (.alloc [i0_, i0_, i0_, i0_, i0_, i0_, i0_, i0_, i0_, i0_, i0_, i0_]),
n_ (.store 12 (.t 4) (.t 14))] (some [1, 3, 4]) []) (
(.seq (
(.seq (
.reg (some [.free, .free, .free, .free, .dr [23] [], .dr [19] [], .dr [19] [], .dr [19] [], .dr [19] [], .free, .free, .free]) [
s_ 15 (.load true 12 (.t 4)),
s_ 16 (.call 16 [.t 15]),
s_ 17 (.un .not (.t 16)),
s_ 18 (.mv (.t 17)),
⟨some 19, .load true 12 (.t 4), some (18, false), true⟩,
⟨some 20, .mv (.t 3), some (18, false), true⟩,
⟨some 21, .fad 24 (.t 1), some (18, false), true⟩,
⟨some 22, .iaa 2 3 (.t 21) (.t 20), some (18, false), true⟩,
⟨some 23, .load true 3 (.t 22), some (18, false), true⟩,
⟨some 24, .call 18 [.t 19, .t 23], some (18, false), true⟩,
⟨some 25, .un .not (.t 24), some (18, false), true⟩,
s_ 26 (.pick (.t 18) (.c (.bool true)) (.t 25))] (some [1, 3, 4, 26]) []) (
(.cond (.t 26) (
(.seq (
.reg none [
s_ 2 (.as (.c (.bool false)))] (some [2]) []) (
.ret))) (
.skip))))) (
(.seq (
.reg none [
s_ 27 (.fad 2 (.t 4)),
s_ 28 (.iaa 3 1 (.t 27) (.c (i0_))),
s_ 29 (.load false 1 (.t 28)),
s_ 30 (.fad 2 (.t 4)),
s_ 31 (.iaa 3 1 (.t 30) (.c (.int .i64 1))),
s_ 32 (.load false 1 (.t 31)),
s_ 33 (.bin .add (.t 29) (.t 32)),
s_ 34 (.fad 2 (.t 4)),
s_ 35 (.iaa 3 1 (.t 34) (.c (.int .i64 2))),
s_ 36 (.load false 1 (.t 35)),
s_ 37 (.bin .add (.t 33) (.t 36)),
s_ 38 (.bin .add (.t 37) (.c (.int .i64 15))),
s_ 39 (.bin .mul (.c (.int .i64 39546000)) (.t 38)),
s_ 5 (.as (.t 39))] (some [1, 3, 4, 5]) []) (
(.seq (
.reg none [
s_ 40 (.fad 0 (.t 4)),
s_ 41 (.fad 0 (.t 40)),
s_ 42 (.load false 1 (.t 41)),
s_ 43 (.fad 0 (.t 4)),
s_ 44 (.fad 0 (.t 43)),
s_ 45 (.load false 1 (.t 44)),
s_ 46 (.un .neg (.t 45)),
s_ 47 (.mx [.t 42, .t 46]),
s_ 48 (.bin .mul (.c (.int .i64 8)) (.t 47)),
s_ 49 (.mv (.t 5)),
s_ 50 (.bin .add (.t 48) (.t 49)),
s_ 51 (.bin .gtr (.t 50) (.c (.int .i64 3515200000))),
s_ 52 (.mv (.t 51)),
⟨some 53, .fad 0 (.t 4), some (52, false), true⟩,
⟨some 54, .fad 1 (.t 53), some (52, false), true⟩,
⟨some 55, .load false 1 (.t 54), some (52, false), true⟩,
⟨some 56, .fad 0 (.t 4), some (52, false), true⟩,
⟨some 57, .fad 1 (.t 56), some (52, false), true⟩,
⟨some 58, .load false 1 (.t 57), some (52, false), true⟩,
⟨some 59, .un .neg (.t 58), some (52, false), true⟩,
⟨some 60, .mx [.t 55, .t 59], some (52, false), true⟩,
⟨some 61, .bin .mul (.c (.int .i64 8)) (.t 60), some (52, false), true⟩,
⟨some 62, .mv (.t 5), some (52, false), true⟩,
⟨some 63, .bin .add (.t 61) (.t 62), some (52, false), true⟩,
⟨some 64, .bin .gtr (.t 63) (.c (.int .i64 3515200000)), some (52, false), true⟩,
s_ 65 (.pick (.t 52) (.c (.bool true)) (.t 64))] (some [1, 3, 65]) [4]) (
(.cond (.t 65) (
(.seq (
.reg none [
s_ 2 (.as (.c (.bool false)))] (some [2]) []) (
.ret))) (
.skip))))))))))) (some [1, 3]) [2, 4, 5, 16, 24])) (
.reg none [
s_ 9 (.mv (.t 3)),
s_ 10 (.bin .add (.t 9) (.c (.int .i64 1))),
s_ 3 (.as (.t 10))] (some [1, 3]) []))))
def A73_L0 : ACode := .loop A73_L0b (some [1, 3]) [2, 4, 5, 16, 24]
def A73 : AFn := .code [.t 2] (
(.seq (
.reg none [
s_ 1 (.box (.t 0)),
s_ 2 (.as (.c (.bool false)))] (some [1]) []) (
(.seq (
(.seq (
.reg none [
s_ 3 (.as (.c (i0_)))] (some [1, 3]) []) (
(.block 0 (
A73_L0) (some [1]) [2, 3, 4, 5, 16, 24])))) (
(.seq (
(.seq (
.reg none [
s_ 66 (.fad 31 (.t 1)),
s_ 67 (.load false 1 (.t 66)),
s_ 68 (.len 0 (.t 67)),
s_ 69 (.bin .gtr (.t 68) (.c (.int .i64 16))),
s_ 70 (.mv (.t 69)),
⟨some 71, .fad 32 (.t 1), some (70, false), true⟩,
⟨some 72, .load false 1 (.t 71), some (70, false), true⟩,
⟨some 73, .len 0 (.t 72), some (70, false), true⟩,
⟨some 74, .bin .gtr (.t 73) (.c (.int .i64 8)), some (70, false), true⟩,
s_ 75 (.pick (.t 70) (.c (.bool true)) (.t 74)),
s_ 76 (.mv (.t 75)),
⟨some 77, .fad 33 (.t 1), some (76, false), true⟩,
⟨some 78, .load false 1 (.t 77), some (76, false), true⟩,
⟨some 79, .len 0 (.t 78), some (76, false), true⟩,
⟨some 80, .bin .gtr (.t 79) (.c (.int .i64 16)), some (76, false), true⟩,
s_ 81 (.pick (.t 76) (.c (.bool true)) (.t 80))] (some [1, 81]) []) (
(.cond (.t 81) (
(.seq (
.reg none [
s_ 2 (.as (.c (.bool false)))] (some [2]) []) (
.ret))) (
.skip))))) (
(.seq (
.reg none [
s_ 82 (.fad 35 (.t 1)),
s_ 83 (.load true 3 (.t 82)),
s_ 84 (.call 99 [.t 83]),
s_ 85 (.mv (.t 84)),
⟨some 86, .fad 38 (.t 1), some (85, true), true⟩,
⟨some 87, .load true 3 (.t 86), some (85, true), true⟩,
⟨some 88, .call 99 [.t 87], some (85, true), true⟩,
s_ 89 (.pick (.t 85) (.t 88) (.c (.bool false))),
s_ 90 (.mv (.t 89)),
⟨some 91, .fad 38 (.t 1), some (90, true), true⟩,
⟨some 92, .fad 0 (.t 91), some (90, true), true⟩,
⟨some 93, .load false 1 (.t 92), some (90, true), true⟩,
⟨some 94, .fad 35 (.t 1), some (90, true), true⟩,
⟨some 95, .fad 0 (.t 94), some (90, true), true⟩,
⟨some 96, .load false 1 (.t 95), some (90, true), true⟩,
⟨some 97, .bin .leq (.t 93) (.t 96), some (90, true), true⟩,
s_ 98 (.pick (.t 90) (.t 97) (.c (.bool false))),
s_ 99 (.mv (.t 98)),
⟨some 100, .fad 38 (.t 1), some (99, true), true⟩,
⟨some 101, .fad 1 (.t 100), some (99, true), true⟩,
⟨some 102, .load false 1 (.t 101), some (99, true), true⟩,
⟨some 103, .fad 35 (.t 1), some (99, true), true⟩,
⟨some 104, .fad 1 (.t 103), some (99, true), true⟩,
⟨some 105, .load false 1 (.t 104), some (99, true), true⟩,
⟨some 106, .bin .leq (.t 102) (.t 105), some (99, true), true⟩,
s_ 107 (.pick (.t 99) (.t 106) (.c (.bool false))),
s_ 108 (.mv (.t 107)),
⟨some 109, .fad 38 (.t 1), some (108, true), true⟩,
⟨some 110, .fad 2 (.t 109), some (108, true), true⟩,
⟨some 111, .load false 1 (.t 110), some (108, true), true⟩,
⟨some 112, .fad 35 (.t 1), some (108, true), true⟩,
⟨some 113, .fad 2 (.t 112), some (108, true), true⟩,
⟨some 114, .load false 1 (.t 113), some (108, true), true⟩,
⟨some 115, .bin .leq (.t 111) (.t 114), some (108, true), true⟩,
s_ 116 (.pick (.t 108) (.t 115) (.c (.bool false))),
s_ 6 (.as (.t 116))] (some [1, 6]) []) (
(.seq (
.reg none [
s_ 117 (.fad 30 (.t 1)),
s_ 118 (.load false 1 (.t 117)),
s_ 119 (.call 100 [.t 118]),
s_ 120 (.mv (.t 119)),
⟨some 121, .load true 44 (.t 1), some (120, true), true⟩,
⟨some 122, .call 101 [.t 121], some (120, true), true⟩,
⟨some 123, .call 100 [.t 122], some (120, true), true⟩,
s_ 124 (.pick (.t 120) (.t 123) (.c (.bool false))),
s_ 125 (.mv (.t 124)),
⟨some 126, .fad 31 (.t 1), some (125, true), true⟩,
⟨some 127, .load false 1 (.t 126), some (125, true), true⟩,
⟨some 128, .call 102 [.t 127], some (125, true), true⟩,
s_ 129 (.pick (.t 125) (.t 128) (.c (.bool false))),
s_ 130 (.mv (.t 129)),
⟨some 131, .fad 32 (.t 1), some (130, true), true⟩,
⟨some 132, .load false 1 (.t 131), some (130, true), true⟩,
⟨some 133, .fad 31 (.t 1), some (130, true), true⟩,
⟨some 134, .load false 1 (.t 133), some (130, true), true⟩,
⟨some 135, .len 0 (.t 134), some (130, true), true⟩,
⟨some 136, .call 103 [.t 132, .t 135], some (130, true), true⟩,
s_ 137 (.pick (.t 130) (.t 136) (.c (.bool false))),
s_ 138 (.mv (.t 137)),
⟨some 139, .fad 33 (.t 1), some (138, true), true⟩,
⟨some 140, .load false 1 (.t 139), some (138, true), true⟩,
⟨some 141, .fad 31 (.t 1), some (138, true), true⟩,
⟨some 142, .load false 1 (.t 141), some (138, true), true⟩,
⟨some 143, .len 0 (.t 142), some (138, true), true⟩,
⟨some 144, .call 104 [.t 140, .t 143], some (138, true), true⟩,
s_ 145 (.pick (.t 138) (.t 144) (.c (.bool false))),
s_ 146 (.mv (.t 145)),
⟨some 147, .fad 34 (.t 1), some (146, true), true⟩,
⟨some 148, .load false 1 (.t 147), some (146, true), true⟩,
⟨some 149, .bin .geq (.t 148) (.c (i0_)), some (146, true), true⟩,
s_ 150 (.pick (.t 146) (.t 149) (.c (.bool false))),
s_ 151 (.mv (.t 150)),
⟨some 152, .fad 34 (.t 1), some (151, true), true⟩,
⟨some 153, .load false 1 (.t 152), some (151, true), true⟩,
⟨some 154, .bin .leq (.t 153) (.c (.int .i64 100)), some (151, true), true⟩,
s_ 155 (.pick (.t 151) (.t 154) (.c (.bool false))),
s_ 156 (.mv (.t 155)),
⟨some 157, .mv (.t 6), some (156, true), true⟩,
s_ 158 (.pick (.t 156) (.t 157) (.c (.bool false))),
s_ 159 (.mv (.t 158)),
⟨some 160, .fad 42 (.t 1), some (159, true), true⟩,
⟨some 161, .load false 1 (.t 160), some (159, true), true⟩,
⟨some 162, .bin .geq (.t 161) (.c (i0_)), some (159, true), true⟩,
s_ 163 (.pick (.t 159) (.t 162) (.c (.bool false))),
s_ 164 (.mv (.t 163)),
⟨some 165, .fad 42 (.t 1), some (164, true), true⟩,
⟨some 166, .load false 1 (.t 165), some (164, true), true⟩,
⟨some 167, .bin .leq (.t 166) (.c (.int .i64 20)), some (164, true), true⟩,
s_ 168 (.pick (.t 164) (.t 167) (.c (.bool false))),
s_ 169 (.mv (.t 168)),
⟨some 170, .fad 43 (.t 1), some (169, true), true⟩,
⟨some 171, .load false 1 (.t 170), some (169, true), true⟩,
⟨some 172, .bin .geq (.t 171) (.c (.int .i64 1)), some (169, true), true⟩,
s_ 173 (.pick (.t 169) (.t 172) (.c (.bool false))),
s_ 174 (.mv (.t 173)),
⟨some 175, .fad 43 (.t 1), some (174, true), true⟩,
⟨some 176, .load false 1 (.t 175), some (174, true), true⟩,
⟨some 177, .bin .leq (.t 176) (.c (.int .i64 8)), some (174, true), true⟩,
s_ 178 (.pick (.t 174) (.t 177) (.c (.bool false))),
s_ 2 (.as (.t 178))] (some [2]) [1]) (
.ret)))))))))))
def A74_L0b : ACode :=
(.seq (
(.seq (
.reg none [
s_ 6 (.mv (.t 5)),
s_ 7 (.bin .lss (.t 6) (.c (.int .i64 3)))] (some [2, 3, 5, 7]) []) (
(.cond (.t 7) (
.skip) (
.exit 0))))) (
(.seq (
(.block 1 (
(.seq (
.reg (some [.dr [16] [], .dr [16] [], .dr [16] [], .dr [12] [], .dr [12] [], .dr [12] [], .dr [12] [], .dr [12] [], .free, .free, .dr [26] [], .dr [26] [], .dr [26] [], .dr [22] [], .dr [22] [], .dr [22] [], .dr [22] [], .dr [22] [], .free, .free]) [
s_ 10 (.mv (.t 5)),
s_ 11 (.iaa 3 1 (.t 3) (.t 10)),
s_ 12 (.load false 1 (.t 11)),
s_ 13 (.mv (.t 5)),
s_ 14 (.fad 6 (.t 2)),
s_ 15 (.iaa 3 1 (.t 14) (.t 13)),
s_ 16 (.load false 1 (.t 15)),
s_ 17 (.bin .mul (.c (.int .i64 12)) (.t 16)),
s_ 18 (.bin .lss (.t 12) (.t 17)),
s_ 19 (.mv (.t 18)),
⟨some 20, .mv (.t 5), some (19, false), true⟩,
⟨some 21, .iaa 3 1 (.t 3) (.t 20), some (19, false), true⟩,
⟨some 22, .load false 1 (.t 21), some (19, false), true⟩,
⟨some 23, .mv (.t 5), some (19, false), true⟩,
⟨some 24, .fad 9 (.t 2), some (19, false), true⟩,
⟨some 25, .iaa 3 1 (.t 24) (.t 23), some (19, false), true⟩,
⟨some 26, .load false 1 (.t 25), some (19, false), true⟩,
⟨some 27, .bin .mul (.c (.int .i64 12)) (.t 26), some (19, false), true⟩,
⟨some 28, .bin .gtr (.t 22) (.t 27), some (19, false), true⟩,
s_ 29 (.pick (.t 19) (.c (.bool true)) (.t 28))] (some [2, 3, 5, 29]) []) (
(.cond (.t 29) (
(.seq (
.reg none [
s_ 4 (.as (.c (.bool false)))] (some [4]) []) (
.ret))) (
.skip))))) (some [2, 3, 5]) [4])) (
.reg none [
s_ 8 (.mv (.t 5)),
s_ 9 (.bin .add (.t 8) (.c (.int .i64 1))),
s_ 5 (.as (.t 9))] (some [2, 3, 5]) []))))
def A74_L0 : ACode := .loop A74_L0b (some [2, 3, 5]) [4]
def A74 : AFn := .code [.t 4] (
(.seq (
.reg none [
s_ 2 (.box (.t 0)),
s_ 3 (.box (.t 1)),
s_ 4 (.as (.c (.bool false)))] (some [2, 3]) []) (
(.seq (
(.seq (
.reg none [
s_ 5 (.as (.c (i0_)))] (some [2, 3, 5]) []) (
(.block 0 (
A74_L0) (some []) [4, 5])))) (
(.seq (
.reg none [
s_ 4 (.as (.c (.bool true)))] (some [4]) []) (
.ret)))))))
def A75_L0b : ACode :=
(.seq (
.reg none [
s_ 30 (.bin .lss (.t 29) (.c (.int .i64 3)))] (some [1, 3, 4, 5, 23, 24, 28, 29, 30]) []) (
(.seq (
(.cond (.t 30) (
.skip) (
.exit 2))) (
(.seq (
(.block 3 (
(.seq (
.reg none [
s_ 31 (.mv (.t 29)),
s_ 32 (.ixa false 3 1 (.t 28) (.t 29)),
s_ 7 (.as (.t 31)),
s_ 8 (.as (.t 32))] (some [1, 3, 4, 5, 7, 8, 23, 24, 28, 29]) []) (
(.seq (
.reg none [
s_ 33 (.mv (.t 8)),
s_ 34 (.mv (.t 5)),
s_ 35 (.mv (.t 7)),
s_ 36 (.fad 44 (.t 1)),
s_ 37 (.iaa 2 3 (.t 36) (.t 34)),
s_ 38 (.iaa 3 1 (.t 37) (.t 35)),
s_ 39 (.load false 1 (.t 38)),
s_ 40 (.bin .sub (.t 33) (.t 39)),
s_ 9 (.as (.t 40))] (some [1, 3, 4, 5, 7, 9, 23, 24, 28, 29]) []) (
(.seq (
.reg none [
s_ 41 (.mv (.t 9)),
s_ 42 (.mv (.t 9)),
s_ 43 (.un .neg (.t 42)),
s_ 44 (.mx [.t 41, .t 43]),
s_ 45 (.mv (.t 4)),
s_ 46 (.bin .gtr (.t 44) (.t 45))] (some [1, 3, 4, 5, 7, 23, 24, 28, 29, 46]) []) (
(.cond (.t 46) (
.reg none [
s_ 47 (.mv (.t 3)),
s_ 48 (.mv (.t 5)),
s_ 49 (.mv (.t 7)),
s_ 50 (.build [i0_, i0_, i0_, i0_] [(0, 1, .c (.int .i64 1)), (1, 1, .t 48), (2, 1, .t 49)]),
s_ 51 (.bsl 4 1 [i0_, i0_, i0_, i0_] [(0, .t 50)]),
s_ 52 (.app 4 (.t 47) (.t 51)),
s_ 3 (.as (.t 52))] (some [1, 3, 4, 5, 23, 24, 28, 29]) []) (
.skip))))))))) (some [1, 3, 4, 5, 23, 24, 28, 29]) [7, 8, 9, 51])) (
.reg none [
s_ 53 (.bin .add (.t 29) (.c (.int .i64 1))),
s_ 29 (.mv (.t 53))] (some [1, 3, 4, 5, 23, 24, 28, 29]) []))))))
def A75_L0 : ACode := .loop A75_L0b (some [1, 3, 4, 5, 23, 24, 28, 29]) [7, 8, 9, 51]
def A75_L1b : ACode :=
(.seq (
.reg none [
s_ 25 (.bin .lss (.t 24) (.c (.int .i64 2)))] (some [1, 3, 4, 23, 24, 25]) []) (
(.seq (
(.cond (.t 25) (
.skip) (
.exit 0))) (
(.seq (
(.block 1 (
(.seq (
.reg none [
s_ 26 (.mv (.t 24)),
s_ 27 (.ixa true 2 3 (.t 23) (.t 24)),
s_ 6 (.alloc [i0_, i0_, i0_]),
s_ 5 (.as (.t 26)),
n_ (.store 3 (.t 6) (.t 27))] (some [1, 3, 4, 5, 6, 23, 24]) []) (
(.seq (
.reg none [
s_ 28 (.load true 3 (.t 6)),
s_ 29 (.mv (.c (i0_)))] (some [1, 3, 4, 5, 23, 24, 28, 29]) [6]) (
(.block 2 (
A75_L0) (some [1, 3, 4, 23, 24]) [7, 8, 9, 51])))))) (some [1, 3, 4, 23, 24]) [5, 6, 7, 8, 9, 51])) (
.reg none [
s_ 54 (.bin .add (.t 24) (.c (.int .i64 1))),
s_ 24 (.mv (.t 54))] (some [1, 3, 4, 23, 24]) []))))))
def A75_L1 : ACode := .loop A75_L1b (some [1, 3, 4, 23, 24]) [5, 6, 7, 8, 9, 51]
def A75 : AFn := .code [.t 2] (
(.seq (
.reg none [
s_ 1 (.box (.t 0)),
s_ 2 (.as (.c (.nils 4)))] (some [1]) []) (
(.seq (
.reg none [
s_ 3 (.as (.c (.nils 4)))] (some [1, 3]) []) (
(.seq (
.reg none [
s_ 10 (.fad 0 (.t 1)),
s_ 11 (.fad 35 (.t 10)),
s_ 12 (.fad 0 (.t 11)),
s_ 13 (.load false 1 (.t 12)),
s_ 4 (.as (.t 13))] (some [1, 3, 4]) []) (
(.seq (
(.seq (
.reg none [
s_ 14 (.fad 56 (.t 1)),
s_ 15 (.load false 1 (.t 14)),
s_ 16 (.call 105 [.t 15, .c (.bool true)])] (some [1, 3, 4, 16]) []) (
(.cond (.t 16) (
.reg none [
s_ 17 (.mv (.t 4)),
s_ 18 (.fad 0 (.t 1)),
s_ 19 (.fad 43 (.t 18)),
s_ 20 (.load false 1 (.t 19)),
s_ 21 (.mn [.t 17, .t 20]),
s_ 4 (.as (.t 21))] (some [1, 3, 4]) []) (
.skip))))) (
(.seq (
(.seq (
.reg none [
s_ 22 (.fad 50 (.t 1)),
s_ 23 (.load true 6 (.t 22)),
s_ 24 (.mv (.c (i0_)))] (some [1, 3, 4, 23, 24]) []) (
(.block 0 (
A75_L1) (some [3]) [5, 6, 7, 8, 9, 51])))) (
(.seq (
.reg none [
s_ 55 (.mv (.t 3)),
s_ 2 (.as (.t 55))] (some [2]) []) (
.ret)))))))))))))
def A76 : AFn := .code [.t 2] (
(.seq (
.reg none [
s_ 1 (.box (.t 0)),
s_ 2 (.as (.c (.nils 4)))] (some [1]) []) (
(.seq (
(.seq (
.reg none [
s_ 3 (.fad 0 (.t 1)),
s_ 4 (.load true 44 (.t 3)),
s_ 5 (.fad 50 (.t 1)),
s_ 6 (.load true 6 (.t 5)),
s_ 7 (.call 44 [.t 4, .t 6])] (some [7]) [1]) (
(.cond (.t 7) (
(.seq (
.reg none [
s_ 2 (.as (.c (.nils 4)))] (some [2]) []) (
.ret))) (
.skip))))) (
(.seq (
.reg none [
s_ 8 (.build [i0_, i0_, i0_, i0_] [(0, 1, .c (.int .i64 2))]),
s_ 9 (.bsl 4 1 [i0_, i0_, i0_, i0_] [(0, .t 8)]),
s_ 2 (.as (.t 9))] (some [2]) []) (
.ret)))))))
def A77_R0a : ACode :=
.reg none [
s_ 8 (.as (.t 37))] (some [3, 4, 6, 7, 8]) []
def A77_R0b : ACode :=
(.block 5 (
(.seq (
.reg none [
s_ 38 (.mv (.t 8)),
s_ 39 (.fad 0 (.t 7)),
s_ 40 (.load false 1 (.t 39)),
s_ 41 (.call 37 [.t 38, .t 40])] (some [3, 4, 6, 41]) [7]) (
(.cond (.t 41) (
(.seq (
.reg none [
s_ 42 (.load false 1 (.t 3)),
s_ 43 (.load false 1 (.t 4)),
s_ 44 (.load false 1 (.t 6)),
s_ 45 (.build [i0_, i0_, i0_, i0_] [(0, 1, .c (.int .i64 3)), (1, 1, .t 43), (3, 1, .t 44)]),
s_ 46 (.bsl 4 1 [i0_, i0_, i0_, i0_] [(0, .t 45)]),
s_ 47 (.app 4 (.t 42) (.t 46)),
n_ (.store 1 (.t 3) (.t 47))] (some []) [3, 4, 6]) (
.exit 4))) (
.skip))))) (some []) [41, 46, 47])
def A77_R0 : ACode := .rf 0 (.t 36) [37]  A77_R0a A77_R0b
def A77_L1b : ACode :=
(.seq (
.reg none [
s_ 20 (.bin .lss (.t 19) (.t 18))] (some [1, 2, 3, 4, 5, 10, 11, 17, 18, 19, 20]) []) (
(.seq (
(.cond (.t 20) (
.skip) (
.exit 2))) (
(.seq (
(.block 3 (
(.seq (
.reg none [
s_ 21 (.mv (.t 19)),
s_ 22 (.ias 1 (.t 17) (.t 19)),
s_ 23 (.load true 1 (.t 22)),
s_ 6 (.alloc [i0_]),
s_ 7 (.alloc [.nils 2]),
n_ (.store 1 (.t 6) (.t 21)),
n_ (.store 1 (.t 7) (.t 23))] (some [1, 2, 3, 4, 5, 6, 7, 10, 11, 17, 18, 19]) []) (
(.seq (
(.seq (
.reg none [
s_ 24 (.fad 56 (.t 1)),
s_ 25 (.load false 1 (.t 24)),
s_ 26 (.load false 1 (.t 6)),
s_ 27 (.ias 1 (.t 25) (.t 26)),
s_ 28 (.load false 1 (.t 27)),
s_ 29 (.un .not (.t 28))] (some [1, 2, 3, 4, 5, 6, 7, 10, 11, 17, 18, 19, 29]) []) (
(.cond (.t 29) (
.exit 3) (
.skip))))) (
(.seq (
.reg (some [.dr [35] [], .dr [30, 35] [], .dr [30, 35] [], .dr [35] [], .dr [35] [], .dr [30, 34] [], .free]) [
s_ 30 (.load false 1 (.t 4)),
s_ 31 (.fad 0 (.t 1)),
s_ 32 (.fad 0 (.t 31)),
s_ 33 (.iaa 2 12 (.t 32) (.t 30)),
s_ 34 (.load true 12 (.t 33)),
s_ 35 (.load true 3 (.t 5)),
s_ 36 (.call 79 [.t 34, .t 35])] (some [1, 2, 3, 4, 5, 6, 7, 10, 11, 17, 18, 19, 36]) []) (
(.block 4 (
A77_R0) (some [1, 2, 3, 4, 5, 10, 11, 17, 18, 19]) [8, 41, 46])))))))) (some [1, 2, 3, 4, 5, 10, 11, 17, 18, 19]) [6, 7, 8, 36, 41, 46])) (
.reg none [
s_ 48 (.bin .add (.t 19) (.c (.int .i64 1))),
s_ 19 (.mv (.t 48))] (some [1, 2, 3, 4, 5, 10, 11, 17, 18, 19]) []))))))
def A77_L1 : ACode := .loop A77_L1b (some [1, 2, 3, 4, 5, 10, 11, 17, 18, 19]) [6, 7, 8, 36, 41, 46]
def A77_L2b : ACode :=
(.seq (
.reg none [
s_ 12 (.bin .lss (.t 11) (.c (.int .i64 2)))] (some [1, 2, 3, 10, 11, 12]) []) (
(.seq (
(.cond (.t 12) (
.skip) (
.exit 0))) (
(.seq (
(.block 1 (
(.seq (
.reg none [
s_ 13 (.mv (.t 11)),
s_ 14 (.ixa true 2 3 (.t 10) (.t 11)),
s_ 4 (.alloc [i0_]),
s_ 5 (.alloc [i0_, i0_, i0_]),
n_ (.store 1 (.t 4) (.t 13)),
n_ (.store 3 (.t 5) (.t 14))] (some [1, 2, 3, 4, 5, 10, 11]) []) (
(.seq (
.reg none [
s_ 15 (.fad 0 (.t 1)),
s_ 16 (.fad 41 (.t 15)),
s_ 17 (.load false 1 (.t 16)),
s_ 18 (.len 0 (.t 17)),
s_ 19 (.mv (.c (i0_)))] (some [1, 2, 3, 4, 5, 10, 11, 17, 18, 19]) []) (
(.block 2 (
A77_L1) (some [1, 2, 3, 10, 11]) [6, 7, 8, 36, 41, 46])))))) (some [1, 2, 3, 10, 11]) [4, 5, 6, 7, 8, 36, 41, 46])) (
.reg none [
s_ 49 (.bin .add (.t 11) (.c (.int .i64 1))),
s_ 11 (.mv (.t 49))] (some [1, 2, 3, 10, 11]) []))))))
def A77_L2 : ACode := .loop A77_L2b (some [1, 2, 3, 10, 11]) [4, 5, 6, 7, 8, 36, 41, 46]
def A77 : AFn := .code [.t 2] (
(.seq (
.reg none [
s_ 1 (.box (.t 0)),
s_ 2 (.as (.c (.nils 4)))] (some [1, 2]) []) (
(.seq (
.reg none [
s_ 3 (.alloc [.nils 4])] (some [1, 2, 3]) []) (
(.seq (
(.seq (
.reg none [
s_ 9 (.fad 50 (.t 1)),
s_ 10 (.load true 6 (.t 9)),
s_ 11 (.mv (.c (i0_)))] (some [1, 2, 3, 10, 11]) []) (
(.block 0 (
A77_L2) (some [3]) [4, 5, 6, 7, 8, 36, 41, 46])))) (
(.seq (
.reg none [
s_ 50 (.load false 1 (.t 3)),
s_ 2 (.as (.t 50))] (some [2]) [3]) (
.ret)))))))))
def A78_L0b : ACode :=
(.seq (
.reg none [
s_ 10 (.bin .lss (.t 9) (.t 8))] (some [3, 7, 8, 9, 10]) []) (
(.seq (
(.cond (.t 10) (
.skip) (
.exit 0))) (
(.seq (
(.block 1 (
(.seq (
.reg none [
s_ 11 (.mv (.t 9)),
s_ 12 (.ias 1 (.t 7) (.t 9)),
s_ 13 (.load false 1 (.t 12)),
s_ 4 (.as (.t 11)),
s_ 5 (.as (.t 13))] (some [3, 4, 5, 7, 8, 9]) []) (
(.seq (
.reg none [
s_ 14 (.mv (.t 5))] (some [3, 4, 7, 8, 9, 14]) []) (
(.cond (.t 14) (
.reg none [
s_ 15 (.mv (.t 3)),
s_ 16 (.mv (.t 4)),
s_ 17 (.build [i0_, i0_, i0_, i0_] [(0, 1, .c (.int .i64 4)), (3, 1, .t 16)]),
s_ 18 (.bsl 4 1 [i0_, i0_, i0_, i0_] [(0, .t 17)]),
s_ 19 (.app 4 (.t 15) (.t 18)),
s_ 3 (.as (.t 19))] (some [3, 7, 8, 9]) []) (
.skip))))))) (some [3, 7, 8, 9]) [4, 5, 18])) (
.reg none [
s_ 20 (.bin .add (.t 9) (.c (.int .i64 1))),
s_ 9 (.mv (.t 20))] (some [3, 7, 8, 9]) []))))))
def A78_L0 : ACode := .loop A78_L0b (some [3, 7, 8, 9]) [4, 5, 18]
def A78 : AFn := .code [.t 2] (
(.seq (
.reg none [
s_ 1 (.box (.t 0)),
s_ 2 (.as (.c (.nils 4)))] (some [1]) []) (
(.seq (
.reg none [
s_ 3 (.as (.c (.nils 4)))] (some [1, 3]) []) (
(.seq (
(.seq (
.reg none [
s_ 6 (.fad 56 (.t 1)),
s_ 7 (.load false 1 (.t 6)),
s_ 8 (.len 0 (.t 7)),
s_ 9 (.mv (.c (i0_)))] (some [3, 7, 8, 9]) [1]) (
(.block 0 (
A78_L0) (some [3]) [4, 5, 18])))) (
(.seq (
.reg none [
s_ 21 (.mv (.t 3)),
s_ 2 (.as (.t 21))] (some [2]) []) (
.ret)))))))))
def A79 : AFn := .code [.t 4] (
(.seq (
.reg none [
s_ 2 (.box (.t 0)),
s_ 3 (.box (.t 1)),
s_ 4 (.as (.c (.nilf)))] (some [2, 3]) []) (
(.seq (
.reg none [
s_ 5 (.mkf (.func 106) [] [.t 3, .t 2]),
s_ 4 (.as (.t 5))] (some [4]) []) (
.ret)))))
def A80 : AFn := .code [.t 4] (
(.seq (
.reg none [
s_ 4 (.as (.c (i0_)))] (some [0, 1]) []) (
(.seq (
(.seq (
.reg none [
s_ 11 (.mv (.t 0)),
s_ 12 (.len 0 (.t 11)),
s_ 13 (.bin .eql (.t 12) (.c (i0_))),
s_ 14 (.mv (.t 13)),
⟨some 15, .mv (.t 1), some (14, false), true⟩,
⟨some 16, .len 0 (.t 15), some (14, false), true⟩,
⟨some 17, .bin .eql (.t 16) (.c (i0_)), some (14, false), true⟩,
s_ 18 (.pick (.t 14) (.c (.bool true)) (.t 17))] (some [0, 1, 18]) []) (
(.cond (.t 18) (
(.seq (
.reg none [
s_ 4 (.as (.c (i0_)))] (some [4]) []) (
.ret))) (
.skip))))) (
(.seq (
.reg none [
s_ 20 (.mv (.t 0)),
s_ 21 (.call 107 [.t 20]),
s_ 19 (.mv (.t 21)),
s_ 22 (.ext (.t 19) 0),
s_ 23 (.ext (.t 19) 1),
s_ 5 (.alloc [i0_, i0_]),
s_ 6 (.alloc [i0_, i0_]),
n_ (.store 2 (.t 5) (.t 22)),
n_ (.store 2 (.t 6) (.t 23))] (some [1, 5, 6]) []) (
(.seq (
.reg none [
s_ 25 (.mv (.t 1)),
s_ 26 (.call 107 [.t 25]),
s_ 24 (.mv (.t 26)),
s_ 27 (.ext (.t 24) 0),
s_ 28 (.ext (.t 24) 1),
s_ 7 (.alloc [i0_, i0_]),
s_ 8 (.alloc [i0_, i0_]),
n_ (.store 2 (.t 7) (.t 27)),
n_ (.store 2 (.t 8) (.t 28))] (some [5, 6, 7, 8]) []) (
(.seq (
.reg (some [.dr [30, 32, 33, 9, 10] [], .dr [29, 32, 33, 9, 10] [], .dr [32, 33, 9, 10] [], .dr [29, 30, 31, 33, 9, 10] [], .dr [29, 30, 31, 32, 9, 10] [], .dr [9, 10] [], .dr [29, 30, 31, 32, 33, 34, 10] [], .dr [29, 30, 31, 32, 33, 34, 9] [], .free, .free]) [
s_ 29 (.load true 2 (.t 7)),
s_ 30 (.load true 2 (.t 6)),
s_ 31 (.call 67 [.t 29, .t 30]),
s_ 32 (.load true 2 (.t 5)),
s_ 33 (.load true 2 (.t 8)),
s_ 34 (.call 67 [.t 32, .t 33]),
s_ 9 (.alloc [i0_, i0_]),
s_ 10 (.alloc [i0_, i0_]),
n_ (.store 2 (.t 9) (.t 31)),
n_ (.store 2 (.t 10) (.t 34))] (some [9, 10]) [5, 6, 7, 8]) (
(.seq (
.reg none [
s_ 35 (.fad 0 (.t 9)),
s_ 36 (.load false 1 (.t 35)),
s_ 37 (.fad 1 (.t 9)),
s_ 38 (.load false 1 (.t 37)),
s_ 39 (.fad 0 (.t 10)),
s_ 40 (.load false 1 (.t 39)),
s_ 41 (.fad 1 (.t 10)),
s_ 42 (.load false 1 (.t 41)),
s_ 43 (.mx [.c (i0_), .t 36, .t 38, .t 40, .t 42]),
s_ 4 (.as (.t 43))] (some [4]) [9, 10]) (
.ret)))))))))))))
def A81_L0b : ACode :=
(.seq (
(.seq (
.reg none [
s_ 5 (.mv (.t 4)),
s_ 6 (.mv (.t 0)),
s_ 7 (.bin .lss (.t 5) (.t 6))] (some [0, 3, 4, 7]) []) (
(.cond (.t 7) (
.skip) (
.exit 0))))) (
(.seq (
(.block 1 (
.reg none [
s_ 10 (.mv (.t 3)),
s_ 11 (.bin .mul (.c (.int .i64 65)) (.t 10)),
s_ 3 (.as (.t 11))] (some [0, 3, 4]) []) (some [0, 3, 4]) [])) (
.reg none [
s_ 8 (.mv (.t 4)),
s_ 9 (.bin .add (.t 8) (.c (.int .i64 1))),
s_ 4 (.as (.t 9))] (some [0, 3, 4]) []))))
def A81_L0 : ACode := .loop A81_L0b (some [0, 3, 4]) []
def A81 : AFn := .code [.t 2] (
(.seq (
.reg none [
s_ 2 (.as (.c (i0_)))] (some [0]) []) (
(.seq (
.reg none [
s_ 3 (.as (.c (.int .i64 1)))] (some [0, 3]) []) (
(.seq (
(.seq (
.reg none [
s_ 4 (.as (.c (i0_)))] (some [0, 3, 4]) []) (
(.block 0 (
A81_L0) (some [3]) [4])))) (
(.seq (
.reg none [
s_ 12 (.mv (.t 3)),
s_ 2 (.as (.t 12))] (some [2]) []) (
.ret)))))))))
def A82 : AFn := .code [.t 2] (
(.seq (
.reg none [
s_ 1 (.box (.t 0)),
s_ 2 (.as (.c (.bool false)))] (some [1]) []) (
(.seq (
(.seq (
.reg none [
s_ 6 (.fad 2 (.t 1)),
s_ 7 (.load false 1 (.t 6)),
s_ 8 (.bin .lss (.t 7) (.c (i0_))),
s_ 9 (.mv (.t 8)),
⟨some 10, .fad 2 (.t 1), some (9, false), true⟩,
⟨some 11, .load false 1 (.t 10), some (9, false), true⟩,
⟨some 12, .bin .gtr (.t 11) (.c (.int .i64 3)), some (9, false), true⟩,
s_ 13 (.pick (.t 9) (.c (.bool true)) (.t 12))] (some [1, 13]) []) (
(.cond (.t 13) (
(.seq (
.reg none [
s_ 2 (.as (.c (.bool false)))] (some [2]) []) (
.ret))) (
.skip))))) (
(.seq (
.reg none [
s_ 14 (.fad 2 (.t 1)),
s_ 15 (.load false 1 (.t 14)),
s_ 16 (.mkf (.func 86) [.t 15] []),
s_ 3 (.as (.t 16))] (some [1, 3]) []) (
(.seq (
.reg none [
s_ 17 (.mv (.t 3)),
s_ 18 (.cal (.t 17) []),
s_ 4 (.alloc [i0_]),
n_ (.store 1 (.t 4) (.t 18))] (some [1, 4]) []) (
(.seq (
.reg none [
s_ 19 (.mkf (.func 108) [] [.t 4]),
s_ 5 (.as (.t 19))] (some [1, 4, 5]) []) (
(.seq (
.reg none [
s_ 20 (.mv (.t 5)),
s_ 21 (.fad 0 (.t 1)),
s_ 22 (.load false 1 (.t 21)),
s_ 23 (.cal (.t 20) [.t 22]),
s_ 24 (.mv (.t 23)),
⟨some 25, .mv (.t 5), some (24, true), true⟩,
⟨some 26, .fad 1 (.t 1), some (24, true), true⟩,
⟨some 27, .load false 1 (.t 26), some (24, true), true⟩,
⟨some 28, .cal (.t 25) [.t 27], some (24, true), true⟩,
s_ 29 (.pick (.t 24) (.t 28) (.c (.bool false))),
s_ 30 (.mv (.t 29)),
⟨some 31, .fad 0 (.t 1), some (30, true), true⟩,
⟨some 32, .load false 1 (.t 31), some (30, true), true⟩,
⟨some 33, .fad 0 (.t 1), some (30, true), true⟩,
⟨some 34, .load false 1 (.t 33), some (30, true), true⟩,
⟨some 35, .bin .mul (.t 32) (.t 34), some (30, true), true⟩,
⟨some 36, .fad 1 (.t 1), some (30, true), true⟩,
⟨some 37, .load false 1 (.t 36), some (30, true), true⟩,
⟨some 38, .fad 1 (.t 1), some (30, true), true⟩,
⟨some 39, .load false 1 (.t 38), some (30, true), true⟩,
⟨some 40, .bin .mul (.t 37) (.t 39), some (30, true), true⟩,
⟨some 41, .bin .add (.t 35) (.t 40), some (30, true), true⟩,
⟨some 42, .load false 1 (.t 4), some (30, true), true⟩,
⟨some 43, .load false 1 (.t 4), some (30, true), true⟩,
⟨some 44, .bin .mul (.t 42) (.t 43), some (30, true), true⟩,
⟨some 45, .bin .eql (.t 41) (.t 44), some (30, true), true⟩,
s_ 46 (.pick (.t 30) (.t 45) (.c (.bool false))),
s_ 2 (.as (.t 46))] (some [2]) [1]) (
.ret)))))))))))))
def A83 : AFn := .code [.cell true 2 4] (
(.seq (
.reg none [
s_ 2 (.box (.t 0)),
s_ 4 (.alloc [i0_, i0_])] (some [1, 2, 4]) []) (
(.seq (
.reg none [
s_ 8 (.mv (.t 1)),
s_ 9 (.call 109 [.t 8]),
s_ 7 (.mv (.t 9)),
s_ 10 (.ext (.t 7) 0),
s_ 11 (.ext (.t 7) 1),
s_ 5 (.as (.t 10)),
s_ 6 (.as (.t 11))] (some [2, 4, 5, 6]) []) (
(.seq (
.reg none [
s_ 12 (.fad 0 (.t 2)),
s_ 13 (.load false 1 (.t 12)),
s_ 14 (.mv (.t 5)),
s_ 15 (.bin .mul (.t 13) (.t 14)),
s_ 16 (.fad 1 (.t 2)),
s_ 17 (.load false 1 (.t 16)),
s_ 18 (.mv (.t 6)),
s_ 19 (.bin .mul (.t 17) (.t 18)),
s_ 20 (.bin .sub (.t 15) (.t 19)),
s_ 21 (.fad 0 (.t 2)),
s_ 22 (.load false 1 (.t 21)),
s_ 23 (.mv (.t 6)),
s_ 24 (.bin .mul (.t 22) (.t 23)),
s_ 25 (.fad 1 (.t 2)),
s_ 26 (.load false 1 (.t 25)),
s_ 27 (.mv (.t 5)),
s_ 28 (.bin .mul (.t 26) (.t 27)),
s_ 29 (.bin .add (.t 24) (.t 28)),
s_ 30 (.build [i0_, i0_] [(0, 1, .t 20), (1, 1, .t 29)]),
n_ (.store 2 (.t 4) (.t 30))] (some [4]) [2]) (
.ret)))))))
def A84 : AFn := .code [.t 2] (
(.seq (
.reg none [
s_ 1 (.box (.t 0)),
s_ 2 (.as (.c (.bool false)))] (some [1]) []) (
(.seq (
(.seq (
.reg none [
s_ 4 (.fad 2 (.t 1)),
s_ 5 (.load false 1 (.t 4)),
s_ 6 (.bin .lss (.t 5) (.c (i0_))),
s_ 7 (.mv (.t 6)),
⟨some 8, .fad 2 (.t 1), some (7, false), true⟩,
⟨some 9, .load false 1 (.t 8), some (7, false), true⟩,
⟨some 10, .bin .gtr (.t 9) (.c (.int .i64 3)), some (7, false), true⟩,
s_ 11 (.pick (.t 7) (.c (.bool true)) (.t 10))] (some [1, 11]) []) (
(.cond (.t 11) (
(.seq (
.reg none [
s_ 2 (.as (.c (.bool false)))] (some [2]) []) (
.ret))) (
.skip))))) (
(.seq (
.reg none [
s_ 12 (.fad 2 (.t 1)),
s_ 13 (.load false 1 (.t 12)),
s_ 14 (.call 81 [.t 13]),
s_ 3 (.as (.t 14))] (some [1, 3]) []) (
(.seq (
.reg none [
s_ 15 (.fad 0 (.t 1)),
s_ 16 (.load false 1 (.t 15)),
s_ 17 (.mv (.t 3)),
s_ 18 (.un .neg (.t 17)),
s_ 19 (.bin .geq (.t 16) (.t 18)),
s_ 20 (.mv (.t 19)),
⟨some 21, .fad 0 (.t 1), some (20, true), true⟩,
⟨some 22, .load false 1 (.t 21), some (20, true), true⟩,
⟨some 23, .mv (.t 3), some (20, true), true⟩,
⟨some 24, .bin .leq (.t 22) (.t 23), some (20, true), true⟩,
s_ 25 (.pick (.t 20) (.t 24) (.c (.bool false))),
s_ 26 (.mv (.t 25)),
⟨some 27, .fad 1 (.t 1), some (26, true), true⟩,
⟨some 28, .load false 1 (.t 27), some (26, true), true⟩,
⟨some 29, .mv (.t 3), some (26, true), true⟩,
⟨some 30, .un .neg (.t 29), some (26, true), true⟩,
⟨some 31, .bin .geq (.t 28) (.t 30), some (26, true), true⟩,
s_ 32 (.pick (.t 26) (.t 31) (.c (.bool false))),
s_ 33 (.mv (.t 32)),
⟨some 34, .fad 1 (.t 1), some (33, true), true⟩,
⟨some 35, .load false 1 (.t 34), some (33, true), true⟩,
⟨some 36, .mv (.t 3), some (33, true), true⟩,
⟨some 37, .bin .leq (.t 35) (.t 36), some (33, true), true⟩,
s_ 38 (.pick (.t 33) (.t 37) (.c (.bool false))),
s_ 39 (.mv (.t 38)),
⟨some 40, .fad 0 (.t 1), some (39, true), true⟩,
⟨some 41, .load false 1 (.t 40), some (39, true), true⟩,
⟨some 42, .fad 0 (.t 1), some (39, true), true⟩,
⟨some 43, .load false 1 (.t 42), some (39, true), true⟩,
⟨some 44, .bin .mul (.t 41) (.t 43), some (39, true), true⟩,
⟨some 45, .fad 1 (.t 1), some (39, true), true⟩,
⟨some 46, .load false 1 (.t 45), some (39, true), true⟩,
⟨some 47, .fad 1 (.t 1), some (39, true), true⟩,
⟨some 48, .load false 1 (.t 47), some (39, true), true⟩,
⟨some 49, .bin .mul (.t 46) (.t 48), some (39, true), true⟩,
⟨some 50, .bin .add (.t 44) (.t 49), some (39, true), true⟩,
⟨some 51, .mv (.t 3), some (39, true), true⟩,
⟨some 52, .mv (.t 3), some (39, true), true⟩,
⟨some 53, .bin .mul (.t 51) (.t 52), some (39, true), true⟩,
⟨some 54, .bin .eql (.t 50) (.t 53), some (39, true), true⟩,
s_ 55 (.pick (.t 39) (.t 54) (.c (.bool false))),
s_ 2 (.as (.t 55))] (some [2]) [1]) (
.ret)))))))))
def A86_L0b : ACode :=
(.seq (
.reg none [
s_ 6 (.bin .lss (.t 5) (.t 4))] (some [3, 4, 5, 6]) []) (
(.seq (
(.cond (.t 6) (
.skip) (
.exit 0))) (
(.seq (
(.block 1 (
.reg none [
s_ 7 (.mv (.t 3)),
s_ 8 (.bin .mul (.t 7) (.c (.int .i64 65))),
s_ 3 (.as (.t 8))] (some [3, 4, 5]) []) (some [3, 4, 5]) [])) (
.reg none [
s_ 9 (.bin .add (.t 5) (.c (.int .i64 1))),
s_ 5 (.mv (.t 9))] (some [3, 4, 5]) []))))))
def A86_L0 : ACode := .loop A86_L0b (some [3, 4, 5]) []
def A86 : AFn := .code [.t 2] (
(.seq (
.reg none [
s_ 2 (.as (.c (i0_)))] (some [0]) []) (
(.seq (
.reg none [
s_ 3 (.as (.c (.int .i64 1)))] (some [0, 3]) []) (
(.seq (
(.seq (
.reg none [
s_ 4 (.mv (.t 0)),
s_ 5 (.mv (.c (i0_)))] (some [3, 4, 5]) []) (
(.block 0 (
A86_L0) (some [3]) [])))) (
(.seq (
.reg none [
s_ 10 (.mv (.t 3)),
s_ 2 (.as (.t 10))] (some [2]) []) (
.ret)))))))))
def A88 : AFn := .code [.t 8] (
(.seq (
.reg none [
s_ 4 (.box (.t 0)),
s_ 5 (.box (.t 1)),
s_ 6 (.box (.t 2)),
s_ 7 (.box (.t 3)),
s_ 8 (.as (.c (.bool false)))] (some [4, 5, 6, 7]) []) (
(.seq (
.reg none [
s_ 9 (.as (.fu 111))] (some [4, 5, 6, 7, 9]) []) (
(.seq (
.reg none [
s_ 15 (.mv (.t 9)),
s_ 16 (.load true 2 (.t 4)),
s_ 17 (.load true 2 (.t 5)),
s_ 18 (.load true 2 (.t 6)),
s_ 19 (.load true 2 (.t 7)),
s_ 20 (.cal (.t 15) [.t 16, .t 17, .t 18, .t 19]),
s_ 14 (.mv (.t 20)),
s_ 21 (.ext (.t 14) 0),
s_ 22 (.ext (.t 14) 1),
s_ 10 (.as (.t 21)),
s_ 11 (.as (.t 22))] (some [4, 5, 6, 7, 9, 10, 11]) []) (
(.seq (
.reg none [
s_ 24 (.mv (.t 9)),
s_ 25 (.load true 2 (.t 6)),
s_ 26 (.load true 2 (.t 7)),
s_ 27 (.load true 2 (.t 4)),
s_ 28 (.load true 2 (.t 5)),
s_ 29 (.cal (.t 24) [.t 25, .t 26, .t 27, .t 28]),
s_ 23 (.mv (.t 29)),
s_ 30 (.ext (.t 23) 0),
s_ 31 (.ext (.t 23) 1),
s_ 12 (.as (.t 30)),
s_ 13 (.as (.t 31))] (some [10, 11, 12, 13]) [4, 5, 6, 7]) (
(.seq (
.reg none [
s_ 32 (.mv (.t 10)),
s_ 33 (.mv (.t 32)),
⟨some 34, .mv (.t 12), some (33, true), true⟩,
s_ 35 (.pick (.t 33) (.t 34) (.c (.bool false))),
s_ 36 (.mv (.t 35)),
⟨some 37, .mv (.t 11), some (36, false), true⟩,
s_ 38 (.pick (.t 36) (.c (.bool true)) (.t 37)),
s_ 39 (.mv (.t 38)),
⟨some 40, .mv (.t 13), some (39, false), true⟩,
s_ 41 (.pick (.t 39) (.c (.bool true)) (.t 40)),
s_ 8 (.as (.t 41))] (some [8]) []) (
.ret)))))))))))
def A89_L0b : ACode :=
(.seq (
.reg none [
s_ 8 (.bin .lss (.t 7) (.t 6))] (some [0, 1, 5, 6, 7, 8]) []) (
(.seq (
(.cond (.t 8) (
.skip) (
.exit 0))) (
(.seq (
(.block 1 (
(.seq (
.reg none [
s_ 9 (.mv (.t 7)),
s_ 10 (.ias 2 (.t 5) (.t 7)),
s_ 11 (.load true 2 (.t 10)),
s_ 4 (.alloc [i0_, i0_]),
s_ 3 (.as (.t 9)),
n_ (.store 2 (.t 4) (.t 11))] (some [0, 1, 3, 4, 5, 6, 7]) []) (
(.seq (
.reg (some [.dr [14, 15, 18, 19, 21, 22] [], .dr [14, 15, 18, 19, 21, 22] [], .dr [15, 18, 19, 21, 22] [], .dr [14, 18, 19] [], .dr [14, 15, 18, 19] [], .dr [14, 15, 18, 19] [], .dr [14, 15] [], .dr [14, 15] [], .dr [14, 15] [], .dr [14] [], .dr [14] [], .dr [] [], .free, .free]) [
s_ 12 (.mv (.t 0)),
s_ 13 (.mv (.t 3)),
s_ 14 (.load true 2 (.t 4)),
s_ 15 (.load false 1 (.t 1)),
s_ 16 (.mv (.t 3)),
s_ 17 (.bin .add (.t 16) (.c (.int .i64 1))),
s_ 18 (.load false 1 (.t 1)),
s_ 19 (.len 0 (.t 18)),
s_ 20 (.bin .rem (.t 17) (.t 19)),
s_ 21 (.ias 2 (.t 15) (.t 20)),
s_ 22 (.load true 2 (.t 21)),
s_ 23 (.build [i0_, i0_, i0_, i0_] [(0, 2, .t 14), (2, 2, .t 22)]),
s_ 24 (.cal (.t 12) [.t 13, .t 23]),
s_ 25 (.un .not (.t 24))] (some [0, 1, 5, 6, 7, 25]) [4]) (
(.cond (.t 25) (
.ret) (
.skip))))))) (some [0, 1, 5, 6, 7]) [3, 4, 24])) (
.reg none [
s_ 26 (.bin .add (.t 7) (.c (.int .i64 1))),
s_ 7 (.mv (.t 26))] (some [0, 1, 5, 6, 7]) []))))))
def A89_L0 : ACode := .loop A89_L0b (some [0, 1, 5, 6, 7]) [3, 4, 24]
def A89 : AFn := .code [] (
(.seq (
.reg none [
s_ 5 (.load false 1 (.t 1)),
s_ 6 (.len 0 (.t 5)),
s_ 7 (.mv (.c (i0_)))] (some [0, 1, 5, 6, 7]) []) (
(.block 0 (
A89_L0) (some []) [3, 4, 24]))))
def A90 : AFn := .code [.t 6] (
(.seq (
.reg none [
s_ 3 (.box (.t 0)),
s_ 4 (.box (.t 1)),
s_ 5 (.box (.t 2)),
s_ 6 (.as (.c (.bool false)))] (some [3, 4, 5]) []) (
(.seq (
.reg none [
s_ 10 (.load true 2 (.t 3)),
s_ 11 (.load true 2 (.t 4)),
s_ 12 (.bsl 2 2 [i0_, i0_] [(0, .t 10), (1, .t 11)]),
s_ 13 (.call 107 [.t 12]),
s_ 9 (.mv (.t 13)),
s_ 14 (.ext (.t 9) 0),
s_ 15 (.ext (.t 9) 1),
s_ 7 (.alloc [i0_, i0_]),
s_ 8 (.alloc [i0_, i0_]),
n_ (.store 2 (.t 7) (.t 14)),
n_ (.store 2 (.t 8) (.t 15))] (some [5, 7, 8]) [3, 4]) (
(.seq (
.reg none [
s_ 16 (.fad 0 (.t 5)),
s_ 17 (.load false 1 (.t 16)),
s_ 18 (.fad 0 (.t 7)),
s_ 19 (.load false 1 (.t 18)),
s_ 20 (.bin .geq (.t 17) (.t 19)),
s_ 21 (.mv (.t 20)),
⟨some 22, .fad 0 (.t 5), some (21, true), true⟩,
⟨some 23, .load false 1 (.t 22), some (21, true), true⟩,
⟨some 24, .fad 0 (.t 8), some (21, true), true⟩,
⟨some 25, .load false 1 (.t 24), some (21, true), true⟩,
⟨some 26, .bin .leq (.t 23) (.t 25), some (21, true), true⟩,
s_ 27 (.pick (.t 21) (.t 26) (.c (.bool false))),
s_ 28 (.mv (.t 27)),
⟨some 29, .fad 1 (.t 5), some (28, true), true⟩,
⟨some 30, .load false 1 (.t 29), some (28, true), true⟩,
⟨some 31, .fad 1 (.t 7), some (28, true), true⟩,
⟨some 32, .load false 1 (.t 31), some (28, true), true⟩,
⟨some 33, .bin .geq (.t 30) (.t 32), some (28, true), true⟩,
s_ 34 (.pick (.t 28) (.t 33) (.c (.bool false))),
s_ 35 (.mv (.t 34)),
⟨some 36, .fad 1 (.t 5), some (35, true), true⟩,
⟨some 37, .load false 1 (.t 36), some (35, true), true⟩,
⟨some 38, .fad 1 (.t 8), some (35, true), true⟩,
⟨some 39, .load false 1 (.t 38), some (35, true), true⟩,
⟨some 40, .bin .leq (.t 37) (.t 39), some (35, true), true⟩,
s_ 41 (.pick (.t 35) (.t 40) (.c (.bool false))),
s_ 6 (.as (.t 41))] (some [6]) [5, 7, 8]) (
.ret)))))))
def A91 : AFn := .code [.cell true 2 2] (
(.seq (
.reg none [
s_ 1 (.box (.t 0)),
s_ 2 (.alloc [i0_, i0_])] (some [1, 2]) []) (
(.seq (
.reg none [
s_ 3 (.fad 1 (.t 1)),
s_ 4 (.load false 1 (.t 3)),
s_ 5 (.un .neg (.t 4)),
s_ 6 (.fad 0 (.t 1)),
s_ 7 (.load false 1 (.t 6)),
s_ 8 (.build [i0_, i0_] [(0, 1, .t 5), (1, 1, .t 7)]),
n_ (.store 2 (.t 2) (.t 8))] (some [2]) [1]) (
.ret)))))
def A96 : AFn := .code [.t 2] (
(.seq (
.reg none [
s_ 1 (.box (.t 0)),
s_ 2 (.as (.c (.nilf)))] (some [1]) []) (
(.seq (
.reg none [
s_ 3 (.mkf (.func 112) [] [.t 1]),
s_ 2 (.as (.t 3))] (some [2]) []) (
.ret)))))
def A97 : AFn := .code [.t 6] (
(.seq (
.reg none [
s_ 6 (.as (.c (.bool false)))] (some [0, 1, 2]) []) (
(.seq (
.reg none [
s_ 7 (.mv (.t 1)),
s_ 8 (.bin .geq (.t 7) (.c (i0_))),
s_ 9 (.mv (.t 8)),
⟨some 10, .mv (.t 1), some (9, true), true⟩,
⟨some 11, .mv (.t 0), some (9, true), true⟩,
⟨some 12, .len 0 (.t 11), some (9, true), true⟩,
⟨some 13, .bin .lss (.t 10) (.t 12), some (9, true), true⟩,
s_ 14 (.pick (.t 9) (.t 13) (.c (.bool false))),
s_ 15 (.mv (.t 14)),
⟨some 16, .mv (.t 2), some (15, true), true⟩,
⟨some 17, .mv (.t 0), some (15, true), true⟩,
⟨some 18, .mv (.t 1), some (15, true), true⟩,
⟨some 19, .ias 2 (.t 17) (.t 18), some (15, true), true⟩,
⟨some 20, .load true 2 (.t 19), some (15, true), true⟩,
⟨some 21, .call 33 [.t 16, .t 20], some (15, true), true⟩,
⟨some 22, .bin .neq (.t 21) (.c (.int .i64 (-1))), some (15, true), true⟩,
s_ 23 (.pick (.t 15) (.t 22) (.c (.bool false))),
s_ 6 (.as (.t 23))] (some [6]) []) (
.ret)))))
def A98 : AFn := .code [.cell true 44 0] (
(.seq (
.reg none [
s_ 0 (.alloc [i0_, i0_, i0_, i0_, i0_, i0_, i0_, i0_, i0_, i0_, i0_, i0_, i0_, i0_, i0_, i0_, i0_, i0_, i0_, i0_, i0_, i0_, i0_, i0_, i0_, i0_, i0_, i0_, i0_, i0_, .nils 1, .nils 6, .nils 3, .nils 1, i0_, i0_, i0_, i0_, i0_, i0_, i0_, .nils 1, i0_, i0_])] (some [0]) []) (
(.seq (
.reg none [
s_ 1 (.as (.c (.int .i64 4394000)))] (some [0, 1]) []) (
(.seq (
.reg none [
s_ 4 (.build [i0_, i0_, i0_] [(0, 1, .c (.int .i64 4)), (1, 1, .c (.int .i64 3)), (2, 1, .c (.int .i64 2))]),
s_ 5 (.build [i0_, i0_, i0_] [(0, 1, .c (.int .i64 (-17))), (1, 1, .c (.int .i64 (-17))), (2, 1, .c (.int .i64 (-17)))]),
s_ 6 (.build [i0_, i0_, i0_] [(0, 1, .c (.int .i64 18)), (1, 1, .c (.int .i64 18)), (2, 1, .c (.int .i64 18))]),
s_ 7 (.build [i0_, i0_, i0_, i0_, i0_, i0_, i0_, i0_, i0_, i0_, i0_, i0_] [(2, 3, .t 4), (5, 1, .c (.int .i64 1)), (6, 3, .t 5), (9, 3, .t 6)]),
s_ 2 (.alloc [i0_, i0_, i0_, i0_, i0_, i0_, i0_, i0_, i0_, i0_, i0_, i0_]),
n_ (.store 12 (.t 2) (.t 7))] (some [0, 1, 2]) []) (
(.seq (
.reg none [
s_ 8 (.load true 12 (.t 2)),
s_ 3 (.alloc [i0_, i0_, i0_, i0_, i0_, i0_, i0_, i0_, i0_, i0_, i0_, i0_]),
n_ (.store 12 (.t 3) (.t 8))] (some [0, 1, 2, 3]) []) (
(.seq (
.reg none [
s_ 9 (.mv (.t 1)),
s_ 10 (.bin .mul (.c (.int .i64 40)) (.t 9)),
s_ 11 (.fad 0 (.t 3)),
s_ 12 (.fad 0 (.t 11)),
n_ (.store 1 (.t 12) (.t 10))] (some [0, 1, 2, 3]) []) (
(.seq (
.reg none [
s_ 13 (.load true 12 (.t 2)),
s_ 14 (.load true 12 (.t 3)),
s_ 15 (.build [i0_, i0_, i0_, i0_, i0_, i0_, i0_, i0_, i0_, i0_, i0_, i0_, i0_, i0_, i0_, i0_, i0_, i0_, i0_, i0_, i0_, i0_, i0_, i0_] [(0, 12, .t 13), (12, 12, .t 14)]),
s_ 16 (.build [i0_, i0_, i0_] []),
s_ 17 (.build [i0_, i0_, i0_] [(0, 1, .c (.int .i64 9)), (1, 1, .c (i0_)), (2, 1, .c (i0_))]),
s_ 18 (.build [i0_, i0_, i0_, i0_, i0_, i0_] [(0, 3, .t 16), (3, 3, .t 17)]),
s_ 19 (.mv (.t 1)),
s_ 20 (.bin .mul (.c (.int .i64 6)) (.t 19)),
s_ 21 (.mv (.t 1)),
s_ 22 (.bin .mul (.c (.int .i64 2)) (.t 21)),
s_ 23 (.build [i0_, i0_] [(0, 1, .t 20), (1, 1, .t 22)]),
s_ 24 (.mv (.t 1)),
s_ 25 (.bin .mul (.c (.int .i64 9)) (.t 24)),
s_ 26 (.mv (.t 1)),
s_ 27 (.bin .mul (.c (.int .i64 2)) (.t 26)),
s_ 28 (.build [i0_, i0_] [(0, 1, .t 25), (1, 1, .t 27)]),
s_ 29 (.mv (.t 1)),
s_ 30 (.bin .mul (.c (.int .i64 9)) (.t 29)),
s_ 31 (.mv (.t 1)),
s_ 32 (.bin .mul (.c (.int .i64 4)) (.t 31)),
s_ 33 (.build [i0_, i0_] [(0, 1, .t 30), (1, 1, .t 32)]),
s_ 34 (.mv (.t 1)),
s_ 35 (.bin .mul (.c (.int .i64 6)) (.t 34)),
s_ 36 (.mv (.t 1)),
s_ 37 (.bin .mul (.c (.int .i64 4)) (.t 36)),
s_ 38 (.build [i0_, i0_] [(0, 1, .t 35), (1, 1, .t 37)]),
s_ 39 (.bsl 2 4 [i0_, i0_] [(0, .t 23), (1, .t 28), (2, .t 33), (3, .t 38)]),
s_ 40 (.bsl 1 1 [.nils 2] [(0, .t 39)]),
s_ 41 (.build [i0_, i0_, i0_] [(0, 1, .c (.int .i64 8)), (1, 1, .c (.int .i64 4)), (2, 1, .c (.int .i64 2))]),
s_ 42 (.build [i0_, i0_, i0_] [(0, 1, .c (.int .i64 4)), (1, 1, .c (.int .i64 2)), (2, 1, .c (.int .i64 1))]),
s_ 43 (.build [i0_, i0_, i0_, i0_, i0_, i0_, i0_, i0_, i0_, i0_, i0_, i0_, i0_, i0_, i0_, i0_, i0_, i0_, i0_, i0_, i0_, i0_, i0_, i0_, i0_, i0_, i0_, i0_, i0_, i0_, .nils 1, .nils 6, .nils 3, .nils 1, i0_, i0_, i0_, i0_, i0_, i0_, i0_, .nils 1, i0_, i0_] [(0, 24, .t 15), (24, 6, .t 18), (30, 1, .t 40), (35, 3, .t 41), (38, 3, .t 42), (43, 1, .c (.int .i64 2))]),
n_ (.store 44 (.t 0) (.t 43))] (some [0]) [2, 3]) (
.ret)))))))))))))
def A99 : AFn := .code [.t 2] (
(.seq (
.reg none [
s_ 1 (.box (.t 0)),
s_ 2 (.as (.c (.bool false)))] (some [1]) []) (
(.seq (
.reg none [
s_ 3 (.fad 0 (.t 1)),
s_ 4 (.load false 1 (.t 3)),
s_ 5 (.bin .geq (.t 4) (.c (.int .i64 1))),
s_ 6 (.mv (.t 5)),
⟨some 7, .fad 0 (.t 1), some (6, true), true⟩,
⟨some 8, .load false 1 (.t 7), some (6, true), true⟩,
⟨some 9, .bin .leq (.t 8) (.c (.int .i64 8)), some (6, true), true⟩,
s_ 10 (.pick (.t 6) (.t 9) (.c (.bool false))),
s_ 11 (.mv (.t 10)),
⟨some 12, .fad 1 (.t 1), some (11, true), true⟩,
⟨some 13, .load false 1 (.t 12), some (11, true), true⟩,
⟨some 14, .bin .geq (.t 13) (.c (.int .i64 1)), some (11, true), true⟩,
s_ 15 (.pick (.t 11) (.t 14) (.c (.bool false))),
s_ 16 (.mv (.t 15)),
⟨some 17, .fad 1 (.t 1), some (16, true), true⟩,
⟨some 18, .load false 1 (.t 17), some (16, true), true⟩,
⟨some 19, .bin .leq (.t 18) (.c (.int .i64 4)), some (16, true), true⟩,
s_ 20 (.pick (.t 16) (.t 19) (.c (.bool false))),
s_ 21 (.mv (.t 20)),
⟨some 22, .fad 2 (.t 1), some (21, true), true⟩,
⟨some 23, .load false 1 (.t 22), some (21, true), true⟩,
⟨some 24, .bin .geq (.t 23) (.c (.int .i64 1)), some (21, true), true⟩,
s_ 25 (.pick (.t 21) (.t 24) (.c (.bool false))),
s_ 26 (.mv (.t 25)),
⟨some 27, .fad 2 (.t 1), some (26, true), true⟩,
⟨some 28, .load false 1 (.t 27), some (26, true), true⟩,
⟨some 29, .bin .leq (.t 28) (.c (.int .i64 2)), some (26, true), true⟩,
s_ 30 (.pick (.t 26) (.t 29) (.c (.bool false))),
s_ 2 (.as (.t 30))] (some [2]) [1]) (
.ret)))))
def A100_L0b : ACode :=
(.seq (
(.seq (
.reg none [
s_ 7 (.mv (.t 3)),
s_ 8 (.mv (.t 0)),
s_ 9 (.len 0 (.t 8)),
s_ 10 (.bin .lss (.t 7) (.t 9))] (some [0, 3, 10]) []) (
(.cond (.t 10) (
.skip) (
.exit 0))))) (
(.seq (
(.block 1 (
(.seq (
.reg none [
s_ 13 (.mv (.t 0)),
s_ 14 (.mv (.t 3)),
s_ 15 (.ias 1 (.t 13) (.t 14)),
s_ 16 (.load false 1 (.t 15)),
s_ 17 (.call 113 [.t 16]),
s_ 18 (.un .not (.t 17))] (some [0, 3, 18]) []) (
(.cond (.t 18) (
(.seq (
.reg none [
s_ 2 (.as (.c (.bool false)))] (some [2]) []) (
.ret))) (
.skip))))) (some [0, 3]) [2, 17])) (
.reg none [
s_ 11 (.mv (.t 3)),
s_ 12 (.bin .add (.t 11) (.c (.int .i64 1))),
s_ 3 (.as (.t 12))] (some [0, 3]) []))))
def A100_L0 : ACode := .loop A100_L0b (some [0, 3]) [2, 17]
def A100 : AFn := .code [.t 2] (
(.seq (
.reg none [
s_ 2 (.as (.c (.bool false)))] (some [0]) []) (
(.seq (
(.seq (
.reg none [
s_ 4 (.mv (.t 0)),
s_ 5 (.len 0 (.t 4)),
s_ 6 (.bin .gtr (.t 5) (.c (.int .i64 16)))] (some [0, 6]) []) (
(.cond (.t 6) (
(.seq (
.reg none [
s_ 2 (.as (.c (.bool false)))] (some [2]) []) (
.ret))) (
.skip))))) (
(.seq (
(.seq (
.reg none [
s_ 3 (.as (.c (i0_)))] (some [0, 3]) []) (
(.block 0 (
A100_L0) (some []) [2, 3, 17])))) (
(.seq (
.reg none [
s_ 2 (.as (.c (.bool true)))] (some [2]) []) (
.ret)))))))))
def A101_L0b : ACode :=
(.seq (
(.seq (
.reg none [
s_ 5 (.mv (.t 4)),
s_ 6 (.fad 41 (.t 1)),
s_ 7 (.load false 1 (.t 6)),
s_ 8 (.len 0 (.t 7)),
s_ 9 (.bin .lss (.t 5) (.t 8))] (some [1, 3, 4, 9]) []) (
(.cond (.t 9) (
.skip) (
.exit 0))))) (
(.seq (
(.block 1 (
.reg none [
s_ 12 (.mv (.t 3)),
s_ 13 (.fad 41 (.t 1)),
s_ 14 (.load false 1 (.t 13)),
s_ 15 (.mv (.t 4)),
s_ 16 (.ias 1 (.t 14) (.t 15)),
s_ 17 (.fad 0 (.t 16)),
s_ 18 (.load false 1 (.t 17)),
s_ 19 (.bsl 1 1 [.nils 2] [(0, .t 18)]),
s_ 20 (.app 1 (.t 12) (.t 19)),
s_ 3 (.as (.t 20))] (some [1, 3, 4]) []) (some [1, 3, 4]) [19])) (
.reg none [
s_ 10 (.mv (.t 4)),
s_ 11 (.bin .add (.t 10) (.c (.int .i64 1))),
s_ 4 (.as (.t 11))] (some [1, 3, 4]) []))))
def A101_L0 : ACode := .loop A101_L0b (some [1, 3, 4]) [19]
def A101 : AFn := .code [.t 2] (
(.seq (
.reg none [
s_ 1 (.box (.t 0)),
s_ 2 (.as (.c (.nils 1)))] (some [1]) []) (
(.seq (
.reg none [
s_ 3 (.as (.c (.nils 1)))] (some [1, 3]) []) (
(.seq (
(.seq (
.reg none [
s_ 4 (.as (.c (i0_)))] (some [1, 3, 4]) []) (
(.block 0 (
A101_L0) (some [3]) [4, 19])))) (
(.seq (
.reg none [
s_ 21 (.mv (.t 3)),
s_ 2 (.as (.t 21))] (some [2]) []) (
.ret)))))))))
def A102_L0b : ACode :=
(.seq (
(.seq (
.reg none [
s_ 6 (.mv (.t 4)),
s_ 7 (.mv (.t 0)),
s_ 8 (.len 0 (.t 7)),
s_ 9 (.bin .lss (.t 6) (.t 8))] (some [0, 3, 4, 9]) []) (
(.cond (.t 9) (
.skip) (
.exit 0))))) (
(.seq (
(.block 1 (
(.seq (
.reg none [
s_ 12 (.mv (.t 0)),
s_ 13 (.mv (.t 4)),
s_ 14 (.ias 6 (.t 12) (.t 13)),
s_ 15 (.load true 6 (.t 14)),
s_ 5 (.alloc [.str [], i0_, i0_, i0_, i0_, i0_]),
n_ (.store 6 (.t 5) (.t 15))] (some [0, 3, 4, 5]) []) (
(.seq (
.reg none [
s_ 16 (.mv (.t 3)),
s_ 17 (.fad 0 (.t 5)),
s_ 18 (.load false 1 (.t 17)),
s_ 19 (.bsl 1 1 [.str []] [(0, .t 18)]),
s_ 20 (.app 1 (.t 16) (.t 19)),
s_ 3 (.as (.t 20))] (some [0, 3, 4, 5]) []) (
(.seq (
.reg none [
s_ 21 (.fad 1 (.t 5)),
s_ 22 (.fad 0 (.t 21)),
s_ 23 (.load false 1 (.t 22)),
s_ 24 (.bin .rem (.t 23) (.c (.int .i64 16))),
s_ 25 (.bin .neq (.t 24) (.c (i0_))),
s_ 26 (.mv (.t 25)),
⟨some 27, .fad 1 (.t 5), some (26, false), true⟩,
⟨some 28, .fad 1 (.t 27), some (26, false), true⟩,
⟨some 29, .load false 1 (.t 28), some (26, false), true⟩,
⟨some 30, .bin .rem (.t 29) (.c (.int .i64 16)), some (26, false), true⟩,
⟨some 31, .bin .neq (.t 30) (.c (i0_)), some (26, false), true⟩,
s_ 32 (.pick (.t 26) (.c (.bool true)) (.t 31)),
s_ 33 (.mv (.t 32)),
⟨some 34, .fad 1 (.t 5), some (33, false), true⟩,
⟨some 35, .fad 0 (.t 34), some (33, false), true⟩,
⟨some 36, .load false 1 (.t 35), some (33, false), true⟩,
⟨some 37, .fad 1 (.t 5), some (33, false), true⟩,
⟨some 38, .fad 1 (.t 37), some (33, false), true⟩,
⟨some 39, .load false 1 (.t 38), some (33, false), true⟩,
⟨some 40, .mx [.t 36, .t 39], some (33, false), true⟩,
⟨some 41, .bin .gtr (.t 40) (.c (.int .i64 373490000)), some (33, false), true⟩,
s_ 42 (.pick (.t 33) (.c (.bool true)) (.t 41)),
s_ 43 (.mv (.t 42)),
⟨some 44, .fad 1 (.t 5), some (43, false), true⟩,
⟨some 45, .fad 0 (.t 44), some (43, false), true⟩,
⟨some 46, .load false 1 (.t 45), some (43, false), true⟩,
⟨some 47, .fad 1 (.t 5), some (43, false), true⟩,
⟨some 48, .fad 1 (.t 47), some (43, false), true⟩,
⟨some 49, .load false 1 (.t 48), some (43, false), true⟩,
⟨some 50, .mn [.t 46, .t 49], some (43, false), true⟩,
⟨some 51, .bin .lss (.t 50) (.c (.int .i64 (-373490000))), some (43, false), true⟩,
s_ 52 (.pick (.t 43) (.c (.bool true)) (.t 51)),
s_ 53 (.mv (.t 52)),
⟨some 54, .fad 3 (.t 5), some (53, false), true⟩,
⟨some 55, .fad 2 (.t 54), some (53, false), true⟩,
⟨some 56, .load false 1 (.t 55), some (53, false), true⟩,
⟨some 57, .bin .neq (.t 56) (.c (.int .i64 3)), some (53, false), true⟩,
s_ 58 (.pick (.t 53) (.c (.bool true)) (.t 57)),
s_ 59 (.mv (.t 58)),
⟨some 60, .fad 3 (.t 5), some (59, false), true⟩,
⟨some 61, .load true 3 (.t 60), some (59, false), true⟩,
⟨some 62, .call 84 [.t 61], some (59, false), true⟩,
⟨some 63, .un .not (.t 62), some (59, false), true⟩,
s_ 64 (.pick (.t 59) (.c (.bool true)) (.t 63))] (some [0, 3, 4, 64]) [5]) (
(.cond (.t 64) (
(.seq (
.reg none [
s_ 2 (.as (.c (.bool false)))] (some [2]) []) (
.ret))) (
.skip))))))))) (some [0, 3, 4]) [2, 5, 19, 62])) (
.reg none [
s_ 10 (.mv (.t 4)),
s_ 11 (.bin .add (.t 10) (.c (.int .i64 1))),
s_ 4 (.as (.t 11))] (some [0, 3, 4]) []))))
def A102_L0 : ACode := .loop A102_L0b (some [0, 3, 4]) [2, 5, 19, 62]
def A102 : AFn := .code [.t 2] (
(.seq (
.reg none [
s_ 2 (.as (.c (.bool false)))] (some [0]) []) (
(.seq (
.reg none [
s_ 3 (.as (.c (.nils 1)))] (some [0, 3]) []) (
(.seq (
(.seq (
.reg none [
s_ 4 (.as (.c (i0_)))] (some [0, 3, 4]) []) (
(.block 0 (
A102_L0) (some [0, 3]) [2, 4, 5, 19, 62])))) (
(.seq (
.reg none [
s_ 65 (.mv (.t 0)),
s_ 66 (.len 0 (.t 65)),
s_ 67 (.bin .leq (.t 66) (.c (.int .i64 16))),
s_ 68 (.mv (.t 67)),
⟨some 69, .mv (.t 3), some (68, true), true⟩,
⟨some 70, .call 114 [.t 69], some (68, true), true⟩,
s_ 71 (.pick (.t 68) (.t 70) (.c (.bool false))),
s_ 2 (.as (.t 71))] (some [2]) []) (
.ret)))))))))
def A103_L0b : ACode :=
(.seq (
(.seq (
.reg none [
s_ 8 (.mv (.t 7)),
s_ 9 (.mv (.t 0)),
s_ 10 (.len 0 (.t 9)),
s_ 11 (.bin .lss (.t 8) (.t 10))] (some [0, 1, 5, 6, 7, 11]) []) (
(.cond (.t 11) (
.skip) (
.exit 0))))) (
(.seq (
(.block 1 (
(.seq (
.reg none [
s_ 14 (.mv (.t 5)),
s_ 15 (.mv (.t 0)),
s_ 16 (.mv (.t 7)),
s_ 17 (.ias 3 (.t 15) (.t 16)),
s_ 18 (.fad 0 (.t 17)),
s_ 19 (.load false 1 (.t 18)),
s_ 20 (.bsl 1 1 [.str []] [(0, .t 19)]),
s_ 21 (.app 1 (.t 14) (.t 20)),
s_ 5 (.as (.t 21))] (some [0, 1, 5, 6, 7]) []) (
(.seq (
.reg none [
s_ 22 (.mv (.t 6)),
s_ 23 (.mv (.t 0)),
s_ 24 (.mv (.t 7)),
s_ 25 (.ias 3 (.t 23) (.t 24)),
s_ 26 (.fad 2 (.t 25)),
s_ 27 (.load false 1 (.t 26)),
s_ 28 (.bsl 1 1 [i0_] [(0, .t 27)]),
s_ 29 (.app 1 (.t 22) (.t 28)),
s_ 6 (.as (.t 29))] (some [0, 1, 5, 6, 7]) []) (
(.seq (
.reg none [
s_ 30 (.mv (.t 0)),
s_ 31 (.mv (.t 7)),
s_ 32 (.ias 3 (.t 30) (.t 31)),
s_ 33 (.fad 1 (.t 32)),
s_ 34 (.load false 1 (.t 33)),
s_ 35 (.call 115 [.t 34]),
s_ 36 (.un .not (.t 35))] (some [0, 1, 5, 6, 7, 36]) []) (
(.cond (.t 36) (
(.seq (
.reg none [
s_ 4 (.as (.c (.bool false)))] (some [4]) []) (
.ret))) (
.skip))))))))) (some [0, 1, 5, 6, 7]) [4, 20, 28, 35])) (
.reg none [
s_ 12 (.mv (.t 7)),
s_ 13 (.bin .add (.t 12) (.c (.int .i64 1))),
s_ 7 (.as (.t 13))] (some [0, 1, 5, 6, 7]) []))))
def A103_L0 : ACode := .loop A103_L0b (some [0, 1, 5, 6, 7]) [4, 20, 28, 35]
def A103 : AFn := .code [.t 4] (
(.seq (
.reg none [
s_ 4 (.as (.c (.bool false)))] (some [0, 1]) []) (
(.seq (
.reg none [
s_ 5 (.as (.c (.nils 1)))] (some [0, 1, 5]) []) (
(.seq (
.reg none [
s_ 6 (.as (.c (.nils 1)))] (some [0, 1, 5, 6]) []) (
(.seq (
(.seq (
.reg none [
s_ 7 (.as (.c (i0_)))] (some [0, 1, 5, 6, 7]) []) (
(.block 0 (
A103_L0) (some [0, 1, 5, 6]) [4, 7, 20, 28, 35])))) (
(.seq (
.reg none [
s_ 37 (.mv (.t 0)),
s_ 38 (.len 0 (.t 37)),
s_ 39 (.bin .leq (.t 38) (.c (.int .i64 8))),
s_ 40 (.mv (.t 39)),
⟨some 41, .mv (.t 5), some (40, true), true⟩,
⟨some 42, .call 114 [.t 41], some (40, true), true⟩,
s_ 43 (.pick (.t 40) (.t 42) (.c (.bool false))),
s_ 44 (.mv (.t 43)),
⟨some 45, .mv (.t 6), some (44, true), true⟩,
⟨some 46, .mv (.t 1), some (44, true), true⟩,
⟨some 47, .call 104 [.t 45, .t 46], some (44, true), true⟩,
s_ 48 (.pick (.t 44) (.t 47) (.c (.bool false))),
s_ 4 (.as (.t 48))] (some [4]) []) (
.ret)))))))))))
def A104_L0b : ACode :=
(.seq (
(.seq (
.reg none [
s_ 26 (.mv (.t 6)),
s_ 27 (.mv (.t 5)),
s_ 28 (.bin .lss (.t 26) (.t 27))] (some [0, 1, 5, 6, 28]) []) (
(.cond (.t 28) (
.skip) (
.exit 2))))) (
(.seq (
(.block 3 (
(.seq (
.reg (some [.dr [37, 38] [], .dr [37, 38] [], .dr [37, 38] [], .dr [37, 38] [], .dr [33, 34] [], .dr [33, 34] [], .dr [33, 34] [], .dr [33, 34] [], .free]) [
s_ 31 (.mv (.t 0)),
s_ 32 (.mv (.t 6)),
s_ 33 (.ias 1 (.t 31) (.t 32)),
s_ 34 (.load false 1 (.t 33)),
s_ 35 (.mv (.t 0)),
s_ 36 (.mv (.t 5)),
s_ 37 (.ias 1 (.t 35) (.t 36)),
s_ 38 (.load false 1 (.t 37)),
s_ 39 (.bin .eql (.t 34) (.t 38))] (some [0, 1, 5, 6, 39]) []) (
(.cond (.t 39) (
(.seq (
.reg none [
s_ 4 (.as (.c (.bool false)))] (some [4]) []) (
.ret))) (
.skip))))) (some [0, 1, 5, 6]) [4])) (
.reg none [
s_ 29 (.mv (.t 6)),
s_ 30 (.bin .add (.t 29) (.c (.int .i64 1))),
s_ 6 (.as (.t 30))] (some [0, 1, 5, 6]) []))))
def A104_L0 : ACode := .loop A104_L0b (some [0, 1, 5, 6]) [4]
def A104_L1b : ACode :=
(.seq (
(.seq (
.reg none [
s_ 7 (.mv (.t 5)),
s_ 8 (.mv (.t 0)),
s_ 9 (.len 0 (.t 8)),
s_ 10 (.bin .lss (.t 7) (.t 9))] (some [0, 1, 5, 10]) []) (
(.cond (.t 10) (
.skip) (
.exit 0))))) (
(.seq (
(.block 1 (
(.seq (
(.seq (
.reg none [
s_ 13 (.mv (.t 0)),
s_ 14 (.mv (.t 5)),
s_ 15 (.ias 1 (.t 13) (.t 14)),
s_ 16 (.load false 1 (.t 15)),
s_ 17 (.bin .lss (.t 16) (.c (i0_))),
s_ 18 (.mv (.t 17)),
⟨some 19, .mv (.t 0), some (18, false), true⟩,
⟨some 20, .mv (.t 5), some (18, false), true⟩,
⟨some 21, .ias 1 (.t 19) (.t 20), some (18, false), true⟩,
⟨some 22, .load false 1 (.t 21), some (18, false), true⟩,
⟨some 23, .mv (.t 1), some (18, false), true⟩,
⟨some 24, .bin .geq (.t 22) (.t 23), some (18, false), true⟩,
s_ 25 (.pick (.t 18) (.c (.bool true)) (.t 24))] (some [0, 1, 5, 25]) []) (
(.cond (.t 25) (
(.seq (
.reg none [
s_ 4 (.as (.c (.bool false)))] (some [4]) []) (
.ret))) (
.skip))))) (
(.seq (
.reg none [
s_ 6 (.as (.c (i0_)))] (some [0, 1, 5, 6]) []) (
(.block 2 (
A104_L0) (some [0, 1, 5]) [4, 6])))))) (some [0, 1, 5]) [4, 6])) (
.reg none [
s_ 11 (.mv (.t 5)),
s_ 12 (.bin .add (.t 11) (.c (.int .i64 1))),
s_ 5 (.as (.t 12))] (some [0, 1, 5]) []))))
def A104_L1 : ACode := .loop A104_L1b (some [0, 1, 5]) [4, 6]
def A104 : AFn := .code [.t 4] (
(.seq (
.reg none [
s_ 4 (.as (.c (.bool false)))] (some [0, 1]) []) (
(.seq (
(.seq (
.reg none [
s_ 5 (.as (.c (i0_)))] (some [0, 1, 5]) []) (
(.block 0 (
A104_L1) (some []) [4, 5, 6])))) (
(.seq (
.reg none [
s_ 4 (.as (.c (.bool true)))] (some [4]) []) (
.ret)))))))
def A105 : AFn := .code [.t 4] (
(.seq (
.reg none [
s_ 4 (.as (.c (.bool false)))] (some [0, 1]) []) (
(.seq (
.reg none [
s_ 5 (.mv (.t 0)),
s_ 6 (.mv (.t 1)),
s_ 7 (.call 116 [.t 5, .t 6]),
s_ 8 (.bin .geq (.t 7) (.c (i0_))),
s_ 4 (.as (.t 8))] (some [4]) []) (
.ret)))))
def A106_L0b : ACode :=
(.seq (
.reg none [
s_ 27 (.bin .lss (.t 26) (.c (.int .i64 3)))] (some [0, 2, 17, 18, 19, 25, 26, 27]) []) (
(.seq (
(.cond (.t 27) (
.skip) (
.exit 2))) (
(.seq (
(.block 3 (
(.seq (
.reg none [
s_ 28 (.ixa false 3 1 (.t 25) (.t 26)),
s_ 9 (.as (.t 28))] (some [0, 2, 9, 17, 18, 19, 25, 26]) []) (
(.seq (
.reg none [
s_ 29 (.mv (.t 0)),
s_ 30 (.mv (.t 9)),
s_ 31 (.cal (.t 29) [.t 30]),
s_ 32 (.un .not (.t 31))] (some [0, 2, 17, 18, 19, 25, 26, 32]) []) (
(.cond (.t 32) (
.ret) (
.skip))))))) (some [0, 2, 17, 18, 19, 25, 26]) [9, 31])) (
.reg none [
s_ 33 (.bin .add (.t 26) (.c (.int .i64 1))),
s_ 26 (.mv (.t 33))] (some [0, 2, 17, 18, 19, 25, 26]) []))))))
def A106_L0 : ACode := .loop A106_L0b (some [0, 2, 17, 18, 19, 25, 26]) [9, 31]
def A106_L1b : ACode :=
(.seq (
.reg none [
s_ 20 (.bin .lss (.t 19) (.t 18))] (some [0, 2, 17, 18, 19, 20]) []) (
(.seq (
(.cond (.t 20) (
.skip) (
.exit 0))) (
(.seq (
(.block 1 (
(.seq (
.reg none [
s_ 21 (.ias 3 (.t 17) (.t 19)),
s_ 22 (.load true 3 (.t 21)),
s_ 7 (.alloc [i0_, i0_, i0_]),
n_ (.store 3 (.t 7) (.t 22))] (some [0, 2, 7, 17, 18, 19]) []) (
(.seq (
.reg none [
s_ 23 (.load true 12 (.t 2)),
s_ 24 (.load true 3 (.t 7)),
s_ 25 (.call 20 [.t 23, .t 24]),
s_ 26 (.mv (.c (i0_)))] (some [0, 2, 17, 18, 19, 25, 26]) [7]) (
(.block 2 (
A106_L0) (some [0, 2, 17, 18, 19]) [9, 31])))))) (some [0, 2, 17, 18, 19]) [7, 9, 25, 31])) (
.reg none [
s_ 34 (.bin .add (.t 19) (.c (.int .i64 1))),
s_ 19 (.mv (.t 34))] (some [0, 2, 17, 18, 19]) []))))))
def A106_L1 : ACode := .loop A106_L1b (some [0, 2, 17, 18, 19]) [7, 9, 25, 31]
def A106 : AFn := .code [] (
(.seq (
.reg none [
s_ 11 (.load true 3 (.t 1)),
s_ 12 (.call 39 [.t 11]),
s_ 10 (.mv (.t 12)),
s_ 13 (.ext (.t 10) 0),
s_ 14 (.ext (.t 10) 1),
s_ 4 (.alloc [i0_, i0_, i0_]),
s_ 5 (.alloc [i0_, i0_, i0_]),
n_ (.store 3 (.t 4) (.t 13)),
n_ (.store 3 (.t 5) (.t 14))] (some [0, 2, 4, 5]) []) (
(.seq (
.reg none [
s_ 15 (.load true 3 (.t 4)),
s_ 16 (.load true 3 (.t 5)),
s_ 17 (.bsl 3 2 [i0_, i0_, i0_] [(0, .t 15), (1, .t 16)]),
s_ 18 (.len 0 (.t 17)),
s_ 19 (.mv (.c (i0_)))] (some [0, 2, 17, 18, 19]) [4, 5]) (
(.block 0 (
A106_L1) (some []) [7, 9, 25, 31]))))))
def A107 : AFn := .code [.cell true 2 2, .cell true 2 3] (
(.seq (
.reg none [
s_ 2 (.alloc [i0_, i0_]),
s_ 3 (.alloc [i0_, i0_])] (some [0, 2, 3]) []) (
(.seq (
(.seq (
.reg none [
s_ 6 (.mv (.t 0)),
s_ 7 (.len 0 (.t 6)),
s_ 8 (.bin .eql (.t 7) (.c (i0_)))] (some [0, 2, 3, 8]) []) (
(.cond (.t 8) (
(.seq (
.reg none [
s_ 9 (.build [i0_, i0_] []),
s_ 10 (.build [i0_, i0_] []),
n_ (.store 2 (.t 2) (.t 9)),
n_ (.store 2 (.t 3) (.t 10))] (some [2, 3]) []) (
.ret))) (
.skip))))) (
(.seq (
.reg none [
s_ 11 (.mv (.t 0)),
s_ 12 (.mv (.t 0)),
s_ 13 (.ias 2 (.t 12) (.c (i0_))),
s_ 14 (.load true 2 (.t 13)),
s_ 15 (.call 117 [.t 11, .t 14, .fu 118]),
s_ 4 (.alloc [i0_, i0_]),
n_ (.store 2 (.t 4) (.t 15))] (some [0, 2, 3, 4]) []) (
(.seq (
.reg none [
s_ 16 (.mv (.t 0)),
s_ 17 (.mv (.t 0)),
s_ 18 (.ias 2 (.t 17) (.c (i0_))),
s_ 19 (.load true 2 (.t 18)),
s_ 20 (.call 117 [.t 16, .t 19, .fu 119]),
s_ 5 (.alloc [i0_, i0_]),
n_ (.store 2 (.t 5) (.t 20))] (some [2, 3, 4, 5]) []) (
(.seq (
.reg (some [.dr [22] [], .dr [21] [2], .dr [22] [], .free]) [
s_ 21 (.load true 2 (.t 4)),
s_ 22 (.load true 2 (.t 5)),
n_ (.store 2 (.t 2) (.t 21)),
n_ (.store 2 (.t 3) (.t 22))] (some [2, 3]) [4, 5]) (
.ret)))))))))))
def A108 : AFn := .code [.t 3] (
(.seq (
.reg none [
s_ 3 (.as (.c (.bool false)))] (some [0, 1]) []) (
(.seq (
.reg none [
s_ 4 (.mv (.t 0)),
s_ 5 (.load false 1 (.t 1)),
s_ 6 (.un .neg (.t 5)),
s_ 7 (.bin .geq (.t 4) (.t 6)),
s_ 8 (.mv (.t 7)),
⟨some 9, .mv (.t 0), some (8, true), true⟩,
⟨some 10, .load false 1 (.t 1), some (8, true), true⟩,
⟨some 11, .bin .leq (.t 9) (.t 10), some (8, true), true⟩,
s_ 12 (.pick (.t 8) (.t 11) (.c (.bool false))),
s_ 3 (.as (.t 12))] (some [3]) []) (
.ret)))))
def A109_L0b : ACode :=
(.seq (
.reg none [
s_ 22 (.bin .lss (.t 21) (.t 20))] (some [6, 7, 20, 21, 22]) []) (
(.seq (
(.cond (.t 22) (
.skip) (
.exit 0))) (
(.seq (
(.block 1 (
.reg none [
s_ 23 (.mv (.t 7)),
s_ 24 (.load true 2 (.t 6)),
s_ 25 (.cal (.t 23) [.t 24]),
n_ (.store 2 (.t 6) (.t 25))] (some [6, 7, 20, 21]) []) (some [6, 7, 20, 21]) [])) (
.reg none [
s_ 26 (.bin .add (.t 21) (.c (.int .i64 1))),
s_ 21 (.mv (.t 26))] (some [6, 7, 20, 21]) []))))))
def A109_L0 : ACode := .loop A109_L0b (some [6, 7, 20, 21]) []
def A109 : AFn := .code [.t 2, .t 3] (
(.seq (
.reg none [
s_ 2 (.as (.c (i0_))),
s_ 3 (.as (.c (i0_)))] (some [0]) []) (
(.seq (
.reg none [
s_ 8 (.mv (.t 0)),
s_ 9 (.call 120 [.t 8]),
s_ 4 (.as (.t 9))] (some [4]) []) (
(.seq (
.reg none [
s_ 10 (.call 121 []),
s_ 11 (.mv (.t 4)),
s_ 12 (.bin .rem (.t 11) (.c (.int .i64 9))),
s_ 13 (.ixa true 9 2 (.t 10) (.t 12)),
s_ 5 (.alloc [i0_, i0_]),
n_ (.store 2 (.t 5) (.t 13))] (some [4, 5]) []) (
(.seq (
.reg none [
s_ 14 (.iaa 2 1 (.t 5) (.c (i0_))),
s_ 15 (.load false 1 (.t 14)),
s_ 16 (.iaa 2 1 (.t 5) (.c (.int .i64 1))),
s_ 17 (.load false 1 (.t 16)),
s_ 18 (.build [i0_, i0_] [(0, 1, .t 15), (1, 1, .t 17)]),
s_ 6 (.alloc [i0_, i0_]),
n_ (.store 2 (.t 6) (.t 18))] (some [4, 6]) [5]) (
(.seq (
.reg none [
s_ 7 (.as (.fu 91))] (some [4, 6, 7]) []) (
(.seq (
(.seq (
.reg none [
s_ 19 (.mv (.t 4)),
s_ 20 (.bin .quo (.t 19) (.c (.int .i64 9))),
s_ 21 (.mv (.c (i0_)))] (some [6, 7, 20, 21]) []) (
(.block 0 (
A109_L0) (some [6]) [])))) (
(.seq (
.reg (some [.dr [30] [], .dr [30] [], .dr [28] [], .dr [28] [], .dr [30] [], .free]) [
s_ 27 (.fad 0 (.t 6)),
s_ 28 (.load false 1 (.t 27)),
s_ 29 (.fad 1 (.t 6)),
s_ 30 (.load false 1 (.t 29)),
s_ 2 (.as (.t 28)),
s_ 3 (.as (.t 30))] (some [2, 3]) [6]) (
.ret)))))))))))))))
def A111 : AFn := .code [.t 8, .t 9] (
(.seq (
.reg none [
s_ 4 (.box (.t 0)),
s_ 5 (.box (.t 1)),
s_ 6 (.box (.t 2)),
s_ 7 (.box (.t 3)),
s_ 8 (.as (.c (.bool false))),
s_ 9 (.as (.c (.bool false)))] (some [4, 5, 6, 7]) []) (
(.seq (
.reg (some [.dr [13, 14, 16, 17, 18] [], .dr [12, 14, 16, 17, 18] [], .dr [12, 13, 16, 17, 18] [], .dr [16, 17, 18] [], .dr [12, 13, 14, 15, 17, 18] [], .dr [12, 13, 14, 15, 16, 18] [], .dr [12, 13, 14, 15, 16, 17] [], .free, .free, .free]) [
s_ 12 (.load true 2 (.t 4)),
s_ 13 (.load true 2 (.t 5)),
s_ 14 (.load true 2 (.t 6)),
s_ 15 (.call 62 [.t 12, .t 13, .t 14]),
s_ 16 (.load true 2 (.t 4)),
s_ 17 (.load true 2 (.t 5)),
s_ 18 (.load true 2 (.t 7)),
s_ 19 (.call 62 [.t 16, .t 17, .t 18]),
s_ 10 (.as (.t 15)),
s_ 11 (.as (.t 19))] (some [4, 5, 6, 7, 10, 11]) []) (
(.seq (
.reg none [
s_ 20 (.mv (.t 10)),
s_ 21 (.mv (.t 11)),
s_ 22 (.bin .mul (.t 20) (.t 21)),
s_ 23 (.bin .lss (.t 22) (.c (i0_))),
s_ 24 (.mv (.t 10)),
s_ 25 (.bin .eql (.t 24) (.c (i0_))),
s_ 26 (.mv (.t 25)),
⟨some 27, .load true 2 (.t 4), some (26, true), true⟩,
⟨some 28, .load true 2 (.t 5), some (26, true), true⟩,
⟨some 29, .load true 2 (.t 6), some (26, true), true⟩,
⟨some 30, .call 90 [.t 27, .t 28, .t 29], some (26, true), true⟩,
s_ 31 (.pick (.t 26) (.t 30) (.c (.bool false))),
s_ 32 (.mv (.t 31)),
⟨some 33, .mv (.t 11), some (32, false), true⟩,
⟨some 34, .bin .eql (.t 33) (.c (i0_)), some (32, false), true⟩,
⟨some 35, .mv (.t 34), some (32, false), true⟩,
⟨some 36, .load true 2 (.t 4), some (35, true), true⟩,
⟨some 37, .load true 2 (.t 5), some (35, true), true⟩,
⟨some 38, .load true 2 (.t 7), some (35, true), true⟩,
⟨some 39, .call 90 [.t 36, .t 37, .t 38], some (35, true), true⟩,
⟨some 40, .pick (.t 35) (.t 39) (.c (.bool false)), some (32, false), true⟩,
s_ 41 (.pick (.t 32) (.c (.bool true)) (.t 40)),
s_ 8 (.as (.t 23)),
s_ 9 (.as (.t 41))] (some [8, 9]) [4, 5, 6, 7]) (
.ret)))))))
def A112_L0b : ACode :=
(.seq (
.reg none [
s_ 8 (.bin .lss (.t 7) (.t 6))] (some [0, 1, 5, 6, 7, 8]) []) (
(.seq (
(.cond (.t 8) (
.skip) (
.exit 0))) (
(.seq (
(.block 1 (
(.seq (
.reg none [
s_ 9 (.mv (.t 7)),
s_ 10 (.ias 2 (.t 5) (.t 7)),
s_ 11 (.load true 2 (.t 10)),
s_ 4 (.alloc [i0_, i0_]),
s_ 3 (.as (.t 9)),
n_ (.store 2 (.t 4) (.t 11))] (some [0, 1, 3, 4, 5, 6, 7]) []) (
(.seq (
.reg (some [.dr [14, 15, 18, 19, 21, 22] [], .dr [14, 15, 18, 19, 21, 22] [], .dr [15, 18, 19, 21, 22] [], .dr [14, 18, 19] [], .dr [14, 15, 18, 19] [], .dr [14, 15, 18, 19] [], .dr [14, 15] [], .dr [14, 15] [], .dr [14, 15] [], .dr [14] [], .dr [14] [], .dr [] [], .free, .free]) [
s_ 12 (.mv (.t 0)),
s_ 13 (.mv (.t 3)),
s_ 14 (.load true 2 (.t 4)),
s_ 15 (.load false 1 (.t 1)),
s_ 16 (.mv (.t 3)),
s_ 17 (.bin .add (.t 16) (.c (.int .i64 1))),
s_ 18 (.load false 1 (.t 1)),
s_ 19 (.len 0 (.t 18)),
s_ 20 (.bin .rem (.t 17) (.t 19)),
s_ 21 (.ias 2 (.t 15) (.t 20)),
s_ 22 (.load true 2 (.t 21)),
s_ 23 (.build [i0_, i0_, i0_, i0_] [(0, 2, .t 14), (2, 2, .t 22)]),
s_ 24 (.cal (.t 12) [.t 13, .t 23]),
s_ 25 (.un .not (.t 24))] (some [0, 1, 5, 6, 7, 25]) [4]) (
(.cond (.t 25) (
.ret) (
.skip))))))) (some [0, 1, 5, 6, 7]) [3, 4, 24])) (
.reg none [
s_ 26 (.bin .add (.t 7) (.c (.int .i64 1))),
s_ 7 (.mv (.t 26))] (some [0, 1, 5, 6, 7]) []))))))
def A112_L0 : ACode := .loop A112_L0b (some [0, 1, 5, 6, 7]) [3, 4, 24]
def A112 : AFn := .code [] (
(.seq (
.reg none [
s_ 5 (.load false 1 (.t 1)),
s_ 6 (.len 0 (.t 5)),
s_ 7 (.mv (.c (i0_)))] (some [0, 1, 5, 6, 7]) []) (
(.block 0 (
A112_L0) (some []) [3, 4, 24]))))
def A113_L0b : ACode :=
(.seq (
(.seq (
.reg none [
s_ 46 (.mv (.t 6)),
s_ 47 (.mv (.t 3)),
s_ 48 (.bin .lss (.t 46) (.t 47))] (some [0, 3, 5, 6, 48]) []) (
(.cond (.t 48) (
.skip) (
.exit 4))))) (
(.seq (
(.block 5 (
(.seq (
.reg none [
s_ 51 (.mv (.t 5)),
s_ 52 (.bin .neq (.t 51) (.c (i0_))),
s_ 53 (.mv (.t 52)),
⟨some 54, .mv (.t 6), some (53, false), true⟩,
⟨some 55, .mv (.t 3), some (53, false), true⟩,
⟨some 56, .bin .sub (.t 55) (.c (.int .i64 1)), some (53, false), true⟩,
⟨some 57, .bin .neq (.t 54) (.t 56), some (53, false), true⟩,
s_ 58 (.pick (.t 53) (.c (.bool true)) (.t 57)),
s_ 59 (.mv (.t 58)),
⟨some 60, .mv (.t 0), some (59, true), true⟩,
⟨some 61, .mv (.t 5), some (59, true), true⟩,
⟨some 62, .call 123 [.t 60, .t 61], some (59, true), true⟩,
⟨some 63, .mv (.t 0), some (59, true), true⟩,
⟨some 64, .mv (.t 5), some (59, true), true⟩,
⟨some 65, .bin .add (.t 64) (.c (.int .i64 1)), some (59, true), true⟩,
⟨some 66, .call 123 [.t 63, .t 65], some (59, true), true⟩,
⟨some 67, .mv (.t 0), some (59, true), true⟩,
⟨some 68, .mv (.t 6), some (59, true), true⟩,
⟨some 69, .call 123 [.t 67, .t 68], some (59, true), true⟩,
⟨some 70, .mv (.t 0), some (59, true), true⟩,
⟨some 71, .mv (.t 6), some (59, true), true⟩,
⟨some 72, .bin .add (.t 71) (.c (.int .i64 1)), some (59, true), true⟩,
⟨some 73, .call 123 [.t 70, .t 72], some (59, true), true⟩,
⟨some 74, .call 124 [.t 62, .t 66, .t 69, .t 73], some (59, true), true⟩,
s_ 75 (.pick (.t 59) (.t 74) (.c (.bool false)))] (some [0, 3, 5, 6, 75]) []) (
(.cond (.t 75) (
(.seq (
.reg none [
s_ 2 (.as (.c (.bool false)))] (some [2]) []) (
.ret))) (
.skip))))) (some [0, 3, 5, 6]) [2, 62, 66, 69, 73, 74])) (
.reg none [
s_ 49 (.mv (.t 6)),
s_ 50 (.bin .add (.t 49) (.c (.int .i64 1))),
s_ 6 (.as (.t 50))] (some [0, 3, 5, 6]) []))))
def A113_L0 : ACode := .loop A113_L0b (some [0, 3, 5, 6]) [2, 62, 66, 69, 73, 74]
def A113_L1b : ACode :=
(.seq (
(.seq (
.reg none [
s_ 26 (.mv (.t 5)),
s_ 27 (.mv (.t 3)),
s_ 28 (.bin .lss (.t 26) (.t 27))] (some [0, 3, 5, 28]) []) (
(.cond (.t 28) (
.skip) (
.exit 2))))) (
(.seq (
(.block 3 (
(.seq (
(.seq (
.reg none [
s_ 31 (.mv (.t 0)),
s_ 32 (.mv (.t 5)),
s_ 33 (.call 123 [.t 31, .t 32]),
s_ 34 (.mv (.t 0)),
s_ 35 (.mv (.t 5)),
s_ 36 (.bin .add (.t 35) (.c (.int .i64 1))),
s_ 37 (.call 123 [.t 34, .t 36]),
s_ 38 (.mv (.t 0)),
s_ 39 (.mv (.t 5)),
s_ 40 (.bin .add (.t 39) (.c (.int .i64 2))),
s_ 41 (.call 123 [.t 38, .t 40]),
s_ 42 (.call 122 [.t 33, .t 37, .t 41]),
s_ 43 (.bin .eql (.t 42) (.c (i0_)))] (some [0, 3, 5, 43]) []) (
(.cond (.t 43) (
(.seq (
.reg none [
s_ 2 (.as (.c (.bool false)))] (some [2]) []) (
.ret))) (
.skip))))) (
(.seq (
.reg none [
s_ 44 (.mv (.t 5)),
s_ 45 (.bin .add (.t 44) (.c (.int .i64 2))),
s_ 6 (.as (.t 45))] (some [0, 3, 5, 6]) []) (
(.block 4 (
A113_L0) (some [0, 3, 5]) [2, 6, 62, 66, 69, 73, 74])))))) (some [0, 3, 5]) [2, 6, 33, 37, 41, 42, 62, 66, 69, 73, 74])) (
.reg none [
s_ 29 (.mv (.t 5)),
s_ 30 (.bin .add (.t 29) (.c (.int .i64 1))),
s_ 5 (.as (.t 30))] (some [0, 3, 5]) []))))
def A113_L1 : ACode := .loop A113_L1b (some [0, 3, 5]) [2, 6, 33, 37, 41, 42, 62, 66, 69, 73, 74]
def A113_L2b : ACode :=
(.seq (
(.seq (
.reg none [
s_ 15 (.mv (.t 4)),
s_ 16 (.mv (.t 3)),
s_ 17 (.bin .lss (.t 15) (.t 16))] (some [0, 3, 4, 17]) []) (
(.cond (.t 17) (
.skip) (
.exit 0))))) (
(.seq (
(.block 1 (
(.seq (
.reg none [
s_ 20 (.mv (.t 0)),
s_ 21 (.mv (.t 4)),
s_ 22 (.ias 2 (.t 20) (.t 21)),
s_ 23 (.load true 2 (.t 22)),
s_ 24 (.call 30 [.t 23]),
s_ 25 (.un .not (.t 24))] (some [0, 3, 4, 25]) []) (
(.cond (.t 25) (
(.seq (
.reg none [
s_ 2 (.as (.c (.bool false)))] (some [2]) []) (
.ret))) (
.skip))))) (some [0, 3, 4]) [2, 24])) (
.reg none [
s_ 18 (.mv (.t 4)),
s_ 19 (.bin .add (.t 18) (.c (.int .i64 1))),
s_ 4 (.as (.t 19))] (some [0, 3, 4]) []))))
def A113_L2 : ACode := .loop A113_L2b (some [0, 3, 4]) [2, 24]
def A113 : AFn := .code [.t 2] (
(.seq (
.reg none [
s_ 2 (.as (.c (.bool false)))] (some [0]) []) (
(.seq (
.reg none [
s_ 7 (.mv (.t 0)),
s_ 8 (.len 0 (.t 7)),
s_ 3 (.as (.t 8))] (some [0, 3]) []) (
(.seq (
(.seq (
.reg none [
s_ 9 (.mv (.t 3)),
s_ 10 (.bin .lss (.t 9) (.c (.int .i64 3))),
s_ 11 (.mv (.t 10)),
⟨some 12, .mv (.t 3), some (11, false), true⟩,
⟨some 13, .bin .gtr (.t 12) (.c (.int .i64 12)), some (11, false), true⟩,
s_ 14 (.pick (.t 11) (.c (.bool true)) (.t 13))] (some [0, 3, 14]) []) (
(.cond (.t 14) (
(.seq (
.reg none [
s_ 2 (.as (.c (.bool false)))] (some [2]) []) (
.ret))) (
.skip))))) (
(.seq (
(.seq (
.reg none [
s_ 4 (.as (.c (i0_)))] (some [0, 3, 4]) []) (
(.block 0 (
A113_L2) (some [0, 3]) [2, 4, 24])))) (
(.seq (
(.seq (
.reg none [
s_ 5 (.as (.c (i0_)))] (some [0, 3, 5]) []) (
(.block 2 (
A113_L1) (some [0]) [2, 5, 6, 33, 37, 41, 42, 62, 66, 69, 73, 74])))) (
(.seq (
.reg none [
s_ 76 (.mv (.t 0)),
s_ 77 (.call 125 [.t 76]),
s_ 78 (.bin .gtr (.t 77) (.c (i0_))),
s_ 2 (.as (.t 78))] (some [2]) []) (
.ret)))))))))))))
def A114_L0b : ACode :=
(.seq (
(.seq (
.reg none [
s_ 17 (.mv (.t 4)),
s_ 18 (.mv (.t 3)),
s_ 19 (.bin .lss (.t 17) (.t 18))] (some [0, 3, 4, 19]) []) (
(.cond (.t 19) (
.skip) (
.exit 2))))) (
(.seq (
(.block 3 (
(.seq (
.reg (some [.dr [28, 29] [], .dr [28, 29] [], .dr [28, 29] [], .dr [28, 29] [], .dr [24, 25] [], .dr [24, 25] [], .dr [24, 25] [], .dr [24, 25] [], .free]) [
s_ 22 (.mv (.t 0)),
s_ 23 (.mv (.t 4)),
s_ 24 (.ias 1 (.t 22) (.t 23)),
s_ 25 (.load false 1 (.t 24)),
s_ 26 (.mv (.t 0)),
s_ 27 (.mv (.t 3)),
s_ 28 (.ias 1 (.t 26) (.t 27)),
s_ 29 (.load false 1 (.t 28)),
s_ 30 (.bin .eql (.t 25) (.t 29))] (some [0, 3, 4, 30]) []) (
(.cond (.t 30) (
(.seq (
.reg none [
s_ 2 (.as (.c (.bool false)))] (some [2]) []) (
.ret))) (
.skip))))) (some [0, 3, 4]) [2])) (
.reg none [
s_ 20 (.mv (.t 4)),
s_ 21 (.bin .add (.t 20) (.c (.int .i64 1))),
s_ 4 (.as (.t 21))] (some [0, 3, 4]) []))))
def A114_L0 : ACode := .loop A114_L0b (some [0, 3, 4]) [2]
def A114_L1b : ACode :=
(.seq (
(.seq (
.reg none [
s_ 5 (.mv (.t 3)),
s_ 6 (.mv (.t 0)),
s_ 7 (.len 0 (.t 6)),
s_ 8 (.bin .lss (.t 5) (.t 7))] (some [0, 3, 8]) []) (
(.cond (.t 8) (
.skip) (
.exit 0))))) (
(.seq (
(.block 1 (
(.seq (
(.seq (
.reg none [
s_ 11 (.mv (.t 0)),
s_ 12 (.mv (.t 3)),
s_ 13 (.ias 1 (.t 11) (.t 12)),
s_ 14 (.load false 1 (.t 13)),
s_ 15 (.call 126 [.t 14]),
s_ 16 (.un .not (.t 15))] (some [0, 3, 16]) []) (
(.cond (.t 16) (
(.seq (
.reg none [
s_ 2 (.as (.c (.bool false)))] (some [2]) []) (
.ret))) (
.skip))))) (
(.seq (
.reg none [
s_ 4 (.as (.c (i0_)))] (some [0, 3, 4]) []) (
(.block 2 (
A114_L0) (some [0, 3]) [2, 4])))))) (some [0, 3]) [2, 4, 15])) (
.reg none [
s_ 9 (.mv (.t 3)),
s_ 10 (.bin .add (.t 9) (.c (.int .i64 1))),
s_ 3 (.as (.t 10))] (some [0, 3]) []))))
def A114_L1 : ACode := .loop A114_L1b (some [0, 3]) [2, 4, 15]

end Go.Proofs.Ytnecdcaaknhgpaa

namespace Go.Proofs.Ytnecdcaaknhgpaa
open Go Go.Zv
def A114 : AFn := .code [.t 2] (
(.seq (
.reg none [
s_ 2 (.as (.c (.bool false)))] (some [0]) []) (
(.seq (
(.seq (
.reg none [
s_ 3 (.as (.c (i0_)))] (some [0, 3]) []) (
(.block 0 (
A114_L1) (some []) [2, 3, 4, 15])))) (
(.seq (
.reg none [
s_ 2 (.as (.c (.bool true)))] (some [2]) []) (
.ret)))))))
def A115_L0b : ACode :=
(.seq (
(.seq (
.reg none [
s_ 49 (.mv (.t 4)),
s_ 50 (.mv (.t 0)),
s_ 51 (.len 0 (.t 50)),
s_ 52 (.bin .lss (.t 49) (.t 51))] (some [0, 3, 4, 52]) []) (
(.cond (.t 52) (
.skip) (
.exit 2))))) (
(.seq (
(.block 3 (
(.seq (
.reg (some [.dr [63, 65, 66, 69, 70] [], .dr [63, 65, 66, 69, 70] [], .dr [63, 65, 66, 69, 70] [], .dr [63, 65, 66, 69, 70] [], .dr [57, 58, 63, 69, 70] [], .dr [57, 58, 63, 69, 70] [], .dr [57, 58, 63, 69, 70] [], .dr [57, 58, 69, 70] [], .dr [57, 58, 69, 70] [], .dr [57, 58, 69, 70] [], .dr [57, 58, 69, 70] [], .dr [57, 58, 69, 70] [], .dr [57, 58, 63, 65, 66] [], .dr [57, 58, 63, 65, 66] [], .dr [57, 58, 63, 65, 66] [], .dr [57, 58, 63, 65, 66] [], .free, .free]) [
s_ 55 (.mv (.t 0)),
s_ 56 (.mv (.t 3)),
s_ 57 (.ias 2 (.t 55) (.t 56)),
s_ 58 (.load true 2 (.t 57)),
s_ 59 (.mv (.t 0)),
s_ 60 (.mv (.t 3)),
s_ 61 (.bin .add (.t 60) (.c (.int .i64 1))),
s_ 62 (.mv (.t 0)),
s_ 63 (.len 0 (.t 62)),
s_ 64 (.bin .rem (.t 61) (.t 63)),
s_ 65 (.ias 2 (.t 59) (.t 64)),
s_ 66 (.load true 2 (.t 65)),
s_ 67 (.mv (.t 0)),
s_ 68 (.mv (.t 4)),
s_ 69 (.ias 2 (.t 67) (.t 68)),
s_ 70 (.load true 2 (.t 69)),
s_ 71 (.call 127 [.t 58, .t 66, .t 70]),
s_ 72 (.bin .lss (.t 71) (.c (i0_)))] (some [0, 3, 4, 72]) []) (
(.cond (.t 72) (
(.seq (
.reg none [
s_ 2 (.as (.c (.bool false)))] (some [2]) []) (
.ret))) (
.skip))))) (some [0, 3, 4]) [2, 71])) (
.reg none [
s_ 53 (.mv (.t 4)),
s_ 54 (.bin .add (.t 53) (.c (.int .i64 1))),
s_ 4 (.as (.t 54))] (some [0, 3, 4]) []))))
def A115_L0 : ACode := .loop A115_L0b (some [0, 3, 4]) [2, 71]
def A115_L1b : ACode :=
(.seq (
(.seq (
.reg none [
s_ 13 (.mv (.t 3)),
s_ 14 (.mv (.t 0)),
s_ 15 (.len 0 (.t 14)),
s_ 16 (.bin .lss (.t 13) (.t 15))] (some [0, 3, 16]) []) (
(.cond (.t 16) (
.skip) (
.exit 0))))) (
(.seq (
(.block 1 (
(.seq (
(.seq (
.reg none [
s_ 19 (.mv (.t 0)),
s_ 20 (.mv (.t 3)),
s_ 21 (.ias 2 (.t 19) (.t 20)),
s_ 22 (.fad 0 (.t 21)),
s_ 23 (.load false 1 (.t 22)),
s_ 24 (.bin .lss (.t 23) (.c (.int .i64 (-10)))),
s_ 25 (.mv (.t 24)),
⟨some 26, .mv (.t 0), some (25, false), true⟩,
⟨some 27, .mv (.t 3), some (25, false), true⟩,
⟨some 28, .ias 2 (.t 26) (.t 27), some (25, false), true⟩,
⟨some 29, .fad 0 (.t 28), some (25, false), true⟩,
⟨some 30, .load false 1 (.t 29), some (25, false), true⟩,
⟨some 31, .bin .gtr (.t 30) (.c (.int .i64 10)), some (25, false), true⟩,
s_ 32 (.pick (.t 25) (.c (.bool true)) (.t 31)),
s_ 33 (.mv (.t 32)),
⟨some 34, .mv (.t 0), some (33, false), true⟩,
⟨some 35, .mv (.t 3), some (33, false), true⟩,
⟨some 36, .ias 2 (.t 34) (.t 35), some (33, false), true⟩,
⟨some 37, .fad 1 (.t 36), some (33, false), true⟩,
⟨some 38, .load false 1 (.t 37), some (33, false), true⟩,
⟨some 39, .bin .lss (.t 38) (.c (.int .i64 (-10))), some (33, false), true⟩,
s_ 40 (.pick (.t 33) (.c (.bool true)) (.t 39)),
s_ 41 (.mv (.t 40)),
⟨some 42, .mv (.t 0), some (41, false), true⟩,
⟨some 43, .mv (.t 3), some (41, false), true⟩,
⟨some 44, .ias 2 (.t 42) (.t 43), some (41, false), true⟩,
⟨some 45, .fad 1 (.t 44), some (41, false), true⟩,
⟨some 46, .load false 1 (.t 45), some (41, false), true⟩,
⟨some 47, .bin .gtr (.t 46) (.c (.int .i64 10)), some (41, false), true⟩,
s_ 48 (.pick (.t 41) (.c (.bool true)) (.t 47))] (some [0, 3, 48]) []) (
(.cond (.t 48) (
(.seq (
.reg none [
s_ 2 (.as (.c (.bool false)))] (some [2]) []) (
.ret))) (
.skip))))) (
(.seq (
.reg none [
s_ 4 (.as (.c (i0_)))] (some [0, 3, 4]) []) (
(.block 2 (
A115_L0) (some [0, 3]) [2, 4, 71])))))) (some [0, 3]) [2, 4, 71])) (
.reg none [
s_ 17 (.mv (.t 3)),
s_ 18 (.bin .add (.t 17) (.c (.int .i64 1))),
s_ 3 (.as (.t 18))] (some [0, 3]) []))))
def A115_L1 : ACode := .loop A115_L1b (some [0, 3]) [2, 4, 71]
def A115 : AFn := .code [.t 2] (
(.seq (
.reg none [
s_ 2 (.as (.c (.bool false)))] (some [0]) []) (
(.seq (
(.seq (
.reg none [
s_ 5 (.mv (.t 0)),
s_ 6 (.len 0 (.t 5)),
s_ 7 (.bin .gtr (.t 6) (.c (.int .i64 4))),
s_ 8 (.mv (.t 7)),
⟨some 9, .mv (.t 0), some (8, false), true⟩,
⟨some 10, .call 113 [.t 9], some (8, false), true⟩,
⟨some 11, .un .not (.t 10), some (8, false), true⟩,
s_ 12 (.pick (.t 8) (.c (.bool true)) (.t 11))] (some [0, 12]) []) (
(.cond (.t 12) (
(.seq (
.reg none [
s_ 2 (.as (.c (.bool false)))] (some [2]) []) (
.ret))) (
.skip))))) (
(.seq (
(.seq (
.reg none [
s_ 3 (.as (.c (i0_)))] (some [0, 3]) []) (
(.block 0 (
A115_L1) (some []) [2, 3, 4, 71])))) (
(.seq (
.reg none [
s_ 2 (.as (.c (.bool true)))] (some [2]) []) (
.ret)))))))))
def A116_L0b : ACode :=
(.seq (
.reg none [
s_ 9 (.bin .lss (.t 8) (.t 7))] (some [0, 1, 7, 8, 9]) []) (
(.seq (
(.cond (.t 9) (
.skip) (
.exit 0))) (
(.seq (
(.block 1 (
(.seq (
.reg none [
s_ 10 (.mv (.t 8)),
s_ 5 (.as (.t 10))] (some [0, 1, 5, 7, 8]) []) (
(.seq (
.reg none [
s_ 11 (.mv (.t 1)),
s_ 12 (.mv (.t 0)),
s_ 13 (.mv (.t 5)),
s_ 14 (.ias 1 (.t 12) (.t 13)),
s_ 15 (.load false 1 (.t 14)),
s_ 16 (.bib false (.t 11) (.t 15))] (some [0, 1, 5, 7, 8, 16]) []) (
(.cond (.t 16) (
(.seq (
.reg none [
s_ 17 (.mv (.t 5)),
s_ 4 (.as (.t 17))] (some [4]) []) (
.ret))) (
.skip))))))) (some [0, 1, 7, 8]) [4, 5])) (
.reg none [
s_ 18 (.bin .add (.t 8) (.c (.int .i64 1))),
s_ 8 (.mv (.t 18))] (some [0, 1, 7, 8]) []))))))
def A116_L0 : ACode := .loop A116_L0b (some [0, 1, 7, 8]) [4, 5]
def A116 : AFn := .code [.t 4] (
(.seq (
.reg none [
s_ 4 (.as (.c (i0_)))] (some [0, 1]) []) (
(.seq (
(.seq (
.reg none [
s_ 6 (.mv (.t 0)),
s_ 7 (.len 0 (.t 6)),
s_ 8 (.mv (.c (i0_)))] (some [0, 1, 7, 8]) []) (
(.block 0 (
A116_L0) (some []) [4, 5])))) (
(.seq (
.reg none [
s_ 4 (.as (.c (.int .i64 (-1))))] (some [4]) []) (
.ret)))))))
def A117_L0b : ACode :=
(.seq (
.reg none [
s_ 12 (.bin .lss (.t 11) (.t 10))] (some [2, 4, 6, 9, 10, 11, 12]) []) (
(.seq (
(.cond (.t 12) (
.skip) (
.exit 0))) (
(.seq (
(.block 1 (
(.seq (
.reg none [
s_ 13 (.ias 2 (.t 9) (.t 11)),
s_ 14 (.load true 2 (.t 13)),
s_ 8 (.alloc [i0_, i0_]),
n_ (.store 2 (.t 8) (.t 14))] (some [2, 4, 6, 8, 9, 10, 11]) []) (
.reg none [
s_ 15 (.mv (.t 2)),
s_ 16 (.load true 2 (.t 4)),
s_ 17 (.load true 2 (.t 8)),
s_ 18 (.cal (.t 15) [.t 16, .t 17]),
n_ (.store 2 (.t 4) (.t 18))] (some [2, 4, 6, 9, 10, 11]) [8]))) (some [2, 4, 6, 9, 10, 11]) [8])) (
.reg none [
s_ 19 (.bin .add (.t 11) (.c (.int .i64 1))),
s_ 11 (.mv (.t 19))] (some [2, 4, 6, 9, 10, 11]) []))))))
def A117_L0 : ACode := .loop A117_L0b (some [2, 4, 6, 9, 10, 11]) [8]
def A117 : AFn := .code [.cell true 2 6] (
(.seq (
.reg none [
s_ 4 (.box (.t 1)),
s_ 6 (.alloc [i0_, i0_])] (some [0, 2, 4, 6]) []) (
(.seq (
(.seq (
.reg none [
s_ 9 (.mv (.t 0)),
s_ 10 (.len 0 (.t 9)),
s_ 11 (.mv (.c (i0_)))] (some [2, 4, 6, 9, 10, 11]) []) (
(.block 0 (
A117_L0) (some [4, 6]) [8])))) (
(.seq (
.reg none [
s_ 20 (.load true 2 (.t 4)),
n_ (.store 2 (.t 6) (.t 20))] (some [6]) [4]) (
.ret)))))))
def A118 : AFn := .code [.cell true 2 4] (
(.seq (
.reg none [
s_ 2 (.box (.t 0)),
s_ 3 (.box (.t 1)),
s_ 4 (.alloc [i0_, i0_])] (some [2, 3, 4]) []) (
(.seq (
.reg none [
s_ 5 (.fad 0 (.t 2)),
s_ 6 (.load false 1 (.t 5)),
s_ 7 (.fad 0 (.t 3)),
s_ 8 (.load false 1 (.t 7)),
s_ 9 (.mn [.t 6, .t 8]),
s_ 10 (.fad 1 (.t 2)),
s_ 11 (.load false 1 (.t 10)),
s_ 12 (.fad 1 (.t 3)),
s_ 13 (.load false 1 (.t 12)),
s_ 14 (.mn [.t 11, .t 13]),
s_ 15 (.build [i0_, i0_] [(0, 1, .t 9), (1, 1, .t 14)]),
n_ (.store 2 (.t 4) (.t 15))] (some [4]) [2, 3]) (
.ret)))))
def A119 : AFn := .code [.cell true 2 4] (
(.seq (
.reg none [
s_ 2 (.box (.t 0)),
s_ 3 (.box (.t 1)),
s_ 4 (.alloc [i0_, i0_])] (some [2, 3, 4]) []) (
(.seq (
.reg none [
s_ 5 (.fad 0 (.t 2)),
s_ 6 (.load false 1 (.t 5)),
s_ 7 (.fad 0 (.t 3)),
s_ 8 (.load false 1 (.t 7)),
s_ 9 (.mx [.t 6, .t 8]),
s_ 10 (.fad 1 (.t 2)),
s_ 11 (.load false 1 (.t 10)),
s_ 12 (.fad 1 (.t 3)),
s_ 13 (.load false 1 (.t 12)),
s_ 14 (.mx [.t 11, .t 13]),
s_ 15 (.build [i0_, i0_] [(0, 1, .t 9), (1, 1, .t 14)]),
n_ (.store 2 (.t 4) (.t 15))] (some [4]) [2, 3]) (
.ret)))))
def A120 : AFn := .code [.t 2] (
(.seq (
.reg none [
s_ 2 (.as (.c (i0_)))] (some [0]) []) (
(.seq (
.reg none [
s_ 3 (.mv (.t 0)),
s_ 4 (.bin .rem (.t 3) (.c (.int .i64 36))),
s_ 0 (.as (.t 4))] (some [0]) []) (
(.seq (
(.seq (
.reg none [
s_ 5 (.mv (.t 0)),
s_ 6 (.bin .lss (.t 5) (.c (i0_)))] (some [0, 6]) []) (
(.cond (.t 6) (
.reg none [
s_ 7 (.mv (.t 0)),
s_ 8 (.bin .add (.t 7) (.c (.int .i64 36))),
s_ 0 (.as (.t 8))] (some [0]) []) (
.skip))))) (
(.seq (
.reg none [
s_ 9 (.mv (.t 0)),
s_ 2 (.as (.t 9))] (some [2]) []) (
.ret)))))))))
def A121 : AFn := .code [.cell true 18 0] (
(.seq (
.reg none [
s_ 0 (.alloc [i0_, i0_, i0_, i0_, i0_, i0_, i0_, i0_, i0_, i0_, i0_, i0_, i0_, i0_, i0_, i0_, i0_, i0_])] (some [0]) []) (
(.seq (
.reg none [
s_ 1 (.build [i0_, i0_] [(0, 1, .c (.int .i64 65)), (1, 1, .c (i0_))]),
s_ 2 (.build [i0_, i0_] [(0, 1, .c (.int .i64 63)), (1, 1, .c (.int .i64 16))]),
s_ 3 (.build [i0_, i0_] [(0, 1, .c (.int .i64 60)), (1, 1, .c (.int .i64 25))]),
s_ 4 (.build [i0_, i0_] [(0, 1, .c (.int .i64 56)), (1, 1, .c (.int .i64 33))]),
s_ 5 (.build [i0_, i0_] [(0, 1, .c (.int .i64 52)), (1, 1, .c (.int .i64 39))]),
s_ 6 (.build [i0_, i0_] [(0, 1, .c (.int .i64 39)), (1, 1, .c (.int .i64 52))]),
s_ 7 (.build [i0_, i0_] [(0, 1, .c (.int .i64 33)), (1, 1, .c (.int .i64 56))]),
s_ 8 (.build [i0_, i0_] [(0, 1, .c (.int .i64 25)), (1, 1, .c (.int .i64 60))]),
s_ 9 (.build [i0_, i0_] [(0, 1, .c (.int .i64 16)), (1, 1, .c (.int .i64 63))]),
s_ 10 (.build [i0_, i0_, i0_, i0_, i0_, i0_, i0_, i0_, i0_, i0_, i0_, i0_, i0_, i0_, i0_, i0_, i0_, i0_] [(0, 2, .t 1), (2, 2, .t 2), (4, 2, .t 3), (6, 2, .t 4), (8, 2, .t 5), (10, 2, .t 6), (12, 2, .t 7), (14, 2, .t 8), (16, 2, .t 9)]),
n_ (.store 18 (.t 0) (.t 10))] (some [0]) []) (
.ret)))))
def A122 : AFn := .code [.t 6] (
(.seq (
.reg none [
s_ 3 (.box (.t 0)),
s_ 4 (.box (.t 1)),
s_ 5 (.box (.t 2)),
s_ 6 (.as (.c (i0_)))] (some [3, 4, 5]) []) (
(.seq (
.reg none [
s_ 7 (.fad 0 (.t 4)),
s_ 8 (.load false 1 (.t 7)),
s_ 9 (.fad 0 (.t 3)),
s_ 10 (.load false 1 (.t 9)),
s_ 11 (.bin .sub (.t 8) (.t 10)),
s_ 12 (.fad 1 (.t 5)),
s_ 13 (.load false 1 (.t 12)),
s_ 14 (.fad 1 (.t 3)),
s_ 15 (.load false 1 (.t 14)),
s_ 16 (.bin .sub (.t 13) (.t 15)),
s_ 17 (.bin .mul (.t 11) (.t 16)),
s_ 18 (.fad 1 (.t 4)),
s_ 19 (.load false 1 (.t 18)),
s_ 20 (.fad 1 (.t 3)),
s_ 21 (.load false 1 (.t 20)),
s_ 22 (.bin .sub (.t 19) (.t 21)),
s_ 23 (.fad 0 (.t 5)),
s_ 24 (.load false 1 (.t 23)),
s_ 25 (.fad 0 (.t 3)),
s_ 26 (.load false 1 (.t 25)),
s_ 27 (.bin .sub (.t 24) (.t 26)),
s_ 28 (.bin .mul (.t 22) (.t 27)),
s_ 29 (.bin .sub (.t 17) (.t 28)),
s_ 6 (.as (.t 29))] (some [6]) [3, 4, 5]) (
.ret)))))
def A123 : AFn := .code [.cell true 2 4] (
(.seq (
.reg none [
s_ 4 (.alloc [i0_, i0_])] (some [0, 1, 4]) []) (
(.seq (
.reg none [
s_ 5 (.mv (.t 0)),
s_ 6 (.mv (.t 1)),
s_ 7 (.mv (.t 0)),
s_ 8 (.len 0 (.t 7)),
s_ 9 (.bin .rem (.t 6) (.t 8)),
s_ 10 (.ias 2 (.t 5) (.t 9)),
s_ 11 (.load true 2 (.t 10)),
n_ (.store 2 (.t 4) (.t 11))] (some [4]) []) (
.ret)))))
def A124 : AFn := .code [.t 8] (
(.seq (
.reg none [
s_ 4 (.box (.t 0)),
s_ 5 (.box (.t 1)),
s_ 6 (.box (.t 2)),
s_ 7 (.box (.t 3)),
s_ 8 (.as (.c (.bool false)))] (some [4, 5, 6, 7]) []) (
(.seq (
(.seq (
.reg none [
s_ 11 (.load true 2 (.t 4)),
s_ 12 (.load true 2 (.t 5)),
s_ 13 (.load true 2 (.t 6)),
s_ 14 (.call 128 [.t 11, .t 12, .t 13]),
s_ 15 (.mv (.t 14)),
⟨some 16, .load true 2 (.t 4), some (15, false), true⟩,
⟨some 17, .load true 2 (.t 5), some (15, false), true⟩,
⟨some 18, .load true 2 (.t 7), some (15, false), true⟩,
⟨some 19, .call 128 [.t 16, .t 17, .t 18], some (15, false), true⟩,
s_ 20 (.pick (.t 15) (.c (.bool true)) (.t 19)),
s_ 21 (.mv (.t 20)),
⟨some 22, .load true 2 (.t 6), some (21, false), true⟩,
⟨some 23, .load true 2 (.t 7), some (21, false), true⟩,
⟨some 24, .load true 2 (.t 4), some (21, false), true⟩,
⟨some 25, .call 128 [.t 22, .t 23, .t 24], some (21, false), true⟩,
s_ 26 (.pick (.t 21) (.c (.bool true)) (.t 25)),
s_ 27 (.mv (.t 26)),
⟨some 28, .load true 2 (.t 6), some (27, false), true⟩,
⟨some 29, .load true 2 (.t 7), some (27, false), true⟩,
⟨some 30, .load true 2 (.t 5), some (27, false), true⟩,
⟨some 31, .call 128 [.t 28, .t 29, .t 30], some (27, false), true⟩,
s_ 32 (.pick (.t 27) (.c (.bool true)) (.t 31))] (some [4, 5, 6, 7, 32]) []) (
(.cond (.t 32) (
(.seq (
.reg none [
s_ 8 (.as (.c (.bool true)))] (some [8]) []) (
.ret))) (
.skip))))) (
(.seq (
.reg (some [.dr [34, 35, 38, 39, 40] [], .dr [33, 35, 38, 39, 40] [], .dr [33, 34, 38, 39, 40] [], .dr [38, 39, 40] [], .dr [38, 39, 40] [], .dr [33, 34, 35, 36, 37, 39, 40] [], .dr [33, 34, 35, 36, 37, 38, 40] [], .dr [33, 34, 35, 36, 37, 38, 39] [], .free, .free, .free, .free]) [
s_ 33 (.load true 2 (.t 4)),
s_ 34 (.load true 2 (.t 5)),
s_ 35 (.load true 2 (.t 6)),
s_ 36 (.call 122 [.t 33, .t 34, .t 35]),
s_ 37 (.call 129 [.t 36]),
s_ 38 (.load true 2 (.t 4)),
s_ 39 (.load true 2 (.t 5)),
s_ 40 (.load true 2 (.t 7)),
s_ 41 (.call 122 [.t 38, .t 39, .t 40]),
s_ 42 (.call 129 [.t 41]),
s_ 43 (.bin .mul (.t 37) (.t 42)),
s_ 9 (.as (.t 43))] (some [4, 5, 6, 7, 9]) []) (
(.seq (
.reg (some [.dr [45, 46, 49, 50, 51] [], .dr [44, 46, 49, 50, 51] [], .dr [44, 45, 49, 50, 51] [], .dr [49, 50, 51] [], .dr [49, 50, 51] [], .dr [44, 45, 46, 47, 48, 50, 51] [], .dr [44, 45, 46, 47, 48, 49, 51] [], .dr [44, 45, 46, 47, 48, 49, 50] [], .free, .free, .free, .free]) [
s_ 44 (.load true 2 (.t 6)),
s_ 45 (.load true 2 (.t 7)),
s_ 46 (.load true 2 (.t 4)),
s_ 47 (.call 122 [.t 44, .t 45, .t 46]),
s_ 48 (.call 129 [.t 47]),
s_ 49 (.load true 2 (.t 6)),
s_ 50 (.load true 2 (.t 7)),
s_ 51 (.load true 2 (.t 5)),
s_ 52 (.call 122 [.t 49, .t 50, .t 51]),
s_ 53 (.call 129 [.t 52]),
s_ 54 (.bin .mul (.t 48) (.t 53)),
s_ 10 (.as (.t 54))] (some [9, 10]) [4, 5, 6, 7]) (
(.seq (
.reg none [
s_ 55 (.mv (.t 9)),
s_ 56 (.bin .lss (.t 55) (.c (i0_))),
s_ 57 (.mv (.t 56)),
⟨some 58, .mv (.t 10), some (57, true), true⟩,
⟨some 59, .bin .lss (.t 58) (.c (i0_)), some (57, true), true⟩,
s_ 60 (.pick (.t 57) (.t 59) (.c (.bool false))),
s_ 8 (.as (.t 60))] (some [8]) []) (
.ret)))))))))))
def A125_L0b : ACode :=
(.seq (
(.seq (
.reg none [
s_ 7 (.mv (.t 4)),
s_ 8 (.mv (.t 0)),
s_ 9 (.len 0 (.t 8)),
s_ 10 (.bin .lss (.t 7) (.t 9))] (some [0, 3, 4, 10]) []) (
(.cond (.t 10) (
.skip) (
.exit 0))))) (
(.seq (
(.block 1 (
(.seq (
.reg none [
s_ 13 (.mv (.t 0)),
s_ 14 (.mv (.t 4)),
s_ 15 (.call 123 [.t 13, .t 14]),
s_ 5 (.alloc [i0_, i0_]),
n_ (.store 2 (.t 5) (.t 15))] (some [0, 3, 4, 5]) []) (
(.seq (
.reg none [
s_ 16 (.mv (.t 0)),
s_ 17 (.mv (.t 4)),
s_ 18 (.bin .add (.t 17) (.c (.int .i64 1))),
s_ 19 (.call 123 [.t 16, .t 18]),
s_ 6 (.alloc [i0_, i0_]),
n_ (.store 2 (.t 6) (.t 19))] (some [0, 3, 4, 5, 6]) []) (
.reg none [
s_ 20 (.mv (.t 3)),
s_ 21 (.fad 0 (.t 5)),
s_ 22 (.load false 1 (.t 21)),
s_ 23 (.fad 1 (.t 6)),
s_ 24 (.load false 1 (.t 23)),
s_ 25 (.bin .mul (.t 22) (.t 24)),
s_ 26 (.bin .add (.t 20) (.t 25)),
s_ 27 (.fad 1 (.t 5)),
s_ 28 (.load false 1 (.t 27)),
s_ 29 (.fad 0 (.t 6)),
s_ 30 (.load false 1 (.t 29)),
s_ 31 (.bin .mul (.t 28) (.t 30)),
s_ 32 (.bin .sub (.t 26) (.t 31)),
s_ 3 (.as (.t 32))] (some [0, 3, 4]) [5, 6]))))) (some [0, 3, 4]) [5, 6, 15, 19])) (
.reg none [
s_ 11 (.mv (.t 4)),
s_ 12 (.bin .add (.t 11) (.c (.int .i64 1))),
s_ 4 (.as (.t 12))] (some [0, 3, 4]) []))))
def A125_L0 : ACode := .loop A125_L0b (some [0, 3, 4]) [5, 6, 15, 19]
def A125 : AFn := .code [.t 2] (
(.seq (
.reg none [
s_ 2 (.as (.c (i0_)))] (some [0]) []) (
(.seq (
.reg none [
s_ 3 (.as (.c (i0_)))] (some [0, 3]) []) (
(.seq (
(.seq (
.reg none [
s_ 4 (.as (.c (i0_)))] (some [0, 3, 4]) []) (
(.block 0 (
A125_L0) (some [3]) [4, 5, 6, 15, 19])))) (
(.seq (
.reg none [
s_ 33 (.mv (.t 3)),
s_ 2 (.as (.t 33))] (some [2]) []) (
.ret)))))))))
def A126_L0b : ACode :=
(.seq (
(.seq (
.reg none [
s_ 18 (.mv (.t 3)),
s_ 19 (.mv (.t 0)),
s_ 20 (.len 1 (.t 19)),
s_ 21 (.bin .lss (.t 18) (.t 20))] (some [0, 3, 21]) []) (
(.cond (.t 21) (
.skip) (
.exit 0))))) (
(.seq (
(.block 1 (
(.seq (
.reg none [
s_ 24 (.mv (.t 0)),
s_ 25 (.mv (.t 3)),
s_ 26 (.ixt (.t 24) (.t 25)),
s_ 27 (.call 130 [.t 26]),
s_ 28 (.un .not (.t 27)),
s_ 29 (.mv (.t 28)),
⟨some 30, .mv (.t 0), some (29, true), true⟩,
⟨some 31, .mv (.t 3), some (29, true), true⟩,
⟨some 32, .ixt (.t 30) (.t 31), some (29, true), true⟩,
⟨some 33, .bin .neq (.t 32) (.c (.int .u8 95)), some (29, true), true⟩,
s_ 34 (.pick (.t 29) (.t 33) (.c (.bool false))),
s_ 35 (.mv (.t 34)),
⟨some 36, .mv (.t 0), some (35, true), true⟩,
⟨some 37, .mv (.t 3), some (35, true), true⟩,
⟨some 38, .ixt (.t 36) (.t 37), some (35, true), true⟩,
⟨some 39, .bin .lss (.t 38) (.c (.int .u8 48)), some (35, true), true⟩,
⟨some 40, .mv (.t 39), some (35, true), true⟩,
⟨some 41, .mv (.t 0), some (40, false), true⟩,
⟨some 42, .mv (.t 3), some (40, false), true⟩,
⟨some 43, .ixt (.t 41) (.t 42), some (40, false), true⟩,
⟨some 44, .bin .gtr (.t 43) (.c (.int .u8 57)), some (40, false), true⟩,
⟨some 45, .pick (.t 40) (.c (.bool true)) (.t 44), some (35, true), true⟩,
s_ 46 (.pick (.t 35) (.t 45) (.c (.bool false)))] (some [0, 3, 46]) []) (
(.cond (.t 46) (
(.seq (
.reg none [
s_ 2 (.as (.c (.bool false)))] (some [2]) []) (
.ret))) (
.skip))))) (some [0, 3]) [2, 27])) (
.reg none [
s_ 22 (.mv (.t 3)),
s_ 23 (.bin .add (.t 22) (.c (.int .i64 1))),
s_ 3 (.as (.t 23))] (some [0, 3]) []))))
def A126_L0 : ACode := .loop A126_L0b (some [0, 3]) [2, 27]
def A126 : AFn := .code [.t 2] (
(.seq (
.reg none [
s_ 2 (.as (.c (.bool false)))] (some [0]) []) (
(.seq (
(.seq (
.reg none [
s_ 4 (.mv (.t 0)),
s_ 5 (.len 1 (.t 4)),
s_ 6 (.bin .lss (.t 5) (.c (.int .i64 1))),
s_ 7 (.mv (.t 6)),
⟨some 8, .mv (.t 0), some (7, false), true⟩,
⟨some 9, .len 1 (.t 8), some (7, false), true⟩,
⟨some 10, .bin .gtr (.t 9) (.c (.int .i64 12)), some (7, false), true⟩,
s_ 11 (.pick (.t 7) (.c (.bool true)) (.t 10)),
s_ 12 (.mv (.t 11)),
⟨some 13, .mv (.t 0), some (12, false), true⟩,
⟨some 14, .ixt (.t 13) (.c (i0_)), some (12, false), true⟩,
⟨some 15, .call 130 [.t 14], some (12, false), true⟩,
⟨some 16, .un .not (.t 15), some (12, false), true⟩,
s_ 17 (.pick (.t 12) (.c (.bool true)) (.t 16))] (some [0, 17]) []) (
(.cond (.t 17) (
(.seq (
.reg none [
s_ 2 (.as (.c (.bool false)))] (some [2]) []) (
.ret))) (
.skip))))) (
(.seq (
(.seq (
.reg none [
s_ 3 (.as (.c (.int .i64 1)))] (some [0, 3]) []) (
(.block 0 (
A126_L0) (some []) [2, 3, 27])))) (
(.seq (
.reg none [
s_ 2 (.as (.c (.bool true)))] (some [2]) []) (
.ret)))))))))
def A127 : AFn := .code [.t 6] (
(.seq (
.reg none [
s_ 3 (.box (.t 0)),
s_ 4 (.box (.t 1)),
s_ 5 (.box (.t 2)),
s_ 6 (.as (.c (i0_)))] (some [3, 4, 5]) []) (
(.seq (
.reg none [
s_ 8 (.load true 2 (.t 3)),
s_ 9 (.load true 2 (.t 4)),
s_ 10 (.load true 2 (.t 5)),
s_ 11 (.call 131 [.t 8, .t 9, .t 10]),
s_ 7 (.as (.t 11))] (some [7]) [3, 4, 5]) (
(.seq (
(.seq (
.reg none [
s_ 12 (.mv (.t 7)),
s_ 13 (.bin .gtr (.t 12) (.c (i0_)))] (some [7, 13]) []) (
(.cond (.t 13) (
(.seq (
.reg none [
s_ 6 (.as (.c (.int .i64 1)))] (some [6]) []) (
.ret))) (
.skip))))) (
(.seq (
(.seq (
.reg none [
s_ 14 (.mv (.t 7)),
s_ 15 (.bin .lss (.t 14) (.c (i0_)))] (some [15]) []) (
(.cond (.t 15) (
(.seq (
.reg none [
s_ 6 (.as (.c (.int .i64 (-1))))] (some [6]) []) (
.ret))) (
.skip))))) (
(.seq (
.reg none [
s_ 6 (.as (.c (i0_)))] (some [6]) []) (
.ret)))))))))))
def A128 : AFn := .code [.t 6] (
(.seq (
.reg none [
s_ 3 (.box (.t 0)),
s_ 4 (.box (.t 1)),
s_ 5 (.box (.t 2)),
s_ 6 (.as (.c (.bool false)))] (some [3, 4, 5]) []) (
(.seq (
.reg none [
s_ 7 (.load true 2 (.t 3)),
s_ 8 (.load true 2 (.t 4)),
s_ 9 (.load true 2 (.t 5)),
s_ 10 (.call 122 [.t 7, .t 8, .t 9]),
s_ 11 (.bin .eql (.t 10) (.c (i0_))),
s_ 12 (.mv (.t 11)),
⟨some 13, .fad 0 (.t 3), some (12, true), true⟩,
⟨some 14, .load false 1 (.t 13), some (12, true), true⟩,
⟨some 15, .fad 0 (.t 4), some (12, true), true⟩,
⟨some 16, .load false 1 (.t 15), some (12, true), true⟩,
⟨some 17, .fad 0 (.t 5), some (12, true), true⟩,
⟨some 18, .load false 1 (.t 17), some (12, true), true⟩,
⟨some 19, .call 132 [.t 14, .t 16, .t 18], some (12, true), true⟩,
s_ 20 (.pick (.t 12) (.t 19) (.c (.bool false))),
s_ 21 (.mv (.t 20)),
⟨some 22, .fad 1 (.t 3), some (21, true), true⟩,
⟨some 23, .load false 1 (.t 22), some (21, true), true⟩,
⟨some 24, .fad 1 (.t 4), some (21, true), true⟩,
⟨some 25, .load false 1 (.t 24), some (21, true), true⟩,
⟨some 26, .fad 1 (.t 5), some (21, true), true⟩,
⟨some 27, .load false 1 (.t 26), some (21, true), true⟩,
⟨some 28, .call 132 [.t 23, .t 25, .t 27], some (21, true), true⟩,
s_ 29 (.pick (.t 21) (.t 28) (.c (.bool false))),
s_ 6 (.as (.t 29))] (some [6]) [3, 4, 5]) (
.ret)))))
def A129 : AFn := .code [.t 2] (
(.seq (
.reg none [
s_ 2 (.as (.c (i0_)))] (some [0]) []) (
(.seq (
(.seq (
.reg none [
s_ 3 (.mv (.t 0)),
s_ 4 (.bin .gtr (.t 3) (.c (i0_)))] (some [0, 4]) []) (
(.cond (.t 4) (
(.seq (
.reg none [
s_ 2 (.as (.c (.int .i64 1)))] (some [2]) []) (
.ret))) (
.skip))))) (
(.seq (
(.seq (
.reg none [
s_ 5 (.mv (.t 0)),
s_ 6 (.bin .lss (.t 5) (.c (i0_)))] (some [6]) []) (
(.cond (.t 6) (
(.seq (
.reg none [
s_ 2 (.as (.c (.int .i64 (-1))))] (some [2]) []) (
.ret))) (
.skip))))) (
(.seq (
.reg none [
s_ 2 (.as (.c (i0_)))] (some [2]) []) (
.ret)))))))))
def A130 : AFn := .code [.t 2] (
(.seq (
.reg none [
s_ 2 (.as (.c (.bool false)))] (some [0]) []) (
(.seq (
.reg none [
s_ 3 (.mv (.t 0)),
s_ 4 (.bin .geq (.t 3) (.c (.int .u8 97))),
s_ 5 (.mv (.t 4)),
⟨some 6, .mv (.t 0), some (5, true), true⟩,
⟨some 7, .bin .leq (.t 6) (.c (.int .u8 122)), some (5, true), true⟩,
s_ 8 (.pick (.t 5) (.t 7) (.c (.bool false))),
s_ 9 (.mv (.t 8)),
⟨some 10, .mv (.t 0), some (9, false), true⟩,
⟨some 11, .bin .geq (.t 10) (.c (.int .u8 65)), some (9, false), true⟩,
⟨some 12, .mv (.t 11), some (9, false), true⟩,
⟨some 13, .mv (.t 0), some (12, true), true⟩,
⟨some 14, .bin .leq (.t 13) (.c (.int .u8 90)), some (12, true), true⟩,
⟨some 15, .pick (.t 12) (.t 14) (.c (.bool false)), some (9, false), true⟩,
s_ 16 (.pick (.t 9) (.c (.bool true)) (.t 15)),
s_ 2 (.as (.t 16))] (some [2]) []) (
.ret)))))
def A131 : AFn := .code [.t 6] (
(.seq (
.reg none [
s_ 3 (.box (.t 0)),
s_ 4 (.box (.t 1)),
s_ 5 (.box (.t 2)),
s_ 6 (.as (.c (i0_)))] (some [3, 4, 5]) []) (
(.seq (
.reg none [
s_ 7 (.fad 0 (.t 4)),
s_ 8 (.load false 1 (.t 7)),
s_ 9 (.fad 0 (.t 3)),
s_ 10 (.load false 1 (.t 9)),
s_ 11 (.bin .sub (.t 8) (.t 10)),
s_ 12 (.fad 1 (.t 5)),
s_ 13 (.load false 1 (.t 12)),
s_ 14 (.fad 1 (.t 3)),
s_ 15 (.load false 1 (.t 14)),
s_ 16 (.bin .sub (.t 13) (.t 15)),
s_ 17 (.bin .mul (.t 11) (.t 16)),
s_ 18 (.fad 1 (.t 4)),
s_ 19 (.load false 1 (.t 18)),
s_ 20 (.fad 1 (.t 3)),
s_ 21 (.load false 1 (.t 20)),
s_ 22 (.bin .sub (.t 19) (.t 21)),
s_ 23 (.fad 0 (.t 5)),
s_ 24 (.load false 1 (.t 23)),
s_ 25 (.fad 0 (.t 3)),
s_ 26 (.load false 1 (.t 25)),
s_ 27 (.bin .sub (.t 24) (.t 26)),
s_ 28 (.bin .mul (.t 22) (.t 27)),
s_ 29 (.bin .sub (.t 17) (.t 28)),
s_ 6 (.as (.t 29))] (some [6]) [3, 4, 5]) (
.ret)))))
def A132 : AFn := .code [.t 6] (
(.seq (
.reg none [
s_ 6 (.as (.c (.bool false)))] (some [0, 1, 2]) []) (
(.seq (
.reg none [
s_ 7 (.mv (.t 0)),
s_ 8 (.mv (.t 2)),
s_ 9 (.bin .leq (.t 7) (.t 8)),
s_ 10 (.mv (.t 9)),
⟨some 11, .mv (.t 2), some (10, true), true⟩,
⟨some 12, .mv (.t 1), some (10, true), true⟩,
⟨some 13, .bin .leq (.t 11) (.t 12), some (10, true), true⟩,
s_ 14 (.pick (.t 10) (.t 13) (.c (.bool false))),
s_ 15 (.mv (.t 14)),
⟨some 16, .mv (.t 1), some (15, false), true⟩,
⟨some 17, .mv (.t 2), some (15, false), true⟩,
⟨some 18, .bin .leq (.t 16) (.t 17), some (15, false), true⟩,
⟨some 19, .mv (.t 18), some (15, false), true⟩,
⟨some 20, .mv (.t 2), some (19, true), true⟩,
⟨some 21, .mv (.t 0), some (19, true), true⟩,
⟨some 22, .bin .leq (.t 20) (.t 21), some (19, true), true⟩,
⟨some 23, .pick (.t 19) (.t 22) (.c (.bool false)), some (15, false), true⟩,
s_ 24 (.pick (.t 15) (.c (.bool true)) (.t 23)),
s_ 6 (.as (.t 24))] (some [6]) []) (
.ret)))))

end Go.Proofs.Ytnecdcaaknhgpaa

namespace Go.Proofs.Ytnecdcaaknhgpaa
open Go Go.Zv

def E : FuncId → Option AFn
 | 13 => some A13
 | 16 => some A16
 | 17 => some A17
 | 18 => some A18
 | 20 => some A20
 | 25 => some A25
 | 27 => some A27
 | 30 => some A30
 | 33 => some A33
 | 37 => some A37
 | 38 => some A38
 | 39 => some A39
 | 40 => some A40
 | 41 => some A41
 | 43 => some A43
 | 44 => some A44
 | 46 => some A46
 | 47 => some A47
 | 48 => some A48
 | 51 => some A51
 | 53 => some A53
 | 54 => some A54
 | 55 => some A55
 | 60 => some A60
 | 61 => some A61
 | 62 => some A62
 | 64 => some A64
 | 67 => some A67
 | 69 => some A69
 | 70 => some A70
 | 71 => some A71
 | 72 => some A72
 | 73 => some A73
 | 74 => some A74
 | 75 => some A75
 | 76 => some A76
 | 77 => some A77
 | 78 => some A78
 | 79 => some A79
 | 80 => some A80
 | 81 => some A81
 | 82 => some A82
 | 83 => some A83
 | 84 => some A84
 | 86 => some A86
 | 88 => some A88
 | 89 => some A89
 | 90 => some A90
 | 91 => some A91
 | 96 => some A96
 | 97 => some A97
 | 98 => some A98
 | 99 => some A99
 | 100 => some A100
 | 101 => some A101
 | 102 => some A102
 | 103 => some A103
 | 104 => some A104
 | 105 => some A105
 | 106 => some A106
 | 107 => some A107
 | 108 => some A108
 | 109 => some A109
 | 111 => some A111
 | 112 => some A112
 | 113 => some A113
 | 114 => some A114
 | 115 => some A115
 | 116 => some A116
 | 117 => some A117
 | 118 => some A118
 | 119 => some A119
 | 120 => some A120
 | 121 => some A121
 | 122 => some A122
 | 123 => some A123
 | 124 => some A124
 | 125 => some A125
 | 126 => some A126
 | 127 => some A127
 | 128 => some A128
 | 129 => some A129
 | 130 => some A130
 | 131 => some A131
 | 132 => some A132
 | _ => none
theorem E_13 : E 13 = some A13 := rfl
theorem E_16 : E 16 = some A16 := rfl
theorem E_17 : E 17 = some A17 := rfl
theorem E_18 : E 18 = some A18 := rfl
theorem E_20 : E 20 = some A20 := rfl
theorem E_25 : E 25 = some A25 := rfl
theorem E_27 : E 27 = some A27 := rfl
theorem E_30 : E 30 = some A30 := rfl
theorem E_33 : E 33 = some A33 := rfl
theorem E_37 : E 37 = some A37 := rfl
theorem E_38 : E 38 = some A38 := rfl
theorem E_39 : E 39 = some A39 := rfl
theorem E_40 : E 40 = some A40 := rfl
theorem E_41 : E 41 = some A41 := rfl
theorem E_43 : E 43 = some A43 := rfl
theorem E_44 : E 44 = some A44 := rfl
theorem E_46 : E 46 = some A46 := rfl
theorem E_47 : E 47 = some A47 := rfl
theorem E_48 : E 48 = some A48 := rfl
theorem E_51 : E 51 = some A51 := rfl
theorem E_53 : E 53 = some A53 := rfl
theorem E_54 : E 54 = some A54 := rfl
theorem E_55 : E 55 = some A55 := rfl
theorem E_60 : E 60 = some A60 := rfl
theorem E_61 : E 61 = some A61 := rfl
theorem E_62 : E 62 = some A62 := rfl
theorem E_64 : E 64 = some A64 := rfl
theorem E_67 : E 67 = some A67 := rfl
theorem E_69 : E 69 = some A69 := rfl
theorem E_71 : E 71 = some A71 := rfl
theorem E_72 : E 72 = some A72 := rfl
theorem E_73 : E 73 = some A73 := rfl
theorem E_74 : E 74 = some A74 := rfl
theorem E_75 : E 75 = some A75 := rfl
theorem E_76 : E 76 = some A76 := rfl
theorem E_77 : E 77 = some A77 := rfl
theorem E_78 : E 78 = some A78 := rfl
theorem E_79 : E 79 = some A79 := rfl
theorem E_80 : E 80 = some A80 := rfl
theorem E_81 : E 81 = some A81 := rfl
theorem E_82 : E 82 = some A82 := rfl
theorem E_83 : E 83 = some A83 := rfl
theorem E_84 : E 84 = some A84 := rfl
theorem E_86 : E 86 = some A86 := rfl
theorem E_88 : E 88 = some A88 := rfl
theorem E_89 : E 89 = some A89 := rfl
theorem E_90 : E 90 = some A90 := rfl
theorem E_91 : E 91 = some A91 := rfl
theorem E_96 : E 96 = some A96 := rfl
theorem E_97 : E 97 = some A97 := rfl
theorem E_99 : E 99 = some A99 := rfl
theorem E_100 : E 100 = some A100 := rfl
theorem E_101 : E 101 = some A101 := rfl
theorem E_102 : E 102 = some A102 := rfl
theorem E_103 : E 103 = some A103 := rfl
theorem E_104 : E 104 = some A104 := rfl
theorem E_105 : E 105 = some A105 := rfl
theorem E_106 : E 106 = some A106 := rfl
theorem E_107 : E 107 = some A107 := rfl
theorem E_108 : E 108 = some A108 := rfl
theorem E_109 : E 109 = some A109 := rfl
theorem E_111 : E 111 = some A111 := rfl
theorem E_112 : E 112 = some A112 := rfl
theorem E_113 : E 113 = some A113 := rfl
theorem E_114 : E 114 = some A114 := rfl
theorem E_115 : E 115 = some A115 := rfl
theorem E_116 : E 116 = some A116 := rfl
theorem E_117 : E 117 = some A117 := rfl
theorem E_118 : E 118 = some A118 := rfl
theorem E_119 : E 119 = some A119 := rfl
theorem E_120 : E 120 = some A120 := rfl
theorem E_121 : E 121 = some A121 := rfl
theorem E_122 : E 122 = some A122 := rfl
theorem E_123 : E 123 = some A123 := rfl
theorem E_124 : E 124 = some A124 := rfl
theorem E_125 : E 125 = some A125 := rfl
theorem E_126 : E 126 = some A126 := rfl
theorem E_127 : E 127 = some A127 := rfl
theorem E_128 : E 128 = some A128 := rfl
theorem E_129 : E 129 = some A129 := rfl
theorem E_130 : E 130 = some A130 := rfl
theorem E_131 : E 131 = some A131 := rfl
theorem E_132 : E 132 = some A132 := rfl
theorem A13_L0_eq (s : St) : K E A13_L0 s = (K E A13_L0b s).bind (loopF E A13_L0 (some [2, 3, 4, 7, 8, 9, 13, 18, 19, 20, 21]) []) := loop_fold rfl s
theorem A13_L1_eq (s : St) : K E A13_L1 s = (K E A13_L1b s).bind (loopF E A13_L1 (some [2, 3, 4, 7, 8, 9, 13, 18, 19]) [6, 20, 21, 157, 165]) := loop_fold rfl s
theorem A13_L2_eq (s : St) : K E A13_L2 s = (K E A13_L2b s).bind (loopF E A13_L2 (some [2, 3, 4, 7, 8, 9, 13, 18]) [6, 19, 20, 21, 157, 165]) := loop_fold rfl s
theorem A13_L3_eq (s : St) : K E A13_L3 s = (K E A13_L3b s).bind (loopF E A13_L3 (some [2, 3, 4, 7, 8, 9, 13, 14, 15, 16, 17]) []) := loop_fold rfl s
theorem A13_L4_eq (s : St) : K E A13_L4 s = (K E A13_L4b s).bind (loopF E A13_L4 (some [2, 3, 4, 7, 8, 9, 13, 14, 15, 16]) [17]) := loop_fold rfl s
theorem A13_L5_eq (s : St) : K E A13_L5 s = (K E A13_L5b s).bind (loopF E A13_L5 (some [2, 3, 4, 7, 8, 9, 13, 14, 15]) [16, 17]) := loop_fold rfl s
theorem A13_L6_eq (s : St) : K E A13_L6 s = (K E A13_L6b s).bind (loopF E A13_L6 (some [2, 3, 4, 7, 8, 9, 13, 14]) [15, 16, 17]) := loop_fold rfl s
theorem A13_L7_eq (s : St) : K E A13_L7 s = (K E A13_L7b s).bind (loopF E A13_L7 (some [2, 3, 4, 7, 8, 9, 10]) [6, 11, 12, 47, 55, 63, 75, 81, 82, 83]) := loop_fold rfl s
theorem A16_L0_eq (s : St) : K E A16_L0 s = (K E A16_L0b s).bind (loopF E A16_L0 (some [1, 3, 4]) [2]) := loop_fold rfl s
theorem A17_L0_eq (s : St) : K E A17_L0 s = (K E A17_L0b s).bind (loopF E A17_L0 (some [2, 7, 8]) [4, 5, 6]) := loop_fold rfl s
theorem A18_L0_eq (s : St) : K E A18_L0 s = (K E A18_L0b s).bind (loopF E A18_L0 (some [2, 3, 5]) [4]) := loop_fold rfl s
theorem A20_L0_eq (s : St) : K E A20_L0 s = (K E A20_L0b s).bind (loopF E A20_L0 (some [4, 5, 6, 7, 22, 23]) [8, 9, 37]) := loop_fold rfl s
theorem A25_L0_eq (s : St) : K E A25_L0 s = (K E A25_L0b s).bind (loopF E A25_L0 (some [4, 5, 6, 10, 11]) [7, 8]) := loop_fold rfl s
theorem A27_L0_eq (s : St) : K E A27_L0 s = (K E A27_L0b s).bind (loopF E A27_L0 (some [2, 4, 5, 7, 18, 19]) [8, 9, 31, 32]) := loop_fold rfl s
theorem A39_L0_eq (s : St) : K E A39_L0 s = (K E A39_L0b s).bind (loopF E A39_L0 (some [2, 3, 4, 5, 8, 9]) [6, 7, 16, 19]) := loop_fold rfl s
theorem A41_L0_eq (s : St) : K E A41_L0 s = (K E A41_L0b s).bind (loopF E A41_L0 (some [3, 4, 5, 6, 9, 12, 13, 14]) [11, 25]) := loop_fold rfl s
theorem A43_L0_eq (s : St) : K E A43_L0 s = (K E A43_L0b s).bind (loopF E A43_L0 (some [0, 3, 5]) [4]) := loop_fold rfl s
theorem A69_L0_eq (s : St) : K E A69_L0 s = (K E A69_L0b s).bind (loopF E A69_L0 (some [0, 3, 4, 5, 45, 46]) [52]) := loop_fold rfl s
theorem A69_L1_eq (s : St) : K E A69_L1 s = (K E A69_L1b s).bind (loopF E A69_L1 (some [0, 3, 4, 5, 33, 34]) [40]) := loop_fold rfl s
theorem A71_L0_eq (s : St) : K E A71_L0 s = (K E A71_L0b s).bind (loopF E A71_L0 (some [0, 1, 5]) [4]) := loop_fold rfl s
theorem A73_L0_eq (s : St) : K E A73_L0 s = (K E A73_L0b s).bind (loopF E A73_L0 (some [1, 3]) [2, 4, 5, 16, 24]) := loop_fold rfl s
theorem A74_L0_eq (s : St) : K E A74_L0 s = (K E A74_L0b s).bind (loopF E A74_L0 (some [2, 3, 5]) [4]) := loop_fold rfl s
theorem A75_L0_eq (s : St) : K E A75_L0 s = (K E A75_L0b s).bind (loopF E A75_L0 (some [1, 3, 4, 5, 23, 24, 28, 29]) [7, 8, 9, 51]) := loop_fold rfl s
theorem A75_L1_eq (s : St) : K E A75_L1 s = (K E A75_L1b s).bind (loopF E A75_L1 (some [1, 3, 4, 23, 24]) [5, 6, 7, 8, 9, 51]) := loop_fold rfl s
theorem A77_L1_eq (s : St) : K E A77_L1 s = (K E A77_L1b s).bind (loopF E A77_L1 (some [1, 2, 3, 4, 5, 10, 11, 17, 18, 19]) [6, 7, 8, 36, 41, 46]) := loop_fold rfl s
theorem A77_L2_eq (s : St) : K E A77_L2 s = (K E A77_L2b s).bind (loopF E A77_L2 (some [1, 2, 3, 10, 11]) [4, 5, 6, 7, 8, 36, 41, 46]) := loop_fold rfl s
theorem A78_L0_eq (s : St) : K E A78_L0 s = (K E A78_L0b s).bind (loopF E A78_L0 (some [3, 7, 8, 9]) [4, 5, 18]) := loop_fold rfl s
theorem A81_L0_eq (s : St) : K E A81_L0 s = (K E A81_L0b s).bind (loopF E A81_L0 (some [0, 3, 4]) []) := loop_fold rfl s
theorem A86_L0_eq (s : St) : K E A86_L0 s = (K E A86_L0b s).bind (loopF E A86_L0 (some [3, 4, 5]) []) := loop_fold rfl s
theorem A89_L0_eq (s : St) : K E A89_L0 s = (K E A89_L0b s).bind (loopF E A89_L0 (some [0, 1, 5, 6, 7]) [3, 4, 24]) := loop_fold rfl s
theorem A100_L0_eq (s : St) : K E A100_L0 s = (K E A100_L0b s).bind (loopF E A100_L0 (some [0, 3]) [2, 17]) := loop_fold rfl s
theorem A101_L0_eq (s : St) : K E A101_L0 s = (K E A101_L0b s).bind (loopF E A101_L0 (some [1, 3, 4]) [19]) := loop_fold rfl s
theorem A102_L0_eq (s : St) : K E A102_L0 s = (K E A102_L0b s).bind (loopF E A102_L0 (some [0, 3, 4]) [2, 5, 19, 62]) := loop_fold rfl s
theorem A103_L0_eq (s : St) : K E A103_L0 s = (K E A103_L0b s).bind (loopF E A103_L0 (some [0, 1, 5, 6, 7]) [4, 20, 28, 35]) := loop_fold rfl s
theorem A104_L0_eq (s : St) : K E A104_L0 s = (K E A104_L0b s).bind (loopF E A104_L0 (some [0, 1, 5, 6]) [4]) := loop_fold rfl s
theorem A104_L1_eq (s : St) : K E A104_L1 s = (K E A104_L1b s).bind (loopF E A104_L1 (some [0, 1, 5]) [4, 6]) := loop_fold rfl s
theorem A106_L0_eq (s : St) : K E A106_L0 s = (K E A106_L0b s).bind (loopF E A106_L0 (some [0, 2, 17, 18, 19, 25, 26]) [9, 31]) := loop_fold rfl s
theorem A106_L1_eq (s : St) : K E A106_L1 s = (K E A106_L1b s).bind (loopF E A106_L1 (some [0, 2, 17, 18, 19]) [7, 9, 25, 31]) := loop_fold rfl s
theorem A109_L0_eq (s : St) : K E A109_L0 s = (K E A109_L0b s).bind (loopF E A109_L0 (some [6, 7, 20, 21]) []) := loop_fold rfl s
theorem A112_L0_eq (s : St) : K E A112_L0 s = (K E A112_L0b s).bind (loopF E A112_L0 (some [0, 1, 5, 6, 7]) [3, 4, 24]) := loop_fold rfl s
theorem A113_L0_eq (s : St) : K E A113_L0 s = (K E A113_L0b s).bind (loopF E A113_L0 (some [0, 3, 5, 6]) [2, 62, 66, 69, 73, 74]) := loop_fold rfl s
theorem A113_L1_eq (s : St) : K E A113_L1 s = (K E A113_L1b s).bind (loopF E A113_L1 (some [0, 3, 5]) [2, 6, 33, 37, 41, 42, 62, 66, 69, 73, 74]) := loop_fold rfl s
theorem A113_L2_eq (s : St) : K E A113_L2 s = (K E A113_L2b s).bind (loopF E A113_L2 (some [0, 3, 4]) [2, 24]) := loop_fold rfl s
theorem A114_L0_eq (s : St) : K E A114_L0 s = (K E A114_L0b s).bind (loopF E A114_L0 (some [0, 3, 4]) [2]) := loop_fold rfl s
theorem A114_L1_eq (s : St) : K E A114_L1 s = (K E A114_L1b s).bind (loopF E A114_L1 (some [0, 3]) [2, 4, 15]) := loop_fold rfl s
theorem A115_L0_eq (s : St) : K E A115_L0 s = (K E A115_L0b s).bind (loopF E A115_L0 (some [0, 3, 4]) [2, 71]) := loop_fold rfl s
theorem A115_L1_eq (s : St) : K E A115_L1 s = (K E A115_L1b s).bind (loopF E A115_L1 (some [0, 3]) [2, 4, 71]) := loop_fold rfl s
theorem A116_L0_eq (s : St) : K E A116_L0 s = (K E A116_L0b s).bind (loopF E A116_L0 (some [0, 1, 7, 8]) [4, 5]) := loop_fold rfl s
theorem A117_L0_eq (s : St) : K E A117_L0 s = (K E A117_L0b s).bind (loopF E A117_L0 (some [2, 4, 6, 9, 10, 11]) [8]) := loop_fold rfl s
theorem A125_L0_eq (s : St) : K E A125_L0 s = (K E A125_L0b s).bind (loopF E A125_L0 (some [0, 3, 4]) [5, 6, 15, 19]) := loop_fold rfl s
theorem A126_L0_eq (s : St) : K E A126_L0 s = (K E A126_L0b s).bind (loopF E A126_L0 (some [0, 3]) [2, 27]) := loop_fold rfl s
end Go.Proofs.Ytnecdcaaknhgpaa

namespace Go.Geo
open Go Go.Zv
def sgn (n : Int) : Int := if n > 0 then 1 else if n < 0 then -1 else 0
def crW (ax ay bx by_ px py : Int) : Int := w64 (w64 (w64 (bx - ax) * w64 (py - ay)) - w64 (w64 (by_ - ay) * w64 (px - ax)))
abbrev pt (p : Int × Int) : LV := .agg [.int .i64 p.1, .int .i64 p.2]
def c2 (p : Int × Int) : List LV := [.int .i64 p.1, .int .i64 p.2]
theorem get_c2 {l : List (Int × Int)} {i : Nat} {p : Int × Int} (h : l[i]? = some p) : (l.map c2)[i]? = some [.int .i64 p.1, .int .i64 p.2] := by
 rw [List.getElem?_map, h]; rfl
theorem wr_nat {n : Nat} (h : n < 9223372036854775808) : IntKind.i64.wrap (n : Int) = n := by
 simp [IntKind.wrap, IntKind.signed, IntKind.bits]; omega
theorem wr_succ {n : Nat} (h : n + 1 < 9223372036854775808) : IntKind.i64.wrap ((n : Int) + 1) = ((n + 1 : Nat) : Int) := by
 have := wr_nat h; simpa using this
def minP (a b : Int × Int) : Int × Int := (mnI a.1 b.1, mnI a.2 b.2)
def maxP (a b : Int × Int) : Int × Int := (mxI a.1 b.1, mxI a.2 b.2)
def bbL : List (Int × Int) → Int × Int
 | [] => (0, 0)
 | p :: t => (p :: t).foldl minP p
def bbH : List (Int × Int) → Int × Int
 | [] => (0, 0)
 | p :: t => (p :: t).foldl maxP p
def withinB (ax ay bx by_ px py : Int) : Bool := decide (mnI ax bx ≤ px) && (decide (px ≤ mxI ax bx) && (decide (mnI ay by_ ≤ py) && decide (py ≤ mxI ay by_)))
theorem mn_self (a : Int) : mnI a a = a := by unfold mnI; split <;> rfl
theorem mx_self (a : Int) : mxI a a = a := by unfold mxI; split <;> rfl
def onB (ax ay bx by_ px py : Int) : Bool := withinB ax ay bx by_ px py && decide (sgn (crW ax ay bx by_ px py) = 0)
def sdI (ax ay bx by_ cx cy dx dy : Int) : Int := w64 (sgn (crW ax ay bx by_ cx cy) * sgn (crW ax ay bx by_ dx dy))
def endsB (ax ay bx by_ cx cy dx dy : Int) : Bool := (decide (sgn (crW ax ay bx by_ cx cy) = 0) && withinB ax ay bx by_ cx cy) || (decide (sgn (crW ax ay bx by_ dx dy) = 0) && withinB ax ay bx by_ dx dy)
theorem wrap0 : IntKind.i64.wrap 0 = 0 := by decide
def cutB (ax ay bx by_ cx cy dx dy : Int) : Bool := (decide (sdI ax ay bx by_ cx cy dx dy < 0) && decide (sdI cx cy dx dy ax ay bx by_ < 0)) || (endsB ax ay bx by_ cx cy dx dy || endsB cx cy dx dy ax ay bx by_)
theorem cut_eq_B (ax ay bx by_ cx cy dx dy : Int) : ((onB ax ay bx by_ cx cy || onB ax ay bx by_ dx dy || onB cx cy dx dy ax ay || onB cx cy dx dy bx by_) || (decide (sdI ax ay bx by_ cx cy dx dy < 0) && decide (sdI cx cy dx dy ax ay bx by_ < 0))) = cutB ax ay bx by_ cx cy dx dy := by
 unfold cutB onB endsB
 generalize withinB ax ay bx by_ cx cy = a
 generalize withinB ax ay bx by_ dx dy = b
 generalize withinB cx cy dx dy ax ay = c
 generalize withinB cx cy dx dy bx by_ = d
 generalize decide (sgn (crW ax ay bx by_ cx cy) = 0) = e
 generalize decide (sgn (crW ax ay bx by_ dx dy) = 0) = f
 generalize decide (sgn (crW cx cy dx dy ax ay) = 0) = g
 generalize decide (sgn (crW cx cy dx dy bx by_) = 0) = h
 generalize decide (sdI ax ay bx by_ cx cy dx dy < 0) = i
 generalize decide (sdI cx cy dx dy ax ay bx by_ < 0) = j
 revert a b c d e f g h i j; decide
def sharedB (W S T : Int) : Bool := if W < 0 then decide (0 ≤ -S) && (decide (-S ≤ -W) && (decide (0 ≤ -T) && decide (-T ≤ -W))) else decide (0 ≤ S) && (decide (S ≤ W) && (decide (0 ≤ T) && decide (T ≤ W)))
def B (x : Int) : Prop := -500000000 ≤ x ∧ x ≤ 500000000
def cr (ax ay bx by_ px py : Int) : Int := (bx - ax) * (py - ay) - (by_ - ay) * (px - ax)
theorem mul_bd {x y A C : Int} (h1 : -A ≤ x) (h2 : x ≤ A) (h3 : -C ≤ y) (h4 : y ≤ C) : -(A * C) ≤ x * y ∧ x * y ≤ A * C := by
 have hA : 0 ≤ A := by omega
 have hC : 0 ≤ C := by omega
 have a1 : x * y ≤ A * C := by
  rcases Int.le_total 0 x with hx | hx
  ·have h5 : x * y ≤ x * C := Int.mul_le_mul_of_nonneg_left h4 hx
   have h6 : x * C ≤ A * C := Int.mul_le_mul_of_nonneg_right h2 hC
   omega
  ·have h5 : (-x) * (-y) ≤ (-x) * C := Int.mul_le_mul_of_nonneg_left (by omega) (by omega)
   have h6 : (-x) * C ≤ A * C := Int.mul_le_mul_of_nonneg_right (by omega) hC
   have h7 : (-x) * (-y) = x * y := by grind
   omega
 have a2 : -(A * C) ≤ x * y := by
  rcases Int.le_total 0 x with hx | hx
  ·have h5 : x * (-y) ≤ x * C := Int.mul_le_mul_of_nonneg_left (by omega) hx
   have h6 : x * C ≤ A * C := Int.mul_le_mul_of_nonneg_right h2 hC
   have h7 : x * (-y) = -(x * y) := by grind
   omega
  ·have h5 : (-x) * y ≤ (-x) * C := Int.mul_le_mul_of_nonneg_left h4 (by omega)
   have h6 : (-x) * C ≤ A * C := Int.mul_le_mul_of_nonneg_right (by omega) hC
   have h7 : (-x) * y = -(x * y) := by grind
   omega
 exact ⟨a2, a1⟩
theorem wprod {x y z w : Int} (h1 : -1000000000 ≤ x) (h2 : x ≤ 1000000000) (h3 : -1000000000 ≤ y) (h4 : y ≤ 1000000000) (h5 : -1000000000 ≤ z) (h6 : z ≤ 1000000000) (h7 : -1000000000 ≤ w) (h8 : w ≤ 1000000000) :
  IntKind.i64.wrap (IntKind.i64.wrap (IntKind.i64.wrap x * IntKind.i64.wrap y) - IntKind.i64.wrap (IntKind.i64.wrap z * IntKind.i64.wrap w)) = x * y - z * w ∧ -2000000000000000000 ≤ x * y - z * w ∧ x * y - z * w ≤ 2000000000000000000 := by
 obtain ⟨p1, p2⟩ := mul_bd h1 h2 h3 h4
 obtain ⟨q1, q2⟩ := mul_bd h5 h6 h7 h8
 rw [wrap_small (n := x) (by omega) (by omega), wrap_small (n := y) (by omega) (by omega), wrap_small (n := z) (by omega) (by omega), wrap_small (n := w) (by omega) (by omega)]
 rw [wrap_small (n := x * y) (by omega) (by omega), wrap_small (n := z * w) (by omega) (by omega), wrap_small (n := x * y - z * w) (by omega) (by omega)]
 exact ⟨rfl, by omega, by omega⟩
theorem crW_B {ax ay bx by_ px py : Int} (h1 : B ax) (h2 : B ay) (h3 : B bx) (h4 : B by_) (h5 : B px) (h6 : B py) : crW ax ay bx by_ px py = cr ax ay bx by_ px py := by
 unfold B at *
 exact (wprod (by omega) (by omega) (by omega) (by omega) (by omega) (by omega) (by omega) (by omega)).1
theorem sgn_zero : sgn 0 = 0 := by decide
theorem mul_nn {x y : Int} : 0 ≤ x * y ↔ (0 ≤ x ∧ 0 ≤ y) ∨ (x ≤ 0 ∧ y ≤ 0) := by
 constructor
 ·intro h
  rcases Int.lt_trichotomy x 0 with hx | hx | hx
  ·rcases Int.lt_trichotomy y 0 with hy | hy | hy
   ·right; omega
   ·right; omega
   ·have := Int.mul_neg_of_neg_of_pos hx hy; omega
  ·subst hx
   rcases Int.le_total 0 y with hy | hy
   ·left; omega
   ·right; omega
  ·rcases Int.lt_trichotomy y 0 with hy | hy | hy
   ·have := Int.mul_neg_of_pos_of_neg hx hy; omega
   ·left; omega
   ·left; omega
 ·rintro (⟨h1, h2⟩ | ⟨h1, h2⟩)
  ·exact Int.mul_nonneg h1 h2
  ·exact Int.mul_nonneg_of_nonpos_of_nonpos h1 h2
theorem bt {a b p : Int} : (mnI a b ≤ p ∧ p ≤ mxI a b) ↔ 0 ≤ (p - a) * (b - p) := by
 rw [mul_nn]; unfold mnI mxI
 constructor
 ·intro h; split at h <;> split at h <;> omega
 ·intro h; split <;> split <;> omega
theorem withinB_iff {ax ay bx by_ px py : Int} : withinB ax ay bx by_ px py = true ↔ 0 ≤ (px - ax) * (bx - px) ∧ 0 ≤ (py - ay) * (by_ - py) := by
 rw [← bt, ← bt]
 simp [withinB, and_assoc]
theorem sgn_eq0 {n : Int} : sgn n = 0 ↔ n = 0 := by unfold sgn; repeat' split
                                                    all_goals omega
theorem sq_pos {x : Int} (h : x ≠ 0) : 0 < x * x := by
 rcases Int.lt_trichotomy x 0 with h1 | h1 | h1
 ·exact Int.mul_pos_of_neg_of_neg h1 h1
 ·exact absurd h1 h
 ·exact Int.mul_pos h1 h1
theorem on_key {u v U V : Int} (hc : U * v - V * u = 0) (hd : 0 ≤ u * (U - u) + v * (V - v)) (hne : U ≠ 0 ∨ V ≠ 0) : 0 ≤ u * (U - u) ∧ 0 ≤ v * (V - v) := by
 have key : (V * V) * (u * (U - u)) = (U * U) * (v * (V - v)) := by
  have e : U * v = V * u := by omega
  have : (V * V) * (u * (U - u)) = (V * u) * (V * U) - (V * u) * (V * u) := by grind
  rw [this, ← e]; grind
 have sq : ∀ x : Int, 0 ≤ x * x := fun x => by
  by_cases h : x = 0
  ·subst h; simp
  ·have := sq_pos h; omega
 constructor
 ·refine Classical.byContradiction fun h => ?_
  have h1 : u * (U - u) < 0 := by omega
  have h2 : 0 < v * (V - v) := by omega
  have h3 : 0 ≤ (U * U) * (v * (V - v)) := Int.mul_nonneg (sq U) (by omega)
  rcases hne with hU | hV
  ·have := Int.mul_pos (sq_pos hU) h2
   have h5 : (V * V) * (u * (U - u)) ≤ 0 := Int.mul_nonpos_of_nonneg_of_nonpos (sq V) (by omega)
   omega
  ·have := Int.mul_neg_of_pos_of_neg (sq_pos hV) h1
   omega
 ·refine Classical.byContradiction fun h => ?_
  have h1 : v * (V - v) < 0 := by omega
  have h2 : 0 < u * (U - u) := by omega
  rcases hne with hU | hV
  ·have := Int.mul_neg_of_pos_of_neg (sq_pos hU) h1
   have h5 : 0 ≤ (V * V) * (u * (U - u)) := Int.mul_nonneg (sq V) (by omega)
   omega
  ·have := Int.mul_pos (sq_pos hV) h2
   have h5 : (U * U) * (v * (V - v)) ≤ 0 := Int.mul_nonpos_of_nonneg_of_nonpos (sq U) (by omega)
   omega
theorem on_iff {ax ay bx by_ px py : Int} : (withinB ax ay bx by_ px py = true ∧ cr ax ay bx by_ px py = 0) ↔ (cr ax ay bx by_ px py = 0 ∧ 0 ≤ (px - ax) * (bx - px) + (py - ay) * (by_ - py) ∧ ((ax = bx ∧ ay = by_) → (px = ax ∧ py = ay))) := by
 rw [withinB_iff]
 constructor
 ·rintro ⟨⟨h1, h2⟩, h3⟩
  refine ⟨h3, by omega, ?_⟩
  rintro ⟨rfl, rfl⟩
  rw [mul_nn] at h1 h2
  omega
 ·rintro ⟨h3, h4, h5⟩
  refine ⟨?_, h3⟩
  by_cases he : ax = bx ∧ ay = by_
  ·obtain ⟨rfl, rfl⟩ := h5 he
   obtain ⟨rfl, rfl⟩ := he
   simp
  ·have := on_key (u := px - ax) (v := py - ay) (U := bx - ax) (V := by_ - ay) (by unfold cr at h3; exact h3) (by
    have e1 : bx - ax - (px - ax) = bx - px := by omega
    have e2 : by_ - ay - (py - ay) = by_ - py := by omega
    rw [e1, e2]; exact h4) (by omega)
   have e1 : bx - ax - (px - ax) = bx - px := by omega
   have e2 : by_ - ay - (py - ay) = by_ - py := by omega
   rw [e1, e2] at this; exact this
def wW (ax ay bx by_ cx cy dx dy : Int) : Int := (bx - ax) * (dy - cy) - (by_ - ay) * (dx - cx)
def sS (ax ay bx by_ cx cy dx dy : Int) : Int := (cx - ax) * (dy - cy) - (cy - ay) * (dx - cx)
def tT (ax ay bx by_ cx cy dx dy : Int) : Int := (cx - ax) * (by_ - ay) - (cy - ay) * (bx - ax)
section
variable (ax ay bx by_ cx cy dx dy : Int)
theorem o1_eq : cr ax ay bx by_ cx cy = - tT ax ay bx by_ cx cy dx dy := by unfold cr tT; grind
theorem o2_eq : cr ax ay bx by_ dx dy = wW ax ay bx by_ cx cy dx dy - tT ax ay bx by_ cx cy dx dy := by unfold cr tT wW; grind
theorem o3_eq : cr cx cy dx dy ax ay = sS ax ay bx by_ cx cy dx dy := by unfold cr sS; grind
theorem o4_eq : cr cx cy dx dy bx by_ = sS ax ay bx by_ cx cy dx dy - wW ax ay bx by_ cx cy dx dy := by unfold cr sS wW; grind
end
theorem sq_nn (x : Int) : 0 ≤ x * x := by
 by_cases h : x = 0
 ·subst h; simp
 ·have := sq_pos h; omega
theorem nn_of_mul {x y : Int} (hx : 0 < x) (h : 0 ≤ x * y) : 0 ≤ y := by
 rw [mul_nn] at h; omega
theorem within_A {ax ay bx by_ cx cy dx dy : Int} (hT : tT ax ay bx by_ cx cy dx dy = 0) (hW : wW ax ay bx by_ cx cy dx dy ≠ 0) :
  withinB ax ay bx by_ cx cy = true ↔ 0 ≤ sS ax ay bx by_ cx cy dx dy * (wW ax ay bx by_ cx cy dx dy - sS ax ay bx by_ cx cy dx dy) := by
 have e1 : wW ax ay bx by_ cx cy dx dy * (cx - ax) = sS ax ay bx by_ cx cy dx dy * (bx - ax) := by
  have : wW ax ay bx by_ cx cy dx dy * (cx - ax) - sS ax ay bx by_ cx cy dx dy * (bx - ax) = (dx - cx) * (- tT ax ay bx by_ cx cy dx dy) := by unfold wW sS tT; grind
  rw [hT] at this; simp at this; omega
 have e2 : wW ax ay bx by_ cx cy dx dy * (cy - ay) = sS ax ay bx by_ cx cy dx dy * (by_ - ay) := by
  have : wW ax ay bx by_ cx cy dx dy * (cy - ay) - sS ax ay bx by_ cx cy dx dy * (by_ - ay) = (dy - cy) * (- tT ax ay bx by_ cx cy dx dy) := by unfold wW sS tT; grind
  rw [hT] at this; simp at this; omega
 have hne : bx - ax ≠ 0 ∨ by_ - ay ≠ 0 := by
  refine Classical.byContradiction fun h => hW ?_
  have h1 : bx - ax = 0 := by omega
  have h2 : by_ - ay = 0 := by omega
  unfold wW; rw [h1, h2]; simp
 generalize sS ax ay bx by_ cx cy dx dy = s at *
 generalize wW ax ay bx by_ cx cy dx dy = w at *
 have hw := sq_pos hW
 have f1 : (w * w) * ((cx - ax) * (bx - cx)) = (s * (w - s)) * ((bx - ax) * (bx - ax)) := by
  have : (w * w) * ((cx - ax) * (bx - cx)) = (w * (cx - ax)) * (w * (bx - ax) - w * (cx - ax)) := by grind
  rw [this, e1]; grind
 have f2 : (w * w) * ((cy - ay) * (by_ - cy)) = (s * (w - s)) * ((by_ - ay) * (by_ - ay)) := by
  have : (w * w) * ((cy - ay) * (by_ - cy)) = (w * (cy - ay)) * (w * (by_ - ay) - w * (cy - ay)) := by grind
  rw [this, e2]; grind
 rw [withinB_iff]
 constructor
 ·rintro ⟨h1, h2⟩
  rcases hne with hn | hn
  ·have : 0 ≤ (s * (w - s)) * ((bx - ax) * (bx - ax)) := by rw [← f1]; exact Int.mul_nonneg (by omega) h1
   rw [Int.mul_comm] at this
   exact nn_of_mul (sq_pos hn) this
  ·have : 0 ≤ (s * (w - s)) * ((by_ - ay) * (by_ - ay)) := by rw [← f2]; exact Int.mul_nonneg (by omega) h2
   rw [Int.mul_comm] at this
   exact nn_of_mul (sq_pos hn) this
 ·intro h
  exact ⟨nn_of_mul hw (by rw [f1]; exact Int.mul_nonneg h (sq_nn _)), nn_of_mul hw (by rw [f2]; exact Int.mul_nonneg h (sq_nn _))⟩
theorem sgn_mul_neg {x y : Int} : IntKind.i64.wrap (sgn x * sgn y) < 0 ↔ x * y < 0 := by
 have h : x * y < 0 ↔ ¬ (0 ≤ x * y) := by omega
 rw [h, mul_nn]
 unfold sgn
 repeat' split
 all_goals (simp only [Int.mul_zero, Int.zero_mul, Int.one_mul, Int.mul_one, Int.reduceMul, Int.reduceNeg])
 all_goals (first | (rw [show IntKind.i64.wrap 1 = 1 by decide]; omega) | (rw [show IntKind.i64.wrap (-1) = -1 by decide]; omega) | (rw [show IntKind.i64.wrap 0 = 0 by decide]; omega))
structure B8 (ax ay bx by_ cx cy dx dy : Int) : Prop where
 a0 : B ax
 a1 : B ay
 b0 : B bx
 b1 : B by_
 c0 : B cx
 c1 : B cy
 d0 : B dx
 d1 : B dy
theorem cutB_iff {ax ay bx by_ cx cy dx dy : Int} (h : B8 ax ay bx by_ cx cy dx dy) : cutB ax ay bx by_ cx cy dx dy = true ↔
  (cr ax ay bx by_ cx cy * cr ax ay bx by_ dx dy < 0 ∧ cr cx cy dx dy ax ay * cr cx cy dx dy bx by_ < 0) ∨
  ((cr ax ay bx by_ cx cy = 0 ∧ withinB ax ay bx by_ cx cy = true) ∨ (cr ax ay bx by_ dx dy = 0 ∧ withinB ax ay bx by_ dx dy = true)) ∨
  ((cr cx cy dx dy ax ay = 0 ∧ withinB cx cy dx dy ax ay = true) ∨ (cr cx cy dx dy bx by_ = 0 ∧ withinB cx cy dx dy bx by_ = true)) := by
 unfold cutB endsB sdI
 rw [crW_B h.a0 h.a1 h.b0 h.b1 h.c0 h.c1, crW_B h.a0 h.a1 h.b0 h.b1 h.d0 h.d1, crW_B h.c0 h.c1 h.d0 h.d1 h.a0 h.a1, crW_B h.c0 h.c1 h.d0 h.d1 h.b0 h.b1]
 simp only [Bool.or_eq_true, Bool.and_eq_true, decide_eq_true_eq, sgn_mul_neg, sgn_eq0]
theorem cut_par {ax ay bx by_ cx cy dx dy : Int} (h : B8 ax ay bx by_ cx cy dx dy) (hW : wW ax ay bx by_ cx cy dx dy = 0) :
  cutB ax ay bx by_ cx cy dx dy = (onB ax ay bx by_ cx cy || (onB ax ay bx by_ dx dy || (onB cx cy dx dy ax ay || onB cx cy dx dy bx by_))) := by
 rw [Bool.eq_iff_iff, cutB_iff h]
 simp only [Bool.or_eq_true]
 unfold onB
 rw [crW_B h.a0 h.a1 h.b0 h.b1 h.c0 h.c1, crW_B h.a0 h.a1 h.b0 h.b1 h.d0 h.d1, crW_B h.c0 h.c1 h.d0 h.d1 h.a0 h.a1, crW_B h.c0 h.c1 h.d0 h.d1 h.b0 h.b1]
 simp only [Bool.and_eq_true, decide_eq_true_eq, sgn_eq0]
 have hn : ¬ (cr ax ay bx by_ cx cy * cr ax ay bx by_ dx dy < 0) := by
  rw [o1_eq ax ay bx by_ cx cy dx dy, o2_eq ax ay bx by_ cx cy dx dy, hW]
  have := sq_nn (tT ax ay bx by_ cx cy dx dy)
  have e : -tT ax ay bx by_ cx cy dx dy * (0 - tT ax ay bx by_ cx cy dx dy) = tT ax ay bx by_ cx cy dx dy * tT ax ay bx by_ cx cy dx dy := by grind
  rw [e]; omega
 constructor
 ·rintro (⟨h1, _⟩ | h | h)
  ·exact absurd h1 hn
  ·rcases h with h | h
   ·exact .inl ⟨h.2, h.1⟩
   ·exact .inr (.inl ⟨h.2, h.1⟩)
  ·rcases h with h | h
   ·exact .inr (.inr (.inl ⟨h.2, h.1⟩))
   ·exact .inr (.inr (.inr ⟨h.2, h.1⟩))
 ·rintro (h | h | h | h)
  ·exact .inr (.inl (.inl ⟨h.2, h.1⟩))
  ·exact .inr (.inl (.inr ⟨h.2, h.1⟩))
  ·exact .inr (.inr (.inl ⟨h.2, h.1⟩))
  ·exact .inr (.inr (.inr ⟨h.2, h.1⟩))
theorem shared_iff {W S T : Int} (hW : W ≠ 0) : sharedB W S T = true ↔ 0 ≤ S * (W - S) ∧ 0 ≤ T * (W - T) := by
 rw [mul_nn, mul_nn]; unfold sharedB
 split <;> simp only [Bool.and_eq_true, decide_eq_true_eq] <;> omega
theorem cut_cross {ax ay bx by_ cx cy dx dy : Int} (h : B8 ax ay bx by_ cx cy dx dy) (hW : wW ax ay bx by_ cx cy dx dy ≠ 0) :
  cutB ax ay bx by_ cx cy dx dy = sharedB (wW ax ay bx by_ cx cy dx dy) (sS ax ay bx by_ cx cy dx dy) (tT ax ay bx by_ cx cy dx dy) := by
 rw [Bool.eq_iff_iff, cutB_iff h, shared_iff hW]
 have wa := within_A (ax := ax) (ay := ay) (bx := bx) (by_ := by_) (cx := cx) (cy := cy) (dx := dx) (dy := dy)
 have wb := within_A (ax := ax) (ay := ay) (bx := bx) (by_ := by_) (cx := dx) (cy := dy) (dx := cx) (dy := cy)
 have wc := within_A (ax := cx) (ay := cy) (bx := dx) (by_ := dy) (cx := ax) (cy := ay) (dx := bx) (dy := by_)
 have wd := within_A (ax := cx) (ay := cy) (bx := dx) (by_ := dy) (cx := bx) (cy := by_) (dx := ax) (dy := ay)
 rw [show wW ax ay bx by_ dx dy cx cy = - wW ax ay bx by_ cx cy dx dy by unfold wW; grind, show sS ax ay bx by_ dx dy cx cy = - sS ax ay bx by_ cx cy dx dy by unfold sS; grind, show tT ax ay bx by_ dx dy cx cy = tT ax ay bx by_ cx cy dx dy - wW ax ay bx by_ cx cy dx dy by unfold tT wW; grind] at wb
 rw [show wW cx cy dx dy ax ay bx by_ = - wW ax ay bx by_ cx cy dx dy by unfold wW; grind, show sS cx cy dx dy ax ay bx by_ = - tT ax ay bx by_ cx cy dx dy by unfold sS tT; grind, show tT cx cy dx dy ax ay bx by_ = - sS ax ay bx by_ cx cy dx dy by unfold tT sS; grind] at wc
 rw [show wW cx cy dx dy bx by_ ax ay = wW ax ay bx by_ cx cy dx dy by unfold wW; grind, show sS cx cy dx dy bx by_ ax ay = tT ax ay bx by_ cx cy dx dy by unfold sS tT; grind, show tT cx cy dx dy bx by_ ax ay = wW ax ay bx by_ cx cy dx dy - sS ax ay bx by_ cx cy dx dy by unfold tT sS wW; grind] at wd
 rw [o1_eq ax ay bx by_ cx cy dx dy, o2_eq ax ay bx by_ cx cy dx dy, o3_eq ax ay bx by_ cx cy dx dy, o4_eq ax ay bx by_ cx cy dx dy]
 generalize wW ax ay bx by_ cx cy dx dy = W at *
 generalize sS ax ay bx by_ cx cy dx dy = S at *
 generalize tT ax ay bx by_ cx cy dx dy = T at *
 have e1 : -T * (W - T) = -(T * (W - T)) := by grind
 have e2 : S * (S - W) = -(S * (W - S)) := by grind
 have e3 : -S * (-W - -S) = S * (W - S) := by grind
 have e4 : -T * (-W - -T) = T * (W - T) := by grind
 rw [e3] at wb; rw [e4] at wc
 rw [e1, e2]
 have z1 : ∀ {x : Int}, x = 0 → x * (W - x) = 0 := fun h => by rw [h]; simp
 have z2 : ∀ {x : Int}, W - x = 0 → x * (W - x) = 0 := fun h => by rw [h]; simp
 constructor
 ·rintro (⟨h1, h2⟩ | (⟨h1, h2⟩ | ⟨h1, h2⟩) | (⟨h1, h2⟩ | ⟨h1, h2⟩))
  ·omega
  ·have h3 : T = 0 := by omega
   exact ⟨(wa h3 hW).1 h2, by rw [z1 h3]; omega⟩
  ·have h3 : T - W = 0 := by omega
   exact ⟨(wb h3 (by omega)).1 h2, by rw [z2 (by omega)]; omega⟩
  ·have h3 : S = 0 := h1
   exact ⟨by rw [z1 h3]; omega, (wc (by omega) (by omega)).1 h2⟩
  ·have h3 : W - S = 0 := by omega
   exact ⟨by rw [z2 h3]; omega, (wd h3 hW).1 h2⟩
 ·rintro ⟨h1, h2⟩
  by_cases t0 : T * (W - T) = 0
  ·rcases Int.mul_eq_zero.1 t0 with t | t
   ·exact .inr (.inl (.inl ⟨by omega, (wa t hW).2 h1⟩))
   ·exact .inr (.inl (.inr ⟨by omega, (wb (by omega) (by omega)).2 h1⟩))
  ·by_cases s0 : S * (W - S) = 0
   ·rcases Int.mul_eq_zero.1 s0 with t | t
    ·exact .inr (.inr (.inl ⟨t, (wc (by omega) (by omega)).2 h2⟩))
    ·exact .inr (.inr (.inr ⟨by omega, (wd t hW).2 h2⟩))
   ·exact .inl ⟨by omega, by omega⟩
theorem B8.s1 {ax ay bx by_ cx cy dx dy : Int} (h : B8 ax ay bx by_ cx cy dx dy) : B8 bx by_ ax ay cx cy dx dy := ⟨h.b0, h.b1, h.a0, h.a1, h.c0, h.c1, h.d0, h.d1⟩
theorem B8.s2 {ax ay bx by_ cx cy dx dy : Int} (h : B8 ax ay bx by_ cx cy dx dy) : B8 cx cy dx dy ax ay bx by_ := ⟨h.c0, h.c1, h.d0, h.d1, h.a0, h.a1, h.b0, h.b1⟩
theorem cut_s2 {ax ay bx by_ cx cy dx dy : Int} (h : B8 ax ay bx by_ cx cy dx dy) : cutB cx cy dx dy ax ay bx by_ = cutB ax ay bx by_ cx cy dx dy := by
 rw [Bool.eq_iff_iff, cutB_iff h, cutB_iff h.s2]
 constructor
 ·rintro (h | h | h)
  ·exact .inl ⟨h.2, h.1⟩
  ·exact .inr (.inr h)
  ·exact .inr (.inl h)
 ·rintro (h | h | h)
  ·exact .inl ⟨h.2, h.1⟩
  ·exact .inr (.inr h)
  ·exact .inr (.inl h)
theorem conv {W S a b M : Int} (h1 : 0 ≤ S) (h2 : 0 ≤ W - S) (ha : a ≤ M) (hb : b ≤ M) : W * a + S * (b - a) ≤ W * M := by
 have e : W * M - (W * a + S * (b - a)) = (W - S) * (M - a) + S * (M - b) := by grind
 have := Int.mul_nonneg h2 (show 0 ≤ M - a by omega)
 have := Int.mul_nonneg h1 (show 0 ≤ M - b by omega)
 omega
theorem conv' {W S a b M : Int} (h1 : 0 ≤ S) (h2 : 0 ≤ W - S) (ha : M ≤ a) (hb : M ≤ b) : W * M ≤ W * a + S * (b - a) := by
 have e : (W * a + S * (b - a)) - W * M = (W - S) * (a - M) + S * (b - M) := by grind
 have := Int.mul_nonneg h2 (show 0 ≤ a - M by omega)
 have := Int.mul_nonneg h1 (show 0 ≤ b - M by omega)
 omega
theorem lap1 {W S T a b c d : Int} (hW : 0 < W) (s1 : 0 ≤ S) (s2 : 0 ≤ W - S) (t1 : 0 ≤ T) (t2 : 0 ≤ W - T) (he : W * a + S * (b - a) = W * c + T * (d - c)) : mnI a b ≤ mxI c d := by
 refine Classical.byContradiction fun h => ?_
 have h1 := conv' (M := mnI a b) (a := a) (b := b) s1 s2 (by unfold mnI; split <;> omega) (by unfold mnI; split <;> omega)
 have h2 := conv (M := mxI c d) (a := c) (b := d) t1 t2 (by unfold mxI; split <;> omega) (by unfold mxI; split <;> omega)
 have h3 := Int.mul_pos hW (show 0 < mnI a b - mxI c d by omega)
 rw [Int.mul_sub] at h3
 omega
theorem lap2 {W S T a b c d : Int} (hW : W ≠ 0) (hS : 0 ≤ S * (W - S)) (hT : 0 ≤ T * (W - T)) (he : W * a + S * (b - a) = W * c + T * (d - c)) : mnI a b ≤ mxI c d ∧ mnI c d ≤ mxI a b := by
 rw [mul_nn] at hS hT
 rcases Int.lt_or_lt_of_ne hW with h | h
 ·have he' : (-W) * a + (-S) * (b - a) = (-W) * c + (-T) * (d - c) := by grind
  exact ⟨lap1 (by omega) (by omega) (by omega) (by omega) (by omega) he', lap1 (by omega) (by omega) (by omega) (by omega) (by omega) he'.symm⟩
 ·exact ⟨lap1 (by omega) (by omega) (by omega) (by omega) (by omega) he, lap1 (by omega) (by omega) (by omega) (by omega) (by omega) he.symm⟩
theorem lap_pt {a b c d p : Int} (h1 : 0 ≤ (p - a) * (b - p)) (h2 : 0 ≤ (p - c) * (d - p)) : mnI a b ≤ mxI c d ∧ mnI c d ≤ mxI a b := by
 rw [← bt] at h1 h2; omega
theorem cut_lap {ax ay bx by_ cx cy dx dy : Int} (h : B8 ax ay bx by_ cx cy dx dy) (hc : cutB ax ay bx by_ cx cy dx dy = true) :
  (mnI ax bx ≤ mxI cx dx ∧ mnI cx dx ≤ mxI ax bx) ∧ (mnI ay by_ ≤ mxI cy dy ∧ mnI cy dy ≤ mxI ay by_) := by
 have z : ∀ x y : Int, 0 ≤ (x - x) * (y - x) ∧ 0 ≤ (y - x) * (y - y) := fun x y => by simp
 by_cases hW : wW ax ay bx by_ cx cy dx dy = 0
 ·rw [cut_par h hW] at hc
  simp only [Bool.or_eq_true, onB, Bool.and_eq_true, withinB_iff] at hc
  rcases hc with ⟨⟨h1, h2⟩, _⟩ | ⟨⟨h1, h2⟩, _⟩ | ⟨⟨h1, h2⟩, _⟩ | ⟨⟨h1, h2⟩, _⟩
  ·exact ⟨lap_pt h1 (z _ _).1, lap_pt h2 (z _ _).1⟩
  ·exact ⟨lap_pt h1 (z _ _).2, lap_pt h2 (z _ _).2⟩
  ·exact ⟨lap_pt (z _ _).1 h1, lap_pt (z _ _).1 h2⟩
  ·exact ⟨lap_pt (z _ _).2 h1, lap_pt (z _ _).2 h2⟩
 ·rw [cut_cross h hW, shared_iff hW] at hc
  exact ⟨lap2 hW hc.1 hc.2 (by unfold wW sS tT; grind), lap2 hW hc.1 hc.2 (by unfold wW sS tT; grind)⟩
theorem w_x {ax ay bx by_ px py : Int} (hc : cr ax ay bx by_ px py = 0) (hn : bx - ax ≠ 0) (h : 0 ≤ (px - ax) * (bx - px)) : withinB ax ay bx by_ px py = true := by
 rw [withinB_iff]
 refine ⟨h, nn_of_mul (sq_pos hn) ?_⟩
 have e : (bx - ax) * (py - ay) = (by_ - ay) * (px - ax) := by unfold cr at hc; omega
 have : (bx - ax) * (bx - ax) * ((py - ay) * (by_ - py)) = ((by_ - ay) * (by_ - ay)) * ((px - ax) * (bx - px)) := by
  have : (bx - ax) * (bx - ax) * ((py - ay) * (by_ - py)) = ((bx - ax) * (py - ay)) * ((bx - ax) * (by_ - ay) - (bx - ax) * (py - ay)) := by grind
  rw [this, e]; grind
 rw [this]; exact Int.mul_nonneg (sq_nn _) h
theorem w_y {ax ay bx by_ px py : Int} (hc : cr ax ay bx by_ px py = 0) (hn : by_ - ay ≠ 0) (h : 0 ≤ (py - ay) * (by_ - py)) : withinB ax ay bx by_ px py = true := by
 have := w_x (ax := ay) (ay := ax) (bx := by_) (by_ := bx) (px := py) (py := px) (by unfold cr at *; omega) hn h
 rw [withinB_iff] at *; exact ⟨this.2, this.1⟩
theorem mn_le (a b : Int) : mnI a b ≤ a ∧ mnI a b ≤ b ∧ (mnI a b = a ∨ mnI a b = b) := by unfold mnI; split <;> omega
theorem mx_le (a b : Int) : a ≤ mxI a b ∧ b ≤ mxI a b ∧ (mxI a b = a ∨ mxI a b = b) := by unfold mxI; split <;> omega
theorem fold_min : ∀ (l : List (Int × Int)) (q : Int × Int), ((l.foldl minP q).1 ≤ q.1 ∧ (l.foldl minP q).2 ≤ q.2) ∧ (∀ p ∈ l, (l.foldl minP q).1 ≤ p.1 ∧ (l.foldl minP q).2 ≤ p.2) ∧
  ((l.foldl minP q).1 = q.1 ∨ ∃ p ∈ l, (l.foldl minP q).1 = p.1) ∧ ((l.foldl minP q).2 = q.2 ∨ ∃ p ∈ l, (l.foldl minP q).2 = p.2)
 | [], q => by simp
 | p :: l, q => by
   obtain ⟨⟨h1, h2⟩, h3, h4, h5⟩ := fold_min l (minP q p)
   have m1 := mn_le q.1 p.1
   have m2 := mn_le q.2 p.2
   simp only [List.foldl_cons]
   simp only [minP] at h1 h2 h4 h5
   refine ⟨⟨by simp only [minP] at *; omega, by simp only [minP] at *; omega⟩, fun r hr => ?_, ?_, ?_⟩
   ·simp only [List.mem_cons] at hr
    rcases hr with rfl | hr
    ·simp only [minP] at *; omega
    ·exact h3 r hr
   ·rcases h4 with h4 | ⟨r, hr, h4⟩
    ·rcases m1.2.2 with m | m
     ·exact .inl (by simp only [minP] at *; omega)
     ·exact .inr ⟨p, by simp, by simp only [minP] at *; omega⟩
    ·exact .inr ⟨r, by simp [hr], h4⟩
   ·rcases h5 with h4 | ⟨r, hr, h4⟩
    ·rcases m2.2.2 with m | m
     ·exact .inl (by simp only [minP] at *; omega)
     ·exact .inr ⟨p, by simp, by simp only [minP] at *; omega⟩
    ·exact .inr ⟨r, by simp [hr], h4⟩
theorem fold_max : ∀ (l : List (Int × Int)) (q : Int × Int), (q.1 ≤ (l.foldl maxP q).1 ∧ q.2 ≤ (l.foldl maxP q).2) ∧ (∀ p ∈ l, p.1 ≤ (l.foldl maxP q).1 ∧ p.2 ≤ (l.foldl maxP q).2) ∧
  ((l.foldl maxP q).1 = q.1 ∨ ∃ p ∈ l, (l.foldl maxP q).1 = p.1) ∧ ((l.foldl maxP q).2 = q.2 ∨ ∃ p ∈ l, (l.foldl maxP q).2 = p.2)
 | [], q => by simp
 | p :: l, q => by
   obtain ⟨⟨h1, h2⟩, h3, h4, h5⟩ := fold_max l (maxP q p)
   have m1 := mx_le q.1 p.1
   have m2 := mx_le q.2 p.2
   simp only [List.foldl_cons]
   simp only [maxP] at h1 h2 h4 h5
   refine ⟨⟨by simp only [maxP] at *; omega, by simp only [maxP] at *; omega⟩, fun r hr => ?_, ?_, ?_⟩
   ·simp only [List.mem_cons] at hr
    rcases hr with rfl | hr
    ·simp only [maxP] at *; omega
    ·exact h3 r hr
   ·rcases h4 with h4 | ⟨r, hr, h4⟩
    ·rcases m1.2.2 with m | m
     ·exact .inl (by simp only [maxP] at *; omega)
     ·exact .inr ⟨p, by simp, by simp only [maxP] at *; omega⟩
    ·exact .inr ⟨r, by simp [hr], h4⟩
   ·rcases h5 with h4 | ⟨r, hr, h4⟩
    ·rcases m2.2.2 with m | m
     ·exact .inl (by simp only [maxP] at *; omega)
     ·exact .inr ⟨p, by simp, by simp only [maxP] at *; omega⟩
    ·exact .inr ⟨r, by simp [hr], h4⟩
structure Box (l : List (Int × Int)) (lo hi : Int × Int) : Prop where
 b1 : ∀ p ∈ l, lo.1 ≤ p.1
 b2 : ∀ p ∈ l, lo.2 ≤ p.2
 b3 : ∀ p ∈ l, p.1 ≤ hi.1
 b4 : ∀ p ∈ l, p.2 ≤ hi.2
 m1 : ∃ p ∈ l, p.1 = lo.1
 m2 : ∃ p ∈ l, p.2 = lo.2
 m3 : ∃ p ∈ l, p.1 = hi.1
 m4 : ∃ p ∈ l, p.2 = hi.2
theorem box {l : List (Int × Int)} (h : l ≠ []) : Box l (bbL l) (bbH l) := by
 cases l with
 | nil => exact absurd rfl h
 | cons p l =>
   obtain ⟨⟨a1, a2⟩, a3, a4, a5⟩ := fold_min (p :: l) p
   obtain ⟨⟨c1, c2⟩, c3, c4, c5⟩ := fold_max (p :: l) p
   refine ⟨fun q hq => (a3 q hq).1, fun q hq => (a3 q hq).2, fun q hq => (c3 q hq).1, fun q hq => (c3 q hq).2, ?_, ?_, ?_, ?_⟩
   ·rcases a4 with a | ⟨r, hr, a⟩
    ·exact ⟨p, by simp, a.symm⟩
    ·exact ⟨r, hr, a.symm⟩
   ·rcases a5 with a | ⟨r, hr, a⟩
    ·exact ⟨p, by simp, a.symm⟩
    ·exact ⟨r, hr, a.symm⟩
   ·rcases c4 with a | ⟨r, hr, a⟩
    ·exact ⟨p, by simp, a.symm⟩
    ·exact ⟨r, hr, a.symm⟩
   ·rcases c5 with a | ⟨r, hr, a⟩
    ·exact ⟨p, by simp, a.symm⟩
    ·exact ⟨r, hr, a.symm⟩
def gapZ (lo hi lo' hi' : Int × Int) : Int := mxI (mxI (mxI (mxI 0 (lo'.1 - hi.1)) (lo'.2 - hi.2)) (lo.1 - hi'.1)) (lo.2 - hi'.2)
end Go.Geo

namespace Go.Proofs.Ytnecdcaaknhgpaa.G
open Go Go.Zv
open Go.Geo
theorem c54 (ax ay bx by_ : Int) : pc E 54 [.agg [.int .i64 ax, .int .i64 ay], .agg [.int .i64 bx, .int .i64 by_]] = some (.agg [.int .i64 (w64 (ax + bx)), .int .i64 (w64 (ay + by_))]) := by
 rw [pc_eq]; simp +contextual -implicitDefEqProofs (maxSteps := 2000000) only [go_sem, ↓reduceIte, E_54, A54]
theorem c67 (ax ay bx by_ : Int) : pc E 67 [.agg [.int .i64 ax, .int .i64 ay], .agg [.int .i64 bx, .int .i64 by_]] = some (.agg [.int .i64 (w64 (ax - bx)), .int .i64 (w64 (ay - by_))]) := by
 rw [pc_eq]; simp +contextual -implicitDefEqProofs (maxSteps := 2000000) only [go_sem, ↓reduceIte, E_67, A67]
theorem c62 (ax ay bx by_ px py : Int) : pc E 62 [.agg [.int .i64 ax, .int .i64 ay], .agg [.int .i64 bx, .int .i64 by_], .agg [.int .i64 px, .int .i64 py]] = some (.int .i64 (sgn (crW ax ay bx by_ px py))) := by
 rw [pc_eq]; simp +contextual -implicitDefEqProofs (maxSteps := 2000000) only [go_sem, ↓reduceIte, E_62, A62, c67, decide_eq_true_eq]
 unfold sgn crW; split <;> (try split) <;> rfl
theorem c118 (ax ay bx by_ : Int) : pc E 118 [.agg [.int .i64 ax, .int .i64 ay], .agg [.int .i64 bx, .int .i64 by_]] = some (.agg [.int .i64 (mnI ax bx), .int .i64 (mnI ay by_)]) := by
 rw [pc_eq]; simp +contextual -implicitDefEqProofs (maxSteps := 2000000) only [go_sem, ↓reduceIte, E_118, A118]
theorem c119 (ax ay bx by_ : Int) : pc E 119 [.agg [.int .i64 ax, .int .i64 ay], .agg [.int .i64 bx, .int .i64 by_]] = some (.agg [.int .i64 (mxI ax bx), .int .i64 (mxI ay by_)]) := by
 rw [pc_eq]; simp +contextual -implicitDefEqProofs (maxSteps := 2000000) only [go_sem, ↓reduceIte, E_119, A119]
theorem fold_loop (l : List (Int × Int)) (hl : l.length < 9223372036854775808) (f : FuncId) (g : Int × Int → Int × Int → Int × Int) (hg : ∀ ax ay bx by_, pc E f [.agg [.int .i64 ax, .int .i64 ay], .agg [.int .i64 bx, .int .i64 by_]] = some (.agg [.int .i64 (g (ax, ay) (bx, by_)).1, .int .i64 (g (ax, ay) (bx, by_)).2])) :
  ∀ (k i : Nat) (ax ay : Int), i + k = l.length → (K E A117_L0 ⟨[(2, .fn (.func f) [] []), (4, .ptr 1024 0), (6, .ptr 1536 0), (9, .vs (l.map c2)), (10, .int .i64 l.length), (11, .int .i64 i)], [],
    [(1536, .box [.int .i64 0, .int .i64 0]), (1024, .box [.int .i64 ax, .int .i64 ay])], 0⟩).bind (blockR 0 (some [4, 6]) [8]) =
    some (.ex .nrm ⟨[(4, .ptr 1024 0), (6, .ptr 1536 0)], [], [(1536, .box [.int .i64 0, .int .i64 0]), (1024, .box [.int .i64 ((l.drop i).foldl g (ax, ay)).1, .int .i64 ((l.drop i).foldl g (ax, ay)).2])], 0⟩)
 | 0, i, ax, ay, h => by
   have hi : ¬ ((i : Int) < l.length) := by omega
   have hd : l.drop i = [] := List.drop_of_length_le (by omega)
   rw [A117_L0_eq, hd]
   simp +contextual -implicitDefEqProofs (maxSteps := 2000000) only [go_sem, ↓reduceIte, A117_L0b, hi, List.foldl_nil]
 | k + 1, i, ax, ay, h => by
   have hi : ((i : Int) < l.length) := by omega
   have hget : l[i]? = some (l[i]'(by omega)) := List.getElem?_eq_getElem _
   generalize l[i]'(by omega) = p at hget
   have hg2 := get_c2 hget
   have hw := wr_succ (n := i) (by omega)
   have h0 : (0 : Int) ≤ (i : Int) := by omega
   have hd : l.drop i = p :: l.drop (i + 1) := by
    have hlt : i < l.length := by omega
    rw [List.drop_eq_getElem_cons hlt]
    rw [List.getElem?_eq_getElem hlt] at hget
    simp only [Option.some.injEq] at hget
    rw [hget]
   rw [A117_L0_eq, hd]
   simp +contextual -implicitDefEqProofs (maxSteps := 2000000) only [go_sem, ↓reduceIte, A117_L0b, hi, hg2, hg, h0, hw, List.foldl_cons]
   rw [fold_loop l hl f g hg k (i + 1) _ _ (by omega)]
theorem c117 (l : List (Int × Int)) (hl : l.length < 9223372036854775808) (ax ay : Int) (f : FuncId) (g : Int × Int → Int × Int → Int × Int) (hg : ∀ ax ay bx by_, pc E f [.agg [.int .i64 ax, .int .i64 ay], .agg [.int .i64 bx, .int .i64 by_]] = some (.agg [.int .i64 (g (ax, ay) (bx, by_)).1, .int .i64 (g (ax, ay) (bx, by_)).2])) :
  pc E 117 [.vs (l.map c2), .agg [.int .i64 ax, .int .i64 ay], .fn (.func f) [] []] = some (pt (l.foldl g (ax, ay))) := by
 have := fold_loop l hl f g hg l.length 0 ax ay (by omega)
 simp only [Int.ofNat_zero, Int.natCast_zero, List.drop_zero] at this
 rw [pc_eq]; simp +contextual -implicitDefEqProofs (maxSteps := 2000000) only [go_sem, ↓reduceIte, E_117, A117, List.length_map, this]
theorem c107 (l : List (Int × Int)) (hl : l.length < 9223372036854775808) : pc E 107 [.vs (l.map c2)] = some (.tup [pt (bbL l), pt (bbH l)]) := by
 cases l with
 | nil =>
   rw [pc_eq]; simp +contextual -implicitDefEqProofs only [E_107, A107, go_sem, ↓reduceIte, List.map_nil, bbL, bbH, Int.ofNat_zero, Int.natCast_zero]
 | cons p t =>
   have h1 := c117 (p :: t) hl p.1 p.2 118 minP (fun ax ay bx by_ => c118 ax ay bx by_)
   have h2 := c117 (p :: t) hl p.1 p.2 119 maxP (fun ax ay bx by_ => c119 ax ay bx by_)
   have hz : ¬ (((p :: t).length : Int) = 0) := by simp only [List.length_cons]; omega
   simp only [List.map_cons, c2, List.length_cons] at h1 h2 hz
   rw [pc_eq]; simp +contextual -implicitDefEqProofs only [E_107, A107, go_sem, ↓reduceIte, List.map_cons, c2, bbL, bbH, List.length_map, hz, h1, h2]
theorem c107_2 (ax ay bx by_ : Int) : pc E 107 [.vs [[.int .i64 ax, .int .i64 ay], [.int .i64 bx, .int .i64 by_]]] = some (.tup [pt (bbL [(ax, ay), (bx, by_)]), pt (bbH [(ax, ay), (bx, by_)])]) :=
 c107 [(ax, ay), (bx, by_)] (by simp)
theorem c90 (ax ay bx by_ px py : Int) : pc E 90 [.agg [.int .i64 ax, .int .i64 ay], .agg [.int .i64 bx, .int .i64 by_], .agg [.int .i64 px, .int .i64 py]] = some (.bool (withinB ax ay bx by_ px py)) := by
 rw [pc_eq]; simp +contextual -implicitDefEqProofs (maxSteps := 2000000) only [go_sem, ↓reduceIte, E_90, A90, c107_2, bbL, bbH, List.foldl_cons, List.foldl_nil, minP, maxP, mn_self, mx_self, withinB]
 repeat' split
 all_goals (try simp_all)
 all_goals (try (intros; omega))
theorem c61 (ax ay bx by_ px py : Int) : pc E 61 [.agg [.int .i64 ax, .int .i64 ay], .agg [.int .i64 bx, .int .i64 by_], .agg [.int .i64 px, .int .i64 py]] = some (.bool (onB ax ay bx by_ px py)) := by
 rw [pc_eq]; simp +contextual -implicitDefEqProofs (maxSteps := 2000000) only [go_sem, ↓reduceIte, E_61, A61, c90, c62, onB]
 repeat' split
 all_goals simp_all [Bool.beq_eq_decide_eq]
theorem c111 (ax ay bx by_ cx cy dx dy : Int) : pc E 111 [.agg [.int .i64 ax, .int .i64 ay], .agg [.int .i64 bx, .int .i64 by_], .agg [.int .i64 cx, .int .i64 cy], .agg [.int .i64 dx, .int .i64 dy]] =
  some (.tup [.bool (decide (sdI ax ay bx by_ cx cy dx dy < 0)), .bool (endsB ax ay bx by_ cx cy dx dy)]) := by
 rw [pc_eq]; simp +contextual -implicitDefEqProofs (maxSteps := 2000000) only [go_sem, ↓reduceIte, E_111, A111, c90, c62, sdI, endsB]
 repeat' split
 all_goals (try simp_all [wrap0])
 all_goals (try (intros; omega))
 all_goals (try rfl)
theorem c88 (ax ay bx by_ cx cy dx dy : Int) : pc E 88 [.agg [.int .i64 ax, .int .i64 ay], .agg [.int .i64 bx, .int .i64 by_], .agg [.int .i64 cx, .int .i64 cy], .agg [.int .i64 dx, .int .i64 dy]] = some (.bool (cutB ax ay bx by_ cx cy dx dy)) := by
 rw [pc_eq]; simp +contextual -implicitDefEqProofs (maxSteps := 2000000) only [go_sem, ↓reduceIte, E_88, A88, c111, cutB]
 repeat' split
 all_goals (try simp_all)
 all_goals (try (intros; omega))
 all_goals (try rfl)
end Go.Proofs.Ytnecdcaaknhgpaa.G

namespace Go.Geo
open Go Go.Zv
abbrev Pt := Int × Int
def eds : List Pt → List (Pt × Pt)
 | [] => []
 | p :: t => (p :: t).zip (t ++ [p])
theorem eds_len (l : List Pt) : (eds l).length = l.length := by cases l <;> simp [eds]
theorem eds_get {l : List Pt} {k : Nat} {e : Pt × Pt} (h : (eds l)[k]? = some e) : k < l.length ∧ l[k]? = some e.1 ∧ l[(k + 1) % l.length]? = some e.2 := by
 cases l with
 | nil => simp [eds] at h
 | cons p t =>
   have hk : k < (eds (p :: t)).length := (List.getElem?_eq_some_iff.1 h).1
   rw [eds_len] at hk
   refine ⟨hk, ?_⟩
   simp only [eds] at h
   rw [List.getElem?_zip_eq_some] at h
   refine ⟨h.1, ?_⟩
   have h2 := h.2
   simp only [List.length_cons] at hk ⊢
   by_cases e1 : k = t.length
   ·subst e1
    rw [Nat.mod_self]
    rw [List.getElem?_append_right (by omega)] at h2
    simpa using h2
   ·rw [Nat.mod_eq_of_lt (by omega)]
    rw [List.getElem?_append_left (by omega)] at h2
    simpa using h2
theorem mod_nat {k n : Nat} (hk : k < n) (hn : n ≤ 1000000000) : (((k + 1 : Nat) : Int)).tmod (n : Int) = (((k + 1) % n : Nat) : Int) ∧ ¬ ((n : Int) = 0) ∧ ((n : Int) == 0) = false ∧ (0 : Int) ≤ (((k + 1) % n : Nat) : Int) ∧ (((k + 1) % n : Nat) : Int) < n := by
 have h := Nat.mod_lt (k + 1) (show n > 0 by omega)
 refine ⟨?_, by omega, by simp; omega, by omega, by omega⟩
 rw [Int.tmod_eq_emod_of_nonneg (by omega)]; rfl
theorem wr_k {k : Nat} (h : k ≤ 1000000000) : IntKind.i64.wrap (((k : Nat) : Int) + 1) = ((k + 1 : Nat) : Int) := wr_succ (by omega)
def arF (x : Int) (e : Pt × Pt) : Int := w64 (x + w64 (w64 (e.1.1 * e.2.2) - w64 (e.1.2 * e.2.1)))
def areaW (l : List Pt) : Int := (eds l).foldl arF 0
abbrev oriE (a b p : Pt) : Int := sgn (crW a.1 a.2 b.1 b.2 p.1 p.2)
def onE (p : Pt) (e : Pt × Pt) : Bool := onB e.1.1 e.1.2 e.2.1 e.2.2 p.1 p.2
def flE (p : Pt) (e : Pt × Pt) : Bool := (decide (p.2 < e.1.2) != decide (p.2 < e.2.2)) && (decide (0 < sgn (crW e.1.1 e.1.2 e.2.1 e.2.2 p.1 p.2)) == decide (e.1.2 < e.2.2))
def parF (p : Pt) (b : Bool) (e : Pt × Pt) : Bool := b != flE p e
def locI (l : List Pt) (p : Pt) : Int := if (eds l).any (onE p) = true then 0 else if (eds l).foldl (parF p) false = true then 1 else -1
end Go.Geo

namespace Go.Geo
open Go Go.Zv
def mayB (p : Pt) : Bool := decide (mxI p.1 p.2 ≤ 439400000) && decide (-439400000 ≤ mnI p.1 p.2)
def ptn (l : List Pt) (k : Nat) : Pt := l.getD (k % l.length) (0, 0)
def adjB (n i k : Nat) : Bool := decide (k = i) || (decide (k = (i + 1) % n) || decide (i = (k + 1) % n))
def cutE (e f : Pt × Pt) : Bool := cutB e.1.1 e.1.2 e.2.1 e.2.2 f.1.1 f.1.2 f.2.1 f.2.2
def edn (l : List Pt) (k : Nat) : Pt × Pt := (ptn l k, ptn l (k + 1))
def bad2 (l : List Pt) (i k : Nat) : Bool := !adjB l.length i k && cutE (edn l i) (edn l k)
def bad1 (l : List Pt) (i : Nat) : Bool := decide (oriE (ptn l i) (ptn l (i + 1)) (ptn l (i + 2)) = 0) || (List.range l.length).any (bad2 l i)
def simB (l : List Pt) : Bool := !(List.range l.length).any (bad1 l)
def valB (l : List Pt) : Bool := decide (3 ≤ l.length) && (decide (l.length ≤ 12) && (l.all mayB && (simB l && decide (0 < areaW l))))
theorem ptn_get {l : List Pt} {k : Nat} (h : k < l.length) : l[k]? = some (ptn l k) := by
 unfold ptn; rw [Nat.mod_eq_of_lt h, List.getElem?_eq_getElem h]; simp [List.getD, h]
theorem ptn_mod {l : List Pt} {k : Nat} (h : 0 < l.length) : l[k % l.length]? = some (ptn l k) := by
 have := ptn_get (l := l) (Nat.mod_lt k h)
 rw [this]; unfold ptn; rw [Nat.mod_mod]
theorem edn_get {l : List Pt} {k : Nat} (h : k < l.length) : (eds l)[k]? = some (edn l k) := by
 have hk : k < (eds l).length := by rw [eds_len]; exact h
 obtain ⟨e, he⟩ : ∃ e, (eds l)[k]? = some e := ⟨_, List.getElem?_eq_getElem hk⟩
 obtain ⟨_, h1, h2⟩ := eds_get he
 rw [ptn_get h] at h1
 rw [ptn_mod (by omega)] at h2
 simp only [Option.some.injEq] at h1 h2
 rw [he]; unfold edn; rw [h1, h2]
theorem range_get {n k : Nat} (h : k < n) : (List.range n)[k]? = some k := by simp [h]
end Go.Geo

namespace Go.Proofs.Ytnecdcaaknhgpaa.G
open Go Go.Zv
open Go.Geo
theorem c60 (x : List (List LV)) (h : LV.closeds [.vs x] = true) : pc E 60 [.vs x] = some (.fn (.func 89) [] [.fp [.vs x]]) := by
 rw [pc_eq]; simp +contextual -implicitDefEqProofs (maxSteps := 2000000) only [go_sem, ↓reduceIte, E_60, A60, h]
theorem cl_c2 (l : List Pt) : LV.closeds [.vs (l.map c2)] = true := rfl
theorem c60' (l : List Pt) : pc E 60 [.vs (l.map c2)] = some (.fn (.func 89) [] [.fp [.vs (l.map c2)]]) := c60 _ (cl_c2 l)
abbrev FR28 (l : List Pt) : Env := [(3, .ptr 768 0), (4, .ptr 1024 0), (5, .ptr 1280 0), (11, .fn (Fn.func 89) [] [.fp [.vs (l.map c2)]])]
theorem c33 (l : List Pt) (hl : l.length ≤ 1000000000) (px py : Int) : pc E 33 [.vs (l.map c2), .agg [.int .i64 px, .int .i64 py]] = some (.int .i64 (locI l (px, py))) := by
 have h57 := c60' l
 have lp := loop_leave (fun S => (K E A89_L0 S).bind (blockR 0 (some []) [3, 4, 24]))
  (fun k (x : Bool) => ⟨[(0, .yl 1024000), (1, .fp [.vs (l.map c2)]), (5, .vs (l.map c2)), (6, .int .i64 l.length), (7, .int .i64 k)], [FR28 l, [(0, .yl 1024000)]], [(1024000, .loop (FR28 l) [12, 13] A33_R0a A33_R0b LSt.ready AEx.nrm), (1280, .box [.bool x]), (1024, .box [.int .i64 0]), (768, .box [.int .i64 px, .int .i64 py])], 1⟩)
  (eds l) (parF (px, py)) (onE (px, py)) (fun o => ∃ (k : Int) (x : Bool), o = some (.ex .ret ⟨[(0, .yl 1024000), (1, .fp [.vs (l.map c2)]), (5, .vs (l.map c2)), (6, .int .i64 l.length), (7, .int .i64 k), (25, .bool true)], [FR28 l, [(0, .yl 1024000)]], [(1024000, .loop (FR28 l) [12, 13] A33_R0a A33_R0b LSt.done AEx.ret), (1280, .box [.bool x]), (1024, .box [.int .i64 0]), (768, .box [.int .i64 px, .int .i64 py])], 1⟩))
  (fun x => some (.ex .nrm ⟨[], [FR28 l, [(0, .yl 1024000)]], [(1024000, .loop (FR28 l) [12, 13] A33_R0a A33_R0b LSt.ready AEx.nrm), (1280, .box [.bool x]), (1024, .box [.int .i64 0]), (768, .box [.int .i64 px, .int .i64 py])], 1⟩))
  (fun x => by
   rw [eds_len]
   show (K E A89_L0 _).bind _ = _
   rw [A89_L0_eq]; simp +contextual -implicitDefEqProofs (maxSteps := 2000000) only [go_sem, ↓reduceIte, A89_L0b, Int.lt_irrefl])
  (fun k e x hk he => by
   obtain ⟨hk', g1, g2⟩ := eds_get he
   have g1 := get_c2 g1
   have g2 := get_c2 g2
   obtain ⟨m1, m2, m3, m4, m5⟩ := mod_nat hk' hl
   have hw := wr_k (k := k) (by omega)
   have h1 : (k : Int) < l.length := by omega
   have h0 : (0 : Int) ≤ k := by omega
   obtain ⟨⟨ax, ay⟩, ⟨bx, by_⟩⟩ := e
   have o1 := c61 ax ay bx by_ px py
   have o2 := c62 ax ay bx by_ px py
   refine ⟨fun hp => ⟨k, x, ?_⟩, fun hp => ?_⟩
   ·simp only [onE] at hp
    rw [hp] at o1
    show (K E A89_L0 _).bind _ = _
    rw [A89_L0_eq]
    simp +contextual -implicitDefEqProofs (maxSteps := 2000000) only [go_sem, ↓reduceIte, A89_L0b, A33_R0a, A33_R0b, List.length_map, h0, h1, g1, g2, m1, m2, m3, m4, m5, hw, o1]
   ·simp only [onE] at hp
    rw [hp] at o1
    show (K E A89_L0 _).bind _ = (K E A89_L0 _).bind _
    conv => lhs; rw [A89_L0_eq]
    simp only [parF, flE]
    generalize sgn (crW ax ay bx by_ px py) = s at *
    by_cases d1 : py < ay <;> by_cases d2 : py < by_ <;> by_cases d3 : 0 < s <;> by_cases d4 : ay < by_ <;> cases x <;>
     simp +contextual -implicitDefEqProofs (maxSteps := 2000000) only [go_sem, ↓reduceIte, A89_L0b, A33_R0a, A33_R0b, List.length_map, h0, h1, g1, g2, m1, m2, m3, m4, m5, hw, o1, o2, d1, d2, d3, d4, decide_true, decide_false, bne_self_eq_false, beq_self_eq_true, Bool.and_true, Bool.and_false])
  false
 simp only [Int.natCast_zero, Int.ofNat_zero] at lp
 unfold locI
 cases ha : (eds l).any (onE (px, py)) with
 | true =>
   obtain ⟨k, x, lq⟩ := lp.1 ha
   rw [pc_eq]; simp +contextual -implicitDefEqProofs (maxSteps := 2000000) only [go_sem, ↓reduceIte, E_33, A33, h57, E_89, A89, A33_R0, List.length_map, lq]
 | false =>
   have lq := lp.2 ha
   cases hb : (eds l).foldl (parF (px, py)) false <;> rw [hb] at lq <;> rw [pc_eq] <;> simp +contextual -implicitDefEqProofs (maxSteps := 2000000) only [go_sem, ↓reduceIte, E_33, A33, h57, E_89, A89, A33_R0, List.length_map, lq]
abbrev FR67 (l : List Pt) : Env := [(1, .ptr 256 0), (2, .ptr 512 0), (3, .ptr 768 0), (11, .fn (Fn.func 89) [] [.fp [.vs (l.map c2)]])]
abbrev FI67 (l : List Pt) : Env := [(2, .ptr 512 0), (3, .ptr 768 0), (4, .ptr 2098176 0), (5, .ptr 2098432 0), (28, .fn (Fn.func 89) [] [.fp [.vs (l.map c2)]])]
abbrev FF67 (l : List Pt) (k ax ay bx by_ k1 : Int) (k1m : Nat) : List Env := [FI67 l, [(0, .yl 3121153)], [(0, .yl 1024000)], [(23, .agg [.int .i64 ax, .int .i64 ay, .int .i64 bx, .int .i64 by_]), (22, .agg [.int .i64 bx, .int .i64 by_]), (21, .fp [.int .i64 bx, .int .i64 by_]), (20, .int .i64 k1m), (19, .int .i64 l.length), (18, .vs (l.map c2)), (17, .int .i64 k1), (16, .int .i64 k), (15, .vs (l.map c2)), (14, .agg [.int .i64 ax, .int .i64 ay]), (13, .int .i64 k), (12, .yl 1024000), (0, .yl 1024000), (1, .fp [.vs (l.map c2)]), (3, .int .i64 k), (4, .ptr 1049600 0), (5, .vs (l.map c2)), (6, .int .i64 l.length), (7, .int .i64 k)], FR67 l, [(0, .yl 1024000)]]
theorem wr_2 {k : Nat} (h : k ≤ 1000000000) : IntKind.i64.wrap (((k : Nat) : Int) + 2) = ((k + 2 : Nat) : Int) := by rw [wrap_small (by omega) (by omega)]; omega
end Go.Proofs.Ytnecdcaaknhgpaa.G

namespace Go.Geo
open Go Go.Zv
theorem eds_range (l : List Pt) : eds l = (List.range l.length).map (edn l) := by
 apply List.ext_getElem?
 intro i
 by_cases h : i < l.length
 ·rw [edn_get h, List.getElem?_map, range_get h]; rfl
 ·rw [List.getElem?_eq_none (by rw [eds_len]; omega), List.getElem?_eq_none (by simp; omega)]
def rotL (r : Nat) (l : List Pt) : List Pt := (List.range l.length).map fun i => ptn l (i + r)
end Go.Geo
