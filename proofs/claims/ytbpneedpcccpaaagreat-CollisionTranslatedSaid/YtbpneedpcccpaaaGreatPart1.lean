/- Part of the proof: the evaluation of the program's code and its tie to the machine, or what functions of the program compute over it. -/
import Derived.Test.YtbpneedpcccpaaaGreatEng6
set_option maxRecDepth 100000
set_option maxHeartbeats 4000000
set_option linter.unusedSimpArgs false
set_option linter.unusedVariables false
namespace Go.Proofs.YtbpneedpcccpaaaGreat
open Go Go.Zv
def A8_L0b : ACode :=
(.seq (
(.seq (
r_ [
m_ 65 14,
m_ 66 12,
s_ 67 (.len 0 (.t 66)),
b_ 68 .lss 65 67] [7,8,10,11,12,13,14,68] []) (
(.cond (.t 68) (
.skip) (
.exit 0))))) (
(.seq (
(.block 1 (
(.seq (
r_ [
m_ 71 12,
m_ 72 14,
s_ 73 (.ias 8 (.t 71) (.t 72)),
s_ 74 (.fad 0 (.t 73)),
l_ 75 true 4 74,
s_ 15 (.alloc [i0_,i0_,i0_,.nils 2]),
n_ (.store 4 (.t 15) (.t 75))] [7,8,10,11,12,13,14,15] []) (
(.seq (
r_ [
m_ 76 12,
m_ 77 14,
s_ 78 (.ias 8 (.t 76) (.t 77)),
s_ 79 (.fad 4 (.t 78)),
l_ 80 true 4 79,
s_ 16 (.alloc [i0_,i0_,i0_,.nils 2]),
n_ (.store 4 (.t 16) (.t 80))] [7,8,10,11,12,13,14,15,16] []) (
(.seq (
r_ [
s_ 81 (.fad 3 (.t 15)),
l_ 82 false 1 81,
l_ 83 true 2 10,
s_ 84 (.call 31 [.t 82,.t 83]),
s_ 85 (.fad 3 (.t 15)),
n_ (.store 1 (.t 85) (.t 84))] [7,8,10,11,12,13,14,15,16] []) (
(.seq (
r_ [
s_ 86 (.fad 3 (.t 16)),
l_ 87 false 1 86,
l_ 88 true 2 10,
s_ 89 (.call 31 [.t 87,.t 88]),
s_ 90 (.fad 3 (.t 16)),
n_ (.store 1 (.t 90) (.t 89))] [7,8,10,11,12,13,14,15,16] []) (
r_ [
m_ 91 13,
l_ 92 true 4 15,
l_ 93 true 4 16,
s_ 94 (.build [i0_,i0_,i0_,.nils 2,i0_,i0_,i0_,.nils 2] [(0,4,.t 92),(4,4,.t 93)]),
s_ 95 (.bsl 8 1 [i0_,i0_,i0_,.nils 2,i0_,i0_,i0_,.nils 2] [(0,.t 94)]),
s_ 96 (.app 8 (.t 91) (.t 95)),
s_ 13 (.as (.t 96))] [7,8,10,11,12,13,14] [15,16]))))))))) (some [7,8,10,11,12,13,14]) [15,16,84,89,95])) (
r_ [
m_ 69 14,
s_ 70 (.bin .add (.t 69) (.c (.z 1))),
s_ 14 (.as (.t 70))] [7,8,10,11,12,13,14] []))))
def A8_L0 : ACode:=.loop A8_L0b (some [7,8,10,11,12,13,14]) [15,16,84,89,95]
def A8 : AFn:=.code [.t 6] (
(.seq (
r_ [
s_ 3 (.box (.t 0)),
s_ 4 (.box (.t 1)),
s_ 5 (.box (.t 2)),
s_ 6 (.as (.c (.bool false)))] [3,4,5] []) (
(.seq (
r_ [
s_ 17 (.call 10 []),
s_ 7 (.as (.t 17))] [3,4,5,7] []) (
(.seq (
r_ [
l_ 19 true 44 3,
l_ 20 true 9 4,
s_ 21 (.call 15 [.t 19,.t 20]),
m_ 18 21,
s_ 22 (.ext (.t 18) 0),
s_ 23 (.ext (.t 18) 1),
s_ 8 (.alloc [i0_,i0_,i0_,i0_,i0_,i0_,i0_,i0_,.nils 1]),
n_ (.store 9 (.t 8) (.t 22)),
s_ 9 (.as (.t 23))] [3,5,7,8,9] [4]) (
(.seq (
(.seq (
r_ [
m_ 24 9,
s_ 25 (.un .not (.t 24))] [3,5,7,8,25] []) (
(.cond (.t 25) (
(.seq (
r_ [
m_ 26 7,
s_ 6 (.as (.t 26))] [6] []) (
.ret))) (
.skip))))) (
(.seq (
r_ [
s_ 27 (.iaa 2 1 (.t 5) (.c (i0_))),
l_ 28 false 1 27,
s_ 29 (.conv .i64 (.t 28)),
s_ 30 (.bin .mul (.c (.z 65536)) (.t 29)),
s_ 31 (.iaa 2 1 (.t 5) (.c (.z 1))),
l_ 32 false 1 31,
s_ 33 (.conv .i64 (.t 32)),
s_ 34 (.bin .mul (.c (.z 65536)) (.t 33)),
s_ 35 (.build [i0_,i0_] [(0,1,.t 30),(1,1,.t 34)]),
s_ 10 (.alloc [i0_,i0_]),
n_ (.store 2 (.t 10) (.t 35))] [3,7,8,10] [5]) (
(.seq (
r_ [
s_ 36 (.fad 0 (.t 10)),
l_ 37 false 1 36,
s_ 38 (.bin .rem (.t 37) (.c (.z 100000000))),
s_ 39 (.bin .quo (.t 38) (.c (.z 16))),
s_ 40 (.bin .mul (.t 39) (.c (.z 16))),
s_ 41 (.fad 0 (.t 10)),
n_ (.store 1 (.t 41) (.t 40))] [3,7,8,10] []) (
(.seq (
r_ [
s_ 42 (.fad 1 (.t 10)),
l_ 43 false 1 42,
s_ 44 (.bin .rem (.t 43) (.c (.z 100000000))),
s_ 45 (.bin .quo (.t 44) (.c (.z 16))),
s_ 46 (.bin .mul (.t 45) (.c (.z 16))),
s_ 47 (.fad 1 (.t 10)),
n_ (.store 1 (.t 47) (.t 46))] [3,7,8,10] []) (
(.seq (
r_ [
l_ 48 true 44 3,
l_ 49 true 2 10,
s_ 50 (.call 30 [.t 48,.t 49]),
s_ 11 (.alloc [i0_,i0_,i0_,i0_,i0_,i0_,i0_,i0_,i0_,i0_,i0_,i0_,i0_,i0_,i0_,i0_,i0_,i0_,i0_,i0_,i0_,i0_,i0_,i0_,i0_,i0_,i0_,i0_,i0_,i0_,.nils 1,.nils 6,.nils 3,.nils 1,i0_,i0_,i0_,i0_,i0_,i0_,i0_,.nils 1,i0_,i0_]),
n_ (.store 44 (.t 11) (.t 50))] [3,7,8,10,11] []) (
(.seq (
(.seq (
r_ [
l_ 51 true 44 11,
s_ 52 (.call 12 [.t 51]),
s_ 53 (.un .not (.t 52)),
m_ 54 53,
f_ 55 54 (.load true 44 (.t 11)),
f_ 56 54 (.load true 9 (.t 8)),
f_ 57 54 (.call 14 [.t 55,.t 56]),
f_ 58 54 (.un .not (.t 57)),
s_ 59 (.pick (.t 54) (.c (.bool true)) (.t 58))] [3,7,8,10,11,59] []) (
(.cond (.t 59) (
(.seq (
r_ [
m_ 60 7,
s_ 6 (.as (.t 60))] [6] []) (
.ret))) (
.skip))))) (
(.seq (
r_ [
l_ 61 true 44 3,
l_ 62 true 9 8,
s_ 63 (.call 21 [.t 61,.t 62]),
s_ 12 (.as (.t 63))] [7,8,10,11,12] [3]) (
(.seq (
r_ [
s_ 64 (.bsl 8 0 [i0_,i0_,i0_,.nils 2,i0_,i0_,i0_,.nils 2] []),
s_ 13 (.as (.t 64))] [7,8,10,11,12,13] []) (
(.seq (
(.seq (
r_ [
s_ 14 (.as (.c (i0_)))] [7,8,10,11,12,13,14] []) (
(.block 0 (
A8_L0) (some [7,8,11,13]) [14,15,16,84,89,95])))) (
(.seq (
r_ [
m_ 97 7,
m_ 98 97,
t_ 99 98 (.load true 44 (.t 11)),
t_ 100 98 (.load true 9 (.t 8)),
t_ 101 98 (.call 13 [.t 99,.t 100]),
s_ 102 (.pick (.t 98) (.t 101) (.c (.bool false))),
m_ 103 102,
t_ 104 103 (.load true 44 (.t 11)),
t_ 105 103 (.load true 9 (.t 8)),
t_ 106 103 (.call 21 [.t 104,.t 105]),
t_ 107 103 (.mv (.t 13)),
t_ 108 103 (.call 18 [.t 106,.t 107]),
s_ 109 (.pick (.t 103) (.t 108) (.c (.bool false))),
s_ 6 (.as (.t 109))] [6] [8,11]) (
.ret)))))))))))))))))))))))))))
def A10 : AFn:=.code [.t 0] (
(.seq (
r_ [
s_ 0 (.as (.c (.bool false)))] [] []) (
(.seq (
r_ [
s_ 8 (.call 33 []),
s_ 1 (.alloc [i0_,i0_,i0_,i0_,i0_,i0_,i0_,i0_,i0_,i0_,i0_,i0_,i0_,i0_,i0_,i0_,i0_,i0_,i0_,i0_,i0_,i0_,i0_,i0_,i0_,i0_,i0_,i0_,i0_,i0_,.nils 1,.nils 6,.nils 3,.nils 1,i0_,i0_,i0_,i0_,i0_,i0_,i0_,.nils 1,i0_,i0_]),
n_ (.store 44 (.t 1) (.t 8))] [1] []) (
(.seq (
r_ [
l_ 9 true 44 1,
s_ 10 (.call 34 [.t 9]),
s_ 2 (.alloc [i0_,i0_,i0_,i0_,i0_,i0_,i0_,i0_,.nils 1]),
n_ (.store 9 (.t 2) (.t 10))] [1,2] []) (
(.seq (
r_ [
l_ 11 true 9 2,
s_ 3 (.alloc [i0_,i0_,i0_,i0_,i0_,i0_,i0_,i0_,.nils 1]),
n_ (.store 9 (.t 3) (.t 11))] [1,2,3] []) (
(.seq (
r_ [
s_ 12 (.build [i0_,i0_,i0_] [(0,1,.c (i0_)),(1,1,.c (i0_)),(2,1,.c (i0_))]),
s_ 13 (.fad 0 (.t 3)),
s_ 14 (.iaa 2 3 (.t 13) (.c (i0_))),
n_ (.store 3 (.t 14) (.t 12))] [1,2,3] []) (
(.seq (
r_ [
l_ 15 true 44 1,
l_ 16 true 9 2,
s_ 17 (.call 16 [.t 15,.t 16]),
s_ 4 (.as (.t 17))] [1,2,3,4] []) (
(.seq (
r_ [
l_ 18 true 44 1,
l_ 19 true 9 3,
s_ 20 (.call 21 [.t 18,.t 19]),
s_ 5 (.as (.t 20))] [1,2,3,4,5] []) (
(.seq (
r_ [
l_ 21 true 44 1,
l_ 22 true 9 2,
s_ 23 (.call 19 [.t 21,.t 22]),
s_ 6 (.as (.t 23))] [1,2,3,4,5,6] []) (
(.seq (
r_ [
l_ 24 true 9 2,
s_ 7 (.alloc [i0_,i0_,i0_,i0_,i0_,i0_,i0_,i0_,.nils 1]),
n_ (.store 9 (.t 7) (.t 24))] [1,2,3,4,5,6,7] []) (
(.seq (
r_ [
s_ 25 (.fad 8 (.t 7)),
n_ (.store 1 (.t 25) (.c (.nils 1)))] [1,2,3,4,5,6,7] []) (
(.seq (
(.seq (
r_ [
m_ 26 4,
s_ 27 (.len 0 (.t 26)),
s_ 28 (.bin .neq (.t 27) (.c (.z 8))),
m_ 29 28,
f_ 30 29 (.mv (.t 5)),
f_ 31 29 (.len 0 (.t 30)),
f_ 32 29 (.bin .neq (.t 31) (.c (.z 1))),
s_ 33 (.pick (.t 29) (.c (.bool true)) (.t 32)),
m_ 34 33,
f_ 35 34 (.mv (.t 6)),
f_ 36 34 (.len 0 (.t 35)),
f_ 37 34 (.bin .neq (.t 36) (.c (.z 21))),
s_ 38 (.pick (.t 34) (.c (.bool true)) (.t 37))] [1,2,3,4,5,6,7,38] []) (
(.cond (.t 38) (
(.seq (
r_ [
s_ 0 (.as (.c (.bool false)))] [0] []) (
.ret))) (
.skip))))) (
(.seq (
r_ [
l_ 39 true 44 1,
l_ 40 true 9 2,
s_ 41 (.call 13 [.t 39,.t 40]),
m_ 42 41,
t_ 43 42 (.load true 44 (.t 1)),
t_ 44 42 (.load true 9 (.t 2)),
t_ 45 42 (.call 23 [.t 43,.t 44]),
s_ 46 (.pick (.t 42) (.t 45) (.c (.bool false))),
m_ 47 46,
t_ 48 47 (.load true 44 (.t 1)),
t_ 49 47 (.load true 9 (.t 3)),
t_ 50 47 (.call 23 [.t 48,.t 49]),
t_ 51 47 (.un .not (.t 50)),
s_ 52 (.pick (.t 47) (.t 51) (.c (.bool false))),
m_ 53 52,
t_ 54 53 (.mv (.t 4)),
t_ 55 53 (.ias 4 (.t 54) (.c (.z 6))),
t_ 56 53 (.fad 0 (.t 55)),
t_ 57 53 (.load false 1 (.t 56)),
t_ 58 53 (.bin .eql (.t 57) (.c (.z 3))),
s_ 59 (.pick (.t 53) (.t 58) (.c (.bool false))),
m_ 60 59,
t_ 61 60 (.mv (.t 4)),
t_ 62 60 (.ias 4 (.t 61) (.c (.z 7))),
t_ 63 60 (.fad 0 (.t 62)),
t_ 64 60 (.load false 1 (.t 63)),
t_ 65 60 (.bin .eql (.t 64) (.c (.z 4))),
s_ 66 (.pick (.t 60) (.t 65) (.c (.bool false))),
m_ 67 66,
t_ 68 67 (.mv (.t 5)),
t_ 69 67 (.ias 8 (.t 68) (.c (i0_))),
t_ 70 67 (.fad 0 (.t 69)),
t_ 71 67 (.load true 4 (.t 70)),
t_ 72 67 (.build [i0_,i0_,i0_,.nils 2] [(0,1,.c (.z 1)),(2,1,.c (.z 2))]),
t_ 73 67 (.call 28 [.t 71,.t 72]),
s_ 74 (.pick (.t 67) (.t 73) (.c (.bool false))),
m_ 75 74,
t_ 76 75 (.mv (.t 5)),
t_ 77 75 (.ias 8 (.t 76) (.c (i0_))),
t_ 78 75 (.fad 4 (.t 77)),
t_ 79 75 (.load true 4 (.t 78)),
t_ 80 75 (.build [i0_,i0_,i0_,.nils 2] [(0,1,.c (.z 4))]),
t_ 81 75 (.call 28 [.t 79,.t 80]),
s_ 82 (.pick (.t 75) (.t 81) (.c (.bool false))),
m_ 83 82,
t_ 84 83 (.load true 44 (.t 1)),
t_ 85 83 (.load true 9 (.t 7)),
t_ 86 83 (.call 13 [.t 84,.t 85]),
t_ 87 83 (.un .not (.t 86)),
s_ 88 (.pick (.t 83) (.t 87) (.c (.bool false))),
m_ 89 88,
t_ 90 89 (.mv (.t 6)),
t_ 91 89 (.ias 8 (.t 90) (.c (i0_))),
t_ 92 89 (.fad 0 (.t 91)),
t_ 93 89 (.load true 4 (.t 92)),
t_ 94 89 (.build [i0_,i0_,i0_,.nils 2] [(0,1,.c (.z 1))]),
t_ 95 89 (.call 28 [.t 93,.t 94]),
s_ 96 (.pick (.t 89) (.t 95) (.c (.bool false))),
m_ 97 96,
t_ 98 97 (.mv (.t 6)),
t_ 99 97 (.ias 8 (.t 98) (.c (i0_))),
t_ 100 97 (.fad 4 (.t 99)),
t_ 101 97 (.load true 4 (.t 100)),
t_ 102 97 (.build [i0_,i0_,i0_,.nils 2] [(0,1,.c (.z 1)),(2,1,.c (.z 2))]),
t_ 103 97 (.call 28 [.t 101,.t 102]),
s_ 104 (.pick (.t 97) (.t 103) (.c (.bool false))),
s_ 0 (.as (.t 104))] [0] [1,2,3,7]) (
.ret)))))))))))))))))))))))))
def A11_L0b : ACode :=
(.seq (
(.seq (
r_ [
m_ 89 6,
s_ 90 (.fad 31 (.t 1)),
l_ 91 false 1 90,
s_ 92 (.len 0 (.t 91)),
b_ 93 .lss 89 92] [1,6,93] []) (
(.cond (.t 93) (
.skip) (
.exit 6))))) (
(.seq (
(.block 7 (
(.seq (
r_ [
s_ 96 (.fad 31 (.t 1)),
l_ 97 false 1 96,
m_ 98 6,
s_ 99 (.ias 6 (.t 97) (.t 98)),
s_ 100 (.fad 0 (.t 99)),
l_ 101 false 1 100,
s_ 102 (.len 1 (.t 101)),
s_ 103 (.bin .gtr (.t 102) (.c (.z 100)))] [1,6,103] []) (
(.cond (.t 103) (
(.seq (
r_ [
s_ 2 (.as (.c (.bool true)))] [2] []) (
.ret))) (
.skip))))) (some [1,6]) [2])) (
r_ [
m_ 94 6,
s_ 95 (.bin .add (.t 94) (.c (.z 1))),
s_ 6 (.as (.t 95))] [1,6] []))))
def A11_L0 : ACode:=.loop A11_L0b (some [1,6]) [2]
def A11_L1b : ACode :=
(.seq (
(.seq (
r_ [
m_ 64 5,
s_ 65 (.fad 32 (.t 1)),
l_ 66 false 1 65,
s_ 67 (.len 0 (.t 66)),
b_ 68 .lss 64 67] [1,5,68] []) (
(.cond (.t 68) (
.skip) (
.exit 4))))) (
(.seq (
(.block 5 (
(.seq (
r_ [
s_ 71 (.fad 32 (.t 1)),
l_ 72 false 1 71,
m_ 73 5,
s_ 74 (.ias 3 (.t 72) (.t 73)),
s_ 75 (.fad 1 (.t 74)),
l_ 76 false 1 75,
s_ 77 (.len 0 (.t 76)),
s_ 78 (.bin .gtr (.t 77) (.c (.z 20))),
m_ 79 78,
f_ 80 79 (.fad 32 (.t 1)),
f_ 81 79 (.load false 1 (.t 80)),
f_ 82 79 (.mv (.t 5)),
f_ 83 79 (.ias 3 (.t 81) (.t 82)),
f_ 84 79 (.fad 0 (.t 83)),
f_ 85 79 (.load false 1 (.t 84)),
f_ 86 79 (.len 1 (.t 85)),
f_ 87 79 (.bin .gtr (.t 86) (.c (.z 100))),
s_ 88 (.pick (.t 79) (.c (.bool true)) (.t 87))] [1,5,88] []) (
(.cond (.t 88) (
(.seq (
r_ [
s_ 2 (.as (.c (.bool true)))] [2] []) (
.ret))) (
.skip))))) (some [1,5]) [2])) (
r_ [
m_ 69 5,
s_ 70 (.bin .add (.t 69) (.c (.z 1))),
s_ 5 (.as (.t 70))] [1,5] []))))
def A11_L1 : ACode:=.loop A11_L1b (some [1,5]) [2]
def A11_L2b : ACode :=
(.seq (
(.seq (
r_ [
m_ 49 4,
s_ 50 (.fad 41 (.t 1)),
l_ 51 false 1 50,
s_ 52 (.len 0 (.t 51)),
b_ 53 .lss 49 52] [1,4,53] []) (
(.cond (.t 53) (
.skip) (
.exit 2))))) (
(.seq (
(.block 3 (
(.seq (
r_ [
s_ 56 (.fad 41 (.t 1)),
l_ 57 false 1 56,
m_ 58 4,
s_ 59 (.ias 1 (.t 57) (.t 58)),
s_ 60 (.fad 0 (.t 59)),
l_ 61 false 1 60,
s_ 62 (.len 0 (.t 61)),
s_ 63 (.bin .gtr (.t 62) (.c (.z 20)))] [1,4,63] []) (
(.cond (.t 63) (
(.seq (
r_ [
s_ 2 (.as (.c (.bool true)))] [2] []) (
.ret))) (
.skip))))) (some [1,4]) [2])) (
r_ [
m_ 54 4,
s_ 55 (.bin .add (.t 54) (.c (.z 1))),
s_ 4 (.as (.t 55))] [1,4] []))))
def A11_L2 : ACode:=.loop A11_L2b (some [1,4]) [2]
def A11_L3b : ACode :=
(.seq (
(.seq (
r_ [
m_ 35 3,
s_ 36 (.fad 30 (.t 1)),
l_ 37 false 1 36,
s_ 38 (.len 0 (.t 37)),
b_ 39 .lss 35 38] [1,3,39] []) (
(.cond (.t 39) (
.skip) (
.exit 0))))) (
(.seq (
(.block 1 (
(.seq (
r_ [
s_ 42 (.fad 30 (.t 1)),
l_ 43 false 1 42,
m_ 44 3,
s_ 45 (.ias 1 (.t 43) (.t 44)),
l_ 46 false 1 45,
s_ 47 (.len 0 (.t 46)),
s_ 48 (.bin .gtr (.t 47) (.c (.z 20)))] [1,3,48] []) (
(.cond (.t 48) (
(.seq (
r_ [
s_ 2 (.as (.c (.bool true)))] [2] []) (
.ret))) (
.skip))))) (some [1,3]) [2])) (
r_ [
m_ 40 3,
s_ 41 (.bin .add (.t 40) (.c (.z 1))),
s_ 3 (.as (.t 41))] [1,3] []))))
def A11_L3 : ACode:=.loop A11_L3b (some [1,3]) [2]
def A11 : AFn:=.code [.t 2] (
(.seq (
r_ [
s_ 1 (.box (.t 0)),
s_ 2 (.as (.c (.bool false)))] [1] []) (
(.seq (
(.seq (
r_ [
s_ 7 (.fad 30 (.t 1)),
l_ 8 false 1 7,
s_ 9 (.len 0 (.t 8)),
s_ 10 (.bin .gtr (.t 9) (.c (.z 20))),
m_ 11 10,
f_ 12 11 (.fad 31 (.t 1)),
f_ 13 11 (.load false 1 (.t 12)),
f_ 14 11 (.len 0 (.t 13)),
f_ 15 11 (.bin .gtr (.t 14) (.c (.z 20))),
s_ 16 (.pick (.t 11) (.c (.bool true)) (.t 15)),
m_ 17 16,
f_ 18 17 (.fad 32 (.t 1)),
f_ 19 17 (.load false 1 (.t 18)),
f_ 20 17 (.len 0 (.t 19)),
f_ 21 17 (.bin .gtr (.t 20) (.c (.z 20))),
s_ 22 (.pick (.t 17) (.c (.bool true)) (.t 21)),
m_ 23 22,
f_ 24 23 (.fad 33 (.t 1)),
f_ 25 23 (.load false 1 (.t 24)),
f_ 26 23 (.len 0 (.t 25)),
f_ 27 23 (.bin .gtr (.t 26) (.c (.z 30))),
s_ 28 (.pick (.t 23) (.c (.bool true)) (.t 27)),
m_ 29 28,
f_ 30 29 (.fad 41 (.t 1)),
f_ 31 29 (.load false 1 (.t 30)),
f_ 32 29 (.len 0 (.t 31)),
f_ 33 29 (.bin .gtr (.t 32) (.c (.z 20))),
s_ 34 (.pick (.t 29) (.c (.bool true)) (.t 33))] [1,34] []) (
(.cond (.t 34) (
(.seq (
r_ [
s_ 2 (.as (.c (.bool true)))] [2] []) (
.ret))) (
.skip))))) (
(.seq (
(.seq (
r_ [
s_ 3 (.as (.c (i0_)))] [1,3] []) (
(.block 0 (
A11_L3) (some [1]) [2,3])))) (
(.seq (
(.seq (
r_ [
s_ 4 (.as (.c (i0_)))] [1,4] []) (
(.block 2 (
A11_L2) (some [1]) [2,4])))) (
(.seq (
(.seq (
r_ [
s_ 5 (.as (.c (i0_)))] [1,5] []) (
(.block 4 (
A11_L1) (some [1]) [2,5])))) (
(.seq (
(.seq (
r_ [
s_ 6 (.as (.c (i0_)))] [1,6] []) (
(.block 6 (
A11_L0) (some []) [2,6])))) (
(.seq (
r_ [
s_ 2 (.as (.c (.bool false)))] [2] []) (
.ret)))))))))))))))
def A12_L0b : ACode :=
(.seq (
(.seq (
r_ [
m_ 7 3,
s_ 8 (.bin .lss (.t 7) (.c (.z 2)))] [1,3,8] []) (
(.cond (.t 8) (
.skip) (
.exit 0))))) (
(.seq (
(.block 1 (
(.seq (
r_ [
m_ 11 3,
s_ 12 (.fad 0 (.t 1)),
s_ 13 (.iaa 2 12 (.t 12) (.t 11)),
l_ 14 true 12 13,
s_ 4 (.alloc [i0_,i0_,i0_,i0_,i0_,i0_,i0_,i0_,i0_,i0_,i0_,i0_]),
n_ (.store 12 (.t 4) (.t 14))] [1,3,4] []) (
(.seq (
(.seq (
.reg (some [.free,.free,.free,.free,.dr [23] [],.dr [19] [],.dr [19] [],.dr [19] [],.dr [19] [],.free,.free,.free]) [
l_ 15 true 12 4,
s_ 16 (.call 35 [.t 15]),
s_ 17 (.un .not (.t 16)),
m_ 18 17,
f_ 19 18 (.load true 12 (.t 4)),
f_ 20 18 (.mv (.t 3)),
f_ 21 18 (.fad 24 (.t 1)),
f_ 22 18 (.iaa 2 3 (.t 21) (.t 20)),
f_ 23 18 (.load true 3 (.t 22)),
f_ 24 18 (.call 36 [.t 19,.t 23]),
f_ 25 18 (.un .not (.t 24)),
s_ 26 (.pick (.t 18) (.c (.bool true)) (.t 25))] (some [1,3,4,26]) []) (
(.cond (.t 26) (
(.seq (
r_ [
s_ 2 (.as (.c (.bool false)))] [2] []) (
.ret))) (
.skip))))) (
(.seq (
r_ [
s_ 27 (.fad 2 (.t 4)),
s_ 28 (.iaa 3 1 (.t 27) (.c (i0_))),
l_ 29 false 1 28,
s_ 30 (.fad 2 (.t 4)),
s_ 31 (.iaa 3 1 (.t 30) (.c (.z 1))),
l_ 32 false 1 31,
b_ 33 .add 29 32,
s_ 34 (.fad 2 (.t 4)),
s_ 35 (.iaa 3 1 (.t 34) (.c (.z 2))),
l_ 36 false 1 35,
b_ 37 .add 33 36,
s_ 38 (.bin .add (.t 37) (.c (.z 15))),
s_ 39 (.bin .mul (.c (.z 39546000)) (.t 38)),
s_ 5 (.as (.t 39))] [1,3,4,5] []) (
(.seq (
r_ [
s_ 40 (.fad 0 (.t 4)),
s_ 41 (.fad 0 (.t 40)),
l_ 42 false 1 41,
s_ 43 (.fad 0 (.t 4)),
s_ 44 (.fad 0 (.t 43)),
l_ 45 false 1 44,
s_ 46 (.un .neg (.t 45)),
s_ 47 (.mx [.t 42,.t 46]),
s_ 48 (.bin .mul (.c (.z 8)) (.t 47)),
m_ 49 5,
b_ 50 .add 48 49,
s_ 51 (.bin .gtr (.t 50) (.c (.z 3515200000))),
m_ 52 51,
f_ 53 52 (.fad 0 (.t 4)),
f_ 54 52 (.fad 1 (.t 53)),
f_ 55 52 (.load false 1 (.t 54)),
f_ 56 52 (.fad 0 (.t 4)),
f_ 57 52 (.fad 1 (.t 56)),
f_ 58 52 (.load false 1 (.t 57)),
f_ 59 52 (.un .neg (.t 58)),
f_ 60 52 (.mx [.t 55,.t 59]),
f_ 61 52 (.bin .mul (.c (.z 8)) (.t 60)),
f_ 62 52 (.mv (.t 5)),
f_ 63 52 (.bin .add (.t 61) (.t 62)),
f_ 64 52 (.bin .gtr (.t 63) (.c (.z 3515200000))),
s_ 65 (.pick (.t 52) (.c (.bool true)) (.t 64))] [1,3,65] [4]) (
(.cond (.t 65) (
(.seq (
r_ [
s_ 2 (.as (.c (.bool false)))] [2] []) (
.ret))) (
.skip))))))))))) (some [1,3]) [2,4,5,16,24])) (
r_ [
m_ 9 3,
s_ 10 (.bin .add (.t 9) (.c (.z 1))),
s_ 3 (.as (.t 10))] [1,3] []))))
def A12_L0 : ACode:=.loop A12_L0b (some [1,3]) [2,4,5,16,24]
def A12 : AFn:=.code [.t 2] (
(.seq (
r_ [
s_ 1 (.box (.t 0)),
s_ 2 (.as (.c (.bool false)))] [1] []) (
(.seq (
(.seq (
r_ [
s_ 3 (.as (.c (i0_)))] [1,3] []) (
(.block 0 (
A12_L0) (some [1]) [2,3,4,5,16,24])))) (
(.seq (
(.seq (
r_ [
s_ 66 (.fad 31 (.t 1)),
l_ 67 false 1 66,
s_ 68 (.len 0 (.t 67)),
s_ 69 (.bin .gtr (.t 68) (.c (.z 16))),
m_ 70 69,
f_ 71 70 (.fad 32 (.t 1)),
f_ 72 70 (.load false 1 (.t 71)),
f_ 73 70 (.len 0 (.t 72)),
f_ 74 70 (.bin .gtr (.t 73) (.c (.z 8))),
s_ 75 (.pick (.t 70) (.c (.bool true)) (.t 74)),
m_ 76 75,
f_ 77 76 (.fad 33 (.t 1)),
f_ 78 76 (.load false 1 (.t 77)),
f_ 79 76 (.len 0 (.t 78)),
f_ 80 76 (.bin .gtr (.t 79) (.c (.z 16))),
s_ 81 (.pick (.t 76) (.c (.bool true)) (.t 80))] [1,81] []) (
(.cond (.t 81) (
(.seq (
r_ [
s_ 2 (.as (.c (.bool false)))] [2] []) (
.ret))) (
.skip))))) (
(.seq (
r_ [
s_ 82 (.fad 35 (.t 1)),
l_ 83 true 3 82,
s_ 84 (.call 37 [.t 83]),
m_ 85 84,
t_ 86 85 (.fad 38 (.t 1)),
t_ 87 85 (.load true 3 (.t 86)),
t_ 88 85 (.call 37 [.t 87]),
s_ 89 (.pick (.t 85) (.t 88) (.c (.bool false))),
m_ 90 89,
t_ 91 90 (.fad 38 (.t 1)),
t_ 92 90 (.fad 0 (.t 91)),
t_ 93 90 (.load false 1 (.t 92)),
t_ 94 90 (.fad 35 (.t 1)),
t_ 95 90 (.fad 0 (.t 94)),
t_ 96 90 (.load false 1 (.t 95)),
t_ 97 90 (.bin .leq (.t 93) (.t 96)),
s_ 98 (.pick (.t 90) (.t 97) (.c (.bool false))),
m_ 99 98,
t_ 100 99 (.fad 38 (.t 1)),
t_ 101 99 (.fad 1 (.t 100)),
t_ 102 99 (.load false 1 (.t 101)),
t_ 103 99 (.fad 35 (.t 1)),
t_ 104 99 (.fad 1 (.t 103)),
t_ 105 99 (.load false 1 (.t 104)),
t_ 106 99 (.bin .leq (.t 102) (.t 105)),
s_ 107 (.pick (.t 99) (.t 106) (.c (.bool false))),
m_ 108 107,
t_ 109 108 (.fad 38 (.t 1)),
t_ 110 108 (.fad 2 (.t 109)),
t_ 111 108 (.load false 1 (.t 110)),
t_ 112 108 (.fad 35 (.t 1)),
t_ 113 108 (.fad 2 (.t 112)),
t_ 114 108 (.load false 1 (.t 113)),
t_ 115 108 (.bin .leq (.t 111) (.t 114)),
s_ 116 (.pick (.t 108) (.t 115) (.c (.bool false))),
s_ 6 (.as (.t 116))] [1,6] []) (
(.seq (
r_ [
s_ 117 (.fad 30 (.t 1)),
l_ 118 false 1 117,
s_ 119 (.call 38 [.t 118]),
m_ 120 119,
t_ 121 120 (.load true 44 (.t 1)),
t_ 122 120 (.call 39 [.t 121]),
t_ 123 120 (.call 38 [.t 122]),
s_ 124 (.pick (.t 120) (.t 123) (.c (.bool false))),
m_ 125 124,
t_ 126 125 (.fad 31 (.t 1)),
t_ 127 125 (.load false 1 (.t 126)),
t_ 128 125 (.call 40 [.t 127]),
s_ 129 (.pick (.t 125) (.t 128) (.c (.bool false))),
m_ 130 129,
t_ 131 130 (.fad 32 (.t 1)),
t_ 132 130 (.load false 1 (.t 131)),
t_ 133 130 (.fad 31 (.t 1)),
t_ 134 130 (.load false 1 (.t 133)),
t_ 135 130 (.len 0 (.t 134)),
t_ 136 130 (.call 41 [.t 132,.t 135]),
s_ 137 (.pick (.t 130) (.t 136) (.c (.bool false))),
m_ 138 137,
t_ 139 138 (.fad 33 (.t 1)),
t_ 140 138 (.load false 1 (.t 139)),
t_ 141 138 (.fad 31 (.t 1)),
t_ 142 138 (.load false 1 (.t 141)),
t_ 143 138 (.len 0 (.t 142)),
t_ 144 138 (.call 42 [.t 140,.t 143]),
s_ 145 (.pick (.t 138) (.t 144) (.c (.bool false))),
m_ 146 145,
t_ 147 146 (.fad 34 (.t 1)),
t_ 148 146 (.load false 1 (.t 147)),
t_ 149 146 (.bin .geq (.t 148) (.c (i0_))),
s_ 150 (.pick (.t 146) (.t 149) (.c (.bool false))),
m_ 151 150,
t_ 152 151 (.fad 34 (.t 1)),
t_ 153 151 (.load false 1 (.t 152)),
t_ 154 151 (.bin .leq (.t 153) (.c (.z 100))),
s_ 155 (.pick (.t 151) (.t 154) (.c (.bool false))),
m_ 156 155,
t_ 157 156 (.mv (.t 6)),
s_ 158 (.pick (.t 156) (.t 157) (.c (.bool false))),
m_ 159 158,
t_ 160 159 (.fad 42 (.t 1)),
t_ 161 159 (.load false 1 (.t 160)),
t_ 162 159 (.bin .geq (.t 161) (.c (i0_))),
s_ 163 (.pick (.t 159) (.t 162) (.c (.bool false))),
m_ 164 163,
t_ 165 164 (.fad 42 (.t 1)),
t_ 166 164 (.load false 1 (.t 165)),
t_ 167 164 (.bin .leq (.t 166) (.c (.z 20))),
s_ 168 (.pick (.t 164) (.t 167) (.c (.bool false))),
m_ 169 168,
t_ 170 169 (.fad 43 (.t 1)),
t_ 171 169 (.load false 1 (.t 170)),
t_ 172 169 (.bin .geq (.t 171) (.c (.z 1))),
s_ 173 (.pick (.t 169) (.t 172) (.c (.bool false))),
m_ 174 173,
t_ 175 174 (.fad 43 (.t 1)),
t_ 176 174 (.load false 1 (.t 175)),
t_ 177 174 (.bin .leq (.t 176) (.c (.z 8))),
s_ 178 (.pick (.t 174) (.t 177) (.c (.bool false))),
s_ 2 (.as (.t 178))] [2] [1]) (
.ret)))))))))))
def A13_L0b : ACode :=
(.seq (
r_ [
b_ 36 .lss 35 34] [4,33,34,35,36] []) (
(.seq (
(.cond (.t 36) (
.skip) (
.exit 4))) (
(.seq (
(.block 5 (
(.seq (
r_ [
s_ 37 (.ias 2 (.t 33) (.t 35)),
l_ 38 true 2 37,
s_ 9 (.alloc [i0_,i0_]),
n_ (.store 2 (.t 9) (.t 38))] [4,9,33,34,35] []) (
(.seq (
r_ [
s_ 39 (.fad 0 (.t 9)),
l_ 40 false 1 39,
s_ 41 (.call 46 [.t 40,.c (.z (-439400000)),.c (.z 439400000)]),
s_ 42 (.un .not (.t 41)),
m_ 43 42,
f_ 44 43 (.fad 1 (.t 9)),
f_ 45 43 (.load false 1 (.t 44)),
f_ 46 43 (.call 46 [.t 45,.c (.z (-439400000)),.c (.z 439400000)]),
f_ 47 43 (.un .not (.t 46)),
s_ 48 (.pick (.t 43) (.c (.bool true)) (.t 47))] [4,33,34,35,48] [9]) (
(.cond (.t 48) (
(.seq (
r_ [
n_ (.store 1 (.t 4) (.c (.bool false)))] [] []) (
.ret))) (
.skip))))))) (some [4,33,34,35]) [9,41,46])) (
r_ [
s_ 49 (.bin .add (.t 35) (.c (.z 1))),
m_ 35 49] [4,33,34,35] []))))))
def A13_L0 : ACode:=.loop A13_L0b (some [4,33,34,35]) [9,41,46]
def A13_R1a : ACode :=
r_ [
s_ 7 (.alloc [i0_,i0_,i0_,.nils 2]),
n_ (.store 4 (.t 7) (.t 31))] [4,7] []
def A13_R1b : ACode :=
(.block 3 (
(.seq (
r_ [
s_ 32 (.fad 3 (.t 7)),
l_ 33 false 1 32,
s_ 34 (.len 0 (.t 33)),
s_ 35 (.mv (.c (i0_)))] [4,33,34,35] [7]) (
(.block 4 (
A13_L0) (some []) [9,41,46])))) (some []) [9,41,46])
def A13_R1 : ACode:=.rf 0 (.t 30) [31]  A13_R1a A13_R1b
def A13_L2b : ACode :=
(.seq (
r_ [
s_ 13 (.bin .lss (.t 12) (.c (.z 2)))] [2,3,4,11,12,13] []) (
(.seq (
(.cond (.t 13) (
.skip) (
.exit 0))) (
(.seq (
(.block 1 (
(.seq (
r_ [
m_ 14 12,
s_ 15 (.ixa true 2 12 (.t 11) (.t 12)),
s_ 6 (.alloc [i0_,i0_,i0_,i0_,i0_,i0_,i0_,i0_,i0_,i0_,i0_,i0_]),
s_ 5 (.as (.t 14)),
n_ (.store 12 (.t 6) (.t 15))] [2,3,4,5,6,11,12] []) (
(.seq (
.reg (some [.dr [20] [],.dr [16] [],.dr [16] [],.dr [16] [],.dr [16] [],.free,.free]) [
l_ 16 true 12 6,
m_ 17 5,
s_ 18 (.fad 0 (.t 3)),
s_ 19 (.iaa 2 3 (.t 18) (.t 17)),
l_ 20 true 3 19,
s_ 21 (.call 43 [.t 16,.t 20]),
s_ 22 (.un .not (.t 21))] (some [2,3,4,11,12,22]) [6]) (
(.cond (.t 22) (
(.seq (
r_ [
n_ (.store 1 (.t 4) (.c (.bool false)))] [4] []) (
.ret))) (
.skip))))))) (some [2,3,4,11,12]) [5,6,21])) (
r_ [
s_ 23 (.bin .add (.t 12) (.c (.z 1))),
m_ 12 23] [2,3,4,11,12] []))))))
def A13_L2 : ACode:=.loop A13_L2b (some [2,3,4,11,12]) [5,6,21]
def A13 : AFn:=.code [.cell false 1 4] (
(.seq (
r_ [
s_ 2 (.box (.t 0)),
s_ 3 (.box (.t 1)),
s_ 4 (.alloc [.bool false])] [2,3,4] []) (
(.seq (
(.seq (
r_ [
s_ 10 (.fad 0 (.t 2)),
l_ 11 true 24 10,
s_ 12 (.mv (.c (i0_)))] [2,3,4,11,12] []) (
(.block 0 (
A13_L2) (some [2,3,4]) [5,6,21])))) (
(.seq (
(.seq (
r_ [
l_ 24 true 44 2,
l_ 25 true 9 3,
s_ 26 (.call 44 [.t 24,.t 25]),
s_ 27 (.un .not (.t 26))] [2,3,4,27] []) (
(.cond (.t 27) (
(.seq (
r_ [
n_ (.store 1 (.t 4) (.c (.bool false)))] [4] []) (
.ret))) (
.skip))))) (
(.seq (
(.seq (
r_ [
l_ 28 true 44 2,
l_ 29 true 9 3,
s_ 30 (.call 45 [.t 28,.t 29])] [4,30] [2,3]) (
(.block 2 (
A13_R1) (some [4]) [7,9,41,46])))) (
(.seq (
r_ [
n_ (.store 1 (.t 4) (.c (.bool true)))] [4] []) (
.ret)))))))))))
def A14_L0b : ACode :=
(.seq (
(.seq (
r_ [
m_ 41 7,
m_ 42 5,
m_ 43 6,
s_ 44 (.ias 4 (.t 42) (.t 43)),
s_ 45 (.fad 3 (.t 44)),
l_ 46 false 1 45,
s_ 47 (.len 0 (.t 46)),
b_ 48 .lss 41 47] [5,6,7,48] []) (
(.cond (.t 48) (
.skip) (
.exit 2))))) (
(.seq (
(.block 3 (
(.seq (
r_ [
m_ 51 5,
m_ 52 6,
s_ 53 (.ias 4 (.t 51) (.t 52)),
s_ 54 (.fad 3 (.t 53)),
l_ 55 false 1 54,
m_ 56 7,
s_ 57 (.ias 2 (.t 55) (.t 56)),
l_ 58 true 2 57,
s_ 59 (.call 48 [.t 58]),
s_ 60 (.un .not (.t 59))] [5,6,7,60] []) (
(.cond (.t 60) (
(.seq (
r_ [
s_ 4 (.as (.c (.bool false)))] [4] []) (
.ret))) (
.skip))))) (some [5,6,7]) [4,59])) (
r_ [
m_ 49 7,
s_ 50 (.bin .add (.t 49) (.c (.z 1))),
s_ 7 (.as (.t 50))] [5,6,7] []))))
def A14_L0 : ACode:=.loop A14_L0b (some [5,6,7]) [4,59]
def A14_L1b : ACode :=
(.seq (
(.seq (
r_ [
m_ 35 6,
m_ 36 5,
s_ 37 (.len 0 (.t 36)),
b_ 38 .lss 35 37] [5,6,38] []) (
(.cond (.t 38) (
.skip) (
.exit 0))))) (
(.seq (
(.block 1 (
(.seq (
r_ [
s_ 7 (.as (.c (i0_)))] [5,6,7] []) (
(.block 2 (
A14_L0) (some [5,6]) [4,7,59])))) (some [5,6]) [4,7,59])) (
r_ [
m_ 39 6,
s_ 40 (.bin .add (.t 39) (.c (.z 1))),
s_ 6 (.as (.t 40))] [5,6] []))))
def A14_L1 : ACode:=.loop A14_L1b (some [5,6]) [4,7,59]
def A14 : AFn:=.code [.t 4] (
(.seq (
r_ [
s_ 2 (.box (.t 0)),
s_ 3 (.box (.t 1)),
s_ 4 (.as (.c (.bool false)))] [2,3] []) (
(.seq (
(.seq (
r_ [
s_ 8 (.fad 0 (.t 2)),
s_ 9 (.iaa 2 12 (.t 8) (.c (i0_))),
l_ 10 true 12 9,
s_ 11 (.fad 0 (.t 3)),
s_ 12 (.iaa 2 3 (.t 11) (.c (i0_))),
l_ 13 true 3 12,
s_ 14 (.call 36 [.t 10,.t 13]),
s_ 15 (.un .not (.t 14)),
m_ 16 15,
f_ 17 16 (.fad 0 (.t 2)),
f_ 18 16 (.iaa 2 12 (.t 17) (.c (.z 1))),
f_ 19 16 (.load true 12 (.t 18)),
f_ 20 16 (.fad 0 (.t 3)),
f_ 21 16 (.iaa 2 3 (.t 20) (.c (.z 1))),
f_ 22 16 (.load true 3 (.t 21)),
f_ 23 16 (.call 36 [.t 19,.t 22]),
f_ 24 16 (.un .not (.t 23)),
s_ 25 (.pick (.t 16) (.c (.bool true)) (.t 24)),
m_ 26 25,
f_ 27 26 (.load true 44 (.t 2)),
f_ 28 26 (.load true 9 (.t 3)),
f_ 29 26 (.call 47 [.t 27,.t 28]),
f_ 30 26 (.un .not (.t 29)),
s_ 31 (.pick (.t 26) (.c (.bool true)) (.t 30))] [2,3,31] []) (
(.cond (.t 31) (
(.seq (
r_ [
s_ 4 (.as (.c (.bool false)))] [4] []) (
.ret))) (
.skip))))) (
(.seq (
r_ [
l_ 32 true 44 2,
l_ 33 true 9 3,
s_ 34 (.call 17 [.t 32,.t 33]),
s_ 5 (.as (.t 34))] [5] [2,3]) (
(.seq (
(.seq (
r_ [
s_ 6 (.as (.c (i0_)))] [5,6] []) (
(.block 0 (
A14_L1) (some []) [4,6,7,59])))) (
(.seq (
r_ [
s_ 4 (.as (.c (.bool true)))] [4] []) (
.ret)))))))))))
def A15 : AFn:=.code [.cell true 9 4,.t 5] (
(.seq (
r_ [
s_ 2 (.box (.t 0)),
s_ 3 (.box (.t 1)),
s_ 4 (.alloc [i0_,i0_,i0_,i0_,i0_,i0_,i0_,i0_,.nils 1]),
s_ 5 (.as (.c (.bool false)))] [2,3,4] []) (
(.seq (
(.seq (
r_ [
l_ 7 true 44 2,
s_ 8 (.call 11 [.t 7]),
m_ 9 8,
f_ 10 9 (.load true 44 (.t 2)),
f_ 11 9 (.call 12 [.t 10]),
f_ 12 9 (.un .not (.t 11)),
s_ 13 (.pick (.t 9) (.c (.bool true)) (.t 12))] [2,3,4,13] []) (
(.cond (.t 13) (
(.seq (
r_ [
s_ 14 (.build [i0_,i0_,i0_,i0_,i0_,i0_,i0_,i0_,.nils 1] []),
n_ (.store 9 (.t 4) (.t 14)),
s_ 5 (.as (.c (.bool false)))] [4,5] []) (
.ret))) (
.skip))))) (
(.seq (
r_ [
l_ 15 true 44 2,
s_ 16 (.fad 0 (.t 3)),
l_ 17 true 6 16,
s_ 18 (.fad 6 (.t 3)),
l_ 19 true 2 18,
s_ 20 (.fad 8 (.t 3)),
l_ 21 false 1 20,
s_ 22 (.call 49 [.t 15,.t 17,.t 19,.t 21]),
s_ 6 (.alloc [i0_,i0_,i0_,i0_,i0_,i0_,i0_,i0_,.nils 1]),
n_ (.store 9 (.t 6) (.t 22))] [2,4,6] [3]) (
(.seq (
.reg (some [.dr [24,25,26] [],.dr [23,25] [],.dr [23,24] [],.dr [23] [],.free,.free]) [
l_ 23 true 9 6,
l_ 24 true 44 2,
l_ 25 true 9 6,
s_ 26 (.call 14 [.t 24,.t 25]),
n_ (.store 9 (.t 4) (.t 23)),
s_ 5 (.as (.t 26))] (some [4,5]) [2,6]) (
.ret)))))))))
def A16_R0a : ACode :=
r_ [
s_ 6 (.alloc [i0_,i0_,i0_,.nils 2]),
n_ (.store 4 (.t 6) (.t 10))] [5,6] []
def A16_R0b : ACode :=
(.block 1 (
r_ [
l_ 11 false 1 5,
l_ 12 true 4 6,
s_ 13 (.bsl 4 1 [i0_,i0_,i0_,.nils 2] [(0,.t 12)]),
s_ 14 (.app 4 (.t 11) (.t 13)),
n_ (.store 1 (.t 5) (.t 14))] [] [5,6]) (some []) [13,14])
def A16_R0 : ACode:=.rf 0 (.t 9) [10]  A16_R0a A16_R0b
def A16 : AFn:=.code [.t 4] (
(.seq (
r_ [
s_ 2 (.box (.t 0)),
s_ 3 (.box (.t 1)),
s_ 4 (.as (.c (.nils 4)))] [2,3,4] []) (
(.seq (
r_ [
s_ 5 (.alloc [.nils 4])] [2,3,4,5] []) (
(.seq (
(.seq (
r_ [
l_ 7 true 44 2,
l_ 8 true 9 3,
s_ 9 (.call 45 [.t 7,.t 8])] [4,5,9] [2,3]) (
(.block 0 (
A16_R0) (some [5]) [6,13])))) (
(.seq (
r_ [
l_ 15 false 1 5,
s_ 4 (.as (.t 15))] [4] [5]) (
.ret)))))))))
def A17_L0b : ACode :=
(.seq (
(.seq (
r_ [
m_ 124 14,
s_ 125 (.fad 30 (.t 2)),
l_ 126 false 1 125,
s_ 127 (.len 0 (.t 126)),
b_ 128 .lss 124 127] [2,5,14,128] []) (
(.cond (.t 128) (
.skip) (
.exit 8))))) (
(.seq (
(.block 9 (
r_ [
m_ 131 5,
m_ 132 14,
s_ 133 (.fad 30 (.t 2)),
l_ 134 false 1 133,
m_ 135 14,
s_ 136 (.ias 1 (.t 134) (.t 135)),
l_ 137 false 1 136,
s_ 138 (.build [i0_,i0_,i0_,.nils 2] [(0,1,.c (.z 4)),(1,1,.t 132),(3,1,.t 137)]),
s_ 139 (.bsl 4 1 [i0_,i0_,i0_,.nils 2] [(0,.t 138)]),
s_ 140 (.app 4 (.t 131) (.t 139)),
s_ 5 (.as (.t 140))] [2,5,14] []) (some [2,5,14]) [139])) (
r_ [
m_ 129 14,
s_ 130 (.bin .add (.t 129) (.c (.z 1))),
s_ 14 (.as (.t 130))] [2,5,14] []))))
def A17_L0 : ACode:=.loop A17_L0b (some [2,5,14]) [139]
def A17_L1b : ACode :=
(.seq (
(.seq (
r_ [
m_ 87 12,
s_ 88 (.fad 32 (.t 2)),
l_ 89 false 1 88,
s_ 90 (.len 0 (.t 89)),
b_ 91 .lss 87 90] [2,3,5,12,91] []) (
(.cond (.t 91) (
.skip) (
.exit 6))))) (
(.seq (
(.block 7 (
(.seq (
r_ [
s_ 94 (.fad 8 (.t 3)),
l_ 95 false 1 94,
m_ 96 12,
s_ 97 (.ias 1 (.t 95) (.t 96)),
l_ 98 false 1 97,
s_ 99 (.bin .geq (.t 98) (.c (i0_)))] [2,3,5,12,99] []) (
(.cond (.t 99) (
(.seq (
.reg (some [.dr [103,105,106,13] [],.dr [103,105,106,13] [],.dr [101,13] [],.dr [101,13] [],.dr [101,103,13] [],.dr [101,13] [],.dr [101,13] [],.dr [13] [],.dr [13] [],.dr [101,103,105,106,107,108] [],.free]) [
s_ 100 (.fad 31 (.t 2)),
l_ 101 false 1 100,
s_ 102 (.fad 8 (.t 3)),
l_ 103 false 1 102,
m_ 104 12,
s_ 105 (.ias 1 (.t 103) (.t 104)),
l_ 106 false 1 105,
s_ 107 (.ias 6 (.t 101) (.t 106)),
l_ 108 true 6 107,
s_ 13 (.alloc [.str [],i0_,i0_,i0_,i0_,i0_]),
n_ (.store 6 (.t 13) (.t 108))] (some [2,3,5,12,13]) []) (
.reg (some [.loc,.loc,.loc,.loc,.loc,.loc,.dr [117,119] [],.dr [117,119] [],.dr [117,119] [],.dr [112,114,115,119] [],.dr [112,114,115,117] [],.free,.free,.free,.free,.free]) [
m_ 109 5,
m_ 110 12,
s_ 111 (.fad 32 (.t 2)),
m_ 113 12,
s_ 116 (.fad 1 (.t 13)),
s_ 118 (.fad 3 (.t 13)),
l_ 112 false 1 111,
s_ 114 (.ias 3 (.t 112) (.t 113)),
l_ 115 true 3 114,
l_ 117 true 2 116,
l_ 119 true 3 118,
s_ 120 (.call 53 [.t 115,.t 117,.t 119]),
s_ 121 (.build [i0_,i0_,i0_,.nils 2] [(0,1,.c (.z 3)),(1,1,.t 110),(3,1,.t 120)]),
s_ 122 (.bsl 4 1 [i0_,i0_,i0_,.nils 2] [(0,.t 121)]),
s_ 123 (.app 4 (.t 109) (.t 122)),
s_ 5 (.as (.t 123))] (some [2,3,5,12]) [13]))) (
.skip))))) (some [2,3,5,12]) [13,120,122])) (
r_ [
m_ 92 12,
s_ 93 (.bin .add (.t 92) (.c (.z 1))),
s_ 12 (.as (.t 93))] [2,3,5,12] []))))
def A17_L1 : ACode:=.loop A17_L1b (some [2,3,5,12]) [13,120,122]
def A17_L2b : ACode :=
(.seq (
(.seq (
r_ [
m_ 42 9,
s_ 43 (.bin .lss (.t 42) (.c (.z 2)))] [2,3,5,9,43] []) (
(.cond (.t 43) (
.skip) (
.exit 4))))) (
(.seq (
(.block 5 (
(.seq (
r_ [
m_ 46 9,
s_ 47 (.fad 6 (.t 3)),
s_ 48 (.iaa 2 1 (.t 47) (.t 46)),
l_ 49 false 1 48,
s_ 50 (.bin .geq (.t 49) (.c (i0_)))] [2,3,5,9,50] []) (
(.cond (.t 50) (
(.seq (
.reg (some [.dr [58,10] [],.dr [58,10] [],.dr [58,10] [],.dr [58,10] [],.dr [54,10] [],.dr [54,10] [],.dr [54,10] [],.dr [54,10] [],.dr [10] [],.dr [54,58,59] [],.free]) [
m_ 51 9,
s_ 52 (.fad 0 (.t 2)),
s_ 53 (.iaa 2 12 (.t 52) (.t 51)),
l_ 54 true 12 53,
m_ 55 9,
s_ 56 (.fad 0 (.t 3)),
s_ 57 (.iaa 2 3 (.t 56) (.t 55)),
l_ 58 true 3 57,
s_ 59 (.call 51 [.t 54,.t 58]),
s_ 10 (.alloc [i0_,i0_,i0_,i0_,i0_,i0_,i0_,i0_]),
n_ (.store 8 (.t 10) (.t 59))] (some [2,3,5,9,10]) []) (
(.seq (
.reg (some [.dr [67,11] [],.dr [67,11] [],.dr [67,11] [],.dr [67,11] [],.dr [63,11] [],.dr [63,11] [],.dr [63,11] [],.dr [63,11] [],.dr [11] [],.dr [63,67,68] [],.free]) [
m_ 60 9,
s_ 61 (.fad 0 (.t 2)),
s_ 62 (.iaa 2 12 (.t 61) (.t 60)),
l_ 63 true 12 62,
m_ 64 9,
s_ 65 (.fad 0 (.t 3)),
s_ 66 (.iaa 2 3 (.t 65) (.t 64)),
l_ 67 true 3 66,
s_ 68 (.call 52 [.t 63,.t 67]),
s_ 11 (.alloc [i0_,i0_,i0_,i0_,i0_,i0_,i0_,i0_,i0_]),
n_ (.store 9 (.t 11) (.t 68))] (some [2,3,5,9,10,11]) []) (
.reg (some [.loc,.loc,.loc,.loc,.loc,.loc,.loc,.loc,.dr [76,80,82] [],.dr [72,80,82] [],.dr [80,82] [],.dr [80,82] [],.dr [72,76,77,78,82] [],.dr [72,76,77,78,80] [],.free,.free,.free,.free,.free]) [
m_ 69 5,
m_ 70 9,
s_ 71 (.fad 32 (.t 2)),
m_ 73 9,
s_ 74 (.fad 6 (.t 3)),
s_ 75 (.iaa 2 1 (.t 74) (.t 73)),
s_ 79 (.iaa 4 2 (.t 10) (.c (.z 3))),
s_ 81 (.iaa 3 3 (.t 11) (.c (.z 2))),
l_ 72 false 1 71,
l_ 76 false 1 75,
s_ 77 (.ias 3 (.t 72) (.t 76)),
l_ 78 true 3 77,
l_ 80 true 2 79,
l_ 82 true 3 81,
s_ 83 (.call 53 [.t 78,.t 80,.t 82]),
s_ 84 (.build [i0_,i0_,i0_,.nils 2] [(0,1,.c (.z 2)),(1,1,.t 70),(3,1,.t 83)]),
s_ 85 (.bsl 4 1 [i0_,i0_,i0_,.nils 2] [(0,.t 84)]),
s_ 86 (.app 4 (.t 69) (.t 85)),
s_ 5 (.as (.t 86))] (some [2,3,5,9]) [10,11]))))) (
.skip))))) (some [2,3,5,9]) [10,11,59,68,83,85])) (
r_ [
m_ 44 9,
s_ 45 (.bin .add (.t 44) (.c (.z 1))),
s_ 9 (.as (.t 45))] [2,3,5,9] []))))
def A17_L2 : ACode:=.loop A17_L2b (some [2,3,5,9]) [10,11,59,68,83,85]
def A17_L3b : ACode :=
(.seq (
(.seq (
r_ [
m_ 29 8,
s_ 30 (.bin .lss (.t 29) (.c (.z 3)))] [2,3,5,6,7,8,30] []) (
(.cond (.t 30) (
.skip) (
.exit 2))))) (
(.seq (
(.block 3 (
r_ [
m_ 33 5,
m_ 34 6,
m_ 35 8,
m_ 36 8,
s_ 37 (.iaa 3 1 (.t 7) (.t 36)),
l_ 38 false 1 37,
s_ 39 (.build [i0_,i0_,i0_,.nils 2] [(0,1,.c (.z 1)),(1,1,.t 34),(2,1,.t 35),(3,1,.t 38)]),
s_ 40 (.bsl 4 1 [i0_,i0_,i0_,.nils 2] [(0,.t 39)]),
s_ 41 (.app 4 (.t 33) (.t 40)),
s_ 5 (.as (.t 41))] [2,3,5,6,7,8] []) (some [2,3,5,6,7,8]) [40])) (
r_ [
m_ 31 8,
s_ 32 (.bin .add (.t 31) (.c (.z 1))),
s_ 8 (.as (.t 32))] [2,3,5,6,7,8] []))))
def A17_L3 : ACode:=.loop A17_L3b (some [2,3,5,6,7,8]) [40]
def A17_L4b : ACode :=
(.seq (
(.seq (
r_ [
m_ 16 6,
s_ 17 (.bin .lss (.t 16) (.c (.z 2)))] [2,3,5,6,17] []) (
(.cond (.t 17) (
.skip) (
.exit 0))))) (
(.seq (
(.block 1 (
(.seq (
.reg (some [.dr [27,7] [],.dr [27,7] [],.dr [27,7] [],.dr [27,7] [],.dr [23,7] [],.dr [23,7] [],.dr [23,7] [],.dr [23,7] [],.dr [7] [],.dr [23,27,28] [],.free]) [
m_ 20 6,
s_ 21 (.fad 0 (.t 2)),
s_ 22 (.iaa 2 12 (.t 21) (.t 20)),
l_ 23 true 12 22,
m_ 24 6,
s_ 25 (.fad 0 (.t 3)),
s_ 26 (.iaa 2 3 (.t 25) (.t 24)),
l_ 27 true 3 26,
s_ 28 (.call 50 [.t 23,.t 27]),
s_ 7 (.alloc [.nils 2,.nils 2,.nils 2]),
n_ (.store 3 (.t 7) (.t 28))] (some [2,3,5,6,7]) []) (
(.seq (
r_ [
s_ 8 (.as (.c (i0_)))] [2,3,5,6,7,8] []) (
(.block 2 (
A17_L3) (some [2,3,5,6]) [8,40])))))) (some [2,3,5,6]) [7,8,28,40])) (
r_ [
m_ 18 6,
s_ 19 (.bin .add (.t 18) (.c (.z 1))),
s_ 6 (.as (.t 19))] [2,3,5,6] []))))
def A17_L4 : ACode:=.loop A17_L4b (some [2,3,5,6]) [7,8,28,40]
def A17 : AFn:=.code [.t 4] (
(.seq (
r_ [
s_ 2 (.box (.t 0)),
s_ 3 (.box (.t 1)),
s_ 4 (.as (.c (.nils 4)))] [2,3] []) (
(.seq (
r_ [
s_ 15 (.bsl 4 0 [i0_,i0_,i0_,.nils 2] []),
s_ 5 (.as (.t 15))] [2,3,5] []) (
(.seq (
(.seq (
r_ [
s_ 6 (.as (.c (i0_)))] [2,3,5,6] []) (
(.block 0 (
A17_L4) (some [2,3,5]) [6,7,8,28,40])))) (
(.seq (
(.seq (
r_ [
s_ 9 (.as (.c (i0_)))] [2,3,5,9] []) (
(.block 4 (
A17_L2) (some [2,3,5]) [9,10,11,59,68,83,85])))) (
(.seq (
(.seq (
r_ [
s_ 12 (.as (.c (i0_)))] [2,3,5,12] []) (
(.block 6 (
A17_L1) (some [2,5]) [12,13,120,122])))) (
(.seq (
(.seq (
r_ [
s_ 14 (.as (.c (i0_)))] [2,5,14] []) (
(.block 8 (
A17_L0) (some [5]) [14,139])))) (
(.seq (
r_ [
m_ 141 5,
s_ 4 (.as (.t 141))] [4] []) (
.ret)))))))))))))))
def A18_L0b : ACode :=
(.seq (
(.seq (
r_ [
m_ 11 5,
m_ 12 0,
s_ 13 (.len 0 (.t 12)),
b_ 14 .lss 11 13] [0,1,5,14] []) (
(.cond (.t 14) (
.skip) (
.exit 0))))) (
(.seq (
(.block 1 (
(.seq (
.reg (some [.dr [24,26] [],.dr [24,26] [],.dr [24,26] [],.dr [24,26] [],.dr [24,26] [],.dr [19,21] [],.dr [19,21] [],.dr [19,21] [],.dr [19,21] [],.dr [19,21] [],.free,.free,.free,.dr [37,39] [],.dr [37,39] [],.dr [37,39] [],.dr [37,39] [],.dr [37,39] [],.dr [32,34] [],.dr [32,34] [],.dr [32,34] [],.dr [32,34] [],.dr [32,34] [],.free,.free,.free,.free,.dr [52,55] [],.dr [52,55] [],.dr [52,55] [],.dr [52,55] [],.dr [52,55] [],.dr [52,55] [],.dr [46,49] [],.dr [46,49] [],.dr [46,49] [],.dr [46,49] [],.dr [46,49] [],.dr [46,49] [],.free,.free,.free,.free,.dr [68,71] [],.dr [68,71] [],.dr [68,71] [],.dr [68,71] [],.dr [68,71] [],.dr [68,71] [],.dr [62,65] [],.dr [62,65] [],.dr [62,65] [],.dr [62,65] [],.dr [62,65] [],.dr [62,65] [],.free,.free,.free]) [
m_ 17 0,
m_ 18 5,
s_ 19 (.ias 8 (.t 17) (.t 18)),
s_ 20 (.fad 0 (.t 19)),
l_ 21 true 4 20,
m_ 22 1,
m_ 23 5,
s_ 24 (.ias 8 (.t 22) (.t 23)),
s_ 25 (.fad 0 (.t 24)),
l_ 26 true 4 25,
s_ 27 (.call 28 [.t 21,.t 26]),
s_ 28 (.un .not (.t 27)),
m_ 29 28,
f_ 30 29 (.mv (.t 0)),
f_ 31 29 (.mv (.t 5)),
f_ 32 29 (.ias 8 (.t 30) (.t 31)),
f_ 33 29 (.fad 4 (.t 32)),
f_ 34 29 (.load true 4 (.t 33)),
f_ 35 29 (.mv (.t 1)),
f_ 36 29 (.mv (.t 5)),
f_ 37 29 (.ias 8 (.t 35) (.t 36)),
f_ 38 29 (.fad 4 (.t 37)),
f_ 39 29 (.load true 4 (.t 38)),
f_ 40 29 (.call 28 [.t 34,.t 39]),
f_ 41 29 (.un .not (.t 40)),
s_ 42 (.pick (.t 29) (.c (.bool true)) (.t 41)),
m_ 43 42,
f_ 44 43 (.mv (.t 0)),
f_ 45 43 (.mv (.t 5)),
f_ 46 43 (.ias 8 (.t 44) (.t 45)),
f_ 47 43 (.fad 0 (.t 46)),
f_ 48 43 (.fad 3 (.t 47)),
f_ 49 43 (.load false 1 (.t 48)),
f_ 50 43 (.mv (.t 1)),
f_ 51 43 (.mv (.t 5)),
f_ 52 43 (.ias 8 (.t 50) (.t 51)),
f_ 53 43 (.fad 0 (.t 52)),
f_ 54 43 (.fad 3 (.t 53)),
f_ 55 43 (.load false 1 (.t 54)),
f_ 56 43 (.call 54 [.t 49,.t 55]),
f_ 57 43 (.un .not (.t 56)),
s_ 58 (.pick (.t 43) (.c (.bool true)) (.t 57)),
m_ 59 58,
f_ 60 59 (.mv (.t 0)),
f_ 61 59 (.mv (.t 5)),
f_ 62 59 (.ias 8 (.t 60) (.t 61)),
f_ 63 59 (.fad 4 (.t 62)),
f_ 64 59 (.fad 3 (.t 63)),
f_ 65 59 (.load false 1 (.t 64)),
f_ 66 59 (.mv (.t 1)),
f_ 67 59 (.mv (.t 5)),
f_ 68 59 (.ias 8 (.t 66) (.t 67)),
f_ 69 59 (.fad 4 (.t 68)),
f_ 70 59 (.fad 3 (.t 69)),
f_ 71 59 (.load false 1 (.t 70)),
f_ 72 59 (.call 54 [.t 65,.t 71]),
f_ 73 59 (.un .not (.t 72)),
s_ 74 (.pick (.t 59) (.c (.bool true)) (.t 73))] (some [0,1,5,74]) []) (
(.cond (.t 74) (
(.seq (
r_ [
s_ 4 (.as (.c (.bool false)))] [4] []) (
.ret))) (
.skip))))) (some [0,1,5]) [4,27,40,56,72])) (
r_ [
m_ 15 5,
s_ 16 (.bin .add (.t 15) (.c (.z 1))),
s_ 5 (.as (.t 16))] [0,1,5] []))))
def A18_L0 : ACode:=.loop A18_L0b (some [0,1,5]) [4,27,40,56,72]
def A18 : AFn:=.code [.t 4] (
(.seq (
r_ [
s_ 4 (.as (.c (.bool false)))] [0,1] []) (
(.seq (
(.seq (
r_ [
m_ 6 0,
s_ 7 (.len 0 (.t 6)),
m_ 8 1,
s_ 9 (.len 0 (.t 8)),
b_ 10 .neq 7 9] [0,1,10] []) (
(.cond (.t 10) (
(.seq (
r_ [
s_ 4 (.as (.c (.bool false)))] [4] []) (
.ret))) (
.skip))))) (
(.seq (
(.seq (
r_ [
s_ 5 (.as (.c (i0_)))] [0,1,5] []) (
(.block 0 (
A18_L0) (some []) [4,5,27,40,56,72])))) (
(.seq (
r_ [
s_ 4 (.as (.c (.bool true)))] [4] []) (
.ret)))))))))
def A19_R0a : ACode :=
r_ [
s_ 6 (.alloc [i0_,i0_,i0_,.nils 2,i0_,i0_,i0_,.nils 2]),
n_ (.store 8 (.t 6) (.t 10))] [5,6] []
def A19_R0b : ACode :=
(.block 1 (
r_ [
l_ 11 false 1 5,
l_ 12 true 8 6,
s_ 13 (.bsl 8 1 [i0_,i0_,i0_,.nils 2,i0_,i0_,i0_,.nils 2] [(0,.t 12)]),
s_ 14 (.app 8 (.t 11) (.t 13)),
n_ (.store 1 (.t 5) (.t 14))] [] [5,6]) (some []) [13,14])
def A19_R0 : ACode:=.rf 0 (.t 9) [10]  A19_R0a A19_R0b
def A19 : AFn:=.code [.t 4] (
(.seq (
r_ [
s_ 2 (.box (.t 0)),
s_ 3 (.box (.t 1)),
s_ 4 (.as (.c (.nils 8)))] [2,3,4] []) (
(.seq (
r_ [
s_ 5 (.alloc [.nils 8])] [2,3,4,5] []) (
(.seq (
(.seq (
r_ [
l_ 7 true 44 2,
l_ 8 true 9 3,
s_ 9 (.call 55 [.t 7,.t 8])] [4,5,9] [2,3]) (
(.block 0 (
A19_R0) (some [5]) [6,13])))) (
(.seq (
r_ [
l_ 15 false 1 5,
s_ 4 (.as (.t 15))] [4] [5]) (
.ret)))))))))
def A21_R0a : ACode :=
r_ [
s_ 6 (.alloc [i0_,i0_,i0_,.nils 2,i0_,i0_,i0_,.nils 2]),
n_ (.store 8 (.t 6) (.t 10))] [5,6] []
def A21_R0b : ACode :=
(.block 1 (
(.seq (
r_ [
s_ 11 (.fad 0 (.t 6)),
s_ 12 (.fad 3 (.t 11)),
l_ 13 false 1 12,
s_ 14 (.fad 4 (.t 6)),
s_ 15 (.fad 3 (.t 14)),
l_ 16 false 1 15,
s_ 17 (.call 57 [.t 13,.t 16])] [5,6,17] []) (
(.cond (.t 17) (
r_ [
l_ 18 false 1 5,
l_ 19 true 8 6,
s_ 20 (.bsl 8 1 [i0_,i0_,i0_,.nils 2,i0_,i0_,i0_,.nils 2] [(0,.t 19)]),
s_ 21 (.app 8 (.t 18) (.t 20)),
n_ (.store 1 (.t 5) (.t 21))] [] [5,6]) (
.skip))))) (some []) [17,20,21])
def A21_R0 : ACode:=.rf 0 (.t 9) [10]  A21_R0a A21_R0b
def A21 : AFn:=.code [.t 4] (
(.seq (
r_ [
s_ 2 (.box (.t 0)),
s_ 3 (.box (.t 1)),
s_ 4 (.as (.c (.nils 8)))] [2,3,4] []) (
(.seq (
r_ [
s_ 5 (.alloc [.nils 8])] [2,3,4,5] []) (
(.seq (
(.seq (
r_ [
l_ 7 true 44 2,
l_ 8 true 9 3,
s_ 9 (.call 55 [.t 7,.t 8])] [4,5,9] [2,3]) (
(.block 0 (
A21_R0) (some [5]) [6,17,20])))) (
(.seq (
r_ [
l_ 22 false 1 5,
s_ 4 (.as (.t 22))] [4] [5]) (
.ret)))))))))
def A23_R0a : ACode :=
r_ [
s_ 5 (.alloc [i0_,i0_,i0_,.nils 2,i0_,i0_,i0_,.nils 2]),
n_ (.store 8 (.t 5) (.t 9))] [4,5] []
def A23_R0b : ACode :=
(.block 1 (
(.seq (
r_ [
s_ 10 (.fad 0 (.t 5)),
s_ 11 (.fad 3 (.t 10)),
l_ 12 false 1 11,
s_ 13 (.fad 4 (.t 5)),
s_ 14 (.fad 3 (.t 13)),
l_ 15 false 1 14,
s_ 16 (.call 57 [.t 12,.t 15])] [4,16] [5]) (
(.cond (.t 16) (
(.seq (
r_ [
n_ (.store 1 (.t 4) (.c (.bool false)))] [] []) (
.ret))) (
.skip))))) (some []) [16])
def A23_R0 : ACode:=.rf 0 (.t 8) [9]  A23_R0a A23_R0b
def A23 : AFn:=.code [.cell false 1 4] (
(.seq (
r_ [
s_ 2 (.box (.t 0)),
s_ 3 (.box (.t 1)),
s_ 4 (.alloc [.bool false])] [2,3,4] []) (
(.seq (
(.seq (
r_ [
l_ 6 true 44 2,
l_ 7 true 9 3,
s_ 8 (.call 55 [.t 6,.t 7])] [4,8] [2,3]) (
(.block 0 (
A23_R0) (some [4]) [5,16])))) (
(.seq (
r_ [
n_ (.store 1 (.t 4) (.c (.bool true)))] [4] []) (
.ret)))))))
def A26_R0a : ACode :=
r_ [
s_ 7 (.alloc [i0_,i0_,i0_,i0_]),
n_ (.store 4 (.t 7) (.t 13))] [3,4,5,7] []
def A26_R0b : ACode :=
(.block 1 (
(.seq (
.reg (some [.dr [17,8,9] [],.dr [17,8,9] [],.dr [15,8,9] [],.dr [15,8,9] [],.dr [15,17,9] [],.dr [15,17,8] [],.dr [17] [8],.free]) [
s_ 14 (.iaa 2 2 (.t 7) (.c (i0_))),
l_ 15 true 2 14,
s_ 16 (.iaa 2 2 (.t 7) (.c (.z 1))),
l_ 17 true 2 16,
s_ 8 (.alloc [i0_,i0_]),
s_ 9 (.alloc [i0_,i0_]),
n_ (.store 2 (.t 8) (.t 15)),
n_ (.store 2 (.t 9) (.t 17))] (some [3,4,5,8,9]) [7]) (
(.seq (
(.seq (
r_ [
l_ 18 true 2 8,
l_ 19 true 2 9,
l_ 20 true 2 3,
s_ 21 (.call 61 [.t 18,.t 19,.t 20])] [3,4,5,8,9,21] []) (
(.cond (.t 21) (
(.seq (
r_ [
n_ (.store 1 (.t 4) (.c (i0_)))] [] []) (
.ret))) (
.skip))))) (
(.seq (
(.seq (
r_ [
s_ 22 (.fad 1 (.t 8)),
l_ 23 false 1 22,
s_ 24 (.fad 1 (.t 3)),
l_ 25 false 1 24,
b_ 26 .gtr 23 25,
s_ 27 (.fad 1 (.t 9)),
l_ 28 false 1 27,
s_ 29 (.fad 1 (.t 3)),
l_ 30 false 1 29,
b_ 31 .gtr 28 30,
s_ 32 (.bib false (.t 26) (.t 31))] [3,5,8,9,32] []) (
(.cond (.t 32) (
.exit 1) (
.skip))))) (
(.seq (
.reg (some [.dr [34,35,39,41] [],.dr [33,35,39,41] [],.dr [33,34,39,41] [],.dr [39,41] [],.dr [39,41] [],.dr [33,34,35,36,41] [],.dr [33,34,35,36,41] [],.dr [33,34,35,36,39] [],.dr [33,34,35,36,39] [],.dr [33,34,35,36] [],.free]) [
l_ 33 true 2 8,
l_ 34 true 2 9,
l_ 35 true 2 3,
s_ 36 (.call 62 [.t 33,.t 34,.t 35]),
s_ 37 (.bin .gtr (.t 36) (.c (i0_))),
s_ 38 (.fad 1 (.t 9)),
l_ 39 false 1 38,
s_ 40 (.fad 1 (.t 8)),
l_ 41 false 1 40,
b_ 42 .gtr 39 41,
s_ 43 (.bib false (.t 37) (.t 42))] (some [5,43]) [3,8,9]) (
(.cond (.t 43) (
r_ [
l_ 44 false 1 5,
s_ 45 (.un .not (.t 44)),
n_ (.store 1 (.t 5) (.t 45))] [] [5]) (
.skip))))))))))) (some []) [8,9,21,36])
def A26_R0 : ACode:=.rf 0 (.t 11) [12,13]  A26_R0a A26_R0b
def A26 : AFn:=.code [.cell false 1 4] (
(.seq (
r_ [
s_ 3 (.box (.t 1)),
s_ 4 (.alloc [i0_])] [0,3,4] []) (
(.seq (
r_ [
s_ 5 (.alloc [.bool false]),
n_ (.store 1 (.t 5) (.c (.bool false)))] [0,3,4,5] []) (
(.seq (
(.seq (
r_ [
m_ 10 0,
s_ 11 (.call 60 [.t 10])] [3,4,5,11] []) (
(.block 0 (
A26_R0) (some [4,5]) [7,8,9,21,36])))) (
(.seq (
(.seq (
r_ [
l_ 46 false 1 5] [4,46] [5]) (
(.cond (.t 46) (
(.seq (
r_ [
n_ (.store 1 (.t 4) (.c (.z 1)))] [4] []) (
.ret))) (
.skip))))) (
(.seq (
r_ [
n_ (.store 1 (.t 4) (.c (.z (-1))))] [4] []) (
.ret)))))))))))
def A28 : AFn:=.code [.t 4] (
(.seq (
r_ [
s_ 2 (.box (.t 0)),
s_ 3 (.box (.t 1)),
s_ 4 (.as (.c (.bool false)))] [2,3] []) (
(.seq (
r_ [
s_ 5 (.fad 0 (.t 2)),
l_ 6 false 1 5,
s_ 7 (.fad 0 (.t 3)),
l_ 8 false 1 7,
b_ 9 .eql 6 8,
m_ 10 9,
t_ 11 10 (.fad 1 (.t 2)),
t_ 12 10 (.load false 1 (.t 11)),
t_ 13 10 (.fad 1 (.t 3)),
t_ 14 10 (.load false 1 (.t 13)),
t_ 15 10 (.bin .eql (.t 12) (.t 14)),
s_ 16 (.pick (.t 10) (.t 15) (.c (.bool false))),
m_ 17 16,
t_ 18 17 (.fad 2 (.t 2)),
t_ 19 17 (.load false 1 (.t 18)),
t_ 20 17 (.fad 2 (.t 3)),
t_ 21 17 (.load false 1 (.t 20)),
t_ 22 17 (.bin .eql (.t 19) (.t 21)),
s_ 23 (.pick (.t 17) (.t 22) (.c (.bool false))),
s_ 4 (.as (.t 23))] [4] [2,3]) (
.ret)))))
def A30_L0b : ACode :=
(.seq (
(.seq (
r_ [
m_ 77 8,
s_ 78 (.fad 30 (.t 2)),
l_ 79 false 1 78,
s_ 80 (.len 0 (.t 79)),
b_ 81 .lss 77 80] [2,3,4,5,8,81] []) (
(.cond (.t 81) (
.skip) (
.exit 4))))) (
(.seq (
(.block 5 (
.reg (some [.dr [87,89,90,91,92,93] [],.dr [87,89,90,91,92,93] [],.dr [85,91] [],.dr [85,91] [],.dr [85,87,91] [],.dr [85,91] [],.dr [85,91] [],.dr [85,87,89,90] [],.dr [85] [],.dr [85] [],.free,.free,.free]) [
s_ 84 (.fad 30 (.t 5)),
l_ 85 false 1 84,
s_ 86 (.fad 30 (.t 2)),
l_ 87 false 1 86,
m_ 88 8,
s_ 89 (.ias 1 (.t 87) (.t 88)),
l_ 90 false 1 89,
l_ 91 true 2 3,
s_ 92 (.call 31 [.t 90,.t 91]),
s_ 93 (.bsl 1 1 [.nils 2] [(0,.t 92)]),
s_ 94 (.app 1 (.t 85) (.t 93)),
s_ 95 (.fad 30 (.t 5)),
n_ (.store 1 (.t 95) (.t 94))] (some [2,3,4,5,8]) []) (some [2,3,4,5,8]) [92,93,94])) (
r_ [
m_ 82 8,
s_ 83 (.bin .add (.t 82) (.c (.z 1))),
s_ 8 (.as (.t 83))] [2,3,4,5,8] []))))
def A30_L0 : ACode:=.loop A30_L0b (some [2,3,4,5,8]) [92,93,94]
def A30_L1b : ACode :=
(.seq (
(.seq (
r_ [
m_ 42 7,
s_ 43 (.fad 31 (.t 5)),
l_ 44 false 1 43,
s_ 45 (.len 0 (.t 44)),
b_ 46 .lss 42 45] [2,3,4,5,7,46] []) (
(.cond (.t 46) (
.skip) (
.exit 2))))) (
(.seq (
(.block 3 (
.reg (some [.dr [53,55,58,60,63,65,68,70] [],.dr [53,55,58,60,63,65,68,70] [],.dr [50,53,55,58,60,63,65,68,70] [],.dr [50,60,63,65,68,70] [],.dr [50,60,63,65,68,70] [],.dr [50,53,60,63,65,68,70] [],.dr [50,60,63,65,68,70] [],.dr [50,60,63,65,68,70] [],.dr [50,60,63,65,68,70] [],.dr [50,60,63,65,68,70] [],.dr [50,53,55,58,63,65,68,70] [],.dr [50,53,55,58,63,65,68,70] [],.dr [50,63,65,68,70] [],.dr [50,53,55,58,60,70] [],.dr [50,53,55,58,60,70] [],.dr [50,53,55,58,60,63,70] [],.dr [50,53,55,58,60,70] [],.dr [50,53,55,58,60,70] [],.dr [50,53,55,58,60,70] [],.dr [50,53,55,58,60,70] [],.dr [50,53,55,58,60,63,65,68] [],.dr [50,53,55,58,60,63,65,68] [],.dr [50,53,55,58,60] [],.dr [50] [],.free,.free,.free]) [
s_ 49 (.fad 31 (.t 5)),
l_ 50 false 1 49,
m_ 51 7,
s_ 52 (.fad 31 (.t 2)),
l_ 53 false 1 52,
m_ 54 7,
s_ 55 (.ias 6 (.t 53) (.t 54)),
s_ 56 (.fad 1 (.t 55)),
s_ 57 (.fad 0 (.t 56)),
l_ 58 false 1 57,
s_ 59 (.fad 0 (.t 3)),
l_ 60 false 1 59,
b_ 61 .add 58 60,
s_ 62 (.fad 31 (.t 2)),
l_ 63 false 1 62,
m_ 64 7,
s_ 65 (.ias 6 (.t 63) (.t 64)),
s_ 66 (.fad 1 (.t 65)),
s_ 67 (.fad 1 (.t 66)),
l_ 68 false 1 67,
s_ 69 (.fad 1 (.t 3)),
l_ 70 false 1 69,
b_ 71 .add 68 70,
s_ 72 (.build [i0_,i0_] [(0,1,.t 61),(1,1,.t 71)]),
s_ 73 (.ias 6 (.t 50) (.t 51)),
s_ 74 (.fad 1 (.t 73)),
n_ (.store 2 (.t 74) (.t 72))] (some [2,3,4,5,7]) []) (some [2,3,4,5,7]) [])) (
r_ [
m_ 47 7,
s_ 48 (.bin .add (.t 47) (.c (.z 1))),
s_ 7 (.as (.t 48))] [2,3,4,5,7] []))))
def A30_L1 : ACode:=.loop A30_L1b (some [2,3,4,5,7]) []
def A30_L2b : ACode :=
(.seq (
(.seq (
r_ [
m_ 10 6,
s_ 11 (.bin .lss (.t 10) (.c (.z 2)))] [2,3,4,5,6,11] []) (
(.cond (.t 11) (
.skip) (
.exit 0))))) (
(.seq (
(.block 1 (
.reg (some [.dr [20,22,29,31] [],.dr [22,29,31] [],.dr [22,29,31] [],.dr [22,29,31] [],.dr [22,29,31] [],.dr [22,29,31] [],.dr [22,29,31] [],.dr [20,29,31] [],.dr [20,29,31] [],.dr [29,31] [],.dr [20,22,31] [],.dr [20,22,31] [],.dr [20,22,31] [],.dr [20,22,31] [],.dr [20,22,31] [],.dr [20,22,31] [],.dr [20,22,29] [],.dr [20,22,29] [],.dr [20,22] [],.dr [] [],.dr [20,22,29,31] [],.free,.free,.free]) [
m_ 14 6,
m_ 15 6,
s_ 16 (.fad 0 (.t 2)),
s_ 17 (.iaa 2 12 (.t 16) (.t 15)),
s_ 18 (.fad 0 (.t 17)),
s_ 19 (.fad 0 (.t 18)),
l_ 20 false 1 19,
s_ 21 (.fad 0 (.t 3)),
l_ 22 false 1 21,
b_ 23 .add 20 22,
m_ 24 6,
s_ 25 (.fad 0 (.t 2)),
s_ 26 (.iaa 2 12 (.t 25) (.t 24)),
s_ 27 (.fad 0 (.t 26)),
s_ 28 (.fad 1 (.t 27)),
l_ 29 false 1 28,
s_ 30 (.fad 1 (.t 3)),
l_ 31 false 1 30,
b_ 32 .add 29 31,
s_ 33 (.build [i0_,i0_] [(0,1,.t 23),(1,1,.t 32)]),
s_ 34 (.fad 0 (.t 5)),
s_ 35 (.iaa 2 12 (.t 34) (.t 14)),
s_ 36 (.fad 0 (.t 35)),
n_ (.store 2 (.t 36) (.t 33))] (some [2,3,4,5,6]) []) (some [2,3,4,5,6]) [])) (
r_ [
m_ 12 6,
s_ 13 (.bin .add (.t 12) (.c (.z 1))),
s_ 6 (.as (.t 13))] [2,3,4,5,6] []))))
def A30_L2 : ACode:=.loop A30_L2b (some [2,3,4,5,6]) []
def A30 : AFn:=.code [.cell true 44 4] (
(.seq (
r_ [
s_ 2 (.box (.t 0)),
s_ 3 (.box (.t 1)),
s_ 4 (.alloc [i0_,i0_,i0_,i0_,i0_,i0_,i0_,i0_,i0_,i0_,i0_,i0_,i0_,i0_,i0_,i0_,i0_,i0_,i0_,i0_,i0_,i0_,i0_,i0_,i0_,i0_,i0_,i0_,i0_,i0_,.nils 1,.nils 6,.nils 3,.nils 1,i0_,i0_,i0_,i0_,i0_,i0_,i0_,.nils 1,i0_,i0_])] [2,3,4] []) (
(.seq (
r_ [
l_ 9 true 44 2,
s_ 5 (.alloc [i0_,i0_,i0_,i0_,i0_,i0_,i0_,i0_,i0_,i0_,i0_,i0_,i0_,i0_,i0_,i0_,i0_,i0_,i0_,i0_,i0_,i0_,i0_,i0_,i0_,i0_,i0_,i0_,i0_,i0_,.nils 1,.nils 6,.nils 3,.nils 1,i0_,i0_,i0_,i0_,i0_,i0_,i0_,.nils 1,i0_,i0_]),
n_ (.store 44 (.t 5) (.t 9))] [2,3,4,5] []) (
(.seq (
(.seq (
r_ [
s_ 6 (.as (.c (i0_)))] [2,3,4,5,6] []) (
(.block 0 (
A30_L2) (some [2,3,4,5]) [6])))) (
(.seq (
r_ [
s_ 37 (.bsl 6 0 [.str [],i0_,i0_,i0_,i0_,i0_] []),
s_ 38 (.fad 31 (.t 2)),
l_ 39 false 1 38,
s_ 40 (.app 6 (.t 37) (.t 39)),
s_ 41 (.fad 31 (.t 5)),
n_ (.store 1 (.t 41) (.t 40))] [2,3,4,5] []) (
(.seq (
(.seq (
r_ [
s_ 7 (.as (.c (i0_)))] [2,3,4,5,7] []) (
(.block 2 (
A30_L1) (some [2,3,4,5]) [7])))) (
(.seq (
r_ [
s_ 75 (.bsl 1 0 [.nils 2] []),
s_ 76 (.fad 30 (.t 5)),
n_ (.store 1 (.t 76) (.t 75))] [2,3,4,5] []) (
(.seq (
(.seq (
r_ [
s_ 8 (.as (.c (i0_)))] [2,3,4,5,8] []) (
(.block 4 (
A30_L0) (some [4,5]) [8,92,93,94])))) (
(.seq (
r_ [
l_ 96 true 44 5,
n_ (.store 44 (.t 4) (.t 96))] [4] [5]) (
.ret)))))))))))))))))
def A31 : AFn:=.code [.t 4] (
(.seq (
r_ [
s_ 3 (.box (.t 1)),
s_ 4 (.as (.c (.nils 2)))] [0,3] []) (
(.seq (
r_ [
m_ 5 0,
s_ 6 (.mkf (.func 64) [] [.t 3]),
s_ 7 (.call 63 [.t 5,.t 6]),
s_ 4 (.as (.t 7))] [4] []) (
.ret)))))
def A33 : AFn:=.code [.cell true 44 0] (
(.seq (
r_ [
s_ 0 (.alloc [i0_,i0_,i0_,i0_,i0_,i0_,i0_,i0_,i0_,i0_,i0_,i0_,i0_,i0_,i0_,i0_,i0_,i0_,i0_,i0_,i0_,i0_,i0_,i0_,i0_,i0_,i0_,i0_,i0_,i0_,.nils 1,.nils 6,.nils 3,.nils 1,i0_,i0_,i0_,i0_,i0_,i0_,i0_,.nils 1,i0_,i0_])] [0] []) (
(.seq (
r_ [
s_ 1 (.as (.c (.z 4394000)))] [0,1] []) (
(.seq (
r_ [
s_ 6 (.build [i0_,i0_,i0_] [(0,1,.c (.z 18)),(1,1,.c (.z 18)),(2,1,.c (.z 18))]),
s_ 2 (.alloc [i0_,i0_,i0_]),
n_ (.store 3 (.t 2) (.t 6))] [0,1,2] []) (
(.seq (
r_ [
s_ 7 (.build [i0_,i0_,i0_] [(0,1,.c (.z (-17))),(1,1,.c (.z (-17))),(2,1,.c (.z (-17)))]),
s_ 3 (.alloc [i0_,i0_,i0_]),
n_ (.store 3 (.t 3) (.t 7))] [0,1,2,3] []) (
(.seq (
r_ [
m_ 8 1,
s_ 9 (.bin .mul (.c (.z (-20))) (.t 8)),
s_ 10 (.build [i0_,i0_] [(0,1,.t 9)]),
s_ 11 (.build [i0_,i0_,i0_] [(0,1,.c (.z 10)),(1,1,.c (.z 8)),(2,1,.c (.z 4))]),
l_ 12 true 3 3,
l_ 13 true 3 2,
s_ 14 (.build [i0_,i0_,i0_,i0_,i0_,i0_,i0_,i0_,i0_,i0_,i0_,i0_] [(0,2,.t 10),(2,3,.t 11),(5,1,.c (.z 1)),(6,3,.t 12),(9,3,.t 13)]),
s_ 4 (.alloc [i0_,i0_,i0_,i0_,i0_,i0_,i0_,i0_,i0_,i0_,i0_,i0_]),
n_ (.store 12 (.t 4) (.t 14))] [0,1,4] [2,3]) (
(.seq (
r_ [
l_ 15 true 12 4,
s_ 5 (.alloc [i0_,i0_,i0_,i0_,i0_,i0_,i0_,i0_,i0_,i0_,i0_,i0_]),
n_ (.store 12 (.t 5) (.t 15))] [0,1,4,5] []) (
(.seq (
r_ [
m_ 16 1,
s_ 17 (.bin .mul (.c (.z 20)) (.t 16)),
s_ 18 (.build [i0_,i0_] [(0,1,.t 17)]),
s_ 19 (.fad 0 (.t 5)),
n_ (.store 2 (.t 19) (.t 18))] [0,1,4,5] []) (
(.seq (
r_ [
l_ 20 true 12 4,
l_ 21 true 12 5,
s_ 22 (.build [i0_,i0_,i0_,i0_,i0_,i0_,i0_,i0_,i0_,i0_,i0_,i0_,i0_,i0_,i0_,i0_,i0_,i0_,i0_,i0_,i0_,i0_,i0_,i0_] [(0,12,.t 20),(12,12,.t 21)]),
s_ 23 (.build [i0_,i0_,i0_] [(0,1,.c (.z 9)),(1,1,.c (i0_)),(2,1,.c (i0_))]),
s_ 24 (.build [i0_,i0_,i0_] [(0,1,.c (.z 9)),(1,1,.c (i0_)),(2,1,.c (i0_))]),
s_ 25 (.build [i0_,i0_,i0_,i0_,i0_,i0_] [(0,3,.t 23),(3,3,.t 24)]),
m_ 26 1,
s_ 27 (.un .neg (.t 26)),
m_ 28 1,
s_ 29 (.un .neg (.t 28)),
s_ 30 (.build [i0_,i0_] [(0,1,.t 27),(1,1,.t 29)]),
m_ 31 1,
m_ 32 1,
s_ 33 (.un .neg (.t 32)),
s_ 34 (.build [i0_,i0_] [(0,1,.t 31),(1,1,.t 33)]),
m_ 35 1,
m_ 36 1,
s_ 37 (.build [i0_,i0_] [(0,1,.t 35),(1,1,.t 36)]),
m_ 38 1,
s_ 39 (.un .neg (.t 38)),
m_ 40 1,
s_ 41 (.build [i0_,i0_] [(0,1,.t 39),(1,1,.t 40)]),
s_ 42 (.bsl 2 4 [i0_,i0_] [(0,.t 30),(1,.t 34),(2,.t 37),(3,.t 41)]),
s_ 43 (.bsl 1 1 [.nils 2] [(0,.t 42)]),
m_ 44 1,
s_ 45 (.bin .mul (.c (.z (-20))) (.t 44)),
m_ 46 1,
s_ 47 (.bin .mul (.c (.z 12)) (.t 46)),
s_ 48 (.build [i0_,i0_] [(0,1,.t 45),(1,1,.t 47)]),
s_ 49 (.build [i0_,i0_,i0_] [(0,1,.c (.z 274625)),(2,1,.c (.z 3))]),
s_ 50 (.build [.str [],i0_,i0_,i0_,i0_,i0_] [(0,1,.c (.str [108,101,102,116])),(1,2,.t 48),(3,3,.t 49)]),
m_ 51 1,
s_ 52 (.bin .mul (.c (.z 12)) (.t 51)),
s_ 53 (.build [i0_,i0_] [(1,1,.t 52)]),
s_ 54 (.build [i0_,i0_,i0_] [(1,1,.c (.z 274625)),(2,1,.c (.z 3))]),
s_ 55 (.build [.str [],i0_,i0_,i0_,i0_,i0_] [(0,1,.c (.str [109,105,100])),(1,2,.t 53),(3,3,.t 54)]),
s_ 56 (.bsl 6 2 [.str [],i0_,i0_,i0_,i0_,i0_] [(0,.t 50),(1,.t 55)]),
s_ 57 (.build [i0_,i0_] [(0,1,.c (i0_)),(1,1,.c (i0_))]),
s_ 58 (.build [i0_,i0_] [(0,1,.c (.z 2)),(1,1,.c (i0_))]),
s_ 59 (.build [i0_,i0_] [(0,1,.c (.z 2)),(1,1,.c (.z 1))]),
s_ 60 (.build [i0_,i0_] [(0,1,.c (i0_)),(1,1,.c (.z 1))]),
s_ 61 (.bsl 2 4 [i0_,i0_] [(0,.t 57),(1,.t 58),(2,.t 59),(3,.t 60)]),
s_ 62 (.build [.str [],.nils 2,i0_] [(0,1,.c (.str [99,97,112])),(1,1,.t 61),(2,1,.c (.z 1))]),
s_ 63 (.bsl 3 1 [.str [],.nils 2,i0_] [(0,.t 62)]),
s_ 64 (.bsl 1 2 [i0_] [(0,.c (i0_)),(1,.c (.z 1))]),
s_ 65 (.build [i0_,i0_,i0_] [(0,1,.c (.z 6)),(1,1,.c (.z 2)),(2,1,.c (.z 1))]),
s_ 66 (.build [i0_,i0_,i0_] [(0,1,.c (.z 4)),(1,1,.c (.z 2)),(2,1,.c (.z 1))]),
m_ 67 1,
s_ 68 (.bin .mul (.c (.z (-30))) (.t 67)),
m_ 69 1,
s_ 70 (.bin .mul (.c (.z (-30))) (.t 69)),
s_ 71 (.build [i0_,i0_] [(0,1,.t 68),(1,1,.t 70)]),
m_ 72 1,
s_ 73 (.bin .mul (.c (.z (-25))) (.t 72)),
m_ 74 1,
s_ 75 (.bin .mul (.c (.z (-30))) (.t 74)),
s_ 76 (.build [i0_,i0_] [(0,1,.t 73),(1,1,.t 75)]),
m_ 77 1,
s_ 78 (.bin .mul (.c (.z (-25))) (.t 77)),
m_ 79 1,
s_ 80 (.bin .mul (.c (.z (-20))) (.t 79)),
s_ 81 (.build [i0_,i0_] [(0,1,.t 78),(1,1,.t 80)]),
s_ 82 (.bsl 2 3 [i0_,i0_] [(0,.t 71),(1,.t 76),(2,.t 81)]),
s_ 83 (.build [.nils 2] [(0,1,.t 82)]),
s_ 84 (.bsl 1 1 [.nils 2] [(0,.t 83)]),
s_ 85 (.build [i0_,i0_,i0_,i0_,i0_,i0_,i0_,i0_,i0_,i0_,i0_,i0_,i0_,i0_,i0_,i0_,i0_,i0_,i0_,i0_,i0_,i0_,i0_,i0_,i0_,i0_,i0_,i0_,i0_,i0_,.nils 1,.nils 6,.nils 3,.nils 1,i0_,i0_,i0_,i0_,i0_,i0_,i0_,.nils 1,i0_,i0_] [(0,24,.t 22),(24,6,.t 25),(30,1,.t 43),(31,1,.t 56),(32,1,.t 63),(33,1,.t 64),(34,1,.c (.z 30)),(35,3,.t 65),(38,3,.t 66),(41,1,.t 84),(42,1,.c (.z 2)),(43,1,.c (.z 1))]),
n_ (.store 44 (.t 0) (.t 85))] [0] [4,5]) (
.ret)))))))))))))))))
def A34_L0b : ACode :=
(.seq (
(.seq (
r_ [
m_ 9 4,
s_ 10 (.fad 32 (.t 1)),
l_ 11 false 1 10,
s_ 12 (.len 0 (.t 11)),
b_ 13 .lss 9 12] [1,2,3,4,13] []) (
(.cond (.t 13) (
.skip) (
.exit 0))))) (
(.seq (
(.block 1 (
.reg (some [.dr [19,21,23,24] [],.dr [19,21,23,24] [],.dr [17] [],.dr [17] [],.dr [17,19] [],.dr [17] [],.dr [17] [],.dr [17] [],.dr [17] [],.free,.free,.free]) [
s_ 16 (.fad 8 (.t 3)),
l_ 17 false 1 16,
s_ 18 (.fad 32 (.t 1)),
l_ 19 false 1 18,
m_ 20 4,
s_ 21 (.ias 3 (.t 19) (.t 20)),
s_ 22 (.fad 2 (.t 21)),
l_ 23 false 1 22,
s_ 24 (.bsl 1 1 [i0_] [(0,.t 23)]),
s_ 25 (.app 1 (.t 17) (.t 24)),
s_ 26 (.fad 8 (.t 3)),
n_ (.store 1 (.t 26) (.t 25))] (some [1,2,3,4]) []) (some [1,2,3,4]) [24,25])) (
r_ [
m_ 14 4,
s_ 15 (.bin .add (.t 14) (.c (.z 1))),
s_ 4 (.as (.t 15))] [1,2,3,4] []))))
def A34_L0 : ACode:=.loop A34_L0b (some [1,2,3,4]) [24,25]
def A34 : AFn:=.code [.cell true 9 2] (
(.seq (
r_ [
s_ 1 (.box (.t 0)),
s_ 2 (.alloc [i0_,i0_,i0_,i0_,i0_,i0_,i0_,i0_,.nils 1])] [1,2] []) (
(.seq (
r_ [
s_ 5 (.fad 24 (.t 1)),
l_ 6 true 6 5,
s_ 7 (.build [i0_,i0_] [(0,1,.c (.z (-1))),(1,1,.c (.z (-1)))]),
s_ 8 (.build [i0_,i0_,i0_,i0_,i0_,i0_,i0_,i0_,.nils 1] [(0,6,.t 6),(6,2,.t 7)]),
s_ 3 (.alloc [i0_,i0_,i0_,i0_,i0_,i0_,i0_,i0_,.nils 1]),
n_ (.store 9 (.t 3) (.t 8))] [1,2,3] []) (
(.seq (
(.seq (
r_ [
s_ 4 (.as (.c (i0_)))] [1,2,3,4] []) (
(.block 0 (
A34_L0) (some [2,3]) [4,24,25])))) (
(.seq (
r_ [
l_ 27 true 9 3,
n_ (.store 9 (.t 2) (.t 27))] [2] [3]) (
.ret)))))))))
def A35_L0b : ACode :=
(.seq (
(.seq (
r_ [
m_ 33 4,
s_ 34 (.bin .lss (.t 33) (.c (.z 3)))] [1,3,4,34] []) (
(.cond (.t 34) (
.skip) (
.exit 0))))) (
(.seq (
(.block 1 (
(.seq (
(.seq (
.reg (some [.dr [] [],.dr [] [],.free,.free,.free,.free,.dr [] [],.dr [] [],.free,.free,.free,.free,.free,.dr [] [],.dr [] [],.free,.free,.free,.free,.free,.dr [] [],.dr [] [],.free,.free,.free,.free,.free,.dr [] [],.dr [] [],.free,.free,.free,.free,.free,.dr [] [],.dr [] [],.free,.free,.free,.free,.free,.dr [85] [],.dr [85] [],.dr [85] [],.dr [85] [],.dr [81] [],.dr [81] [],.dr [81] [],.dr [81] [],.free,.free]) [
m_ 37 4,
s_ 38 (.fad 2 (.t 1)),
s_ 39 (.iaa 3 1 (.t 38) (.t 37)),
l_ 40 false 1 39,
s_ 41 (.bin .lss (.t 40) (.c (.z 1))),
m_ 42 41,
f_ 43 42 (.mv (.t 4)),
f_ 44 42 (.fad 2 (.t 1)),
f_ 45 42 (.iaa 3 1 (.t 44) (.t 43)),
f_ 46 42 (.load false 1 (.t 45)),
f_ 47 42 (.bin .gtr (.t 46) (.c (.z 40))),
s_ 48 (.pick (.t 42) (.c (.bool true)) (.t 47)),
m_ 49 48,
f_ 50 49 (.mv (.t 4)),
f_ 51 49 (.fad 6 (.t 1)),
f_ 52 49 (.iaa 3 1 (.t 51) (.t 50)),
f_ 53 49 (.load false 1 (.t 52)),
f_ 54 49 (.bin .lss (.t 53) (.c (.z (-17)))),
s_ 55 (.pick (.t 49) (.c (.bool true)) (.t 54)),
m_ 56 55,
f_ 57 56 (.mv (.t 4)),
f_ 58 56 (.fad 6 (.t 1)),
f_ 59 56 (.iaa 3 1 (.t 58) (.t 57)),
f_ 60 56 (.load false 1 (.t 59)),
f_ 61 56 (.bin .gtr (.t 60) (.c (.z 18))),
s_ 62 (.pick (.t 56) (.c (.bool true)) (.t 61)),
m_ 63 62,
f_ 64 63 (.mv (.t 4)),
f_ 65 63 (.fad 9 (.t 1)),
f_ 66 63 (.iaa 3 1 (.t 65) (.t 64)),
f_ 67 63 (.load false 1 (.t 66)),
f_ 68 63 (.bin .lss (.t 67) (.c (.z (-17)))),
s_ 69 (.pick (.t 63) (.c (.bool true)) (.t 68)),
m_ 70 69,
f_ 71 70 (.mv (.t 4)),
f_ 72 70 (.fad 9 (.t 1)),
f_ 73 70 (.iaa 3 1 (.t 72) (.t 71)),
f_ 74 70 (.load false 1 (.t 73)),
f_ 75 70 (.bin .gtr (.t 74) (.c (.z 18))),
s_ 76 (.pick (.t 70) (.c (.bool true)) (.t 75)),
m_ 77 76,
f_ 78 77 (.mv (.t 4)),
f_ 79 77 (.fad 6 (.t 1)),
f_ 80 77 (.iaa 3 1 (.t 79) (.t 78)),
f_ 81 77 (.load false 1 (.t 80)),
f_ 82 77 (.mv (.t 4)),
f_ 83 77 (.fad 9 (.t 1)),
f_ 84 77 (.iaa 3 1 (.t 83) (.t 82)),
f_ 85 77 (.load false 1 (.t 84)),
f_ 86 77 (.bin .gtr (.t 81) (.t 85)),
s_ 87 (.pick (.t 77) (.c (.bool true)) (.t 86))] (some [1,3,4,87]) []) (
(.cond (.t 87) (
(.seq (
r_ [
s_ 2 (.as (.c (.bool false)))] [2] []) (
.ret))) (
.skip))))) (
r_ [
m_ 88 3,
m_ 89 4,
s_ 90 (.fad 2 (.t 1)),
s_ 91 (.iaa 3 1 (.t 90) (.t 89)),
l_ 92 false 1 91,
b_ 93 .add 88 92,
s_ 3 (.as (.t 93))] [1,3,4] []))) (some [1,3,4]) [2])) (
r_ [
m_ 35 4,
s_ 36 (.bin .add (.t 35) (.c (.z 1))),
s_ 4 (.as (.t 36))] [1,3,4] []))))
def A35_L0 : ACode:=.loop A35_L0b (some [1,3,4]) [2]
def A35 : AFn:=.code [.t 2] (
(.seq (
r_ [
s_ 1 (.box (.t 0)),
s_ 2 (.as (.c (.bool false)))] [1] []) (
(.seq (
(.seq (
r_ [
l_ 5 true 12 1,
s_ 6 (.call 71 [.t 5]),
m_ 7 6,
f_ 8 7 (.fad 5 (.t 1)),
f_ 9 7 (.load false 1 (.t 8)),
f_ 10 7 (.bin .lss (.t 9) (.c (.z 1))),
s_ 11 (.pick (.t 7) (.c (.bool true)) (.t 10)),
m_ 12 11,
f_ 13 12 (.fad 5 (.t 1)),
f_ 14 12 (.load false 1 (.t 13)),
f_ 15 12 (.bin .gtr (.t 14) (.c (.z 4))),
s_ 16 (.pick (.t 12) (.c (.bool true)) (.t 15)),
m_ 17 16,
f_ 18 17 (.fad 0 (.t 1)),
f_ 19 17 (.fad 0 (.t 18)),
f_ 20 17 (.load false 1 (.t 19)),
f_ 21 17 (.bin .rem (.t 20) (.c (.z 16))),
f_ 22 17 (.bin .neq (.t 21) (.c (i0_))),
s_ 23 (.pick (.t 17) (.c (.bool true)) (.t 22)),
m_ 24 23,
f_ 25 24 (.fad 0 (.t 1)),
f_ 26 24 (.fad 1 (.t 25)),
f_ 27 24 (.load false 1 (.t 26)),
f_ 28 24 (.bin .rem (.t 27) (.c (.z 16))),
f_ 29 24 (.bin .neq (.t 28) (.c (i0_))),
s_ 30 (.pick (.t 24) (.c (.bool true)) (.t 29))] [1,30] []) (
(.cond (.t 30) (
(.seq (
r_ [
s_ 2 (.as (.c (.bool false)))] [2] []) (
.ret))) (
.skip))))) (
(.seq (
r_ [
s_ 31 (.fad 5 (.t 1)),
l_ 32 false 1 31,
s_ 3 (.as (.t 32))] [1,3] []) (
(.seq (
(.seq (
r_ [
s_ 4 (.as (.c (i0_)))] [1,3,4] []) (
(.block 0 (
A35_L0) (some [1,3]) [2,4])))) (
(.seq (
r_ [
s_ 94 (.fad 0 (.t 1)),
s_ 95 (.fad 0 (.t 94)),
l_ 96 false 1 95,
s_ 97 (.call 72 [.t 96]),
m_ 98 3,
s_ 99 (.bin .mul (.t 98) (.c (.z 4394000))),
b_ 100 .add 97 99,
s_ 101 (.bin .leq (.t 100) (.c (.z 439400000))),
m_ 102 101,
t_ 103 102 (.fad 0 (.t 1)),
t_ 104 102 (.fad 1 (.t 103)),
t_ 105 102 (.load false 1 (.t 104)),
t_ 106 102 (.call 72 [.t 105]),
t_ 107 102 (.mv (.t 3)),
t_ 108 102 (.bin .mul (.t 107) (.c (.z 4394000))),
t_ 109 102 (.bin .add (.t 106) (.t 108)),
t_ 110 102 (.bin .leq (.t 109) (.c (.z 439400000))),
s_ 111 (.pick (.t 102) (.t 110) (.c (.bool false))),
s_ 2 (.as (.t 111))] [2] [1]) (
.ret)))))))))))
def A36_L0b : ACode :=
(.seq (
(.seq (
r_ [
m_ 6 5,
s_ 7 (.bin .lss (.t 6) (.c (.z 3)))] [2,3,5,7] []) (
(.cond (.t 7) (
.skip) (
.exit 0))))) (
(.seq (
(.block 1 (
(.seq (
.reg (some [.dr [16] [],.dr [16] [],.dr [16] [],.dr [12] [],.dr [12] [],.dr [12] [],.dr [12] [],.free,.free,.dr [25] [],.dr [25] [],.dr [25] [],.dr [21] [],.dr [21] [],.dr [21] [],.dr [21] [],.free,.free]) [
m_ 10 5,
s_ 11 (.iaa 3 1 (.t 3) (.t 10)),
l_ 12 false 1 11,
m_ 13 5,
s_ 14 (.fad 6 (.t 2)),
s_ 15 (.iaa 3 1 (.t 14) (.t 13)),
l_ 16 false 1 15,
b_ 17 .lss 12 16,
m_ 18 17,
f_ 19 18 (.mv (.t 5)),
f_ 20 18 (.iaa 3 1 (.t 3) (.t 19)),
f_ 21 18 (.load false 1 (.t 20)),
f_ 22 18 (.mv (.t 5)),
f_ 23 18 (.fad 9 (.t 2)),
f_ 24 18 (.iaa 3 1 (.t 23) (.t 22)),
f_ 25 18 (.load false 1 (.t 24)),
f_ 26 18 (.bin .gtr (.t 21) (.t 25)),
s_ 27 (.pick (.t 18) (.c (.bool true)) (.t 26))] (some [2,3,5,27]) []) (
(.cond (.t 27) (
(.seq (
r_ [
s_ 4 (.as (.c (.bool false)))] [4] []) (
.ret))) (
.skip))))) (some [2,3,5]) [4])) (
r_ [
m_ 8 5,
s_ 9 (.bin .add (.t 8) (.c (.z 1))),
s_ 5 (.as (.t 9))] [2,3,5] []))))
def A36_L0 : ACode:=.loop A36_L0b (some [2,3,5]) [4]
def A36 : AFn:=.code [.t 4] (
(.seq (
r_ [
s_ 2 (.box (.t 0)),
s_ 3 (.box (.t 1)),
s_ 4 (.as (.c (.bool false)))] [2,3] []) (
(.seq (
(.seq (
r_ [
s_ 5 (.as (.c (i0_)))] [2,3,5] []) (
(.block 0 (
A36_L0) (some []) [4,5])))) (
(.seq (
r_ [
s_ 4 (.as (.c (.bool true)))] [4] []) (
.ret)))))))
def A37 : AFn:=.code [.t 2] (
(.seq (
r_ [
s_ 1 (.box (.t 0)),
s_ 2 (.as (.c (.bool false)))] [1] []) (
(.seq (
r_ [
s_ 3 (.fad 0 (.t 1)),
l_ 4 false 1 3,
s_ 5 (.bin .geq (.t 4) (.c (.z 1))),
m_ 6 5,
t_ 7 6 (.fad 0 (.t 1)),
t_ 8 6 (.load false 1 (.t 7)),
t_ 9 6 (.bin .leq (.t 8) (.c (.z 8))),
s_ 10 (.pick (.t 6) (.t 9) (.c (.bool false))),
m_ 11 10,
t_ 12 11 (.fad 1 (.t 1)),
t_ 13 11 (.load false 1 (.t 12)),
t_ 14 11 (.bin .geq (.t 13) (.c (.z 1))),
s_ 15 (.pick (.t 11) (.t 14) (.c (.bool false))),
m_ 16 15,
t_ 17 16 (.fad 1 (.t 1)),
t_ 18 16 (.load false 1 (.t 17)),
t_ 19 16 (.bin .leq (.t 18) (.c (.z 4))),
s_ 20 (.pick (.t 16) (.t 19) (.c (.bool false))),
m_ 21 20,
t_ 22 21 (.fad 2 (.t 1)),
t_ 23 21 (.load false 1 (.t 22)),
t_ 24 21 (.bin .geq (.t 23) (.c (.z 1))),
s_ 25 (.pick (.t 21) (.t 24) (.c (.bool false))),
m_ 26 25,
t_ 27 26 (.fad 2 (.t 1)),
t_ 28 26 (.load false 1 (.t 27)),
t_ 29 26 (.bin .leq (.t 28) (.c (.z 2))),
s_ 30 (.pick (.t 26) (.t 29) (.c (.bool false))),
s_ 2 (.as (.t 30))] [2] [1]) (
.ret)))))
def A38_L0b : ACode :=
(.seq (
(.seq (
r_ [
m_ 7 3,
m_ 8 0,
s_ 9 (.len 0 (.t 8)),
b_ 10 .lss 7 9] [0,3,10] []) (
(.cond (.t 10) (
.skip) (
.exit 0))))) (
(.seq (
(.block 1 (
(.seq (
r_ [
m_ 13 0,
m_ 14 3,
s_ 15 (.ias 1 (.t 13) (.t 14)),
l_ 16 false 1 15,
s_ 17 (.call 73 [.t 16]),
s_ 18 (.un .not (.t 17))] [0,3,18] []) (
(.cond (.t 18) (
(.seq (
r_ [
s_ 2 (.as (.c (.bool false)))] [2] []) (
.ret))) (
.skip))))) (some [0,3]) [2,17])) (
r_ [
m_ 11 3,
s_ 12 (.bin .add (.t 11) (.c (.z 1))),
s_ 3 (.as (.t 12))] [0,3] []))))
def A38_L0 : ACode:=.loop A38_L0b (some [0,3]) [2,17]
def A38 : AFn:=.code [.t 2] (
(.seq (
r_ [
s_ 2 (.as (.c (.bool false)))] [0] []) (
(.seq (
(.seq (
r_ [
m_ 4 0,
s_ 5 (.len 0 (.t 4)),
s_ 6 (.bin .gtr (.t 5) (.c (.z 16)))] [0,6] []) (
(.cond (.t 6) (
(.seq (
r_ [
s_ 2 (.as (.c (.bool false)))] [2] []) (
.ret))) (
.skip))))) (
(.seq (
(.seq (
r_ [
s_ 3 (.as (.c (i0_)))] [0,3] []) (
(.block 0 (
A38_L0) (some []) [2,3,17])))) (
(.seq (
r_ [
s_ 2 (.as (.c (.bool true)))] [2] []) (
.ret)))))))))
def A39_L0b : ACode :=
(.seq (
(.seq (
r_ [
m_ 5 4,
s_ 6 (.fad 41 (.t 1)),
l_ 7 false 1 6,
s_ 8 (.len 0 (.t 7)),
b_ 9 .lss 5 8] [1,3,4,9] []) (
(.cond (.t 9) (
.skip) (
.exit 0))))) (
(.seq (
(.block 1 (
r_ [
m_ 12 3,
s_ 13 (.fad 41 (.t 1)),
l_ 14 false 1 13,
m_ 15 4,
s_ 16 (.ias 1 (.t 14) (.t 15)),
s_ 17 (.fad 0 (.t 16)),
l_ 18 false 1 17,
s_ 19 (.bsl 1 1 [.nils 2] [(0,.t 18)]),
s_ 20 (.app 1 (.t 12) (.t 19)),
s_ 3 (.as (.t 20))] [1,3,4] []) (some [1,3,4]) [19])) (
r_ [
m_ 10 4,
s_ 11 (.bin .add (.t 10) (.c (.z 1))),
s_ 4 (.as (.t 11))] [1,3,4] []))))
def A39_L0 : ACode:=.loop A39_L0b (some [1,3,4]) [19]
def A39 : AFn:=.code [.t 2] (
(.seq (
r_ [
s_ 1 (.box (.t 0)),
s_ 2 (.as (.c (.nils 1)))] [1] []) (
(.seq (
r_ [
s_ 3 (.as (.c (.nils 1)))] [1,3] []) (
(.seq (
(.seq (
r_ [
s_ 4 (.as (.c (i0_)))] [1,3,4] []) (
(.block 0 (
A39_L0) (some [3]) [4,19])))) (
(.seq (
r_ [
m_ 21 3,
s_ 2 (.as (.t 21))] [2] []) (
.ret)))))))))
def A40_L0b : ACode :=
(.seq (
(.seq (
r_ [
m_ 6 4,
m_ 7 0,
s_ 8 (.len 0 (.t 7)),
b_ 9 .lss 6 8] [0,3,4,9] []) (
(.cond (.t 9) (
.skip) (
.exit 0))))) (
(.seq (
(.block 1 (
(.seq (
r_ [
m_ 12 0,
m_ 13 4,
s_ 14 (.ias 6 (.t 12) (.t 13)),
l_ 15 true 6 14,
s_ 5 (.alloc [.str [],i0_,i0_,i0_,i0_,i0_]),
n_ (.store 6 (.t 5) (.t 15))] [0,3,4,5] []) (
(.seq (
r_ [
m_ 16 3,
s_ 17 (.fad 0 (.t 5)),
l_ 18 false 1 17,
s_ 19 (.bsl 1 1 [.str []] [(0,.t 18)]),
s_ 20 (.app 1 (.t 16) (.t 19)),
s_ 3 (.as (.t 20))] [0,3,4,5] []) (
(.seq (
r_ [
s_ 21 (.fad 1 (.t 5)),
s_ 22 (.fad 0 (.t 21)),
l_ 23 false 1 22,
s_ 24 (.bin .rem (.t 23) (.c (.z 16))),
s_ 25 (.bin .neq (.t 24) (.c (i0_))),
m_ 26 25,
f_ 27 26 (.fad 1 (.t 5)),
f_ 28 26 (.fad 1 (.t 27)),
f_ 29 26 (.load false 1 (.t 28)),
f_ 30 26 (.bin .rem (.t 29) (.c (.z 16))),
f_ 31 26 (.bin .neq (.t 30) (.c (i0_))),
s_ 32 (.pick (.t 26) (.c (.bool true)) (.t 31)),
m_ 33 32,
f_ 34 33 (.fad 1 (.t 5)),
f_ 35 33 (.fad 0 (.t 34)),
f_ 36 33 (.load false 1 (.t 35)),
f_ 37 33 (.fad 1 (.t 5)),
f_ 38 33 (.fad 1 (.t 37)),
f_ 39 33 (.load false 1 (.t 38)),
f_ 40 33 (.mx [.t 36,.t 39]),
f_ 41 33 (.bin .gtr (.t 40) (.c (.z 373490000))),
s_ 42 (.pick (.t 33) (.c (.bool true)) (.t 41)),
m_ 43 42,
f_ 44 43 (.fad 1 (.t 5)),
f_ 45 43 (.fad 0 (.t 44)),
f_ 46 43 (.load false 1 (.t 45)),
f_ 47 43 (.fad 1 (.t 5)),
f_ 48 43 (.fad 1 (.t 47)),
f_ 49 43 (.load false 1 (.t 48)),
f_ 50 43 (.mn [.t 46,.t 49]),
f_ 51 43 (.bin .lss (.t 50) (.c (.z (-373490000)))),
s_ 52 (.pick (.t 43) (.c (.bool true)) (.t 51)),
m_ 53 52,
f_ 54 53 (.fad 3 (.t 5)),
f_ 55 53 (.fad 2 (.t 54)),
f_ 56 53 (.load false 1 (.t 55)),
f_ 57 53 (.bin .neq (.t 56) (.c (.z 3))),
s_ 58 (.pick (.t 53) (.c (.bool true)) (.t 57)),
m_ 59 58,
f_ 60 59 (.fad 3 (.t 5)),
f_ 61 59 (.load true 3 (.t 60)),
f_ 62 59 (.call 74 [.t 61]),
f_ 63 59 (.un .not (.t 62)),
s_ 64 (.pick (.t 59) (.c (.bool true)) (.t 63))] [0,3,4,64] [5]) (
(.cond (.t 64) (
(.seq (
r_ [
s_ 2 (.as (.c (.bool false)))] [2] []) (
.ret))) (
.skip))))))))) (some [0,3,4]) [2,5,19,62])) (
r_ [
m_ 10 4,
s_ 11 (.bin .add (.t 10) (.c (.z 1))),
s_ 4 (.as (.t 11))] [0,3,4] []))))
def A40_L0 : ACode:=.loop A40_L0b (some [0,3,4]) [2,5,19,62]
def A40 : AFn:=.code [.t 2] (
(.seq (
r_ [
s_ 2 (.as (.c (.bool false)))] [0] []) (
(.seq (
r_ [
s_ 3 (.as (.c (.nils 1)))] [0,3] []) (
(.seq (
(.seq (
r_ [
s_ 4 (.as (.c (i0_)))] [0,3,4] []) (
(.block 0 (
A40_L0) (some [0,3]) [2,4,5,19,62])))) (
(.seq (
r_ [
m_ 65 0,
s_ 66 (.len 0 (.t 65)),
s_ 67 (.bin .leq (.t 66) (.c (.z 16))),
m_ 68 67,
t_ 69 68 (.mv (.t 3)),
t_ 70 68 (.call 75 [.t 69]),
s_ 71 (.pick (.t 68) (.t 70) (.c (.bool false))),
s_ 2 (.as (.t 71))] [2] []) (
.ret)))))))))
def A41_L0b : ACode :=
(.seq (
(.seq (
r_ [
m_ 8 7,
m_ 9 0,
s_ 10 (.len 0 (.t 9)),
b_ 11 .lss 8 10] [0,1,5,6,7,11] []) (
(.cond (.t 11) (
.skip) (
.exit 0))))) (
(.seq (
(.block 1 (
(.seq (
r_ [
m_ 14 5,
m_ 15 0,
m_ 16 7,
s_ 17 (.ias 3 (.t 15) (.t 16)),
s_ 18 (.fad 0 (.t 17)),
l_ 19 false 1 18,
s_ 20 (.bsl 1 1 [.str []] [(0,.t 19)]),
s_ 21 (.app 1 (.t 14) (.t 20)),
s_ 5 (.as (.t 21))] [0,1,5,6,7] []) (
(.seq (
r_ [
m_ 22 6,
m_ 23 0,
m_ 24 7,
s_ 25 (.ias 3 (.t 23) (.t 24)),
s_ 26 (.fad 2 (.t 25)),
l_ 27 false 1 26,
s_ 28 (.bsl 1 1 [i0_] [(0,.t 27)]),
s_ 29 (.app 1 (.t 22) (.t 28)),
s_ 6 (.as (.t 29))] [0,1,5,6,7] []) (
(.seq (
r_ [
m_ 30 0,
m_ 31 7,
s_ 32 (.ias 3 (.t 30) (.t 31)),
s_ 33 (.fad 1 (.t 32)),
l_ 34 false 1 33,
s_ 35 (.call 76 [.t 34]),
s_ 36 (.un .not (.t 35))] [0,1,5,6,7,36] []) (
(.cond (.t 36) (
(.seq (
r_ [
s_ 4 (.as (.c (.bool false)))] [4] []) (
.ret))) (
.skip))))))))) (some [0,1,5,6,7]) [4,20,28,35])) (
r_ [
m_ 12 7,
s_ 13 (.bin .add (.t 12) (.c (.z 1))),
s_ 7 (.as (.t 13))] [0,1,5,6,7] []))))
def A41_L0 : ACode:=.loop A41_L0b (some [0,1,5,6,7]) [4,20,28,35]
def A41 : AFn:=.code [.t 4] (
(.seq (
r_ [
s_ 4 (.as (.c (.bool false)))] [0,1] []) (
(.seq (
r_ [
s_ 5 (.as (.c (.nils 1)))] [0,1,5] []) (
(.seq (
r_ [
s_ 6 (.as (.c (.nils 1)))] [0,1,5,6] []) (
(.seq (
(.seq (
r_ [
s_ 7 (.as (.c (i0_)))] [0,1,5,6,7] []) (
(.block 0 (
A41_L0) (some [0,1,5,6]) [4,7,20,28,35])))) (
(.seq (
r_ [
m_ 37 0,
s_ 38 (.len 0 (.t 37)),
s_ 39 (.bin .leq (.t 38) (.c (.z 8))),
m_ 40 39,
t_ 41 40 (.mv (.t 5)),
t_ 42 40 (.call 75 [.t 41]),
s_ 43 (.pick (.t 40) (.t 42) (.c (.bool false))),
m_ 44 43,
t_ 45 44 (.mv (.t 6)),
t_ 46 44 (.mv (.t 1)),
t_ 47 44 (.call 42 [.t 45,.t 46]),
s_ 48 (.pick (.t 44) (.t 47) (.c (.bool false))),
s_ 4 (.as (.t 48))] [4] []) (
.ret)))))))))))
def A42_L0b : ACode :=
(.seq (
(.seq (
r_ [
m_ 26 6,
m_ 27 5,
b_ 28 .lss 26 27] [0,1,5,6,28] []) (
(.cond (.t 28) (
.skip) (
.exit 2))))) (
(.seq (
(.block 3 (
(.seq (
.reg (some [.dr [37,38] [],.dr [37,38] [],.dr [37,38] [],.dr [37,38] [],.dr [33,34] [],.dr [33,34] [],.dr [33,34] [],.dr [33,34] [],.free]) [
m_ 31 0,
m_ 32 6,
s_ 33 (.ias 1 (.t 31) (.t 32)),
l_ 34 false 1 33,
m_ 35 0,
m_ 36 5,
s_ 37 (.ias 1 (.t 35) (.t 36)),
l_ 38 false 1 37,
b_ 39 .eql 34 38] (some [0,1,5,6,39]) []) (
(.cond (.t 39) (
(.seq (
r_ [
s_ 4 (.as (.c (.bool false)))] [4] []) (
.ret))) (
.skip))))) (some [0,1,5,6]) [4])) (
r_ [
m_ 29 6,
s_ 30 (.bin .add (.t 29) (.c (.z 1))),
s_ 6 (.as (.t 30))] [0,1,5,6] []))))
def A42_L0 : ACode:=.loop A42_L0b (some [0,1,5,6]) [4]
def A42_L1b : ACode :=
(.seq (
(.seq (
r_ [
m_ 7 5,
m_ 8 0,
s_ 9 (.len 0 (.t 8)),
b_ 10 .lss 7 9] [0,1,5,10] []) (
(.cond (.t 10) (
.skip) (
.exit 0))))) (
(.seq (
(.block 1 (
(.seq (
(.seq (
r_ [
m_ 13 0,
m_ 14 5,
s_ 15 (.ias 1 (.t 13) (.t 14)),
l_ 16 false 1 15,
s_ 17 (.bin .lss (.t 16) (.c (i0_))),
m_ 18 17,
f_ 19 18 (.mv (.t 0)),
f_ 20 18 (.mv (.t 5)),
f_ 21 18 (.ias 1 (.t 19) (.t 20)),
f_ 22 18 (.load false 1 (.t 21)),
f_ 23 18 (.mv (.t 1)),
f_ 24 18 (.bin .geq (.t 22) (.t 23)),
s_ 25 (.pick (.t 18) (.c (.bool true)) (.t 24))] [0,1,5,25] []) (
(.cond (.t 25) (
(.seq (
r_ [
s_ 4 (.as (.c (.bool false)))] [4] []) (
.ret))) (
.skip))))) (
(.seq (
r_ [
s_ 6 (.as (.c (i0_)))] [0,1,5,6] []) (
(.block 2 (
A42_L0) (some [0,1,5]) [4,6])))))) (some [0,1,5]) [4,6])) (
r_ [
m_ 11 5,
s_ 12 (.bin .add (.t 11) (.c (.z 1))),
s_ 5 (.as (.t 12))] [0,1,5] []))))
def A42_L1 : ACode:=.loop A42_L1b (some [0,1,5]) [4,6]
def A42 : AFn:=.code [.t 4] (
(.seq (
r_ [
s_ 4 (.as (.c (.bool false)))] [0,1] []) (
(.seq (
(.seq (
r_ [
s_ 5 (.as (.c (i0_)))] [0,1,5] []) (
(.block 0 (
A42_L1) (some []) [4,5,6])))) (
(.seq (
r_ [
s_ 4 (.as (.c (.bool true)))] [4] []) (
.ret)))))))
def A43_L0b : ACode :=
(.seq (
r_ [
s_ 9 (.bin .lss (.t 8) (.c (.z 3)))] [2,7,8,9] []) (
(.seq (
(.cond (.t 9) (
.skip) (
.exit 0))) (
(.seq (
(.block 1 (
(.seq (
r_ [
m_ 10 8,
s_ 11 (.ixa false 3 1 (.t 7) (.t 8)),
s_ 5 (.as (.t 10)),
s_ 6 (.as (.t 11))] [2,5,6,7,8] []) (
(.seq (
r_ [
m_ 12 6,
m_ 13 5,
s_ 14 (.fad 6 (.t 2)),
s_ 15 (.iaa 3 1 (.t 14) (.t 13)),
l_ 16 false 1 15,
b_ 17 .lss 12 16,
m_ 18 17,
f_ 19 18 (.mv (.t 6)),
f_ 20 18 (.mv (.t 5)),
f_ 21 18 (.fad 9 (.t 2)),
f_ 22 18 (.iaa 3 1 (.t 21) (.t 20)),
f_ 23 18 (.load false 1 (.t 22)),
f_ 24 18 (.bin .gtr (.t 19) (.t 23)),
s_ 25 (.pick (.t 18) (.c (.bool true)) (.t 24))] [2,7,8,25] []) (
(.cond (.t 25) (
(.seq (
r_ [
s_ 4 (.as (.c (.bool false)))] [4] []) (
.ret))) (
.skip))))))) (some [2,7,8]) [4,5,6])) (
r_ [
s_ 26 (.bin .add (.t 8) (.c (.z 1))),
m_ 8 26] [2,7,8] []))))))
def A43_L0 : ACode:=.loop A43_L0b (some [2,7,8]) [4,5,6]
def A43 : AFn:=.code [.t 4] (
(.seq (
r_ [
s_ 2 (.box (.t 0)),
s_ 3 (.box (.t 1)),
s_ 4 (.as (.c (.bool false)))] [2,3] []) (
(.seq (
(.seq (
r_ [
l_ 7 true 3 3,
s_ 8 (.mv (.c (i0_)))] [2,7,8] [3]) (
(.block 0 (
A43_L0) (some []) [4,5,6])))) (
(.seq (
r_ [
s_ 4 (.as (.c (.bool true)))] [4] []) (
.ret)))))))
def A44_L0b : ACode :=
(.seq (
r_ [
s_ 48 (.bin .lss (.t 47) (.c (.z 2)))] [2,3,46,47,48] []) (
(.seq (
(.cond (.t 48) (
.skip) (
.exit 2))) (
(.seq (
(.block 3 (
(.seq (
r_ [
s_ 49 (.ixa false 2 1 (.t 46) (.t 47)),
s_ 9 (.as (.t 49))] [2,3,9,46,47] []) (
(.seq (
r_ [
m_ 50 9,
s_ 51 (.fad 32 (.t 2)),
l_ 52 false 1 51,
s_ 53 (.len 0 (.t 52)),
s_ 54 (.bin .sub (.t 53) (.c (.z 1))),
s_ 55 (.call 46 [.t 50,.c (.z (-1)),.t 54]),
s_ 56 (.un .not (.t 55)),
m_ 57 56,
f_ 58 57 (.mv (.t 9)),
f_ 59 57 (.bin .geq (.t 58) (.c (i0_))),
f_ 60 57 (.mv (.t 59)),
t_ 61 60 (.fad 8 (.t 3)),
t_ 62 60 (.load false 1 (.t 61)),
t_ 63 60 (.mv (.t 9)),
t_ 64 60 (.ias 1 (.t 62) (.t 63)),
t_ 65 60 (.load false 1 (.t 64)),
t_ 66 60 (.bin .neq (.t 65) (.c (.z (-1)))),
f_ 67 57 (.pick (.t 60) (.t 66) (.c (.bool false))),
s_ 68 (.pick (.t 57) (.c (.bool true)) (.t 67))] [2,3,46,47,68] []) (
(.cond (.t 68) (
(.seq (
r_ [
s_ 4 (.as (.c (.bool false)))] [4] []) (
.ret))) (
.skip))))))) (some [2,3,46,47]) [4,9,55])) (
r_ [
s_ 69 (.bin .add (.t 47) (.c (.z 1))),
m_ 47 69] [2,3,46,47] []))))))
def A44_L0 : ACode:=.loop A44_L0b (some [2,3,46,47]) [4,9,55]
def A44_L1b : ACode :=
(.seq (
r_ [
b_ 22 .lss 21 20] [2,3,5,19,20,21,22] []) (
(.seq (
(.cond (.t 22) (
.skip) (
.exit 0))) (
(.seq (
(.block 1 (
(.seq (
r_ [
s_ 23 (.ias 1 (.t 19) (.t 21)),
l_ 24 false 1 23,
s_ 7 (.as (.t 24))] [2,3,5,7,19,20,21] []) (
(.seq (
(.seq (
r_ [
m_ 25 7,
s_ 26 (.fad 31 (.t 2)),
l_ 27 false 1 26,
s_ 28 (.len 0 (.t 27)),
s_ 29 (.bin .sub (.t 28) (.c (.z 1))),
s_ 30 (.call 46 [.t 25,.c (.z (-1)),.t 29]),
s_ 31 (.un .not (.t 30))] [2,3,5,7,19,20,21,31] []) (
(.cond (.t 31) (
(.seq (
r_ [
s_ 4 (.as (.c (.bool false)))] [4] []) (
.ret))) (
.skip))))) (
(.seq (
r_ [
m_ 32 5,
m_ 33 7,
s_ 34 (.lkp [0,0] (i0_) false (.t 32) (.t 33)),
s_ 35 (.bin .add (.t 34) (.c (.z 1))),
n_ (.mpu [0,0] (.t 32) (.t 33) (.t 35))] [2,3,5,7,19,20,21] []) (
(.seq (
r_ [
m_ 36 7,
s_ 37 (.bin .geq (.t 36) (.c (i0_))),
m_ 38 37,
t_ 39 38 (.mv (.t 5)),
t_ 40 38 (.mv (.t 7)),
t_ 41 38 (.lkp [0,0] (i0_) false (.t 39) (.t 40)),
t_ 42 38 (.bin .gtr (.t 41) (.c (.z 1))),
s_ 43 (.pick (.t 38) (.t 42) (.c (.bool false)))] [2,3,5,19,20,21,43] []) (
(.cond (.t 43) (
(.seq (
r_ [
s_ 4 (.as (.c (.bool false)))] [4] []) (
.ret))) (
.skip))))))))))) (some [2,3,5,19,20,21]) [4,7,30])) (
r_ [
s_ 44 (.bin .add (.t 21) (.c (.z 1))),
m_ 21 44] [2,3,5,19,20,21] []))))))
def A44_L1 : ACode:=.loop A44_L1b (some [2,3,5,19,20,21]) [4,7,30]
def A44 : AFn:=.code [.t 4] (
(.seq (
r_ [
s_ 2 (.box (.t 0)),
s_ 3 (.box (.t 1)),
s_ 4 (.as (.c (.bool false)))] [2,3] []) (
(.seq (
(.seq (
r_ [
s_ 10 (.fad 8 (.t 3)),
l_ 11 false 1 10,
s_ 12 (.len 0 (.t 11)),
s_ 13 (.fad 32 (.t 2)),
l_ 14 false 1 13,
s_ 15 (.len 0 (.t 14)),
b_ 16 .neq 12 15] [2,3,16] []) (
(.cond (.t 16) (
(.seq (
r_ [
s_ 4 (.as (.c (.bool false)))] [4] []) (
.ret))) (
.skip))))) (
(.seq (
r_ [
s_ 17 (.mkm),
s_ 5 (.as (.t 17))] [2,3,5] []) (
(.seq (
(.seq (
r_ [
s_ 18 (.fad 8 (.t 3)),
l_ 19 false 1 18,
s_ 20 (.len 0 (.t 19)),
s_ 21 (.mv (.c (i0_)))] [2,3,5,19,20,21] []) (
(.block 0 (
A44_L1) (some [2,3]) [4,7,30])))) (
(.seq (
(.seq (
r_ [
s_ 45 (.fad 6 (.t 3)),
l_ 46 true 2 45,
s_ 47 (.mv (.c (i0_)))] [2,3,46,47] []) (
(.block 2 (
A44_L0) (some [3]) [4,9,55])))) (
(.seq (
r_ [
s_ 70 (.fad 6 (.t 3)),
s_ 71 (.iaa 2 1 (.t 70) (.c (i0_))),
l_ 72 false 1 71,
s_ 73 (.bin .lss (.t 72) (.c (i0_))),
m_ 74 73,
f_ 75 74 (.fad 6 (.t 3)),
f_ 76 74 (.iaa 2 1 (.t 75) (.c (i0_))),
f_ 77 74 (.load false 1 (.t 76)),
f_ 78 74 (.fad 6 (.t 3)),
f_ 79 74 (.iaa 2 1 (.t 78) (.c (.z 1))),
f_ 80 74 (.load false 1 (.t 79)),
f_ 81 74 (.bin .neq (.t 77) (.t 80)),
s_ 82 (.pick (.t 74) (.c (.bool true)) (.t 81)),
s_ 4 (.as (.t 82))] [4] [3]) (
.ret)))))))))))))
def A45 : AFn:=.code [.t 4] (
(.seq (
r_ [
s_ 2 (.box (.t 0)),
s_ 3 (.box (.t 1)),
s_ 4 (.as (.c (.nilf)))] [2,3] []) (
(.seq (
r_ [
s_ 5 (.mkf (.func 77) [] [.t 2,.t 3]),
s_ 4 (.as (.t 5))] [4] []) (
.ret)))))
def A46 : AFn:=.code [.t 6] (
(.seq (
r_ [
s_ 6 (.as (.c (.bool false)))] [0,1,2] []) (
(.seq (
r_ [
m_ 7 0,
m_ 8 1,
b_ 9 .geq 7 8,
m_ 10 9,
t_ 11 10 (.mv (.t 0)),
t_ 12 10 (.mv (.t 2)),
t_ 13 10 (.bin .leq (.t 11) (.t 12)),
s_ 14 (.pick (.t 10) (.t 13) (.c (.bool false))),
s_ 6 (.as (.t 14))] [6] []) (
.ret)))))
def A47_L0b : ACode :=
(.seq (
(.seq (
r_ [
m_ 84 8,
m_ 85 7,
b_ 86 .lss 84 85] [2,3,7,8,86] []) (
(.cond (.t 86) (
.skip) (
.exit 4))))) (
(.seq (
(.block 5 (
(.seq (
.reg (some [.dr [] [],.dr [] [],.dr [90] [],.free,.free,.free,.free,.dr [102,104,105] [],.dr [102,104,105] [],.dr [97,102,104,105] [],.dr [102,104,105] [],.dr [102,104,105] [],.dr [97,99,100] [],.dr [97,99,100] [],.dr [97,99,100,102] [],.dr [97,99,100] [],.dr [97,99,100] [],.free,.free]) [
s_ 89 (.fad 8 (.t 3)),
l_ 90 false 1 89,
m_ 91 7,
s_ 92 (.ias 1 (.t 90) (.t 91)),
l_ 93 false 1 92,
s_ 94 (.bin .geq (.t 93) (.c (i0_))),
m_ 95 94,
t_ 96 95 (.fad 8 (.t 3)),
t_ 97 95 (.load false 1 (.t 96)),
t_ 98 95 (.mv (.t 7)),
t_ 99 95 (.ias 1 (.t 97) (.t 98)),
t_ 100 95 (.load false 1 (.t 99)),
t_ 101 95 (.fad 8 (.t 3)),
t_ 102 95 (.load false 1 (.t 101)),
t_ 103 95 (.mv (.t 8)),
t_ 104 95 (.ias 1 (.t 102) (.t 103)),
t_ 105 95 (.load false 1 (.t 104)),
t_ 106 95 (.bin .eql (.t 100) (.t 105)),
s_ 107 (.pick (.t 95) (.t 106) (.c (.bool false)))] (some [2,3,7,8,107]) []) (
(.cond (.t 107) (
(.seq (
r_ [
s_ 4 (.as (.c (.bool false)))] [4] []) (
.ret))) (
.skip))))) (some [2,3,7,8]) [4])) (
r_ [
m_ 87 8,
s_ 88 (.bin .add (.t 87) (.c (.z 1))),
s_ 8 (.as (.t 88))] [2,3,7,8] []))))
def A47_L0 : ACode:=.loop A47_L0b (some [2,3,7,8]) [4]
def A47_L1b : ACode :=
(.seq (
(.seq (
r_ [
m_ 60 7,
s_ 61 (.fad 8 (.t 3)),
l_ 62 false 1 61,
s_ 63 (.len 0 (.t 62)),
b_ 64 .lss 60 63] [2,3,7,64] []) (
(.cond (.t 64) (
.skip) (
.exit 2))))) (
(.seq (
(.block 3 (
(.seq (
(.seq (
.reg (some [.dr [] [],.dr [] [],.dr [68] [],.free,.free,.free,.free,.dr [80,81] [],.dr [80,81] [],.dr [75,80,81] [],.dr [80,81] [],.dr [80,81] [],.dr [75,77,78] [],.dr [75,77,78] [],.dr [75,77,78] [],.free,.free]) [
s_ 67 (.fad 8 (.t 3)),
l_ 68 false 1 67,
m_ 69 7,
s_ 70 (.ias 1 (.t 68) (.t 69)),
l_ 71 false 1 70,
s_ 72 (.bin .lss (.t 71) (.c (.z (-1)))),
m_ 73 72,
f_ 74 73 (.fad 8 (.t 3)),
f_ 75 73 (.load false 1 (.t 74)),
f_ 76 73 (.mv (.t 7)),
f_ 77 73 (.ias 1 (.t 75) (.t 76)),
f_ 78 73 (.load false 1 (.t 77)),
f_ 79 73 (.fad 31 (.t 2)),
f_ 80 73 (.load false 1 (.t 79)),
f_ 81 73 (.len 0 (.t 80)),
f_ 82 73 (.bin .geq (.t 78) (.t 81)),
s_ 83 (.pick (.t 73) (.c (.bool true)) (.t 82))] (some [2,3,7,83]) []) (
(.cond (.t 83) (
(.seq (
r_ [
s_ 4 (.as (.c (.bool false)))] [4] []) (
.ret))) (
.skip))))) (
(.seq (
r_ [
s_ 8 (.as (.c (i0_)))] [2,3,7,8] []) (
(.block 4 (
A47_L0) (some [2,3,7]) [4,8])))))) (some [2,3,7]) [4,8])) (
r_ [
m_ 65 7,
s_ 66 (.bin .add (.t 65) (.c (.z 1))),
s_ 7 (.as (.t 66))] [2,3,7] []))))
def A47_L1 : ACode:=.loop A47_L1b (some [2,3,7]) [4,8]
def A47_L2b : ACode :=
(.seq (
(.seq (
r_ [
m_ 31 5,
s_ 32 (.bin .lss (.t 31) (.c (.z 2)))] [2,3,5,32] []) (
(.cond (.t 32) (
.skip) (
.exit 0))))) (
(.seq (
(.block 1 (
(.seq (
r_ [
m_ 35 5,
s_ 36 (.fad 6 (.t 3)),
s_ 37 (.iaa 2 1 (.t 36) (.t 35)),
l_ 38 false 1 37,
s_ 6 (.as (.t 38))] [2,3,5,6] []) (
(.seq (
r_ [
m_ 39 6,
s_ 40 (.bin .lss (.t 39) (.c (.z (-1)))),
m_ 41 40,
f_ 42 41 (.mv (.t 6)),
f_ 43 41 (.fad 32 (.t 2)),
f_ 44 41 (.load false 1 (.t 43)),
f_ 45 41 (.len 0 (.t 44)),
f_ 46 41 (.bin .geq (.t 42) (.t 45)),
s_ 47 (.pick (.t 41) (.c (.bool true)) (.t 46)),
m_ 48 47,
f_ 49 48 (.mv (.t 6)),
f_ 50 48 (.bin .geq (.t 49) (.c (i0_))),
f_ 51 48 (.mv (.t 50)),
t_ 52 51 (.fad 8 (.t 3)),
t_ 53 51 (.load false 1 (.t 52)),
t_ 54 51 (.mv (.t 6)),
t_ 55 51 (.ias 1 (.t 53) (.t 54)),
t_ 56 51 (.load false 1 (.t 55)),
t_ 57 51 (.bin .neq (.t 56) (.c (.z (-1)))),
f_ 58 48 (.pick (.t 51) (.t 57) (.c (.bool false))),
s_ 59 (.pick (.t 48) (.c (.bool true)) (.t 58))] [2,3,5,59] []) (
(.cond (.t 59) (
(.seq (
r_ [
s_ 4 (.as (.c (.bool false)))] [4] []) (
.ret))) (
.skip))))))) (some [2,3,5]) [4,6])) (
r_ [
m_ 33 5,
s_ 34 (.bin .add (.t 33) (.c (.z 1))),
s_ 5 (.as (.t 34))] [2,3,5] []))))
def A47_L2 : ACode:=.loop A47_L2b (some [2,3,5]) [4,6]
def A47 : AFn:=.code [.t 4] (
(.seq (
r_ [
s_ 2 (.box (.t 0)),
s_ 3 (.box (.t 1)),
s_ 4 (.as (.c (.bool false)))] [2,3] []) (
(.seq (
(.seq (
r_ [
s_ 9 (.fad 8 (.t 3)),
l_ 10 false 1 9,
s_ 11 (.len 0 (.t 10)),
s_ 12 (.fad 32 (.t 2)),
l_ 13 false 1 12,
s_ 14 (.len 0 (.t 13)),
b_ 15 .neq 11 14,
m_ 16 15,
f_ 17 16 (.fad 6 (.t 3)),
f_ 18 16 (.iaa 2 1 (.t 17) (.c (i0_))),
f_ 19 16 (.load false 1 (.t 18)),
f_ 20 16 (.bin .geq (.t 19) (.c (i0_))),
f_ 21 16 (.mv (.t 20)),
t_ 22 21 (.fad 6 (.t 3)),
t_ 23 21 (.iaa 2 1 (.t 22) (.c (i0_))),
t_ 24 21 (.load false 1 (.t 23)),
t_ 25 21 (.fad 6 (.t 3)),
t_ 26 21 (.iaa 2 1 (.t 25) (.c (.z 1))),
t_ 27 21 (.load false 1 (.t 26)),
t_ 28 21 (.bin .eql (.t 24) (.t 27)),
f_ 29 16 (.pick (.t 21) (.t 28) (.c (.bool false))),
s_ 30 (.pick (.t 16) (.c (.bool true)) (.t 29))] [2,3,30] []) (
(.cond (.t 30) (
(.seq (
r_ [
s_ 4 (.as (.c (.bool false)))] [4] []) (
.ret))) (
.skip))))) (
(.seq (
(.seq (
r_ [
s_ 5 (.as (.c (i0_)))] [2,3,5] []) (
(.block 0 (
A47_L2) (some [2,3]) [4,5,6])))) (
(.seq (
(.seq (
r_ [
s_ 7 (.as (.c (i0_)))] [2,3,7] []) (
(.block 2 (
A47_L1) (some []) [4,7,8])))) (
(.seq (
r_ [
s_ 4 (.as (.c (.bool true)))] [4] []) (
.ret)))))))))))
def A48 : AFn:=.code [.t 2] (
(.seq (
r_ [
s_ 1 (.box (.t 0)),
s_ 2 (.as (.c (.bool false)))] [1] []) (
(.seq (
r_ [
s_ 3 (.fad 0 (.t 1)),
l_ 4 false 1 3,
s_ 5 (.bin .geq (.t 4) (.c (.z (-439400000)))),
m_ 6 5,
t_ 7 6 (.fad 0 (.t 1)),
t_ 8 6 (.load false 1 (.t 7)),
t_ 9 6 (.bin .leq (.t 8) (.c (.z 439400000))),
s_ 10 (.pick (.t 6) (.t 9) (.c (.bool false))),
m_ 11 10,
t_ 12 11 (.fad 1 (.t 1)),
t_ 13 11 (.load false 1 (.t 12)),
t_ 14 11 (.bin .geq (.t 13) (.c (.z (-439400000)))),
s_ 15 (.pick (.t 11) (.t 14) (.c (.bool false))),
m_ 16 15,
t_ 17 16 (.fad 1 (.t 1)),
t_ 18 16 (.load false 1 (.t 17)),
t_ 19 16 (.bin .leq (.t 18) (.c (.z 439400000))),
s_ 20 (.pick (.t 16) (.t 19) (.c (.bool false))),
s_ 2 (.as (.t 20))] [2] [1]) (
.ret)))))
def A49_L0b : ACode :=
(.seq (
(.seq (
r_ [
m_ 81 15,
s_ 82 (.bin .lss (.t 81) (.c (.z 2)))] [4,6,8,9,15,82] []) (
(.cond (.t 82) (
.skip) (
.exit 4))))) (
(.seq (
(.block 5 (
(.seq (
.reg (some [.dr [90,91] [],.dr [90,91] [],.dr [90,91] [],.dr [90,91] [],.dr [87] [],.dr [87] [],.dr [87] [],.dr [87] [],.dr [87] [],.free,.free]) [
m_ 85 15,
s_ 86 (.iaa 2 1 (.t 6) (.t 85)),
l_ 87 false 1 86,
s_ 88 (.conv .i64 (.t 87)),
s_ 89 (.fad 32 (.t 4)),
l_ 90 false 1 89,
s_ 91 (.len 0 (.t 90)),
s_ 92 (.bin .mul (.c (.z 2)) (.t 91)),
s_ 93 (.bin .add (.t 92) (.c (.z 1))),
s_ 94 (.bin .rem (.t 88) (.t 93)),
s_ 16 (.as (.t 94))] (some [4,6,8,9,15,16]) []) (
(.seq (
r_ [
m_ 95 16,
s_ 96 (.fad 32 (.t 4)),
l_ 97 false 1 96,
s_ 98 (.len 0 (.t 97)),
b_ 99 .lss 95 98,
m_ 100 99,
t_ 101 100 (.fad 6 (.t 9)),
t_ 102 100 (.iaa 2 1 (.t 101) (.c (i0_))),
t_ 103 100 (.load false 1 (.t 102)),
t_ 104 100 (.mv (.t 16)),
t_ 105 100 (.bin .neq (.t 103) (.t 104)),
s_ 106 (.pick (.t 100) (.t 105) (.c (.bool false)))] [4,6,8,9,15,16,106] []) (
(.cond (.t 106) (
(.seq (
r_ [
m_ 107 15,
m_ 108 16,
s_ 109 (.fad 6 (.t 9)),
s_ 110 (.iaa 2 1 (.t 109) (.t 107)),
n_ (.store 1 (.t 110) (.t 108))] [4,6,8,9,15,16] []) (
r_ [
s_ 111 (.fad 8 (.t 9)),
l_ 112 false 1 111,
m_ 113 16,
s_ 114 (.ias 1 (.t 112) (.t 113)),
n_ (.store 1 (.t 114) (.c (.z (-1))))] [4,6,8,9,15] []))) (
.skip))))))) (some [4,6,8,9,15]) [16])) (
r_ [
m_ 83 15,
s_ 84 (.bin .add (.t 83) (.c (.z 1))),
s_ 15 (.as (.t 84))] [4,6,8,9,15] []))))
def A49_L0 : ACode:=.loop A49_L0b (some [4,6,8,9,15]) [16]
def A49_L1b : ACode :=
(.seq (
(.seq (
r_ [
m_ 38 12,
s_ 39 (.fad 32 (.t 4)),
l_ 40 false 1 39,
s_ 41 (.len 0 (.t 40)),
b_ 42 .lss 38 41] [3,4,6,8,9,11,12,42] []) (
(.cond (.t 42) (
.skip) (
.exit 2))))) (
(.seq (
(.block 3 (
(.seq (
r_ [
s_ 13 (.as (.c (.z (-1))))] [3,4,6,8,9,11,12,13] []) (
(.seq (
r_ [
s_ 14 (.as (.c (i0_)))] [3,4,6,8,9,11,12,13,14] []) (
(.seq (
(.seq (
r_ [
m_ 45 12,
m_ 46 3,
s_ 47 (.len 0 (.t 46)),
b_ 48 .lss 45 47] [3,4,6,8,9,11,12,13,14,48] []) (
(.cond (.t 48) (
.reg (some [.dr [55,56] [],.dr [55,56] [],.dr [55,56] [],.dr [55,56] [],.dr [55,56] [],.dr [51,52] [],.dr [51,52] [],.dr [51,52] [],.dr [51,52] [],.free,.free]) [
m_ 49 3,
m_ 50 12,
s_ 51 (.ias 1 (.t 49) (.t 50)),
l_ 52 false 1 51,
s_ 53 (.conv .i64 (.t 52)),
s_ 54 (.fad 31 (.t 4)),
l_ 55 false 1 54,
s_ 56 (.len 0 (.t 55)),
s_ 57 (.bin .add (.t 56) (.c (.z 1))),
s_ 58 (.bin .rem (.t 53) (.t 57)),
s_ 14 (.as (.t 58))] (some [3,4,6,8,9,11,12,13,14]) []) (
.skip))))) (
(.seq (
(.seq (
r_ [
m_ 59 14,
s_ 60 (.fad 31 (.t 4)),
l_ 61 false 1 60,
s_ 62 (.len 0 (.t 61)),
b_ 63 .lss 59 62,
m_ 64 63,
t_ 65 64 (.mv (.t 11)),
t_ 66 64 (.mv (.t 14)),
t_ 67 64 (.ias 1 (.t 65) (.t 66)),
t_ 68 64 (.load false 1 (.t 67)),
t_ 69 64 (.un .not (.t 68)),
s_ 70 (.pick (.t 64) (.t 69) (.c (.bool false)))] [3,4,6,8,9,11,12,13,14,70] []) (
(.cond (.t 70) (
(.seq (
r_ [
m_ 71 14,
s_ 13 (.as (.t 71))] [3,4,6,8,9,11,12,13,14] []) (
r_ [
m_ 72 11,
m_ 73 14,
s_ 74 (.ias 1 (.t 72) (.t 73)),
n_ (.store 1 (.t 74) (.c (.bool true)))] [3,4,6,8,9,11,12,13] []))) (
.skip))))) (
r_ [
s_ 75 (.fad 8 (.t 9)),
l_ 76 false 1 75,
m_ 77 13,
s_ 78 (.bsl 1 1 [i0_] [(0,.t 77)]),
s_ 79 (.app 1 (.t 76) (.t 78)),
s_ 80 (.fad 8 (.t 9)),
n_ (.store 1 (.t 80) (.t 79))] [3,4,6,8,9,11,12] []))))))))) (some [3,4,6,8,9,11,12]) [13,14,78,79])) (
r_ [
m_ 43 12,
s_ 44 (.bin .add (.t 43) (.c (.z 1))),
s_ 12 (.as (.t 44))] [3,4,6,8,9,11,12] []))))
def A49_L1 : ACode:=.loop A49_L1b (some [3,4,6,8,9,11,12]) [13,14,78,79]
def A49_L2b : ACode :=
(.seq (
(.seq (
r_ [
m_ 19 10,
s_ 20 (.bin .lss (.t 19) (.c (.z 2)))] [3,4,5,6,8,9,10,20] []) (
(.cond (.t 20) (
.skip) (
.exit 0))))) (
(.seq (
(.block 1 (
.reg (some [.loc,.loc,.loc,.loc,.loc,.loc,.loc,.dr [30] [],.dr [27] [],.free,.free,.free]) [
m_ 23 10,
m_ 24 10,
s_ 25 (.fad 0 (.t 4)),
s_ 26 (.iaa 2 12 (.t 25) (.t 24)),
m_ 28 10,
s_ 29 (.iaa 2 3 (.t 5) (.t 28)),
s_ 32 (.fad 0 (.t 9)),
l_ 27 true 12 26,
l_ 30 true 3 29,
s_ 31 (.call 82 [.t 27,.t 30]),
s_ 33 (.iaa 2 3 (.t 32) (.t 23)),
n_ (.store 3 (.t 33) (.t 31))] (some [3,4,5,6,8,9,10]) []) (some [3,4,5,6,8,9,10]) [31])) (
r_ [
m_ 21 10,
s_ 22 (.bin .add (.t 21) (.c (.z 1))),
s_ 10 (.as (.t 22))] [3,4,5,6,8,9,10] []))))
def A49_L2 : ACode:=.loop A49_L2b (some [3,4,5,6,8,9,10]) [31]
def A49 : AFn:=.code [.cell true 9 8] (
(.seq (
r_ [
s_ 4 (.box (.t 0)),
s_ 5 (.box (.t 1)),
s_ 6 (.box (.t 2)),
s_ 8 (.alloc [i0_,i0_,i0_,i0_,i0_,i0_,i0_,i0_,.nils 1])] [3,4,5,6,8] []) (
(.seq (
r_ [
s_ 17 (.build [i0_,i0_] [(0,1,.c (.z (-1))),(1,1,.c (.z (-1)))]),
s_ 18 (.build [i0_,i0_,i0_,i0_,i0_,i0_,i0_,i0_,.nils 1] [(6,2,.t 17)]),
s_ 9 (.alloc [i0_,i0_,i0_,i0_,i0_,i0_,i0_,i0_,.nils 1]),
n_ (.store 9 (.t 9) (.t 18))] [3,4,5,6,8,9] []) (
(.seq (
(.seq (
r_ [
s_ 10 (.as (.c (i0_)))] [3,4,5,6,8,9,10] []) (
(.block 0 (
A49_L2) (some [3,4,6,8,9]) [10,31])))) (
(.seq (
r_ [
s_ 34 (.fad 31 (.t 4)),
l_ 35 false 1 34,
s_ 36 (.len 0 (.t 35)),
s_ 37 (.mks 1 [.bool false] (.t 36) (.t 36)),
s_ 11 (.as (.t 37))] [3,4,6,8,9,11] []) (
(.seq (
(.seq (
r_ [
s_ 12 (.as (.c (i0_)))] [3,4,6,8,9,11,12] []) (
(.block 2 (
A49_L1) (some [4,6,8,9]) [12,13,14,78,79])))) (
(.seq (
(.seq (
r_ [
s_ 15 (.as (.c (i0_)))] [4,6,8,9,15] []) (
(.block 4 (
A49_L0) (some [8,9]) [15,16])))) (
(.seq (
r_ [
l_ 115 true 9 9,
n_ (.store 9 (.t 8) (.t 115))] [8] [9]) (
.ret)))))))))))))))
def A50_L0b : ACode :=
(.seq (
(.seq (
r_ [
m_ 19 8,
s_ 20 (.bin .lss (.t 19) (.c (.z 3)))] [2,4,5,6,7,8,20] []) (
(.cond (.t 20) (
.skip) (
.exit 0))))) (
(.seq (
(.block 1 (
(.seq (
.reg (some [.dr [27,9] [],.dr [27,9] [],.dr [27,9] [],.dr [25,9] [],.dr [25,9] [],.dr [9] [],.dr [25,27,28] [],.free]) [
m_ 23 8,
s_ 24 (.iaa 3 3 (.t 5) (.t 23)),
l_ 25 true 3 24,
s_ 26 (.fad 5 (.t 2)),
l_ 27 false 1 26,
s_ 28 (.call 83 [.t 25,.t 27]),
s_ 9 (.alloc [i0_,i0_]),
n_ (.store 2 (.t 9) (.t 28))] (some [2,4,5,6,7,8,9]) []) (
(.seq (
r_ [
s_ 29 (.fad 1 (.t 9)),
l_ 30 false 1 29,
s_ 31 (.un .neg (.t 30)),
s_ 32 (.fad 0 (.t 9)),
l_ 33 false 1 32,
s_ 34 (.build [i0_,i0_] [(0,1,.t 31),(1,1,.t 33)]),
s_ 10 (.alloc [i0_,i0_]),
n_ (.store 2 (.t 10) (.t 34))] [2,4,5,6,7,8,9,10] []) (
(.seq (
r_ [
s_ 35 (.fad 1 (.t 9)),
l_ 36 false 1 35,
s_ 37 (.fad 0 (.t 9)),
l_ 38 false 1 37,
s_ 39 (.un .neg (.t 38)),
s_ 40 (.build [i0_,i0_] [(0,1,.t 36),(1,1,.t 39)]),
s_ 11 (.alloc [i0_,i0_]),
n_ (.store 2 (.t 11) (.t 40))] [2,4,5,6,7,8,10,11] [9]) (
.reg (some [.loc,.loc,.loc,.loc,.loc,.loc,.loc,.loc,.loc,.loc,.loc,.dr [45,50,51,56,57,61,62] [],.dr [44,50,51,56,57,61,62] [],.dr [50,51,56,57,61,62] [],.dr [44,45,46,51,56,57,61,62] [],.dr [44,45,46,50,56,57,61,62] [],.dr [56,57,61,62] [],.dr [44,45,46,50,51,52,57,61,62] [],.dr [44,45,46,50,51,52,56,61,62] [],.dr [61,62] [],.dr [44,45,46,50,51,52,56,57,58,62] [],.dr [44,45,46,50,51,52,56,57,58,61] [],.free,.free,.free,.free]) [
m_ 41 8,
m_ 42 8,
s_ 43 (.iaa 4 2 (.t 6) (.t 42)),
m_ 47 8,
s_ 48 (.bin .add (.t 47) (.c (.z 1))),
s_ 49 (.iaa 4 2 (.t 6) (.t 48)),
m_ 53 8,
s_ 54 (.bin .add (.t 53) (.c (.z 1))),
s_ 55 (.iaa 4 2 (.t 6) (.t 54)),
m_ 59 8,
s_ 60 (.iaa 4 2 (.t 6) (.t 59)),
l_ 44 true 2 43,
l_ 45 true 2 11,
s_ 46 (.call 84 [.t 44,.t 45]),
l_ 50 true 2 49,
l_ 51 true 2 11,
s_ 52 (.call 84 [.t 50,.t 51]),
l_ 56 true 2 55,
l_ 57 true 2 10,
s_ 58 (.call 84 [.t 56,.t 57]),
l_ 61 true 2 60,
l_ 62 true 2 10,
s_ 63 (.call 84 [.t 61,.t 62]),
s_ 64 (.bsl 2 4 [i0_,i0_] [(0,.t 46),(1,.t 52),(2,.t 58),(3,.t 63)]),
s_ 65 (.iaa 3 1 (.t 7) (.t 41)),
n_ (.store 1 (.t 65) (.t 64))] (some [2,4,5,6,7,8]) [10,11]))))))) (some [2,4,5,6,7,8]) [9,10,11,28,46,52,58,63,64])) (
r_ [
m_ 21 8,
s_ 22 (.bin .add (.t 21) (.c (.z 1))),
s_ 8 (.as (.t 22))] [2,4,5,6,7,8] []))))
def A50_L0 : ACode:=.loop A50_L0b (some [2,4,5,6,7,8]) [9,10,11,28,46,52,58,63,64]
def A50 : AFn:=.code [.cell true 3 4] (
(.seq (
r_ [
s_ 2 (.box (.t 0)),
s_ 3 (.box (.t 1)),
s_ 4 (.alloc [.nils 2,.nils 2,.nils 2])] [2,3,4] []) (
(.seq (
r_ [
l_ 12 true 12 2,
l_ 13 true 3 3,
s_ 14 (.call 52 [.t 12,.t 13]),
s_ 5 (.alloc [i0_,i0_,i0_,i0_,i0_,i0_,i0_,i0_,i0_]),
n_ (.store 9 (.t 5) (.t 14))] [2,3,4,5] []) (
(.seq (
r_ [
l_ 15 true 12 2,
l_ 16 true 3 3,
s_ 17 (.call 51 [.t 15,.t 16]),
s_ 6 (.alloc [i0_,i0_,i0_,i0_,i0_,i0_,i0_,i0_]),
n_ (.store 8 (.t 6) (.t 17))] [2,4,5,6] [3]) (
(.seq (
r_ [
s_ 18 (.build [.nils 2,.nils 2,.nils 2] []),
s_ 7 (.alloc [.nils 2,.nils 2,.nils 2]),
n_ (.store 3 (.t 7) (.t 18))] [2,4,5,6,7] []) (
(.seq (
(.seq (
r_ [
s_ 8 (.as (.c (i0_)))] [2,4,5,6,7,8] []) (
(.block 0 (
A50_L0) (some [4,7]) [8,9,10,11,28,46,52,58,63,64])))) (
(.seq (
r_ [
l_ 66 true 3 7,
n_ (.store 3 (.t 4) (.t 66))] [4] [7]) (
.ret)))))))))))))
def A51_L0b : ACode :=
(.seq (
(.seq (
r_ [
m_ 14 7,
s_ 15 (.bin .lss (.t 14) (.c (.z 3)))] [2,4,5,6,7,15] []) (
(.cond (.t 15) (
.skip) (
.exit 0))))) (
(.seq (
(.block 1 (
.reg (some [.loc,.loc,.loc,.loc,.loc,.loc,.loc,.loc,.loc,.dr [25,29,30] [],.dr [22,29] [],.dr [22,25] [],.dr [22] [],.free,.free,.free]) [
m_ 18 7,
s_ 19 (.bin .add (.t 18) (.c (.z 1))),
m_ 20 7,
s_ 21 (.iaa 4 2 (.t 6) (.t 20)),
m_ 23 7,
s_ 24 (.iaa 3 3 (.t 5) (.t 23)),
m_ 26 7,
s_ 27 (.fad 2 (.t 2)),
s_ 28 (.iaa 3 1 (.t 27) (.t 26)),
l_ 22 true 2 21,
l_ 25 true 3 24,
l_ 29 false 1 28,
s_ 30 (.call 83 [.t 25,.t 29]),
s_ 31 (.call 84 [.t 22,.t 30]),
s_ 32 (.iaa 4 2 (.t 6) (.t 19)),
n_ (.store 2 (.t 32) (.t 31))] (some [2,4,5,6,7]) []) (some [2,4,5,6,7]) [30,31])) (
r_ [
m_ 16 7,
s_ 17 (.bin .add (.t 16) (.c (.z 1))),
s_ 7 (.as (.t 17))] [2,4,5,6,7] []))))
def A51_L0 : ACode:=.loop A51_L0b (some [2,4,5,6,7]) [30,31]
def A51 : AFn:=.code [.cell true 8 4] (
(.seq (
r_ [
s_ 2 (.box (.t 0)),
s_ 3 (.box (.t 1)),
s_ 4 (.alloc [i0_,i0_,i0_,i0_,i0_,i0_,i0_,i0_])] [2,3,4] []) (
(.seq (
r_ [
l_ 8 true 12 2,
l_ 9 true 3 3,
s_ 10 (.call 52 [.t 8,.t 9]),
s_ 5 (.alloc [i0_,i0_,i0_,i0_,i0_,i0_,i0_,i0_,i0_]),
n_ (.store 9 (.t 5) (.t 10))] [2,4,5] [3]) (
(.seq (
r_ [
s_ 11 (.fad 0 (.t 2)),
l_ 12 true 2 11,
s_ 13 (.build [i0_,i0_,i0_,i0_,i0_,i0_,i0_,i0_] [(0,2,.t 12)]),
s_ 6 (.alloc [i0_,i0_,i0_,i0_,i0_,i0_,i0_,i0_]),
n_ (.store 8 (.t 6) (.t 13))] [2,4,5,6] []) (
(.seq (
(.seq (
r_ [
s_ 7 (.as (.c (i0_)))] [2,4,5,6,7] []) (
(.block 0 (
A51_L0) (some [4,6]) [7,30,31])))) (
(.seq (
r_ [
l_ 33 true 8 6,
n_ (.store 8 (.t 4) (.t 33))] [4] [6]) (
.ret)))))))))))
def A52 : AFn:=.code [.cell true 9 4] (
(.seq (
r_ [
s_ 2 (.box (.t 0)),
s_ 3 (.box (.t 1)),
s_ 4 (.alloc [i0_,i0_,i0_,i0_,i0_,i0_,i0_,i0_,i0_])] [3,4] [2]) (
(.seq (
r_ [
s_ 7 (.build [i0_,i0_,i0_] [(0,1,.c (.z 1))]),
s_ 8 (.iaa 3 1 (.t 3) (.c (i0_))),
l_ 9 false 1 8,
s_ 10 (.call 85 [.t 7,.t 9]),
s_ 5 (.alloc [i0_,i0_,i0_]),
n_ (.store 3 (.t 5) (.t 10))] [3,4,5] []) (
(.seq (
r_ [
l_ 11 true 3 5,
s_ 12 (.iaa 3 1 (.t 3) (.c (.z 1))),
l_ 13 false 1 12,
s_ 14 (.call 85 [.t 11,.t 13]),
s_ 6 (.alloc [i0_,i0_,i0_]),
n_ (.store 3 (.t 6) (.t 14))] [3,4,5,6] []) (
(.seq (
.reg (some [.dr [16,17,19,20] [],.dr [15,17,19,20] [],.dr [15,16,19] [],.dr [15,16,17] [],.dr [15,16,17] [],.dr [15,16] [],.free,.free]) [
l_ 15 true 3 5,
l_ 16 true 3 6,
l_ 17 true 3 6,
s_ 18 (.iaa 3 1 (.t 3) (.c (.z 2))),
l_ 19 false 1 18,
s_ 20 (.call 85 [.t 17,.t 19]),
s_ 21 (.build [i0_,i0_,i0_,i0_,i0_,i0_,i0_,i0_,i0_] [(0,3,.t 15),(3,3,.t 16),(6,3,.t 20)]),
n_ (.store 9 (.t 4) (.t 21))] (some [4]) [3,5,6]) (
.ret)))))))))
def A53_L0b : ACode :=
(.seq (
(.seq (
r_ [
m_ 11 8,
s_ 12 (.fad 1 (.t 3)),
l_ 13 false 1 12,
s_ 14 (.len 0 (.t 13)),
b_ 15 .lss 11 14] [3,4,5,7,8,15] []) (
(.cond (.t 15) (
.skip) (
.exit 0))))) (
(.seq (
(.block 1 (
(.seq (
r_ [
s_ 18 (.fad 1 (.t 3)),
l_ 19 false 1 18,
m_ 20 8,
s_ 21 (.ias 2 (.t 19) (.t 20)),
s_ 22 (.fad 0 (.t 21)),
l_ 23 false 1 22,
s_ 9 (.as (.t 23))] [3,4,5,7,8,9] []) (
(.seq (
r_ [
s_ 24 (.fad 1 (.t 3)),
l_ 25 false 1 24,
m_ 26 8,
s_ 27 (.ias 2 (.t 25) (.t 26)),
s_ 28 (.fad 1 (.t 27)),
l_ 29 false 1 28,
s_ 10 (.as (.t 29))] [3,4,5,7,8,9,10] []) (
r_ [
m_ 30 7,
s_ 31 (.fad 0 (.t 4)),
l_ 32 false 1 31,
m_ 33 9,
s_ 34 (.fad 0 (.t 5)),
l_ 35 false 1 34,
b_ 36 .mul 33 35,
m_ 37 10,
s_ 38 (.fad 1 (.t 5)),
l_ 39 false 1 38,
b_ 40 .mul 37 39,
b_ 41 .sub 36 40,
s_ 42 (.bin .mul (.c (.z 16)) (.t 41)),
b_ 43 .add 32 42,
s_ 44 (.fad 1 (.t 4)),
l_ 45 false 1 44,
m_ 46 9,
s_ 47 (.fad 1 (.t 5)),
l_ 48 false 1 47,
b_ 49 .mul 46 48,
m_ 50 10,
s_ 51 (.fad 0 (.t 5)),
l_ 52 false 1 51,
b_ 53 .mul 50 52,
b_ 54 .add 49 53,
s_ 55 (.bin .mul (.c (.z 16)) (.t 54)),
b_ 56 .add 45 55,
s_ 57 (.build [i0_,i0_] [(0,1,.t 43),(1,1,.t 56)]),
s_ 58 (.bsl 2 1 [i0_,i0_] [(0,.t 57)]),
s_ 59 (.app 2 (.t 30) (.t 58)),
s_ 7 (.as (.t 59))] [3,4,5,7,8] []))))) (some [3,4,5,7,8]) [9,10,58])) (
r_ [
m_ 16 8,
s_ 17 (.bin .add (.t 16) (.c (.z 1))),
s_ 8 (.as (.t 17))] [3,4,5,7,8] []))))
def A53_L0 : ACode:=.loop A53_L0b (some [3,4,5,7,8]) [9,10,58]
def A53 : AFn:=.code [.t 6] (
(.seq (
r_ [
s_ 3 (.box (.t 0)),
s_ 4 (.box (.t 1)),
s_ 5 (.box (.t 2)),
s_ 6 (.as (.c (.nils 2)))] [3,4,5] []) (
(.seq (
r_ [
s_ 7 (.as (.c (.nils 2)))] [3,4,5,7] []) (
(.seq (
(.seq (
r_ [
s_ 8 (.as (.c (i0_)))] [3,4,5,7,8] []) (
(.block 0 (
A53_L0) (some [7]) [8,9,10,58])))) (
(.seq (
r_ [
m_ 60 7,
s_ 6 (.as (.t 60))] [6] []) (
.ret)))))))))
def A54_L0b : ACode :=
(.seq (
(.seq (
r_ [
m_ 11 5,
m_ 12 0,
s_ 13 (.len 0 (.t 12)),
b_ 14 .lss 11 13] [0,1,5,14] []) (
(.cond (.t 14) (
.skip) (
.exit 0))))) (
(.seq (
(.block 1 (
(.seq (
.reg (some [.dr [23,24] [],.dr [23,24] [],.dr [23,24] [],.dr [23,24] [],.dr [19,20] [],.dr [19,20] [],.dr [19,20] [],.dr [19,20] [],.free]) [
m_ 17 0,
m_ 18 5,
s_ 19 (.ias 2 (.t 17) (.t 18)),
l_ 20 true 2 19,
m_ 21 1,
m_ 22 5,
s_ 23 (.ias 2 (.t 21) (.t 22)),
l_ 24 true 2 23,
s_ 25 (.eqa true [0,0] (.t 20) (.t 24))] (some [0,1,5,25]) []) (
(.cond (.t 25) (
(.seq (
r_ [
s_ 4 (.as (.c (.bool false)))] [4] []) (
.ret))) (
.skip))))) (some [0,1,5]) [4])) (
r_ [
m_ 15 5,
s_ 16 (.bin .add (.t 15) (.c (.z 1))),
s_ 5 (.as (.t 16))] [0,1,5] []))))
def A54_L0 : ACode:=.loop A54_L0b (some [0,1,5]) [4]
def A54 : AFn:=.code [.t 4] (
(.seq (
r_ [
s_ 4 (.as (.c (.bool false)))] [0,1] []) (
(.seq (
(.seq (
r_ [
m_ 6 0,
s_ 7 (.len 0 (.t 6)),
m_ 8 1,
s_ 9 (.len 0 (.t 8)),
b_ 10 .neq 7 9] [0,1,10] []) (
(.cond (.t 10) (
(.seq (
r_ [
s_ 4 (.as (.c (.bool false)))] [4] []) (
.ret))) (
.skip))))) (
(.seq (
(.seq (
r_ [
s_ 5 (.as (.c (i0_)))] [0,1,5] []) (
(.block 0 (
A54_L0) (some []) [4,5])))) (
(.seq (
r_ [
s_ 4 (.as (.c (.bool true)))] [4] []) (
.ret)))))))))
def A55 : AFn:=.code [.t 4] (
(.seq (
r_ [
s_ 2 (.box (.t 0)),
s_ 3 (.box (.t 1)),
s_ 4 (.as (.c (.nilf)))] [2,3] []) (
(.seq (
r_ [
s_ 5 (.mkf (.func 86) [] [.t 2,.t 3]),
s_ 4 (.as (.t 5))] [4] []) (
.ret)))))
def A57 : AFn:=.code [.t 4] (
(.seq (
r_ [
s_ 4 (.as (.c (.bool false)))] [0,1] []) (
(.seq (
r_ [
m_ 8 0,
m_ 9 1,
s_ 10 (.call 88 [.t 8,.t 9]),
m_ 7 10,
s_ 11 (.ext (.t 7) 0),
s_ 12 (.ext (.t 7) 1),
s_ 5 (.alloc [i0_,i0_,i0_]),
n_ (.store 3 (.t 5) (.t 11)),
s_ 6 (.as (.t 12))] [6] [5]) (
(.seq (
r_ [
m_ 13 6,
s_ 4 (.as (.t 13))] [4] []) (
.ret)))))))
def A60 : AFn:=.code [.t 2] (
(.seq (
r_ [
s_ 1 (.box (.t 0)),
s_ 2 (.as (.c (.nilf)))] [1] []) (
(.seq (
r_ [
s_ 3 (.mkf (.func 92) [] [.t 1]),
s_ 2 (.as (.t 3))] [2] []) (
.ret)))))
def A61 : AFn:=.code [.t 6] (
(.seq (
r_ [
s_ 3 (.box (.t 0)),
s_ 4 (.box (.t 1)),
s_ 5 (.box (.t 2)),
s_ 6 (.as (.c (.bool false)))] [3,4,5] []) (
(.seq (
r_ [
l_ 7 true 2 3,
l_ 8 true 2 4,
l_ 9 true 2 5,
s_ 10 (.call 93 [.t 7,.t 8,.t 9]),
m_ 11 10,
t_ 12 11 (.load true 2 (.t 3)),
t_ 13 11 (.load true 2 (.t 4)),
t_ 14 11 (.load true 2 (.t 5)),
t_ 15 11 (.call 62 [.t 12,.t 13,.t 14]),
t_ 16 11 (.bin .eql (.t 15) (.c (i0_))),
s_ 17 (.pick (.t 11) (.t 16) (.c (.bool false))),
s_ 6 (.as (.t 17))] [6] [3,4,5]) (
.ret)))))
def A62 : AFn:=.code [.t 6] (
(.seq (
r_ [
s_ 3 (.box (.t 0)),
s_ 4 (.box (.t 1)),
s_ 5 (.box (.t 2)),
s_ 6 (.as (.c (i0_)))] [3,4,5] []) (
(.seq (
.reg (some [.dr [11,13,14,7,8] [],.dr [10,13,14,7,8] [],.dr [13,14,7,8] [],.dr [10,11,12,14,7,8] [],.dr [10,11,12,13,7,8] [],.dr [7,8] [],.dr [10,11,12,13,14,15,8] [],.dr [10,11,12,13,14,15,7] [],.free,.free]) [
l_ 10 true 2 4,
l_ 11 true 2 3,
s_ 12 (.call 94 [.t 10,.t 11]),
l_ 13 true 2 5,
l_ 14 true 2 3,
s_ 15 (.call 94 [.t 13,.t 14]),
s_ 7 (.alloc [i0_,i0_]),
s_ 8 (.alloc [i0_,i0_]),
n_ (.store 2 (.t 7) (.t 12)),
n_ (.store 2 (.t 8) (.t 15))] (some [7,8]) [3,4,5]) (
(.seq (
(.seq (
r_ [
s_ 16 (.fad 0 (.t 7)),
l_ 17 false 1 16,
s_ 18 (.fad 1 (.t 8)),
l_ 19 false 1 18,
b_ 20 .mul 17 19,
s_ 21 (.fad 1 (.t 7)),
l_ 22 false 1 21,
s_ 23 (.fad 0 (.t 8)),
l_ 24 false 1 23,
b_ 25 .mul 22 24,
b_ 26 .sub 20 25,
s_ 9 (.as (.t 26))] [9] [7,8]) (
(.block 0 (
(.seq (
r_ [
m_ 28 9,
s_ 29 (.bin .gtr (.t 28) (.c (i0_))),
s_ 27 (.as (.t 29))] [9,27] []) (
(.cond (.t 27) (
(.seq (
r_ [
s_ 6 (.as (.c (.z 1)))] [6] []) (
.ret))) (
(.seq (
r_ [
m_ 31 9,
s_ 32 (.bin .lss (.t 31) (.c (i0_))),
s_ 30 (.as (.t 32))] [30] []) (
(.cond (.t 30) (
(.seq (
r_ [
s_ 6 (.as (.c (.z (-1))))] [6] []) (
.ret))) (
.skip))))))))) (some []) [6,27,30])))) (
(.seq (
r_ [
s_ 6 (.as (.c (i0_)))] [6] []) (
.ret)))))))))
def A63_L0b : ACode :=
(.seq (
r_ [
b_ 11 .lss 10 9] [1,5,8,9,10,11] []) (
(.seq (
(.cond (.t 11) (
.skip) (
.exit 0))) (
(.seq (
(.block 1 (
(.seq (
r_ [
s_ 12 (.ias 2 (.t 8) (.t 10)),
l_ 13 true 2 12,
s_ 7 (.alloc [i0_,i0_]),
n_ (.store 2 (.t 7) (.t 13))] [1,5,7,8,9,10] []) (
r_ [
m_ 14 5,
m_ 15 1,
l_ 16 true 2 7,
s_ 17 (.cal (.t 15) [.t 16]),
s_ 18 (.bsl 2 1 [i0_,i0_] [(0,.t 17)]),
s_ 19 (.app 2 (.t 14) (.t 18)),
s_ 5 (.as (.t 19))] [1,5,8,9,10] [7]))) (some [1,5,8,9,10]) [7,17,18])) (
r_ [
s_ 20 (.bin .add (.t 10) (.c (.z 1))),
m_ 10 20] [1,5,8,9,10] []))))))
def A63_L0 : ACode:=.loop A63_L0b (some [1,5,8,9,10]) [7,17,18]
def A63 : AFn:=.code [.t 4] (
(.seq (
r_ [
s_ 4 (.as (.c (.nils 2)))] [0,1] []) (
(.seq (
r_ [
s_ 5 (.as (.c (.nils 2)))] [0,1,5] []) (
(.seq (
(.seq (
r_ [
m_ 8 0,
s_ 9 (.len 0 (.t 8)),
s_ 10 (.mv (.c (i0_)))] [1,5,8,9,10] []) (
(.block 0 (
A63_L0) (some [5]) [7,17,18])))) (
(.seq (
r_ [
m_ 21 5,
s_ 4 (.as (.t 21))] [4] []) (
.ret)))))))))
def A64 : AFn:=.code [.cell true 2 3] (
(.seq (
r_ [
s_ 2 (.box (.t 0)),
s_ 3 (.alloc [i0_,i0_])] [1,2,3] []) (
(.seq (
r_ [
l_ 4 true 2 2,
l_ 5 true 2 1,
s_ 6 (.call 65 [.t 4,.t 5]),
n_ (.store 2 (.t 3) (.t 6))] [3] [2]) (
.ret)))))
def A65 : AFn:=.code [.cell true 2 4] (
(.seq (
r_ [
s_ 2 (.box (.t 0)),
s_ 3 (.box (.t 1)),
s_ 4 (.alloc [i0_,i0_])] [2,3,4] []) (
(.seq (
r_ [
s_ 5 (.fad 0 (.t 2)),
l_ 6 false 1 5,
s_ 7 (.fad 0 (.t 3)),
l_ 8 false 1 7,
b_ 9 .add 6 8,
s_ 10 (.fad 1 (.t 2)),
l_ 11 false 1 10,
s_ 12 (.fad 1 (.t 3)),
l_ 13 false 1 12,
b_ 14 .add 11 13,
s_ 15 (.build [i0_,i0_] [(0,1,.t 9),(1,1,.t 14)]),
n_ (.store 2 (.t 4) (.t 15))] [4] [2,3]) (
.ret)))))
def A71 : AFn:=.code [.t 2] (
(.seq (
r_ [
s_ 1 (.box (.t 0)),
s_ 2 (.as (.c (.bool false)))] [1] []) (
(.seq (
r_ [
s_ 3 (.fad 0 (.t 1)),
s_ 4 (.fad 0 (.t 3)),
l_ 5 false 1 4,
s_ 6 (.bin .gtr (.t 5) (.c (.z 1000000000))),
m_ 7 6,
f_ 8 7 (.fad 0 (.t 1)),
f_ 9 7 (.fad 0 (.t 8)),
f_ 10 7 (.load false 1 (.t 9)),
f_ 11 7 (.bin .lss (.t 10) (.c (.z (-1000000000)))),
s_ 12 (.pick (.t 7) (.c (.bool true)) (.t 11)),
m_ 13 12,
f_ 14 13 (.fad 0 (.t 1)),
f_ 15 13 (.fad 1 (.t 14)),
f_ 16 13 (.load false 1 (.t 15)),
f_ 17 13 (.bin .gtr (.t 16) (.c (.z 1000000000))),
s_ 18 (.pick (.t 13) (.c (.bool true)) (.t 17)),
m_ 19 18,
f_ 20 19 (.fad 0 (.t 1)),
f_ 21 19 (.fad 1 (.t 20)),
f_ 22 19 (.load false 1 (.t 21)),
f_ 23 19 (.bin .lss (.t 22) (.c (.z (-1000000000)))),
s_ 24 (.pick (.t 19) (.c (.bool true)) (.t 23)),
s_ 2 (.as (.t 24))] [2] [1]) (
.ret)))))
def A72 : AFn:=.code [.t 2] (
(.seq (
r_ [
s_ 2 (.as (.c (i0_)))] [0] []) (
(.seq (
(.seq (
r_ [
m_ 3 0,
s_ 4 (.bin .lss (.t 3) (.c (i0_)))] [0,4] []) (
(.cond (.t 4) (
(.seq (
r_ [
m_ 5 0,
s_ 6 (.un .neg (.t 5)),
s_ 2 (.as (.t 6))] [2] []) (
.ret))) (
.skip))))) (
(.seq (
r_ [
m_ 7 0,
s_ 2 (.as (.t 7))] [2] []) (
.ret)))))))
def A73_L0b : ACode :=
(.seq (
(.seq (
r_ [
m_ 46 6,
m_ 47 3,
b_ 48 .lss 46 47] [0,3,5,6,48] []) (
(.cond (.t 48) (
.skip) (
.exit 4))))) (
(.seq (
(.block 5 (
(.seq (
r_ [
m_ 51 5,
s_ 52 (.bin .neq (.t 51) (.c (i0_))),
m_ 53 52,
f_ 54 53 (.mv (.t 6)),
f_ 55 53 (.mv (.t 3)),
f_ 56 53 (.bin .sub (.t 55) (.c (.z 1))),
f_ 57 53 (.bin .neq (.t 54) (.t 56)),
s_ 58 (.pick (.t 53) (.c (.bool true)) (.t 57)),
m_ 59 58,
t_ 60 59 (.mv (.t 0)),
t_ 61 59 (.mv (.t 5)),
t_ 62 59 (.call 99 [.t 60,.t 61]),
t_ 63 59 (.mv (.t 0)),
t_ 64 59 (.mv (.t 5)),
t_ 65 59 (.bin .add (.t 64) (.c (.z 1))),
t_ 66 59 (.call 99 [.t 63,.t 65]),
t_ 67 59 (.mv (.t 0)),
t_ 68 59 (.mv (.t 6)),
t_ 69 59 (.call 99 [.t 67,.t 68]),
t_ 70 59 (.mv (.t 0)),
t_ 71 59 (.mv (.t 6)),
t_ 72 59 (.bin .add (.t 71) (.c (.z 1))),
t_ 73 59 (.call 99 [.t 70,.t 72]),
t_ 74 59 (.call 100 [.t 62,.t 66,.t 69,.t 73]),
s_ 75 (.pick (.t 59) (.t 74) (.c (.bool false)))] [0,3,5,6,75] []) (
(.cond (.t 75) (
(.seq (
r_ [
s_ 2 (.as (.c (.bool false)))] [2] []) (
.ret))) (
.skip))))) (some [0,3,5,6]) [2,62,66,69,73,74])) (
r_ [
m_ 49 6,
s_ 50 (.bin .add (.t 49) (.c (.z 1))),
s_ 6 (.as (.t 50))] [0,3,5,6] []))))
def A73_L0 : ACode:=.loop A73_L0b (some [0,3,5,6]) [2,62,66,69,73,74]
def A73_L1b : ACode :=
(.seq (
(.seq (
r_ [
m_ 26 5,
m_ 27 3,
b_ 28 .lss 26 27] [0,3,5,28] []) (
(.cond (.t 28) (
.skip) (
.exit 2))))) (
(.seq (
(.block 3 (
(.seq (
(.seq (
r_ [
m_ 31 0,
m_ 32 5,
s_ 33 (.call 99 [.t 31,.t 32]),
m_ 34 0,
m_ 35 5,
s_ 36 (.bin .add (.t 35) (.c (.z 1))),
s_ 37 (.call 99 [.t 34,.t 36]),
m_ 38 0,
m_ 39 5,
s_ 40 (.bin .add (.t 39) (.c (.z 2))),
s_ 41 (.call 99 [.t 38,.t 40]),
s_ 42 (.call 98 [.t 33,.t 37,.t 41]),
s_ 43 (.bin .eql (.t 42) (.c (i0_)))] [0,3,5,43] []) (
(.cond (.t 43) (
(.seq (
r_ [
s_ 2 (.as (.c (.bool false)))] [2] []) (
.ret))) (
.skip))))) (
(.seq (
r_ [
m_ 44 5,
s_ 45 (.bin .add (.t 44) (.c (.z 2))),
s_ 6 (.as (.t 45))] [0,3,5,6] []) (
(.block 4 (
A73_L0) (some [0,3,5]) [2,6,62,66,69,73,74])))))) (some [0,3,5]) [2,6,33,37,41,42,62,66,69,73,74])) (
r_ [
m_ 29 5,
s_ 30 (.bin .add (.t 29) (.c (.z 1))),
s_ 5 (.as (.t 30))] [0,3,5] []))))
def A73_L1 : ACode:=.loop A73_L1b (some [0,3,5]) [2,6,33,37,41,42,62,66,69,73,74]
def A73_L2b : ACode :=
(.seq (
(.seq (
r_ [
m_ 15 4,
m_ 16 3,
b_ 17 .lss 15 16] [0,3,4,17] []) (
(.cond (.t 17) (
.skip) (
.exit 0))))) (
(.seq (
(.block 1 (
(.seq (
r_ [
m_ 20 0,
m_ 21 4,
s_ 22 (.ias 2 (.t 20) (.t 21)),
l_ 23 true 2 22,
s_ 24 (.call 97 [.t 23]),
s_ 25 (.un .not (.t 24))] [0,3,4,25] []) (
(.cond (.t 25) (
(.seq (
r_ [
s_ 2 (.as (.c (.bool false)))] [2] []) (
.ret))) (
.skip))))) (some [0,3,4]) [2,24])) (
r_ [
m_ 18 4,
s_ 19 (.bin .add (.t 18) (.c (.z 1))),
s_ 4 (.as (.t 19))] [0,3,4] []))))
def A73_L2 : ACode:=.loop A73_L2b (some [0,3,4]) [2,24]
def A73 : AFn:=.code [.t 2] (
(.seq (
r_ [
s_ 2 (.as (.c (.bool false)))] [0] []) (
(.seq (
r_ [
m_ 7 0,
s_ 8 (.len 0 (.t 7)),
s_ 3 (.as (.t 8))] [0,3] []) (
(.seq (
(.seq (
r_ [
m_ 9 3,
s_ 10 (.bin .lss (.t 9) (.c (.z 3))),
m_ 11 10,
f_ 12 11 (.mv (.t 3)),
f_ 13 11 (.bin .gtr (.t 12) (.c (.z 12))),
s_ 14 (.pick (.t 11) (.c (.bool true)) (.t 13))] [0,3,14] []) (
(.cond (.t 14) (
(.seq (
r_ [
s_ 2 (.as (.c (.bool false)))] [2] []) (
.ret))) (
.skip))))) (
(.seq (
(.seq (
r_ [
s_ 4 (.as (.c (i0_)))] [0,3,4] []) (
(.block 0 (
A73_L2) (some [0,3]) [2,4,24])))) (
(.seq (
(.seq (
r_ [
s_ 5 (.as (.c (i0_)))] [0,3,5] []) (
(.block 2 (
A73_L1) (some [0]) [2,5,6,33,37,41,42,62,66,69,73,74])))) (
(.seq (
r_ [
m_ 76 0,
s_ 77 (.call 101 [.t 76]),
s_ 78 (.bin .gtr (.t 77) (.c (i0_))),
s_ 2 (.as (.t 78))] [2] []) (
.ret)))))))))))))

end Go.Proofs.YtbpneedpcccpaaaGreat

namespace Go.Proofs.YtbpneedpcccpaaaGreat
open Go Go.Zv
def A74 : AFn:=.code [.t 2] (
(.seq (
r_ [
s_ 1 (.box (.t 0)),
s_ 2 (.as (.c (.bool false)))] [1] []) (
(.seq (
(.seq (
r_ [
s_ 4 (.fad 2 (.t 1)),
l_ 5 false 1 4,
s_ 6 (.bin .lss (.t 5) (.c (i0_))),
m_ 7 6,
f_ 8 7 (.fad 2 (.t 1)),
f_ 9 7 (.load false 1 (.t 8)),
f_ 10 7 (.bin .gtr (.t 9) (.c (.z 3))),
s_ 11 (.pick (.t 7) (.c (.bool true)) (.t 10))] [1,11] []) (
(.cond (.t 11) (
(.seq (
r_ [
s_ 2 (.as (.c (.bool false)))] [2] []) (
.ret))) (
.skip))))) (
(.seq (
r_ [
s_ 12 (.fad 2 (.t 1)),
l_ 13 false 1 12,
s_ 14 (.call 102 [.t 13]),
s_ 3 (.as (.t 14))] [1,3] []) (
(.seq (
r_ [
s_ 15 (.fad 0 (.t 1)),
l_ 16 false 1 15,
m_ 17 3,
s_ 18 (.un .neg (.t 17)),
b_ 19 .geq 16 18,
m_ 20 19,
t_ 21 20 (.fad 0 (.t 1)),
t_ 22 20 (.load false 1 (.t 21)),
t_ 23 20 (.mv (.t 3)),
t_ 24 20 (.bin .leq (.t 22) (.t 23)),
s_ 25 (.pick (.t 20) (.t 24) (.c (.bool false))),
m_ 26 25,
t_ 27 26 (.fad 1 (.t 1)),
t_ 28 26 (.load false 1 (.t 27)),
t_ 29 26 (.mv (.t 3)),
t_ 30 26 (.un .neg (.t 29)),
t_ 31 26 (.bin .geq (.t 28) (.t 30)),
s_ 32 (.pick (.t 26) (.t 31) (.c (.bool false))),
m_ 33 32,
t_ 34 33 (.fad 1 (.t 1)),
t_ 35 33 (.load false 1 (.t 34)),
t_ 36 33 (.mv (.t 3)),
t_ 37 33 (.bin .leq (.t 35) (.t 36)),
s_ 38 (.pick (.t 33) (.t 37) (.c (.bool false))),
m_ 39 38,
t_ 40 39 (.fad 0 (.t 1)),
t_ 41 39 (.load false 1 (.t 40)),
t_ 42 39 (.fad 0 (.t 1)),
t_ 43 39 (.load false 1 (.t 42)),
t_ 44 39 (.bin .mul (.t 41) (.t 43)),
t_ 45 39 (.fad 1 (.t 1)),
t_ 46 39 (.load false 1 (.t 45)),
t_ 47 39 (.fad 1 (.t 1)),
t_ 48 39 (.load false 1 (.t 47)),
t_ 49 39 (.bin .mul (.t 46) (.t 48)),
t_ 50 39 (.bin .add (.t 44) (.t 49)),
t_ 51 39 (.mv (.t 3)),
t_ 52 39 (.mv (.t 3)),
t_ 53 39 (.bin .mul (.t 51) (.t 52)),
t_ 54 39 (.bin .eql (.t 50) (.t 53)),
s_ 55 (.pick (.t 39) (.t 54) (.c (.bool false))),
s_ 2 (.as (.t 55))] [2] [1]) (
.ret)))))))))
def A75_L0b : ACode :=
(.seq (
(.seq (
r_ [
m_ 17 4,
m_ 18 3,
b_ 19 .lss 17 18] [0,3,4,19] []) (
(.cond (.t 19) (
.skip) (
.exit 2))))) (
(.seq (
(.block 3 (
(.seq (
.reg (some [.dr [28,29] [],.dr [28,29] [],.dr [28,29] [],.dr [28,29] [],.dr [24,25] [],.dr [24,25] [],.dr [24,25] [],.dr [24,25] [],.free]) [
m_ 22 0,
m_ 23 4,
s_ 24 (.ias 1 (.t 22) (.t 23)),
l_ 25 false 1 24,
m_ 26 0,
m_ 27 3,
s_ 28 (.ias 1 (.t 26) (.t 27)),
l_ 29 false 1 28,
b_ 30 .eql 25 29] (some [0,3,4,30]) []) (
(.cond (.t 30) (
(.seq (
r_ [
s_ 2 (.as (.c (.bool false)))] [2] []) (
.ret))) (
.skip))))) (some [0,3,4]) [2])) (
r_ [
m_ 20 4,
s_ 21 (.bin .add (.t 20) (.c (.z 1))),
s_ 4 (.as (.t 21))] [0,3,4] []))))
def A75_L0 : ACode:=.loop A75_L0b (some [0,3,4]) [2]
def A75_L1b : ACode :=
(.seq (
(.seq (
r_ [
m_ 5 3,
m_ 6 0,
s_ 7 (.len 0 (.t 6)),
b_ 8 .lss 5 7] [0,3,8] []) (
(.cond (.t 8) (
.skip) (
.exit 0))))) (
(.seq (
(.block 1 (
(.seq (
(.seq (
r_ [
m_ 11 0,
m_ 12 3,
s_ 13 (.ias 1 (.t 11) (.t 12)),
l_ 14 false 1 13,
s_ 15 (.call 103 [.t 14]),
s_ 16 (.un .not (.t 15))] [0,3,16] []) (
(.cond (.t 16) (
(.seq (
r_ [
s_ 2 (.as (.c (.bool false)))] [2] []) (
.ret))) (
.skip))))) (
(.seq (
r_ [
s_ 4 (.as (.c (i0_)))] [0,3,4] []) (
(.block 2 (
A75_L0) (some [0,3]) [2,4])))))) (some [0,3]) [2,4,15])) (
r_ [
m_ 9 3,
s_ 10 (.bin .add (.t 9) (.c (.z 1))),
s_ 3 (.as (.t 10))] [0,3] []))))
def A75_L1 : ACode:=.loop A75_L1b (some [0,3]) [2,4,15]
def A75 : AFn:=.code [.t 2] (
(.seq (
r_ [
s_ 2 (.as (.c (.bool false)))] [0] []) (
(.seq (
(.seq (
r_ [
s_ 3 (.as (.c (i0_)))] [0,3] []) (
(.block 0 (
A75_L1) (some []) [2,3,4,15])))) (
(.seq (
r_ [
s_ 2 (.as (.c (.bool true)))] [2] []) (
.ret)))))))
def A76_L0b : ACode :=
(.seq (
(.seq (
r_ [
m_ 49 4,
m_ 50 0,
s_ 51 (.len 0 (.t 50)),
b_ 52 .lss 49 51] [0,3,4,52] []) (
(.cond (.t 52) (
.skip) (
.exit 2))))) (
(.seq (
(.block 3 (
(.seq (
.reg (some [.dr [63,65,66,69,70] [],.dr [63,65,66,69,70] [],.dr [63,65,66,69,70] [],.dr [63,65,66,69,70] [],.dr [57,58,63,69,70] [],.dr [57,58,63,69,70] [],.dr [57,58,63,69,70] [],.dr [57,58,69,70] [],.dr [57,58,69,70] [],.dr [57,58,69,70] [],.dr [57,58,69,70] [],.dr [57,58,69,70] [],.dr [57,58,63,65,66] [],.dr [57,58,63,65,66] [],.dr [57,58,63,65,66] [],.dr [57,58,63,65,66] [],.free,.free]) [
m_ 55 0,
m_ 56 3,
s_ 57 (.ias 2 (.t 55) (.t 56)),
l_ 58 true 2 57,
m_ 59 0,
m_ 60 3,
s_ 61 (.bin .add (.t 60) (.c (.z 1))),
m_ 62 0,
s_ 63 (.len 0 (.t 62)),
s_ 64 (.bin .rem (.t 61) (.t 63)),
s_ 65 (.ias 2 (.t 59) (.t 64)),
l_ 66 true 2 65,
m_ 67 0,
m_ 68 4,
s_ 69 (.ias 2 (.t 67) (.t 68)),
l_ 70 true 2 69,
s_ 71 (.call 104 [.t 58,.t 66,.t 70]),
s_ 72 (.bin .lss (.t 71) (.c (i0_)))] (some [0,3,4,72]) []) (
(.cond (.t 72) (
(.seq (
r_ [
s_ 2 (.as (.c (.bool false)))] [2] []) (
.ret))) (
.skip))))) (some [0,3,4]) [2,71])) (
r_ [
m_ 53 4,
s_ 54 (.bin .add (.t 53) (.c (.z 1))),
s_ 4 (.as (.t 54))] [0,3,4] []))))
def A76_L0 : ACode:=.loop A76_L0b (some [0,3,4]) [2,71]
def A76_L1b : ACode :=
(.seq (
(.seq (
r_ [
m_ 13 3,
m_ 14 0,
s_ 15 (.len 0 (.t 14)),
b_ 16 .lss 13 15] [0,3,16] []) (
(.cond (.t 16) (
.skip) (
.exit 0))))) (
(.seq (
(.block 1 (
(.seq (
(.seq (
r_ [
m_ 19 0,
m_ 20 3,
s_ 21 (.ias 2 (.t 19) (.t 20)),
s_ 22 (.fad 0 (.t 21)),
l_ 23 false 1 22,
s_ 24 (.bin .lss (.t 23) (.c (.z (-10)))),
m_ 25 24,
f_ 26 25 (.mv (.t 0)),
f_ 27 25 (.mv (.t 3)),
f_ 28 25 (.ias 2 (.t 26) (.t 27)),
f_ 29 25 (.fad 0 (.t 28)),
f_ 30 25 (.load false 1 (.t 29)),
f_ 31 25 (.bin .gtr (.t 30) (.c (.z 10))),
s_ 32 (.pick (.t 25) (.c (.bool true)) (.t 31)),
m_ 33 32,
f_ 34 33 (.mv (.t 0)),
f_ 35 33 (.mv (.t 3)),
f_ 36 33 (.ias 2 (.t 34) (.t 35)),
f_ 37 33 (.fad 1 (.t 36)),
f_ 38 33 (.load false 1 (.t 37)),
f_ 39 33 (.bin .lss (.t 38) (.c (.z (-10)))),
s_ 40 (.pick (.t 33) (.c (.bool true)) (.t 39)),
m_ 41 40,
f_ 42 41 (.mv (.t 0)),
f_ 43 41 (.mv (.t 3)),
f_ 44 41 (.ias 2 (.t 42) (.t 43)),
f_ 45 41 (.fad 1 (.t 44)),
f_ 46 41 (.load false 1 (.t 45)),
f_ 47 41 (.bin .gtr (.t 46) (.c (.z 10))),
s_ 48 (.pick (.t 41) (.c (.bool true)) (.t 47))] [0,3,48] []) (
(.cond (.t 48) (
(.seq (
r_ [
s_ 2 (.as (.c (.bool false)))] [2] []) (
.ret))) (
.skip))))) (
(.seq (
r_ [
s_ 4 (.as (.c (i0_)))] [0,3,4] []) (
(.block 2 (
A76_L0) (some [0,3]) [2,4,71])))))) (some [0,3]) [2,4,71])) (
r_ [
m_ 17 3,
s_ 18 (.bin .add (.t 17) (.c (.z 1))),
s_ 3 (.as (.t 18))] [0,3] []))))
def A76_L1 : ACode:=.loop A76_L1b (some [0,3]) [2,4,71]
def A76 : AFn:=.code [.t 2] (
(.seq (
r_ [
s_ 2 (.as (.c (.bool false)))] [0] []) (
(.seq (
(.seq (
r_ [
m_ 5 0,
s_ 6 (.len 0 (.t 5)),
s_ 7 (.bin .gtr (.t 6) (.c (.z 4))),
m_ 8 7,
f_ 9 8 (.mv (.t 0)),
f_ 10 8 (.call 73 [.t 9]),
f_ 11 8 (.un .not (.t 10)),
s_ 12 (.pick (.t 8) (.c (.bool true)) (.t 11))] [0,12] []) (
(.cond (.t 12) (
(.seq (
r_ [
s_ 2 (.as (.c (.bool false)))] [2] []) (
.ret))) (
.skip))))) (
(.seq (
(.seq (
r_ [
s_ 3 (.as (.c (i0_)))] [0,3] []) (
(.block 0 (
A76_L1) (some []) [2,3,4,71])))) (
(.seq (
r_ [
s_ 2 (.as (.c (.bool true)))] [2] []) (
.ret)))))))))
def A77_L0b : ACode :=
(.seq (
r_ [
b_ 121 .lss 120 119] [0,118,119,120,121] []) (
(.seq (
(.cond (.t 121) (
.skip) (
.exit 8))) (
(.seq (
(.block 9 (
(.seq (
r_ [
m_ 122 120,
s_ 123 (.ias 1 (.t 118) (.t 120)),
l_ 124 false 1 123,
s_ 13 (.as (.t 122)),
s_ 14 (.as (.t 124))] [0,13,14,118,119,120] []) (
(.seq (
r_ [
m_ 125 0,
m_ 126 13,
m_ 127 14,
s_ 128 (.build [i0_,i0_,i0_,.nils 2] [(0,1,.c (.z 4)),(1,1,.t 126),(3,1,.t 127)]),
s_ 129 (.cal (.t 125) [.t 128]),
s_ 130 (.un .not (.t 129))] [0,118,119,120,130] []) (
(.cond (.t 130) (
.ret) (
.skip))))))) (some [0,118,119,120]) [13,14,129])) (
r_ [
s_ 131 (.bin .add (.t 120) (.c (.z 1))),
m_ 120 131] [0,118,119,120] []))))))
def A77_L0 : ACode:=.loop A77_L0b (some [0,118,119,120]) [13,14,129]
def A77_L1b : ACode :=
(.seq (
r_ [
b_ 85 .lss 84 83] [0,1,82,83,84,85] []) (
(.seq (
(.cond (.t 85) (
.skip) (
.exit 6))) (
(.seq (
(.block 7 (
(.seq (
r_ [
m_ 86 84,
s_ 87 (.ias 1 (.t 82) (.t 84)),
l_ 88 false 1 87,
s_ 11 (.as (.t 86)),
s_ 12 (.as (.t 88))] [0,1,11,12,82,83,84] []) (
(.seq (
.reg (some [.loc,.loc,.loc,.loc,.loc,.loc,.loc,.loc,.loc,.loc,.loc,.dr [100,102,104,106,108,110] [],.dr [100,102,104,106,108,110] [],.dr [100,102,104,106,108,110] [],.dr [95,97,98,106,108,110] [],.dr [95,97,98,106,108,110] [],.dr [95,97,98,106,108,110] [],.dr [95,97,98,106,108,110] [],.dr [95,97,98,100,102,104] [],.dr [95,97,98,100,102,104] [],.dr [95,97,98,100,102,104] [],.dr [95,97,98,100,102,104] [],.free,.free,.free,.free,.free]) [
m_ 89 12,
s_ 90 (.bin .geq (.t 89) (.c (i0_))),
m_ 91 90,
t_ 92 91 (.mv (.t 0)),
t_ 93 91 (.mv (.t 11)),
t_ 94 91 (.fad 32 (.t 1)),
t_ 96 91 (.mv (.t 11)),
t_ 99 91 (.fad 31 (.t 1)),
t_ 101 91 (.mv (.t 12)),
t_ 105 91 (.fad 31 (.t 1)),
t_ 107 91 (.mv (.t 12)),
t_ 95 91 (.load false 1 (.t 94)),
t_ 97 91 (.ias 3 (.t 95) (.t 96)),
t_ 98 91 (.load true 3 (.t 97)),
t_ 100 91 (.load false 1 (.t 99)),
t_ 102 91 (.ias 6 (.t 100) (.t 101)),
t_ 103 91 (.fad 1 (.t 102)),
t_ 104 91 (.load true 2 (.t 103)),
t_ 106 91 (.load false 1 (.t 105)),
t_ 108 91 (.ias 6 (.t 106) (.t 107)),
t_ 109 91 (.fad 3 (.t 108)),
t_ 110 91 (.load true 3 (.t 109)),
t_ 111 91 (.call 79 [.t 98,.t 104,.t 110]),
t_ 112 91 (.build [i0_,i0_,i0_,.nils 2] [(0,1,.c (.z 3)),(1,1,.t 93),(3,1,.t 111)]),
t_ 113 91 (.cal (.t 92) [.t 112]),
t_ 114 91 (.un .not (.t 113)),
s_ 115 (.pick (.t 91) (.t 114) (.c (.bool false)))] (some [0,1,82,83,84,115]) []) (
(.cond (.t 115) (
.ret) (
.skip))))))) (some [0,1,82,83,84]) [11,12,111,113])) (
r_ [
s_ 116 (.bin .add (.t 84) (.c (.z 1))),
m_ 84 116] [0,1,82,83,84] []))))))
def A77_L1 : ACode:=.loop A77_L1b (some [0,1,82,83,84]) [11,12,111,113]
def A77_L2b : ACode :=
(.seq (
r_ [
s_ 43 (.bin .lss (.t 42) (.c (.z 2)))] [0,1,2,41,42,43] []) (
(.seq (
(.cond (.t 43) (
.skip) (
.exit 4))) (
(.seq (
(.block 5 (
(.seq (
r_ [
m_ 44 42,
s_ 45 (.ixa true 2 12 (.t 41) (.t 42)),
s_ 9 (.alloc [i0_,i0_,i0_,i0_,i0_,i0_,i0_,i0_,i0_,i0_,i0_,i0_]),
s_ 8 (.as (.t 44)),
n_ (.store 12 (.t 9) (.t 45))] [0,1,2,8,9,41,42] []) (
(.seq (
(.seq (
r_ [
m_ 46 8,
s_ 47 (.fad 6 (.t 2)),
s_ 48 (.iaa 2 1 (.t 47) (.t 46)),
l_ 49 false 1 48,
s_ 50 (.bin .lss (.t 49) (.c (i0_)))] [0,1,2,8,9,41,42,50] []) (
(.cond (.t 50) (
.exit 5) (
.skip))))) (
(.seq (
.reg (some [.dr [56,59,63,64,66,70,71] [],.dr [56,59,63,64,66,70,71] [],.dr [52,59,63,64,66,70,71] [],.dr [52,59,63,64,66,70,71] [],.dr [52,59,63,64,66,70,71] [],.dr [52,59,63,64,66,70,71] [],.dr [59,63,64,66,70,71] [],.dr [59,63,64,66,70,71] [],.dr [52,56,57,58,63,66,70] [],.dr [52,56,57,58,59,66,70] [],.dr [52,56,57,58,59,66,70] [],.dr [52,56,57,58,59,66,70] [],.dr [52,56,57,58,59,66,70] [],.dr [52,56,57,58,66,70] [],.dr [52,56,57,58,66,70,71] [],.dr [52,56,57,58,59,63,64,70] [],.dr [52,56,57,58,59,63,64,66] [],.dr [52,56,57,58,59,63,64,66] [],.dr [52,56,57,58,59,63,64,66] [],.dr [52,56,57,58,59,63,64,66] [],.dr [52,56,57,58] [],.dr [52,56,57,58] [],.free,.free]) [
s_ 51 (.fad 32 (.t 1)),
l_ 52 false 1 51,
m_ 53 8,
s_ 54 (.fad 6 (.t 2)),
s_ 55 (.iaa 2 1 (.t 54) (.t 53)),
l_ 56 false 1 55,
s_ 57 (.ias 3 (.t 52) (.t 56)),
l_ 58 true 3 57,
l_ 59 true 12 9,
m_ 60 8,
s_ 61 (.fad 0 (.t 2)),
s_ 62 (.iaa 2 3 (.t 61) (.t 60)),
l_ 63 true 3 62,
s_ 64 (.call 80 [.t 59,.t 63]),
s_ 65 (.ixa true 4 2 (.t 64) (.c (.z 3))),
l_ 66 true 12 9,
m_ 67 8,
s_ 68 (.fad 0 (.t 2)),
s_ 69 (.iaa 2 3 (.t 68) (.t 67)),
l_ 70 true 3 69,
s_ 71 (.call 81 [.t 66,.t 70]),
s_ 72 (.ixa true 3 3 (.t 71) (.c (.z 2))),
s_ 73 (.call 79 [.t 58,.t 65,.t 72]),
s_ 10 (.as (.t 73))] (some [0,1,2,8,10,41,42]) [9]) (
(.seq (
r_ [
m_ 74 0,
m_ 75 8,
m_ 76 10,
s_ 77 (.build [i0_,i0_,i0_,.nils 2] [(0,1,.c (.z 2)),(1,1,.t 75),(3,1,.t 76)]),
s_ 78 (.cal (.t 74) [.t 77]),
s_ 79 (.un .not (.t 78))] [0,1,2,41,42,79] []) (
(.cond (.t 79) (
.ret) (
.skip))))))))))) (some [0,1,2,41,42]) [8,9,10,64,71,73,78])) (
r_ [
s_ 80 (.bin .add (.t 42) (.c (.z 1))),
m_ 42 80] [0,1,2,41,42] []))))))
def A77_L2 : ACode:=.loop A77_L2b (some [0,1,2,41,42]) [8,9,10,64,71,73,78]
def A77_L3b : ACode :=
(.seq (
r_ [
s_ 28 (.bin .lss (.t 27) (.c (.z 3)))] [0,1,2,4,16,17,26,27,28] []) (
(.seq (
(.cond (.t 28) (
.skip) (
.exit 2))) (
(.seq (
(.block 3 (
(.seq (
r_ [
m_ 29 27,
s_ 30 (.ixa false 3 1 (.t 26) (.t 27)),
s_ 6 (.as (.t 29)),
s_ 7 (.as (.t 30))] [0,1,2,4,6,7,16,17,26,27] []) (
(.seq (
r_ [
m_ 31 0,
m_ 32 4,
m_ 33 6,
m_ 34 7,
s_ 35 (.build [i0_,i0_,i0_,.nils 2] [(0,1,.c (.z 1)),(1,1,.t 32),(2,1,.t 33),(3,1,.t 34)]),
s_ 36 (.cal (.t 31) [.t 35]),
s_ 37 (.un .not (.t 36))] [0,1,2,4,16,17,26,27,37] []) (
(.cond (.t 37) (
.ret) (
.skip))))))) (some [0,1,2,4,16,17,26,27]) [6,7,36])) (
r_ [
s_ 38 (.bin .add (.t 27) (.c (.z 1))),
m_ 27 38] [0,1,2,4,16,17,26,27] []))))))
def A77_L3 : ACode:=.loop A77_L3b (some [0,1,2,4,16,17,26,27]) [6,7,36]
def A77_L4b : ACode :=
(.seq (
r_ [
s_ 18 (.bin .lss (.t 17) (.c (.z 2)))] [0,1,2,16,17,18] []) (
(.seq (
(.cond (.t 18) (
.skip) (
.exit 0))) (
(.seq (
(.block 1 (
(.seq (
r_ [
m_ 19 17,
s_ 20 (.ixa true 2 12 (.t 16) (.t 17)),
s_ 5 (.alloc [i0_,i0_,i0_,i0_,i0_,i0_,i0_,i0_,i0_,i0_,i0_,i0_]),
s_ 4 (.as (.t 19)),
n_ (.store 12 (.t 5) (.t 20))] [0,1,2,4,5,16,17] []) (
(.seq (
.reg (some [.loc,.loc,.loc,.loc,.dr [25] [],.dr [21] [],.free]) [
m_ 22 4,
s_ 23 (.fad 0 (.t 2)),
s_ 24 (.iaa 2 3 (.t 23) (.t 22)),
s_ 27 (.mv (.c (i0_))),
l_ 21 true 12 5,
l_ 25 true 3 24,
s_ 26 (.call 78 [.t 21,.t 25])] (some [0,1,2,4,16,17,26,27]) [5]) (
(.block 2 (
A77_L3) (some [0,1,2,16,17]) [6,7,36])))))) (some [0,1,2,16,17]) [4,5,6,7,26,36])) (
r_ [
s_ 39 (.bin .add (.t 17) (.c (.z 1))),
m_ 17 39] [0,1,2,16,17] []))))))
def A77_L4 : ACode:=.loop A77_L4b (some [0,1,2,16,17]) [4,5,6,7,26,36]
def A77 : AFn:=.code [] (
(.seq (
(.seq (
r_ [
s_ 15 (.fad 0 (.t 1)),
l_ 16 true 24 15,
s_ 17 (.mv (.c (i0_)))] [0,1,2,16,17] []) (
(.block 0 (
A77_L4) (some [0,1,2]) [4,5,6,7,26,36])))) (
(.seq (
(.seq (
r_ [
s_ 40 (.fad 0 (.t 1)),
l_ 41 true 24 40,
s_ 42 (.mv (.c (i0_)))] [0,1,2,41,42] []) (
(.block 4 (
A77_L2) (some [0,1,2]) [8,9,10,64,71,73,78])))) (
(.seq (
(.seq (
r_ [
s_ 81 (.fad 8 (.t 2)),
l_ 82 false 1 81,
s_ 83 (.len 0 (.t 82)),
s_ 84 (.mv (.c (i0_)))] [0,1,82,83,84] []) (
(.block 6 (
A77_L1) (some [0,1]) [11,12,111,113])))) (
(.seq (
r_ [
s_ 117 (.fad 30 (.t 1)),
l_ 118 false 1 117,
s_ 119 (.len 0 (.t 118)),
s_ 120 (.mv (.c (i0_)))] [0,118,119,120] []) (
(.block 8 (
A77_L0) (some []) [13,14,129]))))))))))
def A78_L0b : ACode :=
(.seq (
r_ [
s_ 24 (.bin .lss (.t 23) (.c (.z 3)))] [4,5,6,7,22,23,24] []) (
(.seq (
(.cond (.t 24) (
.skip) (
.exit 0))) (
(.seq (
(.block 1 (
(.seq (
r_ [
m_ 25 23,
s_ 26 (.ixa true 3 3 (.t 22) (.t 23)),
s_ 9 (.alloc [i0_,i0_,i0_]),
s_ 8 (.as (.t 25)),
n_ (.store 3 (.t 9) (.t 26))] [4,5,6,7,8,9,22,23] []) (
.reg (some [.loc,.loc,.loc,.loc,.loc,.loc,.dr [29,32,36] [],.dr [28,32,36] [],.dr [28,29,36] [],.dr [28,29,32] [],.free,.free,.free]) [
m_ 27 8,
m_ 30 8,
s_ 31 (.iaa 4 2 (.t 7) (.t 30)),
m_ 33 8,
s_ 34 (.bin .add (.t 33) (.c (.z 1))),
s_ 35 (.iaa 4 2 (.t 7) (.t 34)),
l_ 28 true 15 6,
l_ 29 true 3 9,
l_ 32 true 2 31,
l_ 36 true 2 35,
s_ 37 (.call 105 [.t 28,.t 29,.t 32,.t 36]),
s_ 38 (.iaa 3 1 (.t 5) (.t 27)),
n_ (.store 1 (.t 38) (.t 37))] (some [4,5,6,7,22,23]) [9]))) (some [4,5,6,7,22,23]) [8,9,37])) (
r_ [
s_ 39 (.bin .add (.t 23) (.c (.z 1))),
m_ 23 39] [4,5,6,7,22,23] []))))))
def A78_L0 : ACode:=.loop A78_L0b (some [4,5,6,7,22,23]) [8,9,37]
def A78 : AFn:=.code [.cell true 3 4] (
(.seq (
r_ [
s_ 2 (.box (.t 0)),
s_ 3 (.box (.t 1)),
s_ 4 (.alloc [.nils 2,.nils 2,.nils 2])] [2,3,4] []) (
(.seq (
r_ [
s_ 5 (.alloc [.nils 2,.nils 2,.nils 2])] [2,3,4,5] []) (
(.seq (
r_ [
l_ 10 true 12 2,
l_ 11 true 3 3,
s_ 12 (.build [i0_,i0_,i0_,i0_,i0_,i0_,i0_,i0_,i0_,i0_,i0_,i0_,i0_,i0_,i0_] [(0,12,.t 10),(12,3,.t 11)]),
s_ 6 (.alloc [i0_,i0_,i0_,i0_,i0_,i0_,i0_,i0_,i0_,i0_,i0_,i0_,i0_,i0_,i0_]),
n_ (.store 15 (.t 6) (.t 12))] [4,5,6] [2,3]) (
(.seq (
r_ [
s_ 13 (.fad 0 (.t 6)),
l_ 14 true 12 13,
s_ 15 (.fad 12 (.t 6)),
l_ 16 true 3 15,
s_ 17 (.call 80 [.t 14,.t 16]),
s_ 7 (.alloc [i0_,i0_,i0_,i0_,i0_,i0_,i0_,i0_]),
n_ (.store 8 (.t 7) (.t 17))] [4,5,6,7] []) (
(.seq (
(.seq (
r_ [
s_ 18 (.fad 0 (.t 6)),
l_ 19 true 12 18,
s_ 20 (.fad 12 (.t 6)),
l_ 21 true 3 20,
s_ 22 (.call 81 [.t 19,.t 21]),
s_ 23 (.mv (.c (i0_)))] [4,5,6,7,22,23] []) (
(.block 0 (
A78_L0) (some [4,5]) [8,9,37])))) (
(.seq (
r_ [
l_ 40 true 3 5,
n_ (.store 3 (.t 4) (.t 40))] [4] [5]) (
.ret)))))))))))))
def A79 : AFn:=.code [.t 6] (
(.seq (
r_ [
s_ 3 (.box (.t 0)),
s_ 4 (.box (.t 1)),
s_ 5 (.box (.t 2)),
s_ 6 (.as (.c (.nils 2)))] [3,4,5] []) (
(.seq (
r_ [
s_ 7 (.fad 1 (.t 3)),
l_ 8 false 1 7,
s_ 9 (.mkf (.func 107) [] [.t 4,.t 5]),
s_ 10 (.call 106 [.t 8,.t 9]),
s_ 6 (.as (.t 10))] [6] [3]) (
.ret)))))
def A80_L0b : ACode :=
(.seq (
r_ [
s_ 20 (.bin .lss (.t 19) (.c (.z 3)))] [2,4,5,7,18,19,20] []) (
(.seq (
(.cond (.t 20) (
.skip) (
.exit 0))) (
(.seq (
(.block 1 (
(.seq (
r_ [
m_ 21 19,
s_ 22 (.ixa true 3 3 (.t 18) (.t 19)),
s_ 9 (.alloc [i0_,i0_,i0_]),
s_ 8 (.as (.t 21)),
n_ (.store 3 (.t 9) (.t 22))] [2,4,5,7,8,9,18,19] []) (
.reg (some [.loc,.loc,.loc,.loc,.loc,.loc,.dr [30] [],.dr [26] [],.free,.free,.free,.free]) [
m_ 23 8,
s_ 24 (.bin .add (.t 23) (.c (.z 1))),
m_ 25 7,
m_ 27 8,
s_ 28 (.fad 2 (.t 2)),
s_ 29 (.iaa 3 1 (.t 28) (.t 27)),
l_ 26 true 3 9,
l_ 30 false 1 29,
s_ 31 (.call 109 [.t 26,.t 30]),
s_ 32 (.cal (.t 25) [.t 31]),
s_ 33 (.iaa 4 2 (.t 5) (.t 24)),
n_ (.store 2 (.t 33) (.t 32))] (some [2,4,5,7,18,19]) [9]))) (some [2,4,5,7,18,19]) [8,9,31,32])) (
r_ [
s_ 34 (.bin .add (.t 19) (.c (.z 1))),
m_ 19 34] [2,4,5,7,18,19] []))))))
def A80_L0 : ACode:=.loop A80_L0b (some [2,4,5,7,18,19]) [8,9,31,32]
def A80 : AFn:=.code [.cell true 8 4] (
(.seq (
r_ [
s_ 2 (.box (.t 0)),
s_ 3 (.box (.t 1)),
s_ 4 (.alloc [i0_,i0_,i0_,i0_,i0_,i0_,i0_,i0_])] [2,3,4] []) (
(.seq (
r_ [
s_ 10 (.fad 0 (.t 2)),
l_ 11 true 2 10,
s_ 12 (.build [i0_,i0_,i0_,i0_,i0_,i0_,i0_,i0_] [(0,2,.t 11)]),
s_ 5 (.alloc [i0_,i0_,i0_,i0_,i0_,i0_,i0_,i0_]),
n_ (.store 8 (.t 5) (.t 12))] [2,3,4,5] []) (
(.seq (
r_ [
s_ 13 (.fad 0 (.t 2)),
l_ 14 true 2 13,
s_ 6 (.alloc [i0_,i0_]),
n_ (.store 2 (.t 6) (.t 14))] [2,3,4,5,6] []) (
(.seq (
r_ [
s_ 15 (.mkf (.func 108) [] [.t 6]),
s_ 7 (.as (.t 15))] [2,3,4,5,7] []) (
(.seq (
(.seq (
r_ [
l_ 16 true 12 2,
l_ 17 true 3 3,
s_ 18 (.call 81 [.t 16,.t 17]),
s_ 19 (.mv (.c (i0_)))] [2,4,5,7,18,19] [3]) (
(.block 0 (
A80_L0) (some [4,5]) [8,9,31,32])))) (
(.seq (
r_ [
l_ 35 true 8 5,
n_ (.store 8 (.t 4) (.t 35))] [4] [5]) (
.ret)))))))))))))
def A81_L0b : ACode :=
(.seq (
r_ [
s_ 12 (.bin .lss (.t 11) (.c (.z 3)))] [4,5,6,10,11,12] []) (
(.seq (
(.cond (.t 12) (
.skip) (
.exit 0))) (
(.seq (
(.block 1 (
(.seq (
r_ [
m_ 13 11,
s_ 14 (.ixa false 3 1 (.t 10) (.t 11)),
s_ 7 (.as (.t 13)),
s_ 8 (.as (.t 14))] [4,5,6,7,8,10,11] []) (
(.seq (
r_ [
l_ 15 true 3 6,
m_ 16 8,
s_ 17 (.call 110 [.t 15,.t 16]),
n_ (.store 3 (.t 6) (.t 17))] [4,5,6,7,10,11] []) (
r_ [
m_ 18 7,
l_ 19 true 3 6,
s_ 20 (.iaa 3 3 (.t 5) (.t 18)),
n_ (.store 3 (.t 20) (.t 19))] [4,5,6,10,11] []))))) (some [4,5,6,10,11]) [7,8])) (
r_ [
s_ 21 (.bin .add (.t 11) (.c (.z 1))),
m_ 11 21] [4,5,6,10,11] []))))))
def A81_L0 : ACode:=.loop A81_L0b (some [4,5,6,10,11]) [7,8]
def A81 : AFn:=.code [.cell true 9 4] (
(.seq (
r_ [
s_ 2 (.box (.t 0)),
s_ 3 (.box (.t 1)),
s_ 4 (.alloc [i0_,i0_,i0_,i0_,i0_,i0_,i0_,i0_,i0_])] [3,4] [2]) (
(.seq (
r_ [
s_ 5 (.alloc [i0_,i0_,i0_,i0_,i0_,i0_,i0_,i0_,i0_])] [3,4,5] []) (
(.seq (
r_ [
s_ 9 (.build [i0_,i0_,i0_] [(0,1,.c (.z 1))]),
s_ 6 (.alloc [i0_,i0_,i0_]),
n_ (.store 3 (.t 6) (.t 9))] [3,4,5,6] []) (
(.seq (
(.seq (
r_ [
l_ 10 true 3 3,
s_ 11 (.mv (.c (i0_)))] [4,5,6,10,11] [3]) (
(.block 0 (
A81_L0) (some [4,5]) [7,8,17])))) (
(.seq (
r_ [
l_ 22 true 9 5,
n_ (.store 9 (.t 4) (.t 22))] [4] [5]) (
.ret)))))))))))
def A82_L0b : ACode :=
(.seq (
(.seq (
r_ [
m_ 8 6,
s_ 9 (.bin .lss (.t 8) (.c (.z 3)))] [2,3,4,5,6,9] []) (
(.cond (.t 9) (
.skip) (
.exit 0))))) (
(.seq (
(.block 1 (
.reg (some [.dr [16,19,24,28] [],.dr [19,24,28] [],.dr [19,24,28] [],.dr [19,24,28] [],.dr [19,24,28] [],.dr [16,24,28] [],.dr [16,24,28] [],.dr [16,24,28] [],.dr [16,24,28] [],.dr [16,19,28] [],.dr [16,19,28] [],.dr [16,19,28] [],.dr [16,19,28] [],.dr [16,19,24] [],.dr [16,19,24] [],.dr [16,19,24] [],.dr [16,19,24] [],.dr [16,19] [],.dr [16,19] [],.dr [16] [],.dr [] [],.free,.free]) [
m_ 12 6,
m_ 13 6,
s_ 14 (.fad 6 (.t 2)),
s_ 15 (.iaa 3 1 (.t 14) (.t 13)),
l_ 16 false 1 15,
m_ 17 6,
s_ 18 (.iaa 3 1 (.t 3) (.t 17)),
l_ 19 false 1 18,
s_ 20 (.conv .i64 (.t 19)),
m_ 21 6,
s_ 22 (.fad 9 (.t 2)),
s_ 23 (.iaa 3 1 (.t 22) (.t 21)),
l_ 24 false 1 23,
m_ 25 6,
s_ 26 (.fad 6 (.t 2)),
s_ 27 (.iaa 3 1 (.t 26) (.t 25)),
l_ 28 false 1 27,
b_ 29 .sub 24 28,
s_ 30 (.bin .add (.t 29) (.c (.z 1))),
s_ 31 (.bin .rem (.t 20) (.t 30)),
b_ 32 .add 16 31,
s_ 33 (.iaa 3 1 (.t 5) (.t 12)),
n_ (.store 1 (.t 33) (.t 32))] (some [2,3,4,5,6]) []) (some [2,3,4,5,6]) [])) (
r_ [
m_ 10 6,
s_ 11 (.bin .add (.t 10) (.c (.z 1))),
s_ 6 (.as (.t 11))] [2,3,4,5,6] []))))
def A82_L0 : ACode:=.loop A82_L0b (some [2,3,4,5,6]) []
def A82 : AFn:=.code [.cell true 3 4] (
(.seq (
r_ [
s_ 2 (.box (.t 0)),
s_ 3 (.box (.t 1)),
s_ 4 (.alloc [i0_,i0_,i0_])] [2,3,4] []) (
(.seq (
r_ [
s_ 7 (.build [i0_,i0_,i0_] []),
s_ 5 (.alloc [i0_,i0_,i0_]),
n_ (.store 3 (.t 5) (.t 7))] [2,3,4,5] []) (
(.seq (
(.seq (
r_ [
s_ 6 (.as (.c (i0_)))] [2,3,4,5,6] []) (
(.block 0 (
A82_L0) (some [4,5]) [6])))) (
(.seq (
r_ [
l_ 34 true 3 5,
n_ (.store 3 (.t 4) (.t 34))] [4] [5]) (
.ret)))))))))
def A83 : AFn:=.code [.cell true 2 4] (
(.seq (
r_ [
s_ 2 (.box (.t 0)),
s_ 4 (.alloc [i0_,i0_])] [1,2,4] []) (
(.seq (
r_ [
s_ 6 (.fad 2 (.t 2)),
l_ 7 false 1 6,
s_ 8 (.call 102 [.t 7]),
s_ 5 (.as (.t 8))] [1,2,4,5] []) (
(.seq (
.reg (some [.dr [14,21] [],.dr [14,21] [],.dr [14,21] [],.dr [14,21] [],.dr [21] [],.dr [21] [],.dr [21] [],.dr [14,21] [],.dr [14,21] [],.dr [14,21] [],.dr [14,21] [],.dr [14] [],.dr [14] [],.dr [14] [],.free,.free]) [
m_ 9 1,
m_ 10 5,
s_ 11 (.bin .quo (.c (.z 4394000)) (.t 10)),
b_ 12 .mul 9 11,
s_ 13 (.fad 0 (.t 2)),
l_ 14 false 1 13,
b_ 15 .mul 12 14,
m_ 16 1,
m_ 17 5,
s_ 18 (.bin .quo (.c (.z 4394000)) (.t 17)),
b_ 19 .mul 16 18,
s_ 20 (.fad 1 (.t 2)),
l_ 21 false 1 20,
b_ 22 .mul 19 21,
s_ 23 (.build [i0_,i0_] [(0,1,.t 15),(1,1,.t 22)]),
n_ (.store 2 (.t 4) (.t 23))] (some [4]) [2]) (
.ret)))))))
def A84 : AFn:=.code [.cell true 2 4] (
(.seq (
r_ [
s_ 2 (.box (.t 0)),
s_ 3 (.box (.t 1)),
s_ 4 (.alloc [i0_,i0_])] [2,3,4] []) (
(.seq (
r_ [
s_ 5 (.fad 0 (.t 2)),
l_ 6 false 1 5,
s_ 7 (.fad 0 (.t 3)),
l_ 8 false 1 7,
b_ 9 .add 6 8,
s_ 10 (.fad 1 (.t 2)),
l_ 11 false 1 10,
s_ 12 (.fad 1 (.t 3)),
l_ 13 false 1 12,
b_ 14 .add 11 13,
s_ 15 (.build [i0_,i0_] [(0,1,.t 9),(1,1,.t 14)]),
n_ (.store 2 (.t 4) (.t 15))] [4] [2,3]) (
.ret)))))
def A85 : AFn:=.code [.cell true 3 4] (
(.seq (
r_ [
s_ 2 (.box (.t 0)),
s_ 4 (.alloc [i0_,i0_,i0_])] [1,2,4] []) (
(.seq (
(.seq (
r_ [
l_ 7 true 3 2,
s_ 8 (.call 74 [.t 7]),
s_ 9 (.un .not (.t 8)),
m_ 10 9,
f_ 11 10 (.fad 2 (.t 2)),
f_ 12 10 (.load false 1 (.t 11)),
f_ 13 10 (.bin .eql (.t 12) (.c (.z 3))),
s_ 14 (.pick (.t 10) (.c (.bool true)) (.t 13))] [1,2,4,14] []) (
(.cond (.t 14) (
(.seq (
r_ [
s_ 15 (.build [i0_,i0_,i0_] []),
n_ (.store 3 (.t 4) (.t 15))] [4] []) (
.ret))) (
.skip))))) (
(.seq (
r_ [
m_ 17 1,
s_ 18 (.call 111 [.t 17]),
m_ 16 18,
s_ 19 (.ext (.t 16) 0),
s_ 20 (.ext (.t 16) 1),
s_ 5 (.as (.t 19)),
s_ 6 (.as (.t 20))] [2,4,5,6] []) (
(.seq (
r_ [
s_ 21 (.fad 0 (.t 2)),
l_ 22 false 1 21,
m_ 23 5,
b_ 24 .mul 22 23,
s_ 25 (.fad 1 (.t 2)),
l_ 26 false 1 25,
m_ 27 6,
b_ 28 .mul 26 27,
b_ 29 .sub 24 28,
s_ 30 (.fad 0 (.t 2)),
l_ 31 false 1 30,
m_ 32 6,
b_ 33 .mul 31 32,
s_ 34 (.fad 1 (.t 2)),
l_ 35 false 1 34,
m_ 36 5,
b_ 37 .mul 35 36,
b_ 38 .add 33 37,
s_ 39 (.fad 2 (.t 2)),
l_ 40 false 1 39,
s_ 41 (.bin .add (.t 40) (.c (.z 1))),
s_ 42 (.build [i0_,i0_,i0_] [(0,1,.t 29),(1,1,.t 38),(2,1,.t 41)]),
n_ (.store 3 (.t 4) (.t 42))] [4] [2]) (
.ret)))))))))
def A86_L0b : ACode :=
(.seq (
r_ [
b_ 29 .lss 28 27] [0,4,5,7,16,17,18,26,27,28,29] []) (
(.seq (
(.cond (.t 29) (
.skip) (
.exit 2))) (
(.seq (
(.block 3 (
(.seq (
r_ [
s_ 30 (.ias 4 (.t 26) (.t 28)),
l_ 31 true 4 30,
s_ 9 (.alloc [i0_,i0_,i0_,.nils 2]),
n_ (.store 4 (.t 9) (.t 31))] [0,4,5,7,9,16,17,18,26,27,28] []) (
(.seq (
r_ [
m_ 33 4,
s_ 34 (.fad 0 (.t 7)),
l_ 35 false 1 34,
s_ 36 (.fad 0 (.t 9)),
l_ 37 false 1 36,
s_ 38 (.build [i0_,i0_] [(0,1,.t 35),(1,1,.t 37)]),
s_ 39 (.lkp [1,0,0] (.agg [.nilf]) true (.t 33) (.t 38)),
m_ 32 39,
s_ 40 (.ext (.t 32) 0),
s_ 41 (.ext (.t 32) 1),
s_ 10 (.alloc [.nilf]),
n_ (.store 1 (.t 10) (.t 40)),
s_ 11 (.as (.t 41))] [0,4,5,7,9,10,11,16,17,18,26,27,28] []) (
(.seq (
r_ [
m_ 42 11,
m_ 43 42,
t_ 44 43 (.fad 0 (.t 10)),
t_ 45 43 (.load false 1 (.t 44)),
t_ 46 43 (.load true 4 (.t 7)),
t_ 47 43 (.load true 4 (.t 9)),
t_ 48 43 (.cal (.t 45) [.t 46,.t 47]),
s_ 49 (.pick (.t 43) (.t 48) (.c (.bool false))),
m_ 50 49,
t_ 51 50 (.mv (.t 0)),
t_ 52 50 (.load true 4 (.t 7)),
t_ 53 50 (.load true 4 (.t 9)),
t_ 54 50 (.build [i0_,i0_,i0_,.nils 2,i0_,i0_,i0_,.nils 2] [(0,4,.t 52),(4,4,.t 53)]),
t_ 55 50 (.cal (.t 51) [.t 54]),
t_ 56 50 (.un .not (.t 55)),
s_ 57 (.pick (.t 50) (.t 56) (.c (.bool false)))] [0,4,5,7,16,17,18,26,27,28,57] [9,10]) (
(.cond (.t 57) (
.ret) (
.skip))))))))) (some [0,4,5,7,16,17,18,26,27,28]) [9,10,11,48,55])) (
r_ [
s_ 58 (.bin .add (.t 28) (.c (.z 1))),
m_ 28 58] [0,4,5,7,16,17,18,26,27,28] []))))))
def A86_L0 : ACode:=.loop A86_L0b (some [0,4,5,7,16,17,18,26,27,28]) [9,10,11,48,55]
def A86_L1b : ACode :=
(.seq (
r_ [
b_ 19 .lss 18 17] [0,4,5,16,17,18,19] []) (
(.seq (
(.cond (.t 19) (
.skip) (
.exit 0))) (
(.seq (
(.block 1 (
(.seq (
r_ [
m_ 20 18,
s_ 21 (.ias 4 (.t 16) (.t 18)),
l_ 22 true 4 21,
s_ 7 (.alloc [i0_,i0_,i0_,.nils 2]),
s_ 6 (.as (.t 20)),
n_ (.store 4 (.t 7) (.t 22))] [0,4,5,6,7,16,17,18] []) (
(.seq (
r_ [
m_ 23 5,
m_ 24 6,
s_ 25 (.bin .add (.t 24) (.c (.z 1))),
s_ 26 (.sls 4 (.t 23) (some (.t 25)) none),
s_ 27 (.len 0 (.t 26)),
s_ 28 (.mv (.c (i0_)))] [0,4,5,7,16,17,18,26,27,28] []) (
(.block 2 (
A86_L0) (some [0,4,5,16,17,18]) [9,10,11,48,55])))))) (some [0,4,5,16,17,18]) [6,7,9,10,11,48,55])) (
r_ [
s_ 59 (.bin .add (.t 18) (.c (.z 1))),
m_ 18 59] [0,4,5,16,17,18] []))))))
def A86_L1 : ACode:=.loop A86_L1b (some [0,4,5,16,17,18]) [6,7,9,10,11,48,55]
def A86 : AFn:=.code [] (
(.seq (
r_ [
s_ 12 (.call 87 []),
s_ 4 (.as (.t 12))] [0,1,2,4] []) (
(.seq (
r_ [
l_ 13 true 44 1,
l_ 14 true 9 2,
s_ 15 (.call 16 [.t 13,.t 14]),
s_ 5 (.as (.t 15))] [0,4,5] []) (
(.seq (
r_ [
m_ 16 5,
s_ 17 (.len 0 (.t 16)),
s_ 18 (.mv (.c (i0_)))] [0,4,5,16,17,18] []) (
(.block 0 (
A86_L1) (some []) [6,7,9,10,11,48,55]))))))))
def A87 : AFn:=.code [.t 0] (
(.seq (
r_ [
s_ 0 (.as (.c (.nilm)))] [] []) (
(.seq (
.reg (some [.lit [1,2,4,5,7,8,10,11,13,14,16,17,19,20] [0,3,6,9,12,15,18,21] [22,23]]) [
s_ 1 (.mkm),
s_ 2 (.build [i0_,i0_] [(0,1,.c (.z 1)),(1,1,.c (.z 1))]),
s_ 3 (.build [.nilf] [(0,1,.fu 112)]),
n_ (.mpu [1,0,0] (.t 1) (.t 2) (.t 3)),
s_ 4 (.build [i0_,i0_] [(0,1,.c (.z 1)),(1,1,.c (.z 2))]),
s_ 5 (.build [.nilf] [(0,1,.fu 113)]),
n_ (.mpu [1,0,0] (.t 1) (.t 4) (.t 5)),
s_ 6 (.build [i0_,i0_] [(0,1,.c (.z 1)),(1,1,.c (.z 3))]),
s_ 7 (.build [.nilf] [(0,1,.fu 114)]),
n_ (.mpu [1,0,0] (.t 1) (.t 6) (.t 7)),
s_ 8 (.build [i0_,i0_] [(0,1,.c (.z 1)),(1,1,.c (.z 4))]),
s_ 9 (.build [.nilf] [(0,1,.fu 115)]),
n_ (.mpu [1,0,0] (.t 1) (.t 8) (.t 9)),
s_ 10 (.build [i0_,i0_] [(0,1,.c (.z 2)),(1,1,.c (.z 2))]),
s_ 11 (.build [.nilf] [(0,1,.fu 115)]),
n_ (.mpu [1,0,0] (.t 1) (.t 10) (.t 11)),
s_ 12 (.build [i0_,i0_] [(0,1,.c (.z 2)),(1,1,.c (.z 3))]),
s_ 13 (.build [.nilf] [(0,1,.fu 115)]),
n_ (.mpu [1,0,0] (.t 1) (.t 12) (.t 13)),
s_ 14 (.build [i0_,i0_] [(0,1,.c (.z 2)),(1,1,.c (.z 4))]),
s_ 15 (.build [.nilf] [(0,1,.fu 115)]),
n_ (.mpu [1,0,0] (.t 1) (.t 14) (.t 15)),
m_ 16 1,
s_ 0 (.as (.t 16))] (some [0]) []) (
.ret)))))
def A88_L0b : ACode :=
(.seq (
r_ [
b_ 47 .lss 46 45] [0,3,4,5,45,46,47] []) (
(.seq (
(.cond (.t 47) (
.skip) (
.exit 6))) (
(.seq (
(.block 7 (
(.seq (
r_ [
m_ 48 46,
s_ 11 (.as (.t 48))] [0,3,4,5,11,45,46] []) (
(.seq (
r_ [
l_ 49 false 1 3,
m_ 50 11,
m_ 51 0,
s_ 52 (.call 117 [.t 49,.t 50,.t 51])] [0,3,4,5,11,45,46,52] []) (
(.cond (.t 52) (
(.seq (
r_ [
m_ 53 11,
s_ 54 (.build [i0_,i0_,i0_] [(0,1,.c (.z 3)),(2,1,.t 53)]),
n_ (.store 3 (.t 4) (.t 54)),
n_ (.store 1 (.t 5) (.c (.bool true)))] [4,5] []) (
.ret))) (
.skip))))))) (some [0,3,4,5,45,46]) [52])) (
r_ [
s_ 55 (.bin .add (.t 46) (.c (.z 1))),
m_ 46 55] [0,3,4,5,45,46] []))))))
def A88_L0 : ACode:=.loop A88_L0b (some [0,3,4,5,45,46]) [52]
def A88_L1b : ACode :=
(.seq (
r_ [
b_ 35 .lss 34 33] [0,3,4,5,33,34,35] []) (
(.seq (
(.cond (.t 35) (
.skip) (
.exit 4))) (
(.seq (
(.block 5 (
(.seq (
r_ [
m_ 36 34,
s_ 10 (.as (.t 36))] [0,3,4,5,10,33,34] []) (
(.seq (
r_ [
m_ 37 0,
m_ 38 10,
l_ 39 false 1 3,
s_ 40 (.call 117 [.t 37,.t 38,.t 39])] [0,3,4,5,10,33,34,40] []) (
(.cond (.t 40) (
(.seq (
r_ [
m_ 41 10,
s_ 42 (.build [i0_,i0_,i0_] [(0,1,.c (.z 2)),(1,1,.t 41)]),
n_ (.store 3 (.t 4) (.t 42)),
n_ (.store 1 (.t 5) (.c (.bool true)))] [4,5] []) (
.ret))) (
.skip))))))) (some [0,3,4,5,33,34]) [40])) (
r_ [
s_ 43 (.bin .add (.t 34) (.c (.z 1))),
m_ 34 43] [0,3,4,5,33,34] []))))))
def A88_L1 : ACode:=.loop A88_L1b (some [0,3,4,5,33,34]) [40]
def A88_R2a : ACode :=
(.seq (
r_ [
s_ 8 (.as (.t 18))] [4,5,6,7,8,19] []) (
r_ [
s_ 9 (.alloc [i0_,i0_,i0_,i0_]),
n_ (.store 4 (.t 9) (.t 19))] [4,5,6,7,8,9] []))
def A88_R2b : ACode :=
(.block 3 (
(.seq (
r_ [
s_ 20 (.fad 0 (.t 7)),
l_ 21 true 2 20,
s_ 22 (.fad 2 (.t 7)),
l_ 23 true 2 22,
s_ 24 (.fad 0 (.t 9)),
l_ 25 true 2 24,
s_ 26 (.fad 2 (.t 9)),
l_ 27 true 2 26,
s_ 28 (.call 96 [.t 21,.t 23,.t 25,.t 27])] [4,5,6,8,28] [7,9]) (
(.cond (.t 28) (
(.seq (
r_ [
l_ 29 false 1 6,
m_ 30 8,
s_ 31 (.build [i0_,i0_,i0_] [(0,1,.c (.z 1)),(1,1,.t 29),(2,1,.t 30)]),
n_ (.store 3 (.t 4) (.t 31)),
n_ (.store 1 (.t 5) (.c (.bool true)))] [] [6]) (
.ret))) (
.skip))))) (some []) [28])
def A88_R2 : ACode:=.rf 1 (.t 17) [18,19]  A88_R2a A88_R2b
def A88_R3a : ACode :=
(.seq (
r_ [
s_ 6 (.alloc [i0_]),
n_ (.store 1 (.t 6) (.t 14))] [3,4,5,6,15] []) (
r_ [
s_ 7 (.alloc [i0_,i0_,i0_,i0_]),
n_ (.store 4 (.t 7) (.t 15))] [3,4,5,6,7] []))
def A88_R3b : ACode :=
(.block 1 (
(.seq (
r_ [
l_ 16 false 1 3,
s_ 17 (.call 116 [.t 16])] [4,5,6,7,17] [3]) (
(.block 2 (
A88_R2) (some []) [8,9,28])))) (some []) [8,9,17,28])
def A88_R3 : ACode:=.rf 0 (.t 13) [14,15]  A88_R3a A88_R3b
def A88 : AFn:=.code [.cell true 3 4,.cell false 1 5] (
(.seq (
r_ [
s_ 3 (.box (.t 1)),
s_ 4 (.alloc [i0_,i0_,i0_]),
s_ 5 (.alloc [.bool false])] [0,3,4,5] []) (
(.seq (
(.seq (
r_ [
m_ 12 0,
s_ 13 (.call 116 [.t 12])] [0,3,4,5,13] []) (
(.block 0 (
A88_R3) (some [0,3,4,5]) [6,7,9,17,28])))) (
(.seq (
(.seq (
r_ [
m_ 32 0,
s_ 33 (.len 0 (.t 32)),
s_ 34 (.mv (.c (i0_)))] [0,3,4,5,33,34] []) (
(.block 4 (
A88_L1) (some [0,3,4,5]) [40])))) (
(.seq (
(.seq (
r_ [
l_ 44 false 1 3,
s_ 45 (.len 0 (.t 44)),
s_ 46 (.mv (.c (i0_)))] [0,3,4,5,45,46] []) (
(.block 6 (
A88_L0) (some [4,5]) [52])))) (
(.seq (
r_ [
s_ 56 (.build [i0_,i0_,i0_] []),
n_ (.store 3 (.t 4) (.t 56)),
n_ (.store 1 (.t 5) (.c (.bool false)))] [4,5] []) (
.ret)))))))))))
def A92_L0b : ACode :=
(.seq (
r_ [
b_ 8 .lss 7 6] [0,1,5,6,7,8] []) (
(.seq (
(.cond (.t 8) (
.skip) (
.exit 0))) (
(.seq (
(.block 1 (
(.seq (
r_ [
m_ 9 7,
s_ 10 (.ias 2 (.t 5) (.t 7)),
l_ 11 true 2 10,
s_ 4 (.alloc [i0_,i0_]),
s_ 3 (.as (.t 9)),
n_ (.store 2 (.t 4) (.t 11))] [0,1,3,4,5,6,7] []) (
(.seq (
.reg (some [.dr [14,15,18,19,21,22] [],.dr [14,15,18,19,21,22] [],.dr [15,18,19,21,22] [],.dr [14,18,19] [],.dr [14,15,18,19] [],.dr [14,15,18,19] [],.dr [14,15] [],.dr [14,15] [],.dr [14,15] [],.dr [14] [],.dr [14] [],.dr [] [],.free,.free]) [
m_ 12 0,
m_ 13 3,
l_ 14 true 2 4,
l_ 15 false 1 1,
m_ 16 3,
s_ 17 (.bin .add (.t 16) (.c (.z 1))),
l_ 18 false 1 1,
s_ 19 (.len 0 (.t 18)),
s_ 20 (.bin .rem (.t 17) (.t 19)),
s_ 21 (.ias 2 (.t 15) (.t 20)),
l_ 22 true 2 21,
s_ 23 (.build [i0_,i0_,i0_,i0_] [(0,2,.t 14),(2,2,.t 22)]),
s_ 24 (.cal (.t 12) [.t 13,.t 23]),
s_ 25 (.un .not (.t 24))] (some [0,1,5,6,7,25]) [4]) (
(.cond (.t 25) (
.ret) (
.skip))))))) (some [0,1,5,6,7]) [3,4,24])) (
r_ [
s_ 26 (.bin .add (.t 7) (.c (.z 1))),
m_ 7 26] [0,1,5,6,7] []))))))
def A92_L0 : ACode:=.loop A92_L0b (some [0,1,5,6,7]) [3,4,24]
def A92 : AFn:=.code [] (
(.seq (
r_ [
l_ 5 false 1 1,
s_ 6 (.len 0 (.t 5)),
s_ 7 (.mv (.c (i0_)))] [0,1,5,6,7] []) (
(.block 0 (
A92_L0) (some []) [3,4,24]))))
def A93 : AFn:=.code [.t 6] (
(.seq (
r_ [
s_ 3 (.box (.t 0)),
s_ 4 (.box (.t 1)),
s_ 5 (.box (.t 2)),
s_ 6 (.as (.c (.bool false)))] [3,4,5] []) (
(.seq (
r_ [
l_ 10 true 2 3,
l_ 11 true 2 4,
s_ 12 (.bsl 2 2 [i0_,i0_] [(0,.t 10),(1,.t 11)]),
s_ 13 (.call 120 [.t 12]),
m_ 9 13,
s_ 14 (.ext (.t 9) 0),
s_ 15 (.ext (.t 9) 1),
s_ 7 (.alloc [i0_,i0_]),
s_ 8 (.alloc [i0_,i0_]),
n_ (.store 2 (.t 7) (.t 14)),
n_ (.store 2 (.t 8) (.t 15))] [5,7,8] [3,4]) (
(.seq (
r_ [
s_ 16 (.fad 0 (.t 5)),
l_ 17 false 1 16,
s_ 18 (.fad 0 (.t 7)),
l_ 19 false 1 18,
b_ 20 .geq 17 19,
m_ 21 20,
t_ 22 21 (.fad 0 (.t 5)),
t_ 23 21 (.load false 1 (.t 22)),
t_ 24 21 (.fad 0 (.t 8)),
t_ 25 21 (.load false 1 (.t 24)),
t_ 26 21 (.bin .leq (.t 23) (.t 25)),
s_ 27 (.pick (.t 21) (.t 26) (.c (.bool false))),
m_ 28 27,
t_ 29 28 (.fad 1 (.t 5)),
t_ 30 28 (.load false 1 (.t 29)),
t_ 31 28 (.fad 1 (.t 7)),
t_ 32 28 (.load false 1 (.t 31)),
t_ 33 28 (.bin .geq (.t 30) (.t 32)),
s_ 34 (.pick (.t 28) (.t 33) (.c (.bool false))),
m_ 35 34,
t_ 36 35 (.fad 1 (.t 5)),
t_ 37 35 (.load false 1 (.t 36)),
t_ 38 35 (.fad 1 (.t 8)),
t_ 39 35 (.load false 1 (.t 38)),
t_ 40 35 (.bin .leq (.t 37) (.t 39)),
s_ 41 (.pick (.t 35) (.t 40) (.c (.bool false))),
s_ 6 (.as (.t 41))] [6] [5,7,8]) (
.ret)))))))
def A94 : AFn:=.code [.cell true 2 4] (
(.seq (
r_ [
s_ 2 (.box (.t 0)),
s_ 3 (.box (.t 1)),
s_ 4 (.alloc [i0_,i0_])] [2,3,4] []) (
(.seq (
r_ [
s_ 5 (.fad 0 (.t 2)),
l_ 6 false 1 5,
s_ 7 (.fad 0 (.t 3)),
l_ 8 false 1 7,
b_ 9 .sub 6 8,
s_ 10 (.fad 1 (.t 2)),
l_ 11 false 1 10,
s_ 12 (.fad 1 (.t 3)),
l_ 13 false 1 12,
b_ 14 .sub 11 13,
s_ 15 (.build [i0_,i0_] [(0,1,.t 9),(1,1,.t 14)]),
n_ (.store 2 (.t 4) (.t 15))] [4] [2,3]) (
.ret)))))
def A96 : AFn:=.code [.t 8] (
(.seq (
r_ [
s_ 4 (.box (.t 0)),
s_ 5 (.box (.t 1)),
s_ 6 (.box (.t 2)),
s_ 7 (.box (.t 3)),
s_ 8 (.as (.c (.bool false)))] [4,5,6,7] []) (
(.seq (
r_ [
s_ 9 (.as (.fu 121))] [4,5,6,7,9] []) (
(.seq (
r_ [
m_ 15 9,
l_ 16 true 2 4,
l_ 17 true 2 5,
l_ 18 true 2 6,
l_ 19 true 2 7,
s_ 20 (.cal (.t 15) [.t 16,.t 17,.t 18,.t 19]),
m_ 14 20,
s_ 21 (.ext (.t 14) 0),
s_ 22 (.ext (.t 14) 1),
s_ 10 (.as (.t 21)),
s_ 11 (.as (.t 22))] [4,5,6,7,9,10,11] []) (
(.seq (
r_ [
m_ 24 9,
l_ 25 true 2 6,
l_ 26 true 2 7,
l_ 27 true 2 4,
l_ 28 true 2 5,
s_ 29 (.cal (.t 24) [.t 25,.t 26,.t 27,.t 28]),
m_ 23 29,
s_ 30 (.ext (.t 23) 0),
s_ 31 (.ext (.t 23) 1),
s_ 12 (.as (.t 30)),
s_ 13 (.as (.t 31))] [10,11,12,13] [4,5,6,7]) (
(.seq (
r_ [
m_ 32 10,
m_ 33 32,
t_ 34 33 (.mv (.t 12)),
s_ 35 (.pick (.t 33) (.t 34) (.c (.bool false))),
m_ 36 35,
f_ 37 36 (.mv (.t 11)),
s_ 38 (.pick (.t 36) (.c (.bool true)) (.t 37)),
m_ 39 38,
f_ 40 39 (.mv (.t 13)),
s_ 41 (.pick (.t 39) (.c (.bool true)) (.t 40)),
s_ 8 (.as (.t 41))] [8] []) (
.ret)))))))))))
def A97 : AFn:=.code [.t 2] (
(.seq (
r_ [
s_ 1 (.box (.t 0)),
s_ 2 (.as (.c (.bool false)))] [1] []) (
(.seq (
r_ [
s_ 3 (.as (.c (.z 439400000)))] [1,3] []) (
(.seq (
r_ [
s_ 4 (.fad 0 (.t 1)),
l_ 5 false 1 4,
m_ 6 3,
s_ 7 (.un .neg (.t 6)),
b_ 8 .geq 5 7,
m_ 9 8,
t_ 10 9 (.fad 0 (.t 1)),
t_ 11 9 (.load false 1 (.t 10)),
t_ 12 9 (.mv (.t 3)),
t_ 13 9 (.bin .leq (.t 11) (.t 12)),
s_ 14 (.pick (.t 9) (.t 13) (.c (.bool false))),
m_ 15 14,
t_ 16 15 (.fad 1 (.t 1)),
t_ 17 15 (.load false 1 (.t 16)),
t_ 18 15 (.mv (.t 3)),
t_ 19 15 (.un .neg (.t 18)),
t_ 20 15 (.bin .geq (.t 17) (.t 19)),
s_ 21 (.pick (.t 15) (.t 20) (.c (.bool false))),
m_ 22 21,
t_ 23 22 (.fad 1 (.t 1)),
t_ 24 22 (.load false 1 (.t 23)),
t_ 25 22 (.mv (.t 3)),
t_ 26 22 (.bin .leq (.t 24) (.t 25)),
s_ 27 (.pick (.t 22) (.t 26) (.c (.bool false))),
s_ 2 (.as (.t 27))] [2] [1]) (
.ret)))))))
def A98 : AFn:=.code [.t 6] (
(.seq (
r_ [
s_ 3 (.box (.t 0)),
s_ 4 (.box (.t 1)),
s_ 5 (.box (.t 2)),
s_ 6 (.as (.c (i0_)))] [3,4,5] []) (
(.seq (
r_ [
s_ 7 (.fad 0 (.t 4)),
l_ 8 false 1 7,
s_ 9 (.fad 0 (.t 3)),
l_ 10 false 1 9,
b_ 11 .sub 8 10,
s_ 12 (.fad 1 (.t 5)),
l_ 13 false 1 12,
s_ 14 (.fad 1 (.t 3)),
l_ 15 false 1 14,
b_ 16 .sub 13 15,
b_ 17 .mul 11 16,
s_ 18 (.fad 1 (.t 4)),
l_ 19 false 1 18,
s_ 20 (.fad 1 (.t 3)),
l_ 21 false 1 20,
b_ 22 .sub 19 21,
s_ 23 (.fad 0 (.t 5)),
l_ 24 false 1 23,
s_ 25 (.fad 0 (.t 3)),
l_ 26 false 1 25,
b_ 27 .sub 24 26,
b_ 28 .mul 22 27,
b_ 29 .sub 17 28,
s_ 6 (.as (.t 29))] [6] [3,4,5]) (
.ret)))))
def A99 : AFn:=.code [.cell true 2 4] (
(.seq (
r_ [
s_ 4 (.alloc [i0_,i0_])] [0,1,4] []) (
(.seq (
r_ [
m_ 5 0,
m_ 6 1,
m_ 7 0,
s_ 8 (.len 0 (.t 7)),
s_ 9 (.bin .rem (.t 6) (.t 8)),
s_ 10 (.ias 2 (.t 5) (.t 9)),
l_ 11 true 2 10,
n_ (.store 2 (.t 4) (.t 11))] [4] []) (
.ret)))))
def A100 : AFn:=.code [.t 8] (
(.seq (
r_ [
s_ 4 (.box (.t 0)),
s_ 5 (.box (.t 1)),
s_ 6 (.box (.t 2)),
s_ 7 (.box (.t 3)),
s_ 8 (.as (.c (.bool false)))] [4,5,6,7] []) (
(.seq (
(.seq (
r_ [
l_ 11 true 2 4,
l_ 12 true 2 5,
l_ 13 true 2 6,
s_ 14 (.call 119 [.t 11,.t 12,.t 13]),
m_ 15 14,
f_ 16 15 (.load true 2 (.t 4)),
f_ 17 15 (.load true 2 (.t 5)),
f_ 18 15 (.load true 2 (.t 7)),
f_ 19 15 (.call 119 [.t 16,.t 17,.t 18]),
s_ 20 (.pick (.t 15) (.c (.bool true)) (.t 19)),
m_ 21 20,
f_ 22 21 (.load true 2 (.t 6)),
f_ 23 21 (.load true 2 (.t 7)),
f_ 24 21 (.load true 2 (.t 4)),
f_ 25 21 (.call 119 [.t 22,.t 23,.t 24]),
s_ 26 (.pick (.t 21) (.c (.bool true)) (.t 25)),
m_ 27 26,
f_ 28 27 (.load true 2 (.t 6)),
f_ 29 27 (.load true 2 (.t 7)),
f_ 30 27 (.load true 2 (.t 5)),
f_ 31 27 (.call 119 [.t 28,.t 29,.t 30]),
s_ 32 (.pick (.t 27) (.c (.bool true)) (.t 31))] [4,5,6,7,32] []) (
(.cond (.t 32) (
(.seq (
r_ [
s_ 8 (.as (.c (.bool true)))] [8] []) (
.ret))) (
.skip))))) (
(.seq (
.reg (some [.dr [34,35,38,39,40] [],.dr [33,35,38,39,40] [],.dr [33,34,38,39,40] [],.dr [38,39,40] [],.dr [38,39,40] [],.dr [33,34,35,36,37,39,40] [],.dr [33,34,35,36,37,38,40] [],.dr [33,34,35,36,37,38,39] [],.free,.free,.free,.free]) [
l_ 33 true 2 4,
l_ 34 true 2 5,
l_ 35 true 2 6,
s_ 36 (.call 98 [.t 33,.t 34,.t 35]),
s_ 37 (.call 122 [.t 36]),
l_ 38 true 2 4,
l_ 39 true 2 5,
l_ 40 true 2 7,
s_ 41 (.call 98 [.t 38,.t 39,.t 40]),
s_ 42 (.call 122 [.t 41]),
b_ 43 .mul 37 42,
s_ 9 (.as (.t 43))] (some [4,5,6,7,9]) []) (
(.seq (
.reg (some [.dr [45,46,49,50,51] [],.dr [44,46,49,50,51] [],.dr [44,45,49,50,51] [],.dr [49,50,51] [],.dr [49,50,51] [],.dr [44,45,46,47,48,50,51] [],.dr [44,45,46,47,48,49,51] [],.dr [44,45,46,47,48,49,50] [],.free,.free,.free,.free]) [
l_ 44 true 2 6,
l_ 45 true 2 7,
l_ 46 true 2 4,
s_ 47 (.call 98 [.t 44,.t 45,.t 46]),
s_ 48 (.call 122 [.t 47]),
l_ 49 true 2 6,
l_ 50 true 2 7,
l_ 51 true 2 5,
s_ 52 (.call 98 [.t 49,.t 50,.t 51]),
s_ 53 (.call 122 [.t 52]),
b_ 54 .mul 48 53,
s_ 10 (.as (.t 54))] (some [9,10]) [4,5,6,7]) (
(.seq (
r_ [
m_ 55 9,
s_ 56 (.bin .lss (.t 55) (.c (i0_))),
m_ 57 56,
t_ 58 57 (.mv (.t 10)),
t_ 59 57 (.bin .lss (.t 58) (.c (i0_))),
s_ 60 (.pick (.t 57) (.t 59) (.c (.bool false))),
s_ 8 (.as (.t 60))] [8] []) (
.ret)))))))))))
def A101_L0b : ACode :=
(.seq (
(.seq (
r_ [
m_ 7 4,
m_ 8 0,
s_ 9 (.len 0 (.t 8)),
b_ 10 .lss 7 9] [0,3,4,10] []) (
(.cond (.t 10) (
.skip) (
.exit 0))))) (
(.seq (
(.block 1 (
(.seq (
r_ [
m_ 13 0,
m_ 14 4,
s_ 15 (.call 99 [.t 13,.t 14]),
s_ 5 (.alloc [i0_,i0_]),
n_ (.store 2 (.t 5) (.t 15))] [0,3,4,5] []) (
(.seq (
r_ [
m_ 16 0,
m_ 17 4,
s_ 18 (.bin .add (.t 17) (.c (.z 1))),
s_ 19 (.call 99 [.t 16,.t 18]),
s_ 6 (.alloc [i0_,i0_]),
n_ (.store 2 (.t 6) (.t 19))] [0,3,4,5,6] []) (
r_ [
m_ 20 3,
s_ 21 (.fad 0 (.t 5)),
l_ 22 false 1 21,
s_ 23 (.fad 1 (.t 6)),
l_ 24 false 1 23,
b_ 25 .mul 22 24,
b_ 26 .add 20 25,
s_ 27 (.fad 1 (.t 5)),
l_ 28 false 1 27,
s_ 29 (.fad 0 (.t 6)),
l_ 30 false 1 29,
b_ 31 .mul 28 30,
b_ 32 .sub 26 31,
s_ 3 (.as (.t 32))] [0,3,4] [5,6]))))) (some [0,3,4]) [5,6,15,19])) (
r_ [
m_ 11 4,
s_ 12 (.bin .add (.t 11) (.c (.z 1))),
s_ 4 (.as (.t 12))] [0,3,4] []))))
def A101_L0 : ACode:=.loop A101_L0b (some [0,3,4]) [5,6,15,19]
def A101 : AFn:=.code [.t 2] (
(.seq (
r_ [
s_ 2 (.as (.c (i0_)))] [0] []) (
(.seq (
r_ [
s_ 3 (.as (.c (i0_)))] [0,3] []) (
(.seq (
(.seq (
r_ [
s_ 4 (.as (.c (i0_)))] [0,3,4] []) (
(.block 0 (
A101_L0) (some [3]) [4,5,6,15,19])))) (
(.seq (
r_ [
m_ 33 3,
s_ 2 (.as (.t 33))] [2] []) (
.ret)))))))))
def A102_L0b : ACode :=
(.seq (
(.seq (
r_ [
m_ 5 4,
m_ 6 0,
b_ 7 .lss 5 6] [0,3,4,7] []) (
(.cond (.t 7) (
.skip) (
.exit 0))))) (
(.seq (
(.block 1 (
r_ [
m_ 10 3,
s_ 11 (.bin .mul (.c (.z 65)) (.t 10)),
s_ 3 (.as (.t 11))] [0,3,4] []) (some [0,3,4]) [])) (
r_ [
m_ 8 4,
s_ 9 (.bin .add (.t 8) (.c (.z 1))),
s_ 4 (.as (.t 9))] [0,3,4] []))))
def A102_L0 : ACode:=.loop A102_L0b (some [0,3,4]) []
def A102 : AFn:=.code [.t 2] (
(.seq (
r_ [
s_ 2 (.as (.c (i0_)))] [0] []) (
(.seq (
r_ [
s_ 3 (.as (.c (.z 1)))] [0,3] []) (
(.seq (
(.seq (
r_ [
s_ 4 (.as (.c (i0_)))] [0,3,4] []) (
(.block 0 (
A102_L0) (some [3]) [4])))) (
(.seq (
r_ [
m_ 12 3,
s_ 2 (.as (.t 12))] [2] []) (
.ret)))))))))
def A103_L0b : ACode :=
(.seq (
(.seq (
r_ [
m_ 18 3,
m_ 19 0,
s_ 20 (.len 1 (.t 19)),
b_ 21 .lss 18 20] [0,3,21] []) (
(.cond (.t 21) (
.skip) (
.exit 0))))) (
(.seq (
(.block 1 (
(.seq (
r_ [
m_ 24 0,
m_ 25 3,
s_ 26 (.ixt (.t 24) (.t 25)),
s_ 27 (.call 123 [.t 26]),
s_ 28 (.un .not (.t 27)),
m_ 29 28,
t_ 30 29 (.mv (.t 0)),
t_ 31 29 (.mv (.t 3)),
t_ 32 29 (.ixt (.t 30) (.t 31)),
t_ 33 29 (.bin .neq (.t 32) (.c (.int .u8 95))),
s_ 34 (.pick (.t 29) (.t 33) (.c (.bool false))),
m_ 35 34,
t_ 36 35 (.mv (.t 0)),
t_ 37 35 (.mv (.t 3)),
t_ 38 35 (.ixt (.t 36) (.t 37)),
t_ 39 35 (.bin .lss (.t 38) (.c (.int .u8 48))),
t_ 40 35 (.mv (.t 39)),
f_ 41 40 (.mv (.t 0)),
f_ 42 40 (.mv (.t 3)),
f_ 43 40 (.ixt (.t 41) (.t 42)),
f_ 44 40 (.bin .gtr (.t 43) (.c (.int .u8 57))),
t_ 45 35 (.pick (.t 40) (.c (.bool true)) (.t 44)),
s_ 46 (.pick (.t 35) (.t 45) (.c (.bool false)))] [0,3,46] []) (
(.cond (.t 46) (
(.seq (
r_ [
s_ 2 (.as (.c (.bool false)))] [2] []) (
.ret))) (
.skip))))) (some [0,3]) [2,27])) (
r_ [
m_ 22 3,
s_ 23 (.bin .add (.t 22) (.c (.z 1))),
s_ 3 (.as (.t 23))] [0,3] []))))
def A103_L0 : ACode:=.loop A103_L0b (some [0,3]) [2,27]
def A103 : AFn:=.code [.t 2] (
(.seq (
r_ [
s_ 2 (.as (.c (.bool false)))] [0] []) (
(.seq (
(.seq (
r_ [
m_ 4 0,
s_ 5 (.len 1 (.t 4)),
s_ 6 (.bin .lss (.t 5) (.c (.z 1))),
m_ 7 6,
f_ 8 7 (.mv (.t 0)),
f_ 9 7 (.len 1 (.t 8)),
f_ 10 7 (.bin .gtr (.t 9) (.c (.z 12))),
s_ 11 (.pick (.t 7) (.c (.bool true)) (.t 10)),
m_ 12 11,
f_ 13 12 (.mv (.t 0)),
f_ 14 12 (.ixt (.t 13) (.c (i0_))),
f_ 15 12 (.call 123 [.t 14]),
f_ 16 12 (.un .not (.t 15)),
s_ 17 (.pick (.t 12) (.c (.bool true)) (.t 16))] [0,17] []) (
(.cond (.t 17) (
(.seq (
r_ [
s_ 2 (.as (.c (.bool false)))] [2] []) (
.ret))) (
.skip))))) (
(.seq (
(.seq (
r_ [
s_ 3 (.as (.c (.z 1)))] [0,3] []) (
(.block 0 (
A103_L0) (some []) [2,3,27])))) (
(.seq (
r_ [
s_ 2 (.as (.c (.bool true)))] [2] []) (
.ret)))))))))
def A104 : AFn:=.code [.t 6] (
(.seq (
r_ [
s_ 3 (.box (.t 0)),
s_ 4 (.box (.t 1)),
s_ 5 (.box (.t 2)),
s_ 6 (.as (.c (i0_)))] [3,4,5] []) (
(.seq (
r_ [
l_ 8 true 2 3,
l_ 9 true 2 4,
l_ 10 true 2 5,
s_ 11 (.call 124 [.t 8,.t 9,.t 10]),
s_ 7 (.as (.t 11))] [7] [3,4,5]) (
(.seq (
(.seq (
r_ [
m_ 12 7,
s_ 13 (.bin .gtr (.t 12) (.c (i0_)))] [7,13] []) (
(.cond (.t 13) (
(.seq (
r_ [
s_ 6 (.as (.c (.z 1)))] [6] []) (
.ret))) (
.skip))))) (
(.seq (
(.seq (
r_ [
m_ 14 7,
s_ 15 (.bin .lss (.t 14) (.c (i0_)))] [15] []) (
(.cond (.t 15) (
(.seq (
r_ [
s_ 6 (.as (.c (.z (-1))))] [6] []) (
.ret))) (
.skip))))) (
(.seq (
r_ [
s_ 6 (.as (.c (i0_)))] [6] []) (
.ret)))))))))))
def A105 : AFn:=.code [.t 8] (
(.seq (
r_ [
s_ 4 (.box (.t 0)),
s_ 5 (.box (.t 1)),
s_ 6 (.box (.t 2)),
s_ 7 (.box (.t 3)),
s_ 8 (.as (.c (.nils 2)))] [4,5,6,7] []) (
(.seq (
r_ [
l_ 10 true 3 5,
s_ 11 (.fad 0 (.t 4)),
s_ 12 (.fad 5 (.t 11)),
l_ 13 false 1 12,
s_ 14 (.call 109 [.t 10,.t 13]),
s_ 15 (.call 125 [.t 14]),
s_ 9 (.alloc [i0_,i0_]),
n_ (.store 2 (.t 9) (.t 15))] [6,7,9] [4,5]) (
(.seq (
.reg (some [.dr [17,19,20,22,23,25,26] [],.dr [16,19,20,22,23,25,26] [],.dr [19,20,22,23,25,26] [],.dr [16,17,18,20,22,23,25,26] [],.dr [16,17,18,19,22,23,25,26] [],.dr [22,23,25,26] [],.dr [16,17,18,19,20,21,23,25,26] [],.dr [16,17,18,19,20,21,22,25,26] [],.dr [25,26] [],.dr [16,17,18,19,20,21,22,23,24,26] [],.dr [16,17,18,19,20,21,22,23,24,25] [],.free,.free,.free]) [
l_ 16 true 2 6,
l_ 17 true 2 9,
s_ 18 (.call 94 [.t 16,.t 17]),
l_ 19 true 2 7,
l_ 20 true 2 9,
s_ 21 (.call 94 [.t 19,.t 20]),
l_ 22 true 2 7,
l_ 23 true 2 9,
s_ 24 (.call 65 [.t 22,.t 23]),
l_ 25 true 2 6,
l_ 26 true 2 9,
s_ 27 (.call 65 [.t 25,.t 26]),
s_ 28 (.bsl 2 4 [i0_,i0_] [(0,.t 18),(1,.t 21),(2,.t 24),(3,.t 27)]),
s_ 8 (.as (.t 28))] (some [8]) [6,7,9]) (
.ret)))))))
def A106_L0b : ACode :=
(.seq (
r_ [
b_ 14 .lss 13 12] [1,5,11,12,13,14] []) (
(.seq (
(.cond (.t 14) (
.skip) (
.exit 0))) (
(.seq (
(.block 1 (
(.seq (
r_ [
s_ 15 (.ias 2 (.t 11) (.t 13)),
l_ 16 true 2 15,
s_ 7 (.alloc [i0_,i0_]),
n_ (.store 2 (.t 7) (.t 16))] [1,5,7,11,12,13] []) (
r_ [
m_ 17 5,
m_ 18 1,
l_ 19 true 2 7,
s_ 20 (.cal (.t 18) [.t 19]),
s_ 21 (.bsl 2 1 [i0_,i0_] [(0,.t 20)]),
s_ 22 (.app 2 (.t 17) (.t 21)),
s_ 5 (.as (.t 22))] [1,5,11,12,13] [7]))) (some [1,5,11,12,13]) [7,20,21])) (
r_ [
s_ 23 (.bin .add (.t 13) (.c (.z 1))),
m_ 13 23] [1,5,11,12,13] []))))))
def A106_L0 : ACode:=.loop A106_L0b (some [1,5,11,12,13]) [7,20,21]
def A106 : AFn:=.code [.t 4] (
(.seq (
r_ [
s_ 4 (.as (.c (.nils 2)))] [0,1] []) (
(.seq (
r_ [
m_ 8 0,
s_ 9 (.len 0 (.t 8)),
s_ 10 (.mks 2 [i0_,i0_] (.c (i0_)) (.t 9)),
s_ 5 (.as (.t 10))] [0,1,5] []) (
(.seq (
(.seq (
r_ [
m_ 11 0,
s_ 12 (.len 0 (.t 11)),
s_ 13 (.mv (.c (i0_)))] [1,5,11,12,13] []) (
(.block 0 (
A106_L0) (some [5]) [7,20,21])))) (
(.seq (
r_ [
m_ 24 5,
s_ 4 (.as (.t 24))] [4] []) (
.ret)))))))))
def A107 : AFn:=.code [.cell true 2 4] (
(.seq (
r_ [
s_ 3 (.box (.t 0)),
s_ 4 (.alloc [i0_,i0_])] [1,2,3,4] []) (
(.seq (
r_ [
l_ 5 true 2 1,
s_ 6 (.fad 0 (.t 3)),
l_ 7 false 1 6,
s_ 8 (.fad 0 (.t 2)),
l_ 9 false 1 8,
b_ 10 .mul 7 9,
s_ 11 (.fad 1 (.t 3)),
l_ 12 false 1 11,
s_ 13 (.fad 1 (.t 2)),
l_ 14 false 1 13,
b_ 15 .mul 12 14,
b_ 16 .sub 10 15,
s_ 17 (.bin .mul (.c (.z 16)) (.t 16)),
s_ 18 (.fad 0 (.t 3)),
l_ 19 false 1 18,
s_ 20 (.fad 1 (.t 2)),
l_ 21 false 1 20,
b_ 22 .mul 19 21,
s_ 23 (.fad 1 (.t 3)),
l_ 24 false 1 23,
s_ 25 (.fad 0 (.t 2)),
l_ 26 false 1 25,
b_ 27 .mul 24 26,
b_ 28 .add 22 27,
s_ 29 (.bin .mul (.c (.z 16)) (.t 28)),
s_ 30 (.build [i0_,i0_] [(0,1,.t 17),(1,1,.t 29)]),
s_ 31 (.call 65 [.t 5,.t 30]),
n_ (.store 2 (.t 4) (.t 31))] [4] [3]) (
.ret)))))
def A108 : AFn:=.code [.cell true 2 3] (
(.seq (
r_ [
s_ 2 (.box (.t 0)),
s_ 3 (.alloc [i0_,i0_])] [1,2,3] []) (
(.seq (
r_ [
l_ 4 true 2 1,
l_ 5 true 2 2,
s_ 6 (.call 65 [.t 4,.t 5]),
n_ (.store 2 (.t 1) (.t 6))] [1,3] [2]) (
(.seq (
r_ [
l_ 7 true 2 1,
n_ (.store 2 (.t 3) (.t 7))] [3] []) (
.ret)))))))
def A109 : AFn:=.code [.cell true 2 4] (
(.seq (
r_ [
s_ 2 (.box (.t 0)),
s_ 4 (.alloc [i0_,i0_])] [1,2,4] []) (
(.seq (
r_ [
m_ 6 1,
s_ 7 (.fad 2 (.t 2)),
l_ 8 false 1 7,
s_ 9 (.call 126 [.t 8]),
s_ 10 (.bin .quo (.c (.z 4394000)) (.t 9)),
b_ 11 .mul 6 10,
s_ 5 (.as (.t 11))] [2,4,5] []) (
(.seq (
r_ [
m_ 12 5,
s_ 13 (.fad 0 (.t 2)),
l_ 14 false 1 13,
b_ 15 .mul 12 14,
m_ 16 5,
s_ 17 (.fad 1 (.t 2)),
l_ 18 false 1 17,
b_ 19 .mul 16 18,
s_ 20 (.build [i0_,i0_] [(0,1,.t 15),(1,1,.t 19)]),
n_ (.store 2 (.t 4) (.t 20))] [4] [2]) (
.ret)))))))
def A110 : AFn:=.code [.cell true 3 4] (
(.seq (
r_ [
s_ 2 (.box (.t 0)),
s_ 4 (.alloc [i0_,i0_,i0_])] [1,2,4] []) (
(.seq (
(.seq (
r_ [
l_ 6 true 3 2,
s_ 7 (.call 127 [.t 6]),
s_ 8 (.un .not (.t 7)),
m_ 9 8,
f_ 10 9 (.fad 2 (.t 2)),
f_ 11 9 (.load false 1 (.t 10)),
f_ 12 9 (.bin .eql (.t 11) (.c (.z 3))),
s_ 13 (.pick (.t 9) (.c (.bool true)) (.t 12))] [1,2,4,13] []) (
(.cond (.t 13) (
(.seq (
r_ [
s_ 14 (.build [i0_,i0_,i0_] []),
n_ (.store 3 (.t 4) (.t 14))] [4] []) (
.ret))) (
.skip))))) (
(.seq (
r_ [
s_ 15 (.fad 0 (.t 2)),
l_ 16 false 1 15,
s_ 17 (.fad 1 (.t 2)),
l_ 18 false 1 17,
s_ 19 (.build [i0_,i0_] [(0,1,.t 16),(1,1,.t 18)]),
m_ 20 1,
s_ 21 (.call 128 [.t 19,.t 20]),
s_ 5 (.alloc [i0_,i0_]),
n_ (.store 2 (.t 5) (.t 21))] [2,4,5] []) (
(.seq (
r_ [
s_ 22 (.fad 0 (.t 5)),
l_ 23 false 1 22,
s_ 24 (.fad 1 (.t 5)),
l_ 25 false 1 24,
s_ 26 (.fad 2 (.t 2)),
l_ 27 false 1 26,
s_ 28 (.bin .add (.t 27) (.c (.z 1))),
s_ 29 (.build [i0_,i0_,i0_] [(0,1,.t 23),(1,1,.t 25),(2,1,.t 28)]),
n_ (.store 3 (.t 4) (.t 29))] [4] [2,5]) (
.ret)))))))))
def A111_L0b : ACode :=
(.seq (
(.seq (
r_ [
m_ 24 9,
m_ 25 6,
s_ 26 (.bin .quo (.t 25) (.c (.z 9))),
b_ 27 .lss 24 26] [6,7,8,9,27] []) (
(.cond (.t 27) (
.skip) (
.exit 0))))) (
(.seq (
(.block 1 (
r_ [
m_ 30 8,
s_ 31 (.un .neg (.t 30)),
m_ 32 7,
s_ 7 (.as (.t 31)),
s_ 8 (.as (.t 32))] [6,7,8,9] []) (some [6,7,8,9]) [])) (
r_ [
m_ 28 9,
s_ 29 (.bin .add (.t 28) (.c (.z 1))),
s_ 9 (.as (.t 29))] [6,7,8,9] []))))
def A111_L0 : ACode:=.loop A111_L0b (some [6,7,8,9]) []
def A111 : AFn:=.code [.t 2,.t 3] (
(.seq (
r_ [
s_ 2 (.as (.c (i0_))),
s_ 3 (.as (.c (i0_)))] [0] []) (
(.seq (
r_ [
s_ 10 (.bsl 1 9 [i0_] [(0,.c (.z 65)),(1,.c (.z 63)),(2,.c (.z 60)),(3,.c (.z 56)),(4,.c (.z 52)),(5,.c (.z 39)),(6,.c (.z 33)),(7,.c (.z 25)),(8,.c (.z 16))]),
s_ 4 (.as (.t 10))] [0,4] []) (
(.seq (
r_ [
s_ 11 (.bsl 1 9 [i0_] [(0,.c (i0_)),(1,.c (.z 16)),(2,.c (.z 25)),(3,.c (.z 33)),(4,.c (.z 39)),(5,.c (.z 52)),(6,.c (.z 56)),(7,.c (.z 60)),(8,.c (.z 63))]),
s_ 5 (.as (.t 11))] [0,4,5] []) (
(.seq (
r_ [
m_ 12 0,
s_ 13 (.call 129 [.t 12]),
s_ 6 (.as (.t 13))] [4,5,6] []) (
(.seq (
r_ [
m_ 14 4,
m_ 15 6,
s_ 16 (.bin .rem (.t 15) (.c (.z 9))),
s_ 17 (.ias 1 (.t 14) (.t 16)),
l_ 18 false 1 17,
s_ 7 (.as (.t 18))] [5,6,7] []) (
(.seq (
r_ [
m_ 19 5,
m_ 20 6,
s_ 21 (.bin .rem (.t 20) (.c (.z 9))),
s_ 22 (.ias 1 (.t 19) (.t 21)),
l_ 23 false 1 22,
s_ 8 (.as (.t 23))] [6,7,8] []) (
(.seq (
(.seq (
r_ [
s_ 9 (.as (.c (i0_)))] [6,7,8,9] []) (
(.block 0 (
A111_L0) (some [7,8]) [9])))) (
(.seq (
r_ [
m_ 33 7,
m_ 34 8,
s_ 2 (.as (.t 33)),
s_ 3 (.as (.t 34))] [2,3] []) (
.ret)))))))))))))))))
def A112 : AFn:=.code [.t 4] (
(.seq (
r_ [
s_ 2 (.box (.t 0)),
s_ 3 (.box (.t 1)),
s_ 4 (.as (.c (.bool false)))] [2,3] []) (
(.seq (
r_ [
s_ 5 (.fad 1 (.t 2)),
l_ 6 false 1 5,
s_ 7 (.fad 1 (.t 3)),
l_ 8 false 1 7,
b_ 9 .neq 6 8,
m_ 10 9,
f_ 11 10 (.fad 2 (.t 2)),
f_ 12 10 (.load false 1 (.t 11)),
f_ 13 10 (.bin .eql (.t 12) (.c (i0_))),
f_ 14 10 (.mv (.t 13)),
t_ 15 14 (.fad 2 (.t 3)),
t_ 16 14 (.load false 1 (.t 15)),
t_ 17 14 (.bin .eql (.t 16) (.c (.z 2))),
f_ 18 10 (.pick (.t 14) (.t 17) (.c (.bool false))),
s_ 19 (.pick (.t 10) (.c (.bool true)) (.t 18)),
s_ 4 (.as (.t 19))] [4] [2,3]) (
.ret)))))
def A113 : AFn:=.code [.t 4] (
(.seq (
r_ [
s_ 2 (.box (.t 0)),
s_ 3 (.box (.t 1)),
s_ 4 (.as (.c (.bool false)))] [2,3] []) (
(.seq (
r_ [
s_ 5 (.fad 1 (.t 2)),
l_ 6 false 1 5,
s_ 7 (.fad 1 (.t 3)),
l_ 8 false 1 7,
b_ 9 .neq 6 8,
m_ 10 9,
f_ 11 10 (.fad 2 (.t 2)),
f_ 12 10 (.load false 1 (.t 11)),
f_ 13 10 (.bin .eql (.t 12) (.c (i0_))),
s_ 14 (.pick (.t 10) (.c (.bool true)) (.t 13)),
s_ 4 (.as (.t 14))] [4] [2,3]) (
.ret)))))
def A114 : AFn:=.code [.t 4] (
(.seq (
r_ [
s_ 2 (.box (.t 0)),
s_ 3 (.box (.t 1)),
s_ 4 (.as (.c (.bool false)))] [2] [3]) (
(.seq (
r_ [
s_ 5 (.fad 2 (.t 2)),
l_ 6 false 1 5,
s_ 7 (.bin .lss (.t 6) (.c (.z 2))),
s_ 4 (.as (.t 7))] [4] [2]) (
.ret)))))
def A115 : AFn:=.code [.t 4] (
(.seq (
r_ [
s_ 2 (.box (.t 0)),
s_ 3 (.box (.t 1)),
s_ 4 (.as (.c (.bool false)))] [] [2,3]) (
(.seq (
r_ [
s_ 4 (.as (.c (.bool true)))] [4] []) (
.ret)))))
def A116 : AFn:=.code [.t 2] (
(.seq (
r_ [
s_ 1 (.box (.t 0)),
s_ 2 (.as (.c (.nilf)))] [1] []) (
(.seq (
r_ [
s_ 3 (.mkf (.func 130) [] [.t 1]),
s_ 2 (.as (.t 3))] [2] []) (
.ret)))))
def A117 : AFn:=.code [.t 6] (
(.seq (
r_ [
s_ 6 (.as (.c (.bool false)))] [0,1,2] []) (
(.seq (
r_ [
m_ 7 1,
s_ 8 (.bin .geq (.t 7) (.c (i0_))),
m_ 9 8,
t_ 10 9 (.mv (.t 1)),
t_ 11 9 (.mv (.t 0)),
t_ 12 9 (.len 0 (.t 11)),
t_ 13 9 (.bin .lss (.t 10) (.t 12)),
s_ 14 (.pick (.t 9) (.t 13) (.c (.bool false))),
m_ 15 14,
t_ 16 15 (.mv (.t 2)),
t_ 17 15 (.mv (.t 0)),
t_ 18 15 (.mv (.t 1)),
t_ 19 15 (.ias 2 (.t 17) (.t 18)),
t_ 20 15 (.load true 2 (.t 19)),
t_ 21 15 (.call 26 [.t 16,.t 20]),
t_ 22 15 (.bin .neq (.t 21) (.c (.z (-1)))),
s_ 23 (.pick (.t 15) (.t 22) (.c (.bool false))),
s_ 6 (.as (.t 23))] [6] []) (
.ret)))))
def A119 : AFn:=.code [.t 6] (
(.seq (
r_ [
s_ 3 (.box (.t 0)),
s_ 4 (.box (.t 1)),
s_ 5 (.box (.t 2)),
s_ 6 (.as (.c (.bool false)))] [3,4,5] []) (
(.seq (
r_ [
l_ 7 true 2 3,
l_ 8 true 2 4,
l_ 9 true 2 5,
s_ 10 (.call 98 [.t 7,.t 8,.t 9]),
s_ 11 (.bin .eql (.t 10) (.c (i0_))),
m_ 12 11,
t_ 13 12 (.fad 0 (.t 3)),
t_ 14 12 (.load false 1 (.t 13)),
t_ 15 12 (.fad 0 (.t 4)),
t_ 16 12 (.load false 1 (.t 15)),
t_ 17 12 (.fad 0 (.t 5)),
t_ 18 12 (.load false 1 (.t 17)),
t_ 19 12 (.call 132 [.t 14,.t 16,.t 18]),
s_ 20 (.pick (.t 12) (.t 19) (.c (.bool false))),
m_ 21 20,
t_ 22 21 (.fad 1 (.t 3)),
t_ 23 21 (.load false 1 (.t 22)),
t_ 24 21 (.fad 1 (.t 4)),
t_ 25 21 (.load false 1 (.t 24)),
t_ 26 21 (.fad 1 (.t 5)),
t_ 27 21 (.load false 1 (.t 26)),
t_ 28 21 (.call 132 [.t 23,.t 25,.t 27]),
s_ 29 (.pick (.t 21) (.t 28) (.c (.bool false))),
s_ 6 (.as (.t 29))] [6] [3,4,5]) (
.ret)))))
def A120 : AFn:=.code [.cell true 2 2,.cell true 2 3] (
(.seq (
r_ [
s_ 2 (.alloc [i0_,i0_]),
s_ 3 (.alloc [i0_,i0_])] [0,2,3] []) (
(.seq (
(.seq (
r_ [
m_ 6 0,
s_ 7 (.len 0 (.t 6)),
s_ 8 (.bin .eql (.t 7) (.c (i0_)))] [0,2,3,8] []) (
(.cond (.t 8) (
(.seq (
r_ [
s_ 9 (.build [i0_,i0_] []),
s_ 10 (.build [i0_,i0_] []),
n_ (.store 2 (.t 2) (.t 9)),
n_ (.store 2 (.t 3) (.t 10))] [2,3] []) (
.ret))) (
.skip))))) (
(.seq (
r_ [
m_ 11 0,
m_ 12 0,
s_ 13 (.ias 2 (.t 12) (.c (i0_))),
l_ 14 true 2 13,
s_ 15 (.call 133 [.t 11,.t 14,.fu 134]),
s_ 4 (.alloc [i0_,i0_]),
n_ (.store 2 (.t 4) (.t 15))] [0,2,3,4] []) (
(.seq (
r_ [
m_ 16 0,
m_ 17 0,
s_ 18 (.ias 2 (.t 17) (.c (i0_))),
l_ 19 true 2 18,
s_ 20 (.call 133 [.t 16,.t 19,.fu 135]),
s_ 5 (.alloc [i0_,i0_]),
n_ (.store 2 (.t 5) (.t 20))] [2,3,4,5] []) (
(.seq (
.reg (some [.dr [22] [],.dr [21] [2],.dr [22] [],.free]) [
l_ 21 true 2 4,
l_ 22 true 2 5,
n_ (.store 2 (.t 2) (.t 21)),
n_ (.store 2 (.t 3) (.t 22))] (some [2,3]) [4,5]) (
.ret)))))))))))
def A121 : AFn:=.code [.t 8,.t 9] (
(.seq (
r_ [
s_ 4 (.box (.t 0)),
s_ 5 (.box (.t 1)),
s_ 6 (.box (.t 2)),
s_ 7 (.box (.t 3)),
s_ 8 (.as (.c (.bool false))),
s_ 9 (.as (.c (.bool false)))] [4,5,6,7] []) (
(.seq (
.reg (some [.dr [13,14,16,17,18] [],.dr [12,14,16,17,18] [],.dr [12,13,16,17,18] [],.dr [16,17,18] [],.dr [12,13,14,15,17,18] [],.dr [12,13,14,15,16,18] [],.dr [12,13,14,15,16,17] [],.free,.free,.free]) [
l_ 12 true 2 4,
l_ 13 true 2 5,
l_ 14 true 2 6,
s_ 15 (.call 62 [.t 12,.t 13,.t 14]),
l_ 16 true 2 4,
l_ 17 true 2 5,
l_ 18 true 2 7,
s_ 19 (.call 62 [.t 16,.t 17,.t 18]),
s_ 10 (.as (.t 15)),
s_ 11 (.as (.t 19))] (some [4,5,6,7,10,11]) []) (
(.seq (
r_ [
m_ 20 10,
m_ 21 11,
b_ 22 .mul 20 21,
s_ 23 (.bin .lss (.t 22) (.c (i0_))),
m_ 24 10,
s_ 25 (.bin .eql (.t 24) (.c (i0_))),
m_ 26 25,
t_ 27 26 (.load true 2 (.t 4)),
t_ 28 26 (.load true 2 (.t 5)),
t_ 29 26 (.load true 2 (.t 6)),
t_ 30 26 (.call 93 [.t 27,.t 28,.t 29]),
s_ 31 (.pick (.t 26) (.t 30) (.c (.bool false))),
m_ 32 31,
f_ 33 32 (.mv (.t 11)),
f_ 34 32 (.bin .eql (.t 33) (.c (i0_))),
f_ 35 32 (.mv (.t 34)),
t_ 36 35 (.load true 2 (.t 4)),
t_ 37 35 (.load true 2 (.t 5)),
t_ 38 35 (.load true 2 (.t 7)),
t_ 39 35 (.call 93 [.t 36,.t 37,.t 38]),
f_ 40 32 (.pick (.t 35) (.t 39) (.c (.bool false))),
s_ 41 (.pick (.t 32) (.c (.bool true)) (.t 40)),
s_ 8 (.as (.t 23)),
s_ 9 (.as (.t 41))] [8,9] [4,5,6,7]) (
.ret)))))))
def A122 : AFn:=.code [.t 2] (
(.seq (
r_ [
s_ 2 (.as (.c (i0_)))] [0] []) (
(.seq (
(.seq (
r_ [
m_ 3 0,
s_ 4 (.bin .gtr (.t 3) (.c (i0_)))] [0,4] []) (
(.cond (.t 4) (
(.seq (
r_ [
s_ 2 (.as (.c (.z 1)))] [2] []) (
.ret))) (
.skip))))) (
(.seq (
(.seq (
r_ [
m_ 5 0,
s_ 6 (.bin .lss (.t 5) (.c (i0_)))] [6] []) (
(.cond (.t 6) (
(.seq (
r_ [
s_ 2 (.as (.c (.z (-1))))] [2] []) (
.ret))) (
.skip))))) (
(.seq (
r_ [
s_ 2 (.as (.c (i0_)))] [2] []) (
.ret)))))))))
def A123 : AFn:=.code [.t 2] (
(.seq (
r_ [
s_ 2 (.as (.c (.bool false)))] [0] []) (
(.seq (
r_ [
m_ 3 0,
s_ 4 (.bin .geq (.t 3) (.c (.int .u8 97))),
m_ 5 4,
t_ 6 5 (.mv (.t 0)),
t_ 7 5 (.bin .leq (.t 6) (.c (.int .u8 122))),
s_ 8 (.pick (.t 5) (.t 7) (.c (.bool false))),
m_ 9 8,
f_ 10 9 (.mv (.t 0)),
f_ 11 9 (.bin .geq (.t 10) (.c (.int .u8 65))),
f_ 12 9 (.mv (.t 11)),
t_ 13 12 (.mv (.t 0)),
t_ 14 12 (.bin .leq (.t 13) (.c (.int .u8 90))),
f_ 15 9 (.pick (.t 12) (.t 14) (.c (.bool false))),
s_ 16 (.pick (.t 9) (.c (.bool true)) (.t 15)),
s_ 2 (.as (.t 16))] [2] []) (
.ret)))))
def A124 : AFn:=.code [.t 6] (
(.seq (
r_ [
s_ 3 (.box (.t 0)),
s_ 4 (.box (.t 1)),
s_ 5 (.box (.t 2)),
s_ 6 (.as (.c (i0_)))] [3,4,5] []) (
(.seq (
r_ [
s_ 7 (.fad 0 (.t 4)),
l_ 8 false 1 7,
s_ 9 (.fad 0 (.t 3)),
l_ 10 false 1 9,
b_ 11 .sub 8 10,
s_ 12 (.fad 1 (.t 5)),
l_ 13 false 1 12,
s_ 14 (.fad 1 (.t 3)),
l_ 15 false 1 14,
b_ 16 .sub 13 15,
b_ 17 .mul 11 16,
s_ 18 (.fad 1 (.t 4)),
l_ 19 false 1 18,
s_ 20 (.fad 1 (.t 3)),
l_ 21 false 1 20,
b_ 22 .sub 19 21,
s_ 23 (.fad 0 (.t 5)),
l_ 24 false 1 23,
s_ 25 (.fad 0 (.t 3)),
l_ 26 false 1 25,
b_ 27 .sub 24 26,
b_ 28 .mul 22 27,
b_ 29 .sub 17 28,
s_ 6 (.as (.t 29))] [6] [3,4,5]) (
.ret)))))
def A125 : AFn:=.code [.cell true 2 2] (
(.seq (
r_ [
s_ 1 (.box (.t 0)),
s_ 2 (.alloc [i0_,i0_])] [1,2] []) (
(.seq (
r_ [
s_ 4 (.fad 0 (.t 1)),
l_ 5 false 1 4,
s_ 6 (.fad 1 (.t 1)),
l_ 7 false 1 6,
s_ 8 (.build [i0_,i0_] [(0,1,.t 5),(1,1,.t 7)]),
s_ 9 (.call 136 [.t 8]),
s_ 3 (.alloc [i0_,i0_]),
n_ (.store 2 (.t 3) (.t 9))] [2,3] [1]) (
(.seq (
r_ [
s_ 10 (.fad 0 (.t 3)),
l_ 11 false 1 10,
s_ 12 (.fad 1 (.t 3)),
l_ 13 false 1 12,
s_ 14 (.build [i0_,i0_] [(0,1,.t 11),(1,1,.t 13)]),
n_ (.store 2 (.t 2) (.t 14))] [2] [3]) (
.ret)))))))
def A126_L0b : ACode :=
(.seq (
r_ [
b_ 6 .lss 5 4] [3,4,5,6] []) (
(.seq (
(.cond (.t 6) (
.skip) (
.exit 0))) (
(.seq (
(.block 1 (
r_ [
m_ 7 3,
s_ 8 (.bin .mul (.t 7) (.c (.z 65))),
s_ 3 (.as (.t 8))] [3,4,5] []) (some [3,4,5]) [])) (
r_ [
s_ 9 (.bin .add (.t 5) (.c (.z 1))),
m_ 5 9] [3,4,5] []))))))
def A126_L0 : ACode:=.loop A126_L0b (some [3,4,5]) []
def A126 : AFn:=.code [.t 2] (
(.seq (
r_ [
s_ 2 (.as (.c (i0_)))] [0] []) (
(.seq (
r_ [
s_ 3 (.as (.c (.z 1)))] [0,3] []) (
(.seq (
(.seq (
r_ [
m_ 4 0,
s_ 5 (.mv (.c (i0_)))] [3,4,5] []) (
(.block 0 (
A126_L0) (some [3]) [])))) (
(.seq (
r_ [
m_ 10 3,
s_ 2 (.as (.t 10))] [2] []) (
.ret)))))))))
def A127 : AFn:=.code [.t 2] (
(.seq (
r_ [
s_ 1 (.box (.t 0)),
s_ 2 (.as (.c (.bool false)))] [1] []) (
(.seq (
(.seq (
r_ [
s_ 6 (.fad 2 (.t 1)),
l_ 7 false 1 6,
s_ 8 (.bin .lss (.t 7) (.c (i0_))),
m_ 9 8,
f_ 10 9 (.fad 2 (.t 1)),
f_ 11 9 (.load false 1 (.t 10)),
f_ 12 9 (.bin .gtr (.t 11) (.c (.z 3))),
s_ 13 (.pick (.t 9) (.c (.bool true)) (.t 12))] [1,13] []) (
(.cond (.t 13) (
(.seq (
r_ [
s_ 2 (.as (.c (.bool false)))] [2] []) (
.ret))) (
.skip))))) (
(.seq (
r_ [
s_ 14 (.fad 2 (.t 1)),
l_ 15 false 1 14,
s_ 16 (.mkf (.func 126) [.t 15] []),
s_ 3 (.as (.t 16))] [1,3] []) (
(.seq (
r_ [
m_ 17 3,
s_ 18 (.cal (.t 17) []),
s_ 4 (.alloc [i0_]),
n_ (.store 1 (.t 4) (.t 18))] [1,4] []) (
(.seq (
r_ [
s_ 19 (.mkf (.func 137) [] [.t 4]),
s_ 5 (.as (.t 19))] [1,4,5] []) (
(.seq (
r_ [
m_ 20 5,
s_ 21 (.fad 0 (.t 1)),
l_ 22 false 1 21,
s_ 23 (.cal (.t 20) [.t 22]),
m_ 24 23,
t_ 25 24 (.mv (.t 5)),
t_ 26 24 (.fad 1 (.t 1)),
t_ 27 24 (.load false 1 (.t 26)),
t_ 28 24 (.cal (.t 25) [.t 27]),
s_ 29 (.pick (.t 24) (.t 28) (.c (.bool false))),
m_ 30 29,
t_ 31 30 (.fad 0 (.t 1)),
t_ 32 30 (.load false 1 (.t 31)),
t_ 33 30 (.fad 0 (.t 1)),
t_ 34 30 (.load false 1 (.t 33)),
t_ 35 30 (.bin .mul (.t 32) (.t 34)),
t_ 36 30 (.fad 1 (.t 1)),
t_ 37 30 (.load false 1 (.t 36)),
t_ 38 30 (.fad 1 (.t 1)),
t_ 39 30 (.load false 1 (.t 38)),
t_ 40 30 (.bin .mul (.t 37) (.t 39)),
t_ 41 30 (.bin .add (.t 35) (.t 40)),
t_ 42 30 (.load false 1 (.t 4)),
t_ 43 30 (.load false 1 (.t 4)),
t_ 44 30 (.bin .mul (.t 42) (.t 43)),
t_ 45 30 (.bin .eql (.t 41) (.t 44)),
s_ 46 (.pick (.t 30) (.t 45) (.c (.bool false))),
s_ 2 (.as (.t 46))] [2] [1]) (
.ret)))))))))))))
def A128 : AFn:=.code [.cell true 2 4] (
(.seq (
r_ [
s_ 2 (.box (.t 0)),
s_ 4 (.alloc [i0_,i0_])] [1,2,4] []) (
(.seq (
r_ [
m_ 8 1,
s_ 9 (.call 138 [.t 8]),
m_ 7 9,
s_ 10 (.ext (.t 7) 0),
s_ 11 (.ext (.t 7) 1),
s_ 5 (.as (.t 10)),
s_ 6 (.as (.t 11))] [2,4,5,6] []) (
(.seq (
r_ [
s_ 12 (.fad 0 (.t 2)),
l_ 13 false 1 12,
m_ 14 5,
b_ 15 .mul 13 14,
s_ 16 (.fad 1 (.t 2)),
l_ 17 false 1 16,
m_ 18 6,
b_ 19 .mul 17 18,
b_ 20 .sub 15 19,
s_ 21 (.fad 0 (.t 2)),
l_ 22 false 1 21,
m_ 23 6,
b_ 24 .mul 22 23,
s_ 25 (.fad 1 (.t 2)),
l_ 26 false 1 25,
m_ 27 5,
b_ 28 .mul 26 27,
b_ 29 .add 24 28,
s_ 30 (.build [i0_,i0_] [(0,1,.t 20),(1,1,.t 29)]),
n_ (.store 2 (.t 4) (.t 30))] [4] [2]) (
.ret)))))))
def A129 : AFn:=.code [.t 2] (
(.seq (
r_ [
s_ 2 (.as (.c (i0_)))] [0] []) (
(.seq (
r_ [
m_ 3 0,
s_ 4 (.bin .rem (.t 3) (.c (.z 36))),
s_ 5 (.bin .add (.t 4) (.c (.z 36))),
s_ 6 (.bin .rem (.t 5) (.c (.z 36))),
s_ 2 (.as (.t 6))] [2] []) (
.ret)))))
def A130_L0b : ACode :=
(.seq (
r_ [
b_ 8 .lss 7 6] [0,1,5,6,7,8] []) (
(.seq (
(.cond (.t 8) (
.skip) (
.exit 0))) (
(.seq (
(.block 1 (
(.seq (
r_ [
m_ 9 7,
s_ 10 (.ias 2 (.t 5) (.t 7)),
l_ 11 true 2 10,
s_ 4 (.alloc [i0_,i0_]),
s_ 3 (.as (.t 9)),
n_ (.store 2 (.t 4) (.t 11))] [0,1,3,4,5,6,7] []) (
(.seq (
.reg (some [.dr [14,15,18,19,21,22] [],.dr [14,15,18,19,21,22] [],.dr [15,18,19,21,22] [],.dr [14,18,19] [],.dr [14,15,18,19] [],.dr [14,15,18,19] [],.dr [14,15] [],.dr [14,15] [],.dr [14,15] [],.dr [14] [],.dr [14] [],.dr [] [],.free,.free]) [
m_ 12 0,
m_ 13 3,
l_ 14 true 2 4,
l_ 15 false 1 1,
m_ 16 3,
s_ 17 (.bin .add (.t 16) (.c (.z 1))),
l_ 18 false 1 1,
s_ 19 (.len 0 (.t 18)),
s_ 20 (.bin .rem (.t 17) (.t 19)),
s_ 21 (.ias 2 (.t 15) (.t 20)),
l_ 22 true 2 21,
s_ 23 (.build [i0_,i0_,i0_,i0_] [(0,2,.t 14),(2,2,.t 22)]),
s_ 24 (.cal (.t 12) [.t 13,.t 23]),
s_ 25 (.un .not (.t 24))] (some [0,1,5,6,7,25]) [4]) (
(.cond (.t 25) (
.ret) (
.skip))))))) (some [0,1,5,6,7]) [3,4,24])) (
r_ [
s_ 26 (.bin .add (.t 7) (.c (.z 1))),
m_ 7 26] [0,1,5,6,7] []))))))
def A130_L0 : ACode:=.loop A130_L0b (some [0,1,5,6,7]) [3,4,24]
def A130 : AFn:=.code [] (
(.seq (
r_ [
l_ 5 false 1 1,
s_ 6 (.len 0 (.t 5)),
s_ 7 (.mv (.c (i0_)))] [0,1,5,6,7] []) (
(.block 0 (
A130_L0) (some []) [3,4,24]))))
def A132 : AFn:=.code [.t 6] (
(.seq (
r_ [
s_ 6 (.as (.c (.bool false)))] [0,1,2] []) (
(.seq (
r_ [
m_ 7 0,
m_ 8 2,
b_ 9 .leq 7 8,
m_ 10 9,
t_ 11 10 (.mv (.t 2)),
t_ 12 10 (.mv (.t 1)),
t_ 13 10 (.bin .leq (.t 11) (.t 12)),
s_ 14 (.pick (.t 10) (.t 13) (.c (.bool false))),
m_ 15 14,
f_ 16 15 (.mv (.t 1)),
f_ 17 15 (.mv (.t 2)),
f_ 18 15 (.bin .leq (.t 16) (.t 17)),
f_ 19 15 (.mv (.t 18)),
t_ 20 19 (.mv (.t 2)),
t_ 21 19 (.mv (.t 0)),
t_ 22 19 (.bin .leq (.t 20) (.t 21)),
f_ 23 15 (.pick (.t 19) (.t 22) (.c (.bool false))),
s_ 24 (.pick (.t 15) (.c (.bool true)) (.t 23)),
s_ 6 (.as (.t 24))] [6] []) (
.ret)))))
def A133_L0b : ACode :=
(.seq (
r_ [
b_ 12 .lss 11 10] [2,4,6,9,10,11,12] []) (
(.seq (
(.cond (.t 12) (
.skip) (
.exit 0))) (
(.seq (
(.block 1 (
(.seq (
r_ [
s_ 13 (.ias 2 (.t 9) (.t 11)),
l_ 14 true 2 13,
s_ 8 (.alloc [i0_,i0_]),
n_ (.store 2 (.t 8) (.t 14))] [2,4,6,8,9,10,11] []) (
r_ [
m_ 15 2,
l_ 16 true 2 4,
l_ 17 true 2 8,
s_ 18 (.cal (.t 15) [.t 16,.t 17]),
n_ (.store 2 (.t 4) (.t 18))] [2,4,6,9,10,11] [8]))) (some [2,4,6,9,10,11]) [8])) (
r_ [
s_ 19 (.bin .add (.t 11) (.c (.z 1))),
m_ 11 19] [2,4,6,9,10,11] []))))))
def A133_L0 : ACode:=.loop A133_L0b (some [2,4,6,9,10,11]) [8]
def A133 : AFn:=.code [.cell true 2 6] (
(.seq (
r_ [
s_ 4 (.box (.t 1)),
s_ 6 (.alloc [i0_,i0_])] [0,2,4,6] []) (
(.seq (
(.seq (
r_ [
m_ 9 0,
s_ 10 (.len 0 (.t 9)),
s_ 11 (.mv (.c (i0_)))] [2,4,6,9,10,11] []) (
(.block 0 (
A133_L0) (some [4,6]) [8])))) (
(.seq (
r_ [
l_ 20 true 2 4,
n_ (.store 2 (.t 6) (.t 20))] [6] [4]) (
.ret)))))))
def A134 : AFn:=.code [.cell true 2 4] (
(.seq (
r_ [
s_ 2 (.box (.t 0)),
s_ 3 (.box (.t 1)),
s_ 4 (.alloc [i0_,i0_])] [2,3,4] []) (
(.seq (
r_ [
s_ 5 (.fad 0 (.t 2)),
l_ 6 false 1 5,
s_ 7 (.fad 0 (.t 3)),
l_ 8 false 1 7,
s_ 9 (.mn [.t 6,.t 8]),
s_ 10 (.fad 1 (.t 2)),
l_ 11 false 1 10,
s_ 12 (.fad 1 (.t 3)),
l_ 13 false 1 12,
s_ 14 (.mn [.t 11,.t 13]),
s_ 15 (.build [i0_,i0_] [(0,1,.t 9),(1,1,.t 14)]),
n_ (.store 2 (.t 4) (.t 15))] [4] [2,3]) (
.ret)))))
def A135 : AFn:=.code [.cell true 2 4] (
(.seq (
r_ [
s_ 2 (.box (.t 0)),
s_ 3 (.box (.t 1)),
s_ 4 (.alloc [i0_,i0_])] [2,3,4] []) (
(.seq (
r_ [
s_ 5 (.fad 0 (.t 2)),
l_ 6 false 1 5,
s_ 7 (.fad 0 (.t 3)),
l_ 8 false 1 7,
s_ 9 (.mx [.t 6,.t 8]),
s_ 10 (.fad 1 (.t 2)),
l_ 11 false 1 10,
s_ 12 (.fad 1 (.t 3)),
l_ 13 false 1 12,
s_ 14 (.mx [.t 11,.t 13]),
s_ 15 (.build [i0_,i0_] [(0,1,.t 9),(1,1,.t 14)]),
n_ (.store 2 (.t 4) (.t 15))] [4] [2,3]) (
.ret)))))
def A136 : AFn:=.code [.cell true 2 2] (
(.seq (
r_ [
s_ 1 (.box (.t 0)),
s_ 2 (.alloc [i0_,i0_])] [1,2] []) (
(.seq (
r_ [
s_ 3 (.fad 1 (.t 1)),
l_ 4 false 1 3,
s_ 5 (.un .neg (.t 4)),
s_ 6 (.fad 0 (.t 1)),
l_ 7 false 1 6,
s_ 8 (.build [i0_,i0_] [(0,1,.t 5),(1,1,.t 7)]),
n_ (.store 2 (.t 2) (.t 8))] [2] [1]) (
.ret)))))
def A137 : AFn:=.code [.t 3] (
(.seq (
r_ [
s_ 3 (.as (.c (.bool false)))] [0,1] []) (
(.seq (
r_ [
m_ 4 0,
l_ 5 false 1 1,
s_ 6 (.un .neg (.t 5)),
b_ 7 .geq 4 6,
m_ 8 7,
t_ 9 8 (.mv (.t 0)),
t_ 10 8 (.load false 1 (.t 1)),
t_ 11 8 (.bin .leq (.t 9) (.t 10)),
s_ 12 (.pick (.t 8) (.t 11) (.c (.bool false))),
s_ 3 (.as (.t 12))] [3] []) (
.ret)))))
def A138_L0b : ACode :=
(.seq (
r_ [
b_ 22 .lss 21 20] [6,7,20,21,22] []) (
(.seq (
(.cond (.t 22) (
.skip) (
.exit 0))) (
(.seq (
(.block 1 (
r_ [
m_ 23 7,
l_ 24 true 2 6,
s_ 25 (.cal (.t 23) [.t 24]),
n_ (.store 2 (.t 6) (.t 25))] [6,7,20,21] []) (some [6,7,20,21]) [])) (
r_ [
s_ 26 (.bin .add (.t 21) (.c (.z 1))),
m_ 21 26] [6,7,20,21] []))))))
def A138_L0 : ACode:=.loop A138_L0b (some [6,7,20,21]) []
def A138 : AFn:=.code [.t 2,.t 3] (
(.seq (
r_ [
s_ 2 (.as (.c (i0_))),
s_ 3 (.as (.c (i0_)))] [0] []) (
(.seq (
r_ [
m_ 8 0,
s_ 9 (.call 139 [.t 8]),
s_ 4 (.as (.t 9))] [4] []) (
(.seq (
r_ [
s_ 10 (.call 140 []),
m_ 11 4,
s_ 12 (.bin .rem (.t 11) (.c (.z 9))),
s_ 13 (.ixa true 9 2 (.t 10) (.t 12)),
s_ 5 (.alloc [i0_,i0_]),
n_ (.store 2 (.t 5) (.t 13))] [4,5] []) (
(.seq (
r_ [
s_ 14 (.iaa 2 1 (.t 5) (.c (i0_))),
l_ 15 false 1 14,
s_ 16 (.iaa 2 1 (.t 5) (.c (.z 1))),
l_ 17 false 1 16,
s_ 18 (.build [i0_,i0_] [(0,1,.t 15),(1,1,.t 17)]),
s_ 6 (.alloc [i0_,i0_]),
n_ (.store 2 (.t 6) (.t 18))] [4,6] [5]) (
(.seq (
r_ [
s_ 7 (.as (.fu 136))] [4,6,7] []) (
(.seq (
(.seq (
r_ [
m_ 19 4,
s_ 20 (.bin .quo (.t 19) (.c (.z 9))),
s_ 21 (.mv (.c (i0_)))] [6,7,20,21] []) (
(.block 0 (
A138_L0) (some [6]) [])))) (
(.seq (
.reg (some [.dr [30] [],.dr [30] [],.dr [28] [],.dr [28] [],.dr [30] [],.free]) [
s_ 27 (.fad 0 (.t 6)),
l_ 28 false 1 27,
s_ 29 (.fad 1 (.t 6)),
l_ 30 false 1 29,
s_ 2 (.as (.t 28)),
s_ 3 (.as (.t 30))] (some [2,3]) [6]) (
.ret)))))))))))))))
def A139 : AFn:=.code [.t 2] (
(.seq (
r_ [
s_ 2 (.as (.c (i0_)))] [0] []) (
(.seq (
r_ [
m_ 3 0,
s_ 4 (.bin .rem (.t 3) (.c (.z 36))),
s_ 0 (.as (.t 4))] [0] []) (
(.seq (
(.seq (
r_ [
m_ 5 0,
s_ 6 (.bin .lss (.t 5) (.c (i0_)))] [0,6] []) (
(.cond (.t 6) (
r_ [
m_ 7 0,
s_ 8 (.bin .add (.t 7) (.c (.z 36))),
s_ 0 (.as (.t 8))] [0] []) (
.skip))))) (
(.seq (
r_ [
m_ 9 0,
s_ 2 (.as (.t 9))] [2] []) (
.ret)))))))))
def A140 : AFn:=.code [.cell true 18 0] (
(.seq (
r_ [
s_ 0 (.alloc [i0_,i0_,i0_,i0_,i0_,i0_,i0_,i0_,i0_,i0_,i0_,i0_,i0_,i0_,i0_,i0_,i0_,i0_])] [0] []) (
(.seq (
r_ [
s_ 1 (.build [i0_,i0_] [(0,1,.c (.z 65)),(1,1,.c (i0_))]),
s_ 2 (.build [i0_,i0_] [(0,1,.c (.z 63)),(1,1,.c (.z 16))]),
s_ 3 (.build [i0_,i0_] [(0,1,.c (.z 60)),(1,1,.c (.z 25))]),
s_ 4 (.build [i0_,i0_] [(0,1,.c (.z 56)),(1,1,.c (.z 33))]),
s_ 5 (.build [i0_,i0_] [(0,1,.c (.z 52)),(1,1,.c (.z 39))]),
s_ 6 (.build [i0_,i0_] [(0,1,.c (.z 39)),(1,1,.c (.z 52))]),
s_ 7 (.build [i0_,i0_] [(0,1,.c (.z 33)),(1,1,.c (.z 56))]),
s_ 8 (.build [i0_,i0_] [(0,1,.c (.z 25)),(1,1,.c (.z 60))]),
s_ 9 (.build [i0_,i0_] [(0,1,.c (.z 16)),(1,1,.c (.z 63))]),
s_ 10 (.build [i0_,i0_,i0_,i0_,i0_,i0_,i0_,i0_,i0_,i0_,i0_,i0_,i0_,i0_,i0_,i0_,i0_,i0_] [(0,2,.t 1),(2,2,.t 2),(4,2,.t 3),(6,2,.t 4),(8,2,.t 5),(10,2,.t 6),(12,2,.t 7),(14,2,.t 8),(16,2,.t 9)]),
n_ (.store 18 (.t 0) (.t 10))] [0] []) (
.ret)))))

end Go.Proofs.YtbpneedpcccpaaaGreat

namespace Go.Proofs.YtbpneedpcccpaaaGreat
open Go Go.Zv

def E : FuncId → Option AFn
 | 8=>some A8
 | 10=>some A10
 | 11=>some A11
 | 12=>some A12
 | 13=>some A13
 | 14=>some A14
 | 15=>some A15
 | 16=>some A16
 | 17=>some A17
 | 18=>some A18
 | 19=>some A19
 | 21=>some A21
 | 23=>some A23
 | 26=>some A26
 | 28=>some A28
 | 30=>some A30
 | 31=>some A31
 | 33=>some A33
 | 34=>some A34
 | 35=>some A35
 | 36=>some A36
 | 37=>some A37
 | 38=>some A38
 | 39=>some A39
 | 40=>some A40
 | 41=>some A41
 | 42=>some A42
 | 43=>some A43
 | 44=>some A44
 | 45=>some A45
 | 46=>some A46
 | 47=>some A47
 | 48=>some A48
 | 49=>some A49
 | 50=>some A50
 | 51=>some A51
 | 52=>some A52
 | 53=>some A53
 | 54=>some A54
 | 55=>some A55
 | 57=>some A57
 | 60=>some A60
 | 61=>some A61
 | 62=>some A62
 | 63=>some A63
 | 64=>some A64
 | 65=>some A65
 | 71=>some A71
 | 72=>some A72
 | 73=>some A73
 | 74=>some A74
 | 75=>some A75
 | 76=>some A76
 | 77=>some A77
 | 78=>some A78
 | 79=>some A79
 | 80=>some A80
 | 81=>some A81
 | 82=>some A82
 | 83=>some A83
 | 84=>some A84
 | 85=>some A85
 | 86=>some A86
 | 87=>some A87
 | 88=>some A88
 | 92=>some A92
 | 93=>some A93
 | 94=>some A94
 | 96=>some A96
 | 97=>some A97
 | 98=>some A98
 | 99=>some A99
 | 100=>some A100
 | 101=>some A101
 | 102=>some A102
 | 103=>some A103
 | 104=>some A104
 | 105=>some A105
 | 106=>some A106
 | 107=>some A107
 | 108=>some A108
 | 109=>some A109
 | 110=>some A110
 | 111=>some A111
 | 112=>some A112
 | 113=>some A113
 | 114=>some A114
 | 115=>some A115
 | 116=>some A116
 | 117=>some A117
 | 119=>some A119
 | 120=>some A120
 | 121=>some A121
 | 122=>some A122
 | 123=>some A123
 | 124=>some A124
 | 125=>some A125
 | 126=>some A126
 | 127=>some A127
 | 128=>some A128
 | 129=>some A129
 | 130=>some A130
 | 132=>some A132
 | 133=>some A133
 | 134=>some A134
 | 135=>some A135
 | 136=>some A136
 | 137=>some A137
 | 138=>some A138
 | 139=>some A139
 | 140=>some A140
 | _=>none
theorem E_8 : E 8 = some A8:=rfl
theorem E_10 : E 10 = some A10:=rfl
theorem E_11 : E 11 = some A11:=rfl
theorem E_12 : E 12 = some A12:=rfl
theorem E_13 : E 13 = some A13:=rfl
theorem E_14 : E 14 = some A14:=rfl
theorem E_15 : E 15 = some A15:=rfl
theorem E_16 : E 16 = some A16:=rfl
theorem E_17 : E 17 = some A17:=rfl
theorem E_18 : E 18 = some A18:=rfl
theorem E_21 : E 21 = some A21:=rfl
theorem E_23 : E 23 = some A23:=rfl
theorem E_26 : E 26 = some A26:=rfl
theorem E_28 : E 28 = some A28:=rfl
theorem E_30 : E 30 = some A30:=rfl
theorem E_31 : E 31 = some A31:=rfl
theorem E_35 : E 35 = some A35:=rfl
theorem E_36 : E 36 = some A36:=rfl
theorem E_37 : E 37 = some A37:=rfl
theorem E_38 : E 38 = some A38:=rfl
theorem E_39 : E 39 = some A39:=rfl
theorem E_40 : E 40 = some A40:=rfl
theorem E_41 : E 41 = some A41:=rfl
theorem E_42 : E 42 = some A42:=rfl
theorem E_43 : E 43 = some A43:=rfl
theorem E_44 : E 44 = some A44:=rfl
theorem E_45 : E 45 = some A45:=rfl
theorem E_46 : E 46 = some A46:=rfl
theorem E_47 : E 47 = some A47:=rfl
theorem E_48 : E 48 = some A48:=rfl
theorem E_49 : E 49 = some A49:=rfl
theorem E_50 : E 50 = some A50:=rfl
theorem E_51 : E 51 = some A51:=rfl
theorem E_52 : E 52 = some A52:=rfl
theorem E_53 : E 53 = some A53:=rfl
theorem E_54 : E 54 = some A54:=rfl
theorem E_55 : E 55 = some A55:=rfl
theorem E_57 : E 57 = some A57:=rfl
theorem E_60 : E 60 = some A60:=rfl
theorem E_61 : E 61 = some A61:=rfl
theorem E_62 : E 62 = some A62:=rfl
theorem E_63 : E 63 = some A63:=rfl
theorem E_64 : E 64 = some A64:=rfl
theorem E_65 : E 65 = some A65:=rfl
theorem E_71 : E 71 = some A71:=rfl
theorem E_72 : E 72 = some A72:=rfl
theorem E_73 : E 73 = some A73:=rfl
theorem E_74 : E 74 = some A74:=rfl
theorem E_75 : E 75 = some A75:=rfl
theorem E_76 : E 76 = some A76:=rfl
theorem E_77 : E 77 = some A77:=rfl
theorem E_78 : E 78 = some A78:=rfl
theorem E_79 : E 79 = some A79:=rfl
theorem E_80 : E 80 = some A80:=rfl
theorem E_81 : E 81 = some A81:=rfl
theorem E_82 : E 82 = some A82:=rfl
theorem E_83 : E 83 = some A83:=rfl
theorem E_84 : E 84 = some A84:=rfl
theorem E_85 : E 85 = some A85:=rfl
theorem E_86 : E 86 = some A86:=rfl
theorem E_88 : E 88 = some A88:=rfl
theorem E_92 : E 92 = some A92:=rfl
theorem E_93 : E 93 = some A93:=rfl
theorem E_94 : E 94 = some A94:=rfl
theorem E_96 : E 96 = some A96:=rfl
theorem E_97 : E 97 = some A97:=rfl
theorem E_98 : E 98 = some A98:=rfl
theorem E_99 : E 99 = some A99:=rfl
theorem E_100 : E 100 = some A100:=rfl
theorem E_101 : E 101 = some A101:=rfl
theorem E_102 : E 102 = some A102:=rfl
theorem E_103 : E 103 = some A103:=rfl
theorem E_104 : E 104 = some A104:=rfl
theorem E_105 : E 105 = some A105:=rfl
theorem E_106 : E 106 = some A106:=rfl
theorem E_107 : E 107 = some A107:=rfl
theorem E_108 : E 108 = some A108:=rfl
theorem E_109 : E 109 = some A109:=rfl
theorem E_110 : E 110 = some A110:=rfl
theorem E_111 : E 111 = some A111:=rfl
theorem E_112 : E 112 = some A112:=rfl
theorem E_113 : E 113 = some A113:=rfl
theorem E_114 : E 114 = some A114:=rfl
theorem E_115 : E 115 = some A115:=rfl
theorem E_116 : E 116 = some A116:=rfl
theorem E_117 : E 117 = some A117:=rfl
theorem E_119 : E 119 = some A119:=rfl
theorem E_120 : E 120 = some A120:=rfl
theorem E_121 : E 121 = some A121:=rfl
theorem E_122 : E 122 = some A122:=rfl
theorem E_123 : E 123 = some A123:=rfl
theorem E_124 : E 124 = some A124:=rfl
theorem E_125 : E 125 = some A125:=rfl
theorem E_126 : E 126 = some A126:=rfl
theorem E_127 : E 127 = some A127:=rfl
theorem E_128 : E 128 = some A128:=rfl
theorem E_129 : E 129 = some A129:=rfl
theorem E_130 : E 130 = some A130:=rfl
theorem E_132 : E 132 = some A132:=rfl
theorem E_133 : E 133 = some A133:=rfl
theorem E_134 : E 134 = some A134:=rfl
theorem E_135 : E 135 = some A135:=rfl
theorem E_136 : E 136 = some A136:=rfl
theorem E_137 : E 137 = some A137:=rfl
theorem E_138 : E 138 = some A138:=rfl
theorem E_139 : E 139 = some A139:=rfl
theorem E_140 : E 140 = some A140:=rfl
theorem A8_L0_eq (s : St) : K E A8_L0 s = (K E A8_L0b s).bind (loopF E A8_L0 (some [7,8,10,11,12,13,14]) [15,16,84,89,95]):=loop_fold rfl s
theorem A11_L0_eq (s : St) : K E A11_L0 s = (K E A11_L0b s).bind (loopF E A11_L0 (some [1,6]) [2]):=loop_fold rfl s
theorem A11_L1_eq (s : St) : K E A11_L1 s = (K E A11_L1b s).bind (loopF E A11_L1 (some [1,5]) [2]):=loop_fold rfl s
theorem A11_L2_eq (s : St) : K E A11_L2 s = (K E A11_L2b s).bind (loopF E A11_L2 (some [1,4]) [2]):=loop_fold rfl s
theorem A11_L3_eq (s : St) : K E A11_L3 s = (K E A11_L3b s).bind (loopF E A11_L3 (some [1,3]) [2]):=loop_fold rfl s
theorem A12_L0_eq (s : St) : K E A12_L0 s = (K E A12_L0b s).bind (loopF E A12_L0 (some [1,3]) [2,4,5,16,24]):=loop_fold rfl s
theorem A13_L0_eq (s : St) : K E A13_L0 s = (K E A13_L0b s).bind (loopF E A13_L0 (some [4,33,34,35]) [9,41,46]):=loop_fold rfl s
theorem A13_L2_eq (s : St) : K E A13_L2 s = (K E A13_L2b s).bind (loopF E A13_L2 (some [2,3,4,11,12]) [5,6,21]):=loop_fold rfl s
theorem A14_L0_eq (s : St) : K E A14_L0 s = (K E A14_L0b s).bind (loopF E A14_L0 (some [5,6,7]) [4,59]):=loop_fold rfl s
theorem A14_L1_eq (s : St) : K E A14_L1 s = (K E A14_L1b s).bind (loopF E A14_L1 (some [5,6]) [4,7,59]):=loop_fold rfl s
theorem A17_L0_eq (s : St) : K E A17_L0 s = (K E A17_L0b s).bind (loopF E A17_L0 (some [2,5,14]) [139]):=loop_fold rfl s
theorem A17_L1_eq (s : St) : K E A17_L1 s = (K E A17_L1b s).bind (loopF E A17_L1 (some [2,3,5,12]) [13,120,122]):=loop_fold rfl s
theorem A17_L2_eq (s : St) : K E A17_L2 s = (K E A17_L2b s).bind (loopF E A17_L2 (some [2,3,5,9]) [10,11,59,68,83,85]):=loop_fold rfl s
theorem A17_L3_eq (s : St) : K E A17_L3 s = (K E A17_L3b s).bind (loopF E A17_L3 (some [2,3,5,6,7,8]) [40]):=loop_fold rfl s
theorem A17_L4_eq (s : St) : K E A17_L4 s = (K E A17_L4b s).bind (loopF E A17_L4 (some [2,3,5,6]) [7,8,28,40]):=loop_fold rfl s
theorem A18_L0_eq (s : St) : K E A18_L0 s = (K E A18_L0b s).bind (loopF E A18_L0 (some [0,1,5]) [4,27,40,56,72]):=loop_fold rfl s
theorem A30_L0_eq (s : St) : K E A30_L0 s = (K E A30_L0b s).bind (loopF E A30_L0 (some [2,3,4,5,8]) [92,93,94]):=loop_fold rfl s
theorem A30_L1_eq (s : St) : K E A30_L1 s = (K E A30_L1b s).bind (loopF E A30_L1 (some [2,3,4,5,7]) []):=loop_fold rfl s
theorem A30_L2_eq (s : St) : K E A30_L2 s = (K E A30_L2b s).bind (loopF E A30_L2 (some [2,3,4,5,6]) []):=loop_fold rfl s
theorem A35_L0_eq (s : St) : K E A35_L0 s = (K E A35_L0b s).bind (loopF E A35_L0 (some [1,3,4]) [2]):=loop_fold rfl s
theorem A36_L0_eq (s : St) : K E A36_L0 s = (K E A36_L0b s).bind (loopF E A36_L0 (some [2,3,5]) [4]):=loop_fold rfl s
theorem A38_L0_eq (s : St) : K E A38_L0 s = (K E A38_L0b s).bind (loopF E A38_L0 (some [0,3]) [2,17]):=loop_fold rfl s
theorem A39_L0_eq (s : St) : K E A39_L0 s = (K E A39_L0b s).bind (loopF E A39_L0 (some [1,3,4]) [19]):=loop_fold rfl s
theorem A40_L0_eq (s : St) : K E A40_L0 s = (K E A40_L0b s).bind (loopF E A40_L0 (some [0,3,4]) [2,5,19,62]):=loop_fold rfl s
theorem A41_L0_eq (s : St) : K E A41_L0 s = (K E A41_L0b s).bind (loopF E A41_L0 (some [0,1,5,6,7]) [4,20,28,35]):=loop_fold rfl s
theorem A42_L0_eq (s : St) : K E A42_L0 s = (K E A42_L0b s).bind (loopF E A42_L0 (some [0,1,5,6]) [4]):=loop_fold rfl s
theorem A42_L1_eq (s : St) : K E A42_L1 s = (K E A42_L1b s).bind (loopF E A42_L1 (some [0,1,5]) [4,6]):=loop_fold rfl s
theorem A43_L0_eq (s : St) : K E A43_L0 s = (K E A43_L0b s).bind (loopF E A43_L0 (some [2,7,8]) [4,5,6]):=loop_fold rfl s
theorem A44_L0_eq (s : St) : K E A44_L0 s = (K E A44_L0b s).bind (loopF E A44_L0 (some [2,3,46,47]) [4,9,55]):=loop_fold rfl s
theorem A44_L1_eq (s : St) : K E A44_L1 s = (K E A44_L1b s).bind (loopF E A44_L1 (some [2,3,5,19,20,21]) [4,7,30]):=loop_fold rfl s
theorem A47_L0_eq (s : St) : K E A47_L0 s = (K E A47_L0b s).bind (loopF E A47_L0 (some [2,3,7,8]) [4]):=loop_fold rfl s
theorem A47_L1_eq (s : St) : K E A47_L1 s = (K E A47_L1b s).bind (loopF E A47_L1 (some [2,3,7]) [4,8]):=loop_fold rfl s
theorem A47_L2_eq (s : St) : K E A47_L2 s = (K E A47_L2b s).bind (loopF E A47_L2 (some [2,3,5]) [4,6]):=loop_fold rfl s
theorem A49_L0_eq (s : St) : K E A49_L0 s = (K E A49_L0b s).bind (loopF E A49_L0 (some [4,6,8,9,15]) [16]):=loop_fold rfl s
theorem A49_L1_eq (s : St) : K E A49_L1 s = (K E A49_L1b s).bind (loopF E A49_L1 (some [3,4,6,8,9,11,12]) [13,14,78,79]):=loop_fold rfl s
theorem A49_L2_eq (s : St) : K E A49_L2 s = (K E A49_L2b s).bind (loopF E A49_L2 (some [3,4,5,6,8,9,10]) [31]):=loop_fold rfl s
theorem A50_L0_eq (s : St) : K E A50_L0 s = (K E A50_L0b s).bind (loopF E A50_L0 (some [2,4,5,6,7,8]) [9,10,11,28,46,52,58,63,64]):=loop_fold rfl s
theorem A51_L0_eq (s : St) : K E A51_L0 s = (K E A51_L0b s).bind (loopF E A51_L0 (some [2,4,5,6,7]) [30,31]):=loop_fold rfl s
theorem A53_L0_eq (s : St) : K E A53_L0 s = (K E A53_L0b s).bind (loopF E A53_L0 (some [3,4,5,7,8]) [9,10,58]):=loop_fold rfl s
theorem A54_L0_eq (s : St) : K E A54_L0 s = (K E A54_L0b s).bind (loopF E A54_L0 (some [0,1,5]) [4]):=loop_fold rfl s
theorem A63_L0_eq (s : St) : K E A63_L0 s = (K E A63_L0b s).bind (loopF E A63_L0 (some [1,5,8,9,10]) [7,17,18]):=loop_fold rfl s
theorem A73_L0_eq (s : St) : K E A73_L0 s = (K E A73_L0b s).bind (loopF E A73_L0 (some [0,3,5,6]) [2,62,66,69,73,74]):=loop_fold rfl s
theorem A73_L1_eq (s : St) : K E A73_L1 s = (K E A73_L1b s).bind (loopF E A73_L1 (some [0,3,5]) [2,6,33,37,41,42,62,66,69,73,74]):=loop_fold rfl s
theorem A73_L2_eq (s : St) : K E A73_L2 s = (K E A73_L2b s).bind (loopF E A73_L2 (some [0,3,4]) [2,24]):=loop_fold rfl s
theorem A75_L0_eq (s : St) : K E A75_L0 s = (K E A75_L0b s).bind (loopF E A75_L0 (some [0,3,4]) [2]):=loop_fold rfl s
theorem A75_L1_eq (s : St) : K E A75_L1 s = (K E A75_L1b s).bind (loopF E A75_L1 (some [0,3]) [2,4,15]):=loop_fold rfl s
theorem A76_L0_eq (s : St) : K E A76_L0 s = (K E A76_L0b s).bind (loopF E A76_L0 (some [0,3,4]) [2,71]):=loop_fold rfl s
theorem A76_L1_eq (s : St) : K E A76_L1 s = (K E A76_L1b s).bind (loopF E A76_L1 (some [0,3]) [2,4,71]):=loop_fold rfl s
theorem A77_L0_eq (s : St) : K E A77_L0 s = (K E A77_L0b s).bind (loopF E A77_L0 (some [0,118,119,120]) [13,14,129]):=loop_fold rfl s
theorem A77_L1_eq (s : St) : K E A77_L1 s = (K E A77_L1b s).bind (loopF E A77_L1 (some [0,1,82,83,84]) [11,12,111,113]):=loop_fold rfl s
theorem A77_L2_eq (s : St) : K E A77_L2 s = (K E A77_L2b s).bind (loopF E A77_L2 (some [0,1,2,41,42]) [8,9,10,64,71,73,78]):=loop_fold rfl s
theorem A77_L3_eq (s : St) : K E A77_L3 s = (K E A77_L3b s).bind (loopF E A77_L3 (some [0,1,2,4,16,17,26,27]) [6,7,36]):=loop_fold rfl s
theorem A77_L4_eq (s : St) : K E A77_L4 s = (K E A77_L4b s).bind (loopF E A77_L4 (some [0,1,2,16,17]) [4,5,6,7,26,36]):=loop_fold rfl s
theorem A78_L0_eq (s : St) : K E A78_L0 s = (K E A78_L0b s).bind (loopF E A78_L0 (some [4,5,6,7,22,23]) [8,9,37]):=loop_fold rfl s
theorem A80_L0_eq (s : St) : K E A80_L0 s = (K E A80_L0b s).bind (loopF E A80_L0 (some [2,4,5,7,18,19]) [8,9,31,32]):=loop_fold rfl s
theorem A81_L0_eq (s : St) : K E A81_L0 s = (K E A81_L0b s).bind (loopF E A81_L0 (some [4,5,6,10,11]) [7,8]):=loop_fold rfl s
theorem A82_L0_eq (s : St) : K E A82_L0 s = (K E A82_L0b s).bind (loopF E A82_L0 (some [2,3,4,5,6]) []):=loop_fold rfl s
theorem A86_L0_eq (s : St) : K E A86_L0 s = (K E A86_L0b s).bind (loopF E A86_L0 (some [0,4,5,7,16,17,18,26,27,28]) [9,10,11,48,55]):=loop_fold rfl s
theorem A86_L1_eq (s : St) : K E A86_L1 s = (K E A86_L1b s).bind (loopF E A86_L1 (some [0,4,5,16,17,18]) [6,7,9,10,11,48,55]):=loop_fold rfl s
theorem A88_L0_eq (s : St) : K E A88_L0 s = (K E A88_L0b s).bind (loopF E A88_L0 (some [0,3,4,5,45,46]) [52]):=loop_fold rfl s
theorem A88_L1_eq (s : St) : K E A88_L1 s = (K E A88_L1b s).bind (loopF E A88_L1 (some [0,3,4,5,33,34]) [40]):=loop_fold rfl s
theorem A92_L0_eq (s : St) : K E A92_L0 s = (K E A92_L0b s).bind (loopF E A92_L0 (some [0,1,5,6,7]) [3,4,24]):=loop_fold rfl s
theorem A101_L0_eq (s : St) : K E A101_L0 s = (K E A101_L0b s).bind (loopF E A101_L0 (some [0,3,4]) [5,6,15,19]):=loop_fold rfl s
theorem A102_L0_eq (s : St) : K E A102_L0 s = (K E A102_L0b s).bind (loopF E A102_L0 (some [0,3,4]) []):=loop_fold rfl s
theorem A103_L0_eq (s : St) : K E A103_L0 s = (K E A103_L0b s).bind (loopF E A103_L0 (some [0,3]) [2,27]):=loop_fold rfl s
theorem A106_L0_eq (s : St) : K E A106_L0 s = (K E A106_L0b s).bind (loopF E A106_L0 (some [1,5,11,12,13]) [7,20,21]):=loop_fold rfl s
theorem A111_L0_eq (s : St) : K E A111_L0 s = (K E A111_L0b s).bind (loopF E A111_L0 (some [6,7,8,9]) []):=loop_fold rfl s
theorem A126_L0_eq (s : St) : K E A126_L0 s = (K E A126_L0b s).bind (loopF E A126_L0 (some [3,4,5]) []):=loop_fold rfl s
theorem A130_L0_eq (s : St) : K E A130_L0 s = (K E A130_L0b s).bind (loopF E A130_L0 (some [0,1,5,6,7]) [3,4,24]):=loop_fold rfl s
theorem A133_L0_eq (s : St) : K E A133_L0 s = (K E A133_L0b s).bind (loopF E A133_L0 (some [2,4,6,9,10,11]) [8]):=loop_fold rfl s
theorem A138_L0_eq (s : St) : K E A138_L0 s = (K E A138_L0b s).bind (loopF E A138_L0 (some [6,7,20,21]) []):=loop_fold rfl s
end Go.Proofs.YtbpneedpcccpaaaGreat

namespace Go.Geo
open Go Go.Zv
def sgn (n : Int) : Int:=if n > 0 then 1 else if n < 0 then -1 else 0
def crW (ax ay bx by_ px py : Int) : Int:=w64 (w64 (w64 (bx - ax) * w64 (py - ay)) - w64 (w64 (by_ - ay) * w64 (px - ax)))
abbrev pt (p : Int × Int) : LV:=.agg [.z p.1,.z p.2]
def c2 (p : Int × Int) : List LV:=[.z p.1,.z p.2]
theorem get_c2 {l : List (Int × Int)} {i : Nat} {p : Int × Int} (h : l[i]? = some p) : (l.map c2)[i]? = some [.z p.1,.z p.2]:=by
 rw [Qan,h]; rfl
theorem wr_nat {n : Nat} (h : n < 9223372036854775808) : IntKind.i64.wrap (n : Int) = n:=by
 simp [IntKind.wrap,IntKind.signed,IntKind.bits]; omega
theorem wr_succ {n : Nat} (h : n + 1 < 9223372036854775808) : IntKind.i64.wrap ((n : Int) + 1) = ((n + 1 : Nat) : Int):=by
 have:=wr_nat h; simpa using this
def minP (a b : Int × Int) : Int × Int:=(mnI a.1 b.1,mnI a.2 b.2)
def maxP (a b : Int × Int) : Int × Int:=(mxI a.1 b.1,mxI a.2 b.2)
def bbL : List (Int × Int) → Int × Int
 | []=>(0,0)
 | p::t=>(p::t).foldl minP p
def bbH : List (Int × Int) → Int × Int
 | []=>(0,0)
 | p::t=>(p::t).foldl maxP p
def withinB (ax ay bx by_ px py : Int) : Bool:=decide (mnI ax bx≤px) && (decide (px≤mxI ax bx) && (decide (mnI ay by_≤py) && decide (py≤mxI ay by_)))
theorem mn_self (a : Int) : mnI a a = a:=by unfold mnI; split <;> rfl
theorem mx_self (a : Int) : mxI a a = a:=by unfold mxI; split <;> rfl
def onB (ax ay bx by_ px py : Int) : Bool:=withinB ax ay bx by_ px py && decide (sgn (crW ax ay bx by_ px py) = 0)
def sdI (ax ay bx by_ cx cy dx dy : Int) : Int:=w64 (sgn (crW ax ay bx by_ cx cy) * sgn (crW ax ay bx by_ dx dy))
def endsB (ax ay bx by_ cx cy dx dy : Int) : Bool:=(decide (sgn (crW ax ay bx by_ cx cy) = 0) && withinB ax ay bx by_ cx cy) || (decide (sgn (crW ax ay bx by_ dx dy) = 0) && withinB ax ay bx by_ dx dy)
theorem wrap0 : IntKind.i64.wrap 0 = 0:=by decide
def cutB (ax ay bx by_ cx cy dx dy : Int) : Bool:=(decide (sdI ax ay bx by_ cx cy dx dy < 0) && decide (sdI cx cy dx dy ax ay bx by_ < 0)) || (endsB ax ay bx by_ cx cy dx dy || endsB cx cy dx dy ax ay bx by_)
theorem cut_eq_B (ax ay bx by_ cx cy dx dy : Int) : ((onB ax ay bx by_ cx cy || onB ax ay bx by_ dx dy || onB cx cy dx dy ax ay || onB cx cy dx dy bx by_) || (decide (sdI ax ay bx by_ cx cy dx dy < 0) && decide (sdI cx cy dx dy ax ay bx by_ < 0))) = cutB ax ay bx by_ cx cy dx dy:=by
 unfold cutB onB endsB
 generalize withinB ax ay bx by_ cx cy = a
 generalize withinB ax ay bx by_ dx dy = b
 generalize withinB cx cy dx dy ax ay = c
 generalize withinB cx cy dx dy bx by_ = d
 generalize decide (sgn (crW ax ay bx by_ cx cy) = 0) = e
 generalize decide (sgn (crW ax ay bx by_ dx dy) = 0) = f
 generalize decide (sgn (crW cx cy dx dy ax ay) = 0) = g
 generalize decide (sgn (crW cx cy dx dy bx by_) = 0) = h
 generalize decide (sdI ax ay bx by_ cx cy dx dy < 0) = i
 generalize decide (sdI cx cy dx dy ax ay bx by_ < 0) = j
 revert a b c d e f g h i j; decide
def sharedB (W S T : Int) : Bool:=if W < 0 then decide (0 ≤ -S) && (decide (-S ≤ -W) && (decide (0 ≤ -T) && decide (-T ≤ -W))) else decide (0≤S) && (decide (S≤W) && (decide (0≤T) && decide (T≤W)))
def B (x : Int) : Prop:=-500000000≤x∧x≤500000000
def cr (ax ay bx by_ px py : Int) : Int:=(bx - ax) * (py - ay) - (by_ - ay) * (px - ax)
theorem mul_bd {x y A C : Int} (h1 : -A≤x) (h2 : x≤A) (h3 : -C≤y) (h4 : y≤C) : -(A * C)≤x * y∧x * y≤A * C:=by
 have hA : 0≤A:=by omega
 have hC : 0≤C:=by omega
 have a1 : x * y≤A * C:=by
  rcases Int.le_total 0 x with hx | hx
  ·have h5 : x * y≤x * C:=Qag h4 hx
   have h6 : x * C≤A * C:=Qbz h2 hC
   omega
  ·have h5 : (-x) * (-y)≤(-x) * C:=Qag (by omega) (by omega)
   have h6 : (-x) * C≤A * C:=Qbz (by omega) hC
   have h7 : (-x) * (-y) = x * y:=by grind
   omega
 have a2 : -(A * C)≤x * y:=by
  rcases Int.le_total 0 x with hx | hx
  ·have h5 : x * (-y)≤x * C:=Qag (by omega) hx
   have h6 : x * C≤A * C:=Qbz h2 hC
   have h7 : x * (-y) = -(x * y):=by grind
   omega
  ·have h5 : (-x) * y≤(-x) * C:=Qag h4 (by omega)
   have h6 : (-x) * C≤A * C:=Qbz (by omega) hC
   have h7 : (-x) * y = -(x * y):=by grind
   omega
 exact ⟨a2,a1⟩
theorem wprod {x y z w : Int} (h1 : -1000000000≤x) (h2 : x≤1000000000) (h3 : -1000000000≤y) (h4 : y≤1000000000) (h5 : -1000000000≤z) (h6 : z≤1000000000) (h7 : -1000000000≤w) (h8 : w≤1000000000) :
  IntKind.i64.wrap (IntKind.i64.wrap (IntKind.i64.wrap x * IntKind.i64.wrap y) - IntKind.i64.wrap (IntKind.i64.wrap z * IntKind.i64.wrap w)) = x * y - z * w ∧ -2000000000000000000≤x * y - z * w∧x * y - z * w≤2000000000000000000:=by
 obtain ⟨p1,p2⟩:=mul_bd h1 h2 h3 h4
 obtain ⟨q1,q2⟩:=mul_bd h5 h6 h7 h8
 rw [wrap_small (n:=x) (by omega) (by omega),wrap_small (n:=y) (by omega) (by omega),wrap_small (n:=z) (by omega) (by omega),wrap_small (n:=w) (by omega) (by omega)]
 rw [wrap_small (n:=x * y) (by omega) (by omega),wrap_small (n:=z * w) (by omega) (by omega),wrap_small (n:=x * y - z * w) (by omega) (by omega)]
 exact ⟨rfl,by omega,by omega⟩
theorem crW_B {ax ay bx by_ px py : Int} (h1 : B ax) (h2 : B ay) (h3 : B bx) (h4 : B by_) (h5 : B px) (h6 : B py) : crW ax ay bx by_ px py = cr ax ay bx by_ px py:=by
 unfold B at *
 exact (wprod (by omega) (by omega) (by omega) (by omega) (by omega) (by omega) (by omega) (by omega)).1
theorem mul_nn {x y : Int} : 0≤x * y ↔ (0≤x∧0≤y) ∨ (x≤0∧y≤0):=by
 constructor
 ·intro h
  rcases Qdj x 0 with hx | hx | hx
  ·rcases Qdj y 0 with hy | hy | hy
   ·right; omega
   ·right; omega
   ·have:=Int.mul_neg_of_neg_of_pos hx hy; omega
  ·subst hx
   rcases Int.le_total 0 y with hy | hy
   ·left; omega
   ·right; omega
  ·rcases Qdj y 0 with hy | hy | hy
   ·have:=Qce hx hy; omega
   ·left; omega
   ·left; omega
 ·rintro (⟨h1,h2⟩ | ⟨h1,h2⟩)
  ·exact Qa6 h1 h2
  ·exact Int.mul_nonneg_of_nonpos_of_nonpos h1 h2
theorem bt {a b p : Int} : (mnI a b≤p∧p≤mxI a b) ↔ 0≤(p - a) * (b - p):=by
 rw [mul_nn]; unfold mnI mxI
 constructor
 ·intro h; split at h <;> split at h <;> omega
 ·intro h; split <;> split <;> omega
theorem withinB_iff {ax ay bx by_ px py : Int} : withinB ax ay bx by_ px py = true ↔ 0≤(px - ax) * (bx - px)∧0≤(py - ay) * (by_ - py):=by
 rw [← bt,← bt]
 simp [withinB,and_assoc]
theorem sgn_eq0 {n : Int} : sgn n = 0 ↔ n = 0 := by unfold sgn; repeat' split
                                                    all_goals omega
theorem sq_pos {x : Int} (h : x ≠ 0) : 0 < x * x:=by
 rcases Qdj x 0 with h1 | h1 | h1
 ·exact Int.mul_pos_of_neg_of_neg h1 h1
 ·exact absurd h1 h
 ·exact Qca h1 h1
theorem on_key {u v U V : Int} (hc : U * v - V * u = 0) (hd : 0≤u * (U - u) + v * (V - v)) (hne : U ≠ 0 ∨ V ≠ 0) : 0≤u * (U - u)∧0≤v * (V - v):=by
 have key : (V * V) * (u * (U - u)) = (U * U) * (v * (V - v)):=by
  have e : U * v = V * u:=by omega
  have : (V * V) * (u * (U - u)) = (V * u) * (V * U) - (V * u) * (V * u):=by grind
  rw [this,← e]; grind
 have sq : ∀ x : Int,0≤x * x:=fun x=>by
  by_cases h : x = 0
  ·subst h; simp
  ·have:=sq_pos h; omega
 constructor
 ·refine Qu fun h=>?_
  have h1 : u * (U - u) < 0:=by omega
  have h2 : 0 < v * (V - v):=by omega
  have h3 : 0≤(U * U) * (v * (V - v)):=Qa6 (sq U) (by omega)
  rcases hne with hU | hV
  ·have:=Qca (sq_pos hU) h2
   have h5 : (V * V) * (u * (U - u))≤0:=Int.mul_nonpos_of_nonneg_of_nonpos (sq V) (by omega)
   omega
  ·have:=Qce (sq_pos hV) h1
   omega
 ·refine Qu fun h=>?_
  have h1 : v * (V - v) < 0:=by omega
  have h2 : 0 < u * (U - u):=by omega
  rcases hne with hU | hV
  ·have:=Qce (sq_pos hU) h1
   have h5 : 0≤(V * V) * (u * (U - u)):=Qa6 (sq V) (by omega)
   omega
  ·have:=Qca (sq_pos hV) h2
   have h5 : (U * U) * (v * (V - v))≤0:=Int.mul_nonpos_of_nonneg_of_nonpos (sq U) (by omega)
   omega
theorem on_iff {ax ay bx by_ px py : Int} : (withinB ax ay bx by_ px py = true∧cr ax ay bx by_ px py = 0) ↔ (cr ax ay bx by_ px py = 0∧0≤(px - ax) * (bx - px) + (py - ay) * (by_ - py)∧((ax = bx∧ay = by_) → (px = ax∧py = ay))):=by
 rw [withinB_iff]
 constructor
 ·rintro ⟨⟨h1,h2⟩,h3⟩
  refine ⟨h3,by omega,?_⟩
  rintro ⟨rfl,rfl⟩
  rw [mul_nn] at h1 h2
  omega
 ·rintro ⟨h3,h4,h5⟩
  refine ⟨?_,h3⟩
  by_cases he : ax = bx∧ay = by_
  ·obtain ⟨rfl,rfl⟩:=h5 he
   obtain ⟨rfl,rfl⟩:=he
   simp
  ·have:=on_key (u:=px - ax) (v:=py - ay) (U:=bx - ax) (V:=by_ - ay) (by unfold cr at h3; exact h3) (by
    have e1 : bx - ax - (px - ax) = bx - px:=by omega
    have e2 : by_ - ay - (py - ay) = by_ - py:=by omega
    rw [e1,e2]; exact h4) (by omega)
   have e1 : bx - ax - (px - ax) = bx - px:=by omega
   have e2 : by_ - ay - (py - ay) = by_ - py:=by omega
   rw [e1,e2] at this; exact this
def wW (ax ay bx by_ cx cy dx dy : Int) : Int:=(bx - ax) * (dy - cy) - (by_ - ay) * (dx - cx)
def sS (ax ay bx by_ cx cy dx dy : Int) : Int:=(cx - ax) * (dy - cy) - (cy - ay) * (dx - cx)
def tT (ax ay bx by_ cx cy dx dy : Int) : Int:=(cx - ax) * (by_ - ay) - (cy - ay) * (bx - ax)
section
variable (ax ay bx by_ cx cy dx dy : Int)
end
theorem sq_nn (x : Int) : 0≤x * x:=by
 by_cases h : x = 0
 ·subst h; simp
 ·have:=sq_pos h; omega
theorem nn_of_mul {x y : Int} (hx : 0 < x) (h : 0≤x * y) : 0≤y:=by
 rw [mul_nn] at h; omega
theorem sgn_mul_neg {x y : Int} : IntKind.i64.wrap (sgn x * sgn y) < 0 ↔ x * y < 0:=by
 have h : x * y < 0 ↔ ¬ (0≤x * y):=by omega
 rw [h,mul_nn]
 unfold sgn
 repeat' split
 all_goals (simp only [Int.mul_zero,Int.zero_mul,Int.one_mul,Int.mul_one,Int.reduceMul,Int.reduceNeg])
 all_goals (first | (rw [show IntKind.i64.wrap 1 = 1 by decide]; omega) | (rw [show IntKind.i64.wrap (-1) = -1 by decide]; omega) | (rw [show IntKind.i64.wrap 0 = 0 by decide]; omega))
structure B8 (ax ay bx by_ cx cy dx dy : Int) : Prop where
 a0 : B ax
 a1 : B ay
 b0 : B bx
 b1 : B by_
 c0 : B cx
 c1 : B cy
 d0 : B dx
 d1 : B dy
theorem cutB_iff {ax ay bx by_ cx cy dx dy : Int} (h : B8 ax ay bx by_ cx cy dx dy) : cutB ax ay bx by_ cx cy dx dy = true ↔
  (cr ax ay bx by_ cx cy * cr ax ay bx by_ dx dy < 0∧cr cx cy dx dy ax ay * cr cx cy dx dy bx by_ < 0) ∨
  ((cr ax ay bx by_ cx cy = 0∧withinB ax ay bx by_ cx cy = true) ∨ (cr ax ay bx by_ dx dy = 0∧withinB ax ay bx by_ dx dy = true)) ∨
  ((cr cx cy dx dy ax ay = 0∧withinB cx cy dx dy ax ay = true) ∨ (cr cx cy dx dy bx by_ = 0∧withinB cx cy dx dy bx by_ = true)):=by
 unfold cutB endsB sdI
 rw [crW_B h.a0 h.a1 h.b0 h.b1 h.c0 h.c1,crW_B h.a0 h.a1 h.b0 h.b1 h.d0 h.d1,crW_B h.c0 h.c1 h.d0 h.d1 h.a0 h.a1,crW_B h.c0 h.c1 h.d0 h.d1 h.b0 h.b1]
 simp only [Qau,Qg,decide_eq_true_eq,sgn_mul_neg,sgn_eq0]
theorem B8.s2 {ax ay bx by_ cx cy dx dy : Int} (h : B8 ax ay bx by_ cx cy dx dy) : B8 cx cy dx dy ax ay bx by_:=⟨h.c0,h.c1,h.d0,h.d1,h.a0,h.a1,h.b0,h.b1⟩
theorem cut_s2 {ax ay bx by_ cx cy dx dy : Int} (h : B8 ax ay bx by_ cx cy dx dy) : cutB cx cy dx dy ax ay bx by_ = cutB ax ay bx by_ cx cy dx dy:=by
 rw [Qa3,cutB_iff h,cutB_iff h.s2]
 constructor
 ·rintro (h | h | h)
  ·exact .inl ⟨h.2,h.1⟩
  ·exact .inr (.inr h)
  ·exact .inr (.inl h)
 ·rintro (h | h | h)
  ·exact .inl ⟨h.2,h.1⟩
  ·exact .inr (.inr h)
  ·exact .inr (.inl h)
theorem conv {W S a b M : Int} (h1 : 0≤S) (h2 : 0≤W - S) (ha : a≤M) (hb : b≤M) : W * a + S * (b - a)≤W * M:=by
 have e : W * M - (W * a + S * (b - a)) = (W - S) * (M - a) + S * (M - b):=by grind
 have:=Qa6 h2 (show 0≤M - a by omega)
 have:=Qa6 h1 (show 0≤M - b by omega)
 omega
theorem w_x {ax ay bx by_ px py : Int} (hc : cr ax ay bx by_ px py = 0) (hn : bx - ax ≠ 0) (h : 0≤(px - ax) * (bx - px)) : withinB ax ay bx by_ px py = true:=by
 rw [withinB_iff]
 refine ⟨h,nn_of_mul (sq_pos hn) ?_⟩
 have e : (bx - ax) * (py - ay) = (by_ - ay) * (px - ax):=by unfold cr at hc; omega
 have : (bx - ax) * (bx - ax) * ((py - ay) * (by_ - py)) = ((by_ - ay) * (by_ - ay)) * ((px - ax) * (bx - px)):=by
  have : (bx - ax) * (bx - ax) * ((py - ay) * (by_ - py)) = ((bx - ax) * (py - ay)) * ((bx - ax) * (by_ - ay) - (bx - ax) * (py - ay)):=by grind
  rw [this,e]; grind
 rw [this]; exact Qa6 (sq_nn _) h
theorem w_y {ax ay bx by_ px py : Int} (hc : cr ax ay bx by_ px py = 0) (hn : by_ - ay ≠ 0) (h : 0≤(py - ay) * (by_ - py)) : withinB ax ay bx by_ px py = true:=by
 have:=w_x (ax:=ay) (ay:=ax) (bx:=by_) (by_:=bx) (px:=py) (py:=px) (by unfold cr at *; omega) hn h
 rw [withinB_iff] at *; exact ⟨this.2,this.1⟩
theorem mn_le (a b : Int) : mnI a b≤a∧mnI a b≤b∧(mnI a b = a ∨ mnI a b = b):=by unfold mnI; split <;> omega
theorem mx_le (a b : Int) : a≤mxI a b∧b≤mxI a b∧(mxI a b = a ∨ mxI a b = b):=by unfold mxI; split <;> omega
theorem fold_min : ∀ (l : List (Int × Int)) (q : Int × Int),((l.foldl minP q).1≤q.1∧(l.foldl minP q).2≤q.2)∧(∀ p ∈ l,(l.foldl minP q).1≤p.1∧(l.foldl minP q).2≤p.2) ∧
  ((l.foldl minP q).1 = q.1 ∨ ∃ p ∈ l,(l.foldl minP q).1 = p.1)∧((l.foldl minP q).2 = q.2 ∨ ∃ p ∈ l,(l.foldl minP q).2 = p.2)
 | [],q=>by simp
 | p :: l,q=>by
   obtain ⟨⟨h1,h2⟩,h3,h4,h5⟩:=fold_min l (minP q p)
   have m1:=mn_le q.1 p.1
   have m2:=mn_le q.2 p.2
   simp only [Qa7]
   simp only [minP] at h1 h2 h4 h5
   refine ⟨⟨by simp only [minP] at *; omega,by simp only [minP] at *; omega⟩,fun r hr=>?_,?_,?_⟩
   ·simp only [Q7] at hr
    rcases hr with rfl | hr
    ·simp only [minP] at *; omega
    ·exact h3 r hr
   ·rcases h4 with h4 | ⟨r,hr,h4⟩
    ·rcases m1.2.2 with m | m
     ·exact .inl (by simp only [minP] at *; omega)
     ·exact .inr ⟨p,by simp,by simp only [minP] at *; omega⟩
    ·exact .inr ⟨r,by simp [hr],h4⟩
   ·rcases h5 with h4 | ⟨r,hr,h4⟩
    ·rcases m2.2.2 with m | m
     ·exact .inl (by simp only [minP] at *; omega)
     ·exact .inr ⟨p,by simp,by simp only [minP] at *; omega⟩
    ·exact .inr ⟨r,by simp [hr],h4⟩
theorem fold_max : ∀ (l : List (Int × Int)) (q : Int × Int),(q.1≤(l.foldl maxP q).1∧q.2≤(l.foldl maxP q).2)∧(∀ p ∈ l,p.1≤(l.foldl maxP q).1∧p.2≤(l.foldl maxP q).2) ∧
  ((l.foldl maxP q).1 = q.1 ∨ ∃ p ∈ l,(l.foldl maxP q).1 = p.1)∧((l.foldl maxP q).2 = q.2 ∨ ∃ p ∈ l,(l.foldl maxP q).2 = p.2)
 | [],q=>by simp
 | p :: l,q=>by
   obtain ⟨⟨h1,h2⟩,h3,h4,h5⟩:=fold_max l (maxP q p)
   have m1:=mx_le q.1 p.1
   have m2:=mx_le q.2 p.2
   simp only [Qa7]
   simp only [maxP] at h1 h2 h4 h5
   refine ⟨⟨by simp only [maxP] at *; omega,by simp only [maxP] at *; omega⟩,fun r hr=>?_,?_,?_⟩
   ·simp only [Q7] at hr
    rcases hr with rfl | hr
    ·simp only [maxP] at *; omega
    ·exact h3 r hr
   ·rcases h4 with h4 | ⟨r,hr,h4⟩
    ·rcases m1.2.2 with m | m
     ·exact .inl (by simp only [maxP] at *; omega)
     ·exact .inr ⟨p,by simp,by simp only [maxP] at *; omega⟩
    ·exact .inr ⟨r,by simp [hr],h4⟩
   ·rcases h5 with h4 | ⟨r,hr,h4⟩
    ·rcases m2.2.2 with m | m
     ·exact .inl (by simp only [maxP] at *; omega)
     ·exact .inr ⟨p,by simp,by simp only [maxP] at *; omega⟩
    ·exact .inr ⟨r,by simp [hr],h4⟩
structure Box (l : List (Int × Int)) (lo hi : Int × Int) : Prop where
 b1 : ∀ p ∈ l,lo.1≤p.1
 b2 : ∀ p ∈ l,lo.2≤p.2
 b3 : ∀ p ∈ l,p.1≤hi.1
 b4 : ∀ p ∈ l,p.2≤hi.2
 m1 : ∃ p ∈ l,p.1 = lo.1
 m2 : ∃ p ∈ l,p.2 = lo.2
 m3 : ∃ p ∈ l,p.1 = hi.1
 m4 : ∃ p ∈ l,p.2 = hi.2
theorem box {l : List (Int × Int)} (h : l ≠ []) : Box l (bbL l) (bbH l):=by
 cases l with
 | nil=>exact absurd rfl h
 | cons p l =>
   obtain ⟨⟨a1,a2⟩,a3,a4,a5⟩:=fold_min (p::l) p
   obtain ⟨⟨c1,c2⟩,c3,c4,c5⟩:=fold_max (p::l) p
   refine ⟨fun q hq=>(a3 q hq).1,fun q hq=>(a3 q hq).2,fun q hq=>(c3 q hq).1,fun q hq=>(c3 q hq).2,?_,?_,?_,?_⟩
   ·rcases a4 with a | ⟨r,hr,a⟩
    ·exact ⟨p,by simp,a.symm⟩
    ·exact ⟨r,hr,a.symm⟩
   ·rcases a5 with a | ⟨r,hr,a⟩
    ·exact ⟨p,by simp,a.symm⟩
    ·exact ⟨r,hr,a.symm⟩
   ·rcases c4 with a | ⟨r,hr,a⟩
    ·exact ⟨p,by simp,a.symm⟩
    ·exact ⟨r,hr,a.symm⟩
   ·rcases c5 with a | ⟨r,hr,a⟩
    ·exact ⟨p,by simp,a.symm⟩
    ·exact ⟨r,hr,a.symm⟩
def gapZ (lo hi lo' hi' : Int × Int) : Int:=mxI (mxI (mxI (mxI 0 (lo'.1 - hi.1)) (lo'.2 - hi.2)) (lo.1 - hi'.1)) (lo.2 - hi'.2)
end Go.Geo

namespace Go.Proofs.YtbpneedpcccpaaaGreat.G
open Go Go.Zv
open Go.Geo
theorem c65 (ax ay bx by_ : Int) : pc E 65 [.agg [.z ax,.z ay],.agg [.z bx,.z by_]] = some (.agg [.z (w64 (ax + bx)),.z (w64 (ay + by_))]):=by
 rw [pc_eq]; simp +contextual -implicitDefEqProofs (maxSteps:=2000000) only [go_sem,E_65,A65]
theorem c94 (ax ay bx by_ : Int) : pc E 94 [.agg [.z ax,.z ay],.agg [.z bx,.z by_]] = some (.agg [.z (w64 (ax - bx)),.z (w64 (ay - by_))]):=by
 rw [pc_eq]; simp +contextual -implicitDefEqProofs (maxSteps:=2000000) only [go_sem,E_94,A94]
theorem c62 (ax ay bx by_ px py : Int) : pc E 62 [.agg [.z ax,.z ay],.agg [.z bx,.z by_],.agg [.z px,.z py]] = some (.z (sgn (crW ax ay bx by_ px py))):=by
 rw [pc_eq]; simp +contextual -implicitDefEqProofs (maxSteps:=2000000) only [go_sem,E_62,A62,c94,decide_eq_true_eq]
 unfold sgn crW; split <;> (try split) <;> rfl
theorem c134 (ax ay bx by_ : Int) : pc E 134 [.agg [.z ax,.z ay],.agg [.z bx,.z by_]] = some (.agg [.z (mnI ax bx),.z (mnI ay by_)]):=by
 rw [pc_eq]; simp +contextual -implicitDefEqProofs (maxSteps:=2000000) only [go_sem,E_134,A134]
theorem c135 (ax ay bx by_ : Int) : pc E 135 [.agg [.z ax,.z ay],.agg [.z bx,.z by_]] = some (.agg [.z (mxI ax bx),.z (mxI ay by_)]):=by
 rw [pc_eq]; simp +contextual -implicitDefEqProofs (maxSteps:=2000000) only [go_sem,E_135,A135]
theorem fold_loop (l : List (Int × Int)) (hl : l.length < 9223372036854775808) (f : FuncId) (g : Int × Int → Int × Int → Int × Int) (hg : ∀ ax ay bx by_,pc E f [.agg [.z ax,.z ay],.agg [.z bx,.z by_]] = some (.agg [.z (g (ax,ay) (bx,by_)).1,.z (g (ax,ay) (bx,by_)).2])) :
  ∀ (k i : Nat) (ax ay : Int),i + k = l.length → (K E A133_L0 ⟨[(2,.fn (.func f) [] []),(4,.ptr 1024 0),(6,.ptr 1536 0),(9,.vs (l.map c2)),(10,.z l.length),(11,.z i)],[],
    [(1536,.box [.z 0,.z 0]),(1024,.box [.z ax,.z ay])],0⟩).bind (blockR 0 (some [4,6]) [8]) =
    some (.ex .nrm ⟨[(4,.ptr 1024 0),(6,.ptr 1536 0)],[],[(1536,.box [.z 0,.z 0]),(1024,.box [.z ((l.drop i).foldl g (ax,ay)).1,.z ((l.drop i).foldl g (ax,ay)).2])],0⟩)
 | 0,i,ax,ay,h=>by
   have hi : ¬ ((i : Int) < l.length):=by omega
   have hd : l.drop i = []:=Qbk (by omega)
   rw [A133_L0_eq,hd]
   simp +contextual -implicitDefEqProofs (maxSteps:=2000000) only [go_sem,A133_L0b,hi,List.foldl_nil]
 | k + 1,i,ax,ay,h=>by
   have hi : ((i : Int) < l.length):=by omega
   have hget : l[i]? = some (l[i]'(by omega)):=Qf _
   generalize l[i]'(by omega) = p at hget
   have hg2:=get_c2 hget
   have hw:=wr_succ (n:=i) (by omega)
   have h0 : (0 : Int)≤(i : Int):=by omega
   have hd : l.drop i = p::l.drop (i + 1):=by
    have hlt : i < l.length:=by omega
    rw [Qcd hlt]
    rw [Qf hlt] at hget
    simp only [Option.some.injEq] at hget
    rw [hget]
   rw [A133_L0_eq,hd]
   simp +contextual -implicitDefEqProofs (maxSteps:=2000000) only [go_sem,A133_L0b,hi,hg2,hg,h0,hw,Qa7]
   rw [fold_loop l hl f g hg k (i + 1) _ _ (by omega)]
theorem c133 (l : List (Int × Int)) (hl : l.length < 9223372036854775808) (ax ay : Int) (f : FuncId) (g : Int × Int → Int × Int → Int × Int) (hg : ∀ ax ay bx by_,pc E f [.agg [.z ax,.z ay],.agg [.z bx,.z by_]] = some (.agg [.z (g (ax,ay) (bx,by_)).1,.z (g (ax,ay) (bx,by_)).2])) :
  pc E 133 [.vs (l.map c2),.agg [.z ax,.z ay],.fn (.func f) [] []] = some (pt (l.foldl g (ax,ay))):=by
 have:=fold_loop l hl f g hg l.length 0 ax ay (by omega)
 simp only [Qv,Qn,Qdp] at this
 rw [pc_eq]; simp +contextual -implicitDefEqProofs (maxSteps:=2000000) only [go_sem,E_133,A133,Qb,this]
theorem c120 (l : List (Int × Int)) (hl : l.length < 9223372036854775808) : pc E 120 [.vs (l.map c2)] = some (.tup [pt (bbL l),pt (bbH l)]):=by
 cases l with
 | nil =>
   rw [pc_eq]; simp +contextual -implicitDefEqProofs only [E_120,A120,go_sem,↓reduceIte,Q0,bbL,bbH,Qv,Qn]
 | cons p t =>
   have h1:=c133 (p::t) hl p.1 p.2 134 minP (fun ax ay bx by_=>c134 ax ay bx by_)
   have h2:=c133 (p::t) hl p.1 p.2 135 maxP (fun ax ay bx by_=>c135 ax ay bx by_)
   have hz : ¬ (((p::t).length : Int) = 0):=by simp only [Q4]; omega
   simp only [Qk,c2,Q4] at h1 h2 hz
   rw [pc_eq]; simp +contextual -implicitDefEqProofs only [E_120,A120,go_sem,↓reduceIte,Qk,c2,bbL,bbH,Qb,hz,h1,h2]
theorem c120_2 (ax ay bx by_ : Int) : pc E 120 [.vs [[.z ax,.z ay],[.z bx,.z by_]]] = some (.tup [pt (bbL [(ax,ay),(bx,by_)]),pt (bbH [(ax,ay),(bx,by_)])]) :=
 c120 [(ax,ay),(bx,by_)] (by simp)
theorem c93 (ax ay bx by_ px py : Int) : pc E 93 [.agg [.z ax,.z ay],.agg [.z bx,.z by_],.agg [.z px,.z py]] = some (.bool (withinB ax ay bx by_ px py)):=by
 rw [pc_eq]; simp +contextual -implicitDefEqProofs (maxSteps:=2000000) only [go_sem,E_93,A93,c120_2,bbL,bbH,Qa7,List.foldl_nil,minP,maxP,mn_self,mx_self,withinB]
 repeat' split
 all_goals (try simp_all)
 all_goals (try (intros; omega))
theorem c61 (ax ay bx by_ px py : Int) : pc E 61 [.agg [.z ax,.z ay],.agg [.z bx,.z by_],.agg [.z px,.z py]] = some (.bool (onB ax ay bx by_ px py)):=by
 rw [pc_eq]; simp +contextual -implicitDefEqProofs (maxSteps:=2000000) only [go_sem,E_61,A61,c93,c62,onB]
 repeat' split
 all_goals simp_all [Qbd]
theorem c121 (ax ay bx by_ cx cy dx dy : Int) : pc E 121 [.agg [.z ax,.z ay],.agg [.z bx,.z by_],.agg [.z cx,.z cy],.agg [.z dx,.z dy]] =
  some (.tup [.bool (decide (sdI ax ay bx by_ cx cy dx dy < 0)),.bool (endsB ax ay bx by_ cx cy dx dy)]):=by
 rw [pc_eq]; simp +contextual -implicitDefEqProofs (maxSteps:=2000000) only [go_sem,E_121,A121,c93,c62,sdI,endsB]
 repeat' split
 all_goals (try simp_all [wrap0])
 all_goals (try (intros; omega))
 all_goals (try rfl)
theorem c96 (ax ay bx by_ cx cy dx dy : Int) : pc E 96 [.agg [.z ax,.z ay],.agg [.z bx,.z by_],.agg [.z cx,.z cy],.agg [.z dx,.z dy]] = some (.bool (cutB ax ay bx by_ cx cy dx dy)):=by
 rw [pc_eq]; simp +contextual -implicitDefEqProofs (maxSteps:=2000000) only [go_sem,E_96,A96,c121,cutB]
 repeat' split
 all_goals (try simp_all)
 all_goals (try (intros; omega))
 all_goals (try rfl)
end Go.Proofs.YtbpneedpcccpaaaGreat.G

namespace Go.Geo
open Go Go.Zv
abbrev Pt:=Int × Int
def eds : List Pt → List (Pt × Pt)
 | []=>[]
 | p::t=>(p::t).zip (t++[p])
theorem eds_len (l : List Pt) : (eds l).length = l.length:=by cases l <;> simp [eds]
theorem eds_get {l : List Pt} {k : Nat} {e : Pt × Pt} (h : (eds l)[k]? = some e) : k < l.length∧l[k]? = some e.1∧l[(k + 1) % l.length]? = some e.2:=by
 cases l with
 | nil=>simp [eds] at h
 | cons p t =>
   have hk : k < (eds (p::t)).length:=(Qe.1 h).1
   rw [eds_len] at hk
   refine ⟨hk,?_⟩
   simp only [eds] at h
   rw [Qcf] at h
   refine ⟨h.1,?_⟩
   have h2:=h.2
   simp only [Q4] at hk ⊢
   by_cases e1 : k = t.length
   ·subst e1
    rw [Nat.mod_self]
    rw [Qbg (by omega)] at h2
    simpa using h2
   ·rw [Qc8 (by omega)]
    rw [Qbt (by omega)] at h2
    simpa using h2
theorem mod_nat {k n : Nat} (hk : k < n) (hn : n≤1000000000) : (((k + 1 : Nat) : Int)).tmod (n : Int) = (((k + 1) % n : Nat) : Int) ∧ ¬ ((n : Int) = 0)∧((n : Int) == 0) = false∧(0 : Int)≤(((k + 1) % n : Nat) : Int)∧(((k + 1) % n : Nat) : Int) < n:=by
 have h:=Qdr (k + 1) (show n > 0 by omega)
 refine ⟨?_,by omega,by simp; omega,by omega,by omega⟩
 rw [Qbh (by omega)]; rfl
theorem wr_k {k : Nat} (h : k≤1000000000) : IntKind.i64.wrap (((k : Nat) : Int) + 1) = ((k + 1 : Nat) : Int):=wr_succ (by omega)
def arF (x : Int) (e : Pt × Pt) : Int:=w64 (x + w64 (w64 (e.1.1 * e.2.2) - w64 (e.1.2 * e.2.1)))
def areaW (l : List Pt) : Int:=(eds l).foldl arF 0
abbrev oriE (a b p : Pt) : Int:=sgn (crW a.1 a.2 b.1 b.2 p.1 p.2)
def onE (p : Pt) (e : Pt × Pt) : Bool:=onB e.1.1 e.1.2 e.2.1 e.2.2 p.1 p.2
def flE (p : Pt) (e : Pt × Pt) : Bool:=(decide (p.2 < e.1.2) != decide (p.2 < e.2.2)) && (decide (0 < sgn (crW e.1.1 e.1.2 e.2.1 e.2.2 p.1 p.2)) == decide (e.1.2 < e.2.2))
def parF (p : Pt) (b : Bool) (e : Pt × Pt) : Bool:=b != flE p e
def locI (l : List Pt) (p : Pt) : Int:=if (eds l).any (onE p) = true then 0 else if (eds l).foldl (parF p) false = true then 1 else -1
end Go.Geo

namespace Go.Geo
open Go Go.Zv
def mayB (p : Pt) : Bool:=decide (mxI p.1 p.2≤439400000) && decide (-439400000≤mnI p.1 p.2)
def ptn (l : List Pt) (k : Nat) : Pt:=l.getD (k % l.length) (0,0)
def adjB (n i k : Nat) : Bool:=decide (k = i) || (decide (k = (i + 1) % n) || decide (i = (k + 1) % n))
def cutE (e f : Pt × Pt) : Bool:=cutB e.1.1 e.1.2 e.2.1 e.2.2 f.1.1 f.1.2 f.2.1 f.2.2
def edn (l : List Pt) (k : Nat) : Pt × Pt:=(ptn l k,ptn l (k + 1))
def bad2 (l : List Pt) (i k : Nat) : Bool:=!adjB l.length i k && cutE (edn l i) (edn l k)
def bad1 (l : List Pt) (i : Nat) : Bool:=decide (oriE (ptn l i) (ptn l (i + 1)) (ptn l (i + 2)) = 0) || (List.range l.length).any (bad2 l i)
def simB (l : List Pt) : Bool:=!(List.range l.length).any (bad1 l)
def valB (l : List Pt) : Bool:=decide (3≤l.length) && (decide (l.length≤12) && (l.all mayB && (simB l && decide (0 < areaW l))))
theorem ptn_get {l : List Pt} {k : Nat} (h : k < l.length) : l[k]? = some (ptn l k):=by
 unfold ptn; rw [Qc8 h,Qf h]; simp [List.getD,h]
theorem ptn_mod {l : List Pt} {k : Nat} (h : 0 < l.length) : l[k % l.length]? = some (ptn l k):=by
 have:=ptn_get (l:=l) (Qdr k h)
 rw [this]; unfold ptn; rw [Nat.mod_mod]
theorem edn_get {l : List Pt} {k : Nat} (h : k < l.length) : (eds l)[k]? = some (edn l k):=by
 have hk : k < (eds l).length:=by rw [eds_len]; exact h
 obtain ⟨e,he⟩ : ∃ e,(eds l)[k]? = some e:=⟨_,Qf hk⟩
 obtain ⟨_,h1,h2⟩:=eds_get he
 rw [ptn_get h] at h1
 rw [ptn_mod (by omega)] at h2
 simp only [Option.some.injEq] at h1 h2
 rw [he]; unfold edn; rw [h1,h2]
theorem range_get {n k : Nat} (h : k < n) : (List.range n)[k]? = some k:=by simp [h]
end Go.Geo

namespace Go.Proofs.YtbpneedpcccpaaaGreat.G
open Go Go.Zv
open Go.Geo
theorem c60 (x : List (List LV)) (h : LV.closeds [.vs x] = true) : pc E 60 [.vs x] = some (.fn (.func 92) [] [.fp [.vs x]]):=by
 rw [pc_eq]; simp +contextual -implicitDefEqProofs (maxSteps:=2000000) only [go_sem,E_60,A60,h]
theorem cl_c2 (l : List Pt) : LV.closeds [.vs (l.map c2)] = true:=rfl
theorem c60' (l : List Pt) : pc E 60 [.vs (l.map c2)] = some (.fn (.func 92) [] [.fp [.vs (l.map c2)]]):=c60 _ (cl_c2 l)
abbrev FR28 (l : List Pt) : Env:=[(3,.ptr 768 0),(4,.ptr 1024 0),(5,.ptr 1280 0),(11,.fn (Fn.func 92) [] [.fp [.vs (l.map c2)]])]
theorem c26 (l : List Pt) (hl : l.length≤1000000000) (px py : Int) : pc E 26 [.vs (l.map c2),.agg [.z px,.z py]] = some (.z (locI l (px,py))):=by
 have h57:=c60' l
 have lp:=loop_leave (fun S=>(K E A92_L0 S).bind (blockR 0 (some []) [3,4,24]))
  (fun k (x : Bool)=>⟨[(0,.yl 1024000),(1,.fp [.vs (l.map c2)]),(5,.vs (l.map c2)),(6,.z l.length),(7,.z k)],[FR28 l,[(0,.yl 1024000)]],[(1024000,.loop (FR28 l) [12,13] A26_R0a A26_R0b LSt.ready AEx.nrm),(1280,.box [.bool x]),(1024,.box [.z 0]),(768,.box [.z px,.z py])],1⟩)
  (eds l) (parF (px,py)) (onE (px,py)) (fun o=>∃ (k : Int) (x : Bool),o = some (.ex .ret ⟨[(0,.yl 1024000),(1,.fp [.vs (l.map c2)]),(5,.vs (l.map c2)),(6,.z l.length),(7,.z k),(25,.bool true)],[FR28 l,[(0,.yl 1024000)]],[(1024000,.loop (FR28 l) [12,13] A26_R0a A26_R0b LSt.done AEx.ret),(1280,.box [.bool x]),(1024,.box [.z 0]),(768,.box [.z px,.z py])],1⟩))
  (fun x=>some (.ex .nrm ⟨[],[FR28 l,[(0,.yl 1024000)]],[(1024000,.loop (FR28 l) [12,13] A26_R0a A26_R0b LSt.ready AEx.nrm),(1280,.box [.bool x]),(1024,.box [.z 0]),(768,.box [.z px,.z py])],1⟩))
  (fun x=>by
   rw [eds_len]
   show (K E A92_L0 _).bind _ = _
   rw [A92_L0_eq]; simp +contextual -implicitDefEqProofs (maxSteps:=2000000) only [go_sem,A92_L0b,Qp])
  (fun k e x hk he=>by
   obtain ⟨hk',g1,g2⟩:=eds_get he
   have g1:=get_c2 g1
   have g2:=get_c2 g2
   obtain ⟨m1,m2,m3,m4,m5⟩:=mod_nat hk' hl
   have hw:=wr_k (k:=k) (by omega)
   have h1 : (k : Int) < l.length:=by omega
   have h0 : (0 : Int)≤k:=by omega
   obtain ⟨⟨ax,ay⟩,⟨bx,by_⟩⟩:=e
   have o1:=c61 ax ay bx by_ px py
   have o2:=c62 ax ay bx by_ px py
   refine ⟨fun hp=>⟨k,x,?_⟩,fun hp=>?_⟩
   ·simp only [onE] at hp
    rw [hp] at o1
    show (K E A92_L0 _).bind _ = _
    rw [A92_L0_eq]
    simp +contextual -implicitDefEqProofs (maxSteps:=2000000) only [go_sem,A92_L0b,A26_R0a,A26_R0b,Qb,h0,h1,g1,g2,m1,m2,m3,m4,m5,hw,o1]
   ·simp only [onE] at hp
    rw [hp] at o1
    show (K E A92_L0 _).bind _ = (K E A92_L0 _).bind _
    conv=>lhs; rw [A92_L0_eq]
    simp only [parF,flE]
    generalize sgn (crW ax ay bx by_ px py) = s at *
    by_cases d1 : py < ay <;> by_cases d2 : py < by_ <;> by_cases d3 : 0 < s <;> by_cases d4 : ay < by_ <;> cases x <;>
     simp +contextual -implicitDefEqProofs (maxSteps:=2000000) only [go_sem,A92_L0b,A26_R0a,A26_R0b,Qb,h0,h1,g1,g2,m1,m2,m3,m4,m5,hw,o1,o2,d1,d2,d3,d4,decide_true,decide_false,bne_self_eq_false,beq_self_eq_true,Qax,Q3])
  false
 simp only [Qn,Qv] at lp
 unfold locI
 cases ha : (eds l).any (onE (px,py)) with
 | true =>
   obtain ⟨k,x,lq⟩:=lp.1 ha
   rw [pc_eq]; simp +contextual -implicitDefEqProofs (maxSteps:=2000000) only [go_sem,E_26,A26,h57,E_92,A92,A26_R0,Qb,lq]
 | false =>
   have lq:=lp.2 ha
   cases hb : (eds l).foldl (parF (px,py)) false <;> rw [hb] at lq <;> rw [pc_eq] <;> simp +contextual -implicitDefEqProofs (maxSteps:=2000000) only [go_sem,E_26,A26,h57,E_92,A92,A26_R0,Qb,lq]
abbrev FR67 (l : List Pt) : Env:=[(1,.ptr 256 0),(2,.ptr 512 0),(3,.ptr 768 0),(11,.fn (Fn.func 92) [] [.fp [.vs (l.map c2)]])]
abbrev FI67 (l : List Pt) : Env:=[(2,.ptr 512 0),(3,.ptr 768 0),(4,.ptr 2098176 0),(5,.ptr 2098432 0),(28,.fn (Fn.func 92) [] [.fp [.vs (l.map c2)]])]
abbrev FF67 (l : List Pt) (k ax ay bx by_ k1 : Int) (k1m : Nat) : List Env:=[FI67 l,[(0,.yl 3121153)],[(0,.yl 1024000)],[(23,.agg [.z ax,.z ay,.z bx,.z by_]),(22,.agg [.z bx,.z by_]),(21,.fp [.z bx,.z by_]),(20,.z k1m),(19,.z l.length),(18,.vs (l.map c2)),(17,.z k1),(16,.z k),(15,.vs (l.map c2)),(14,.agg [.z ax,.z ay]),(13,.z k),(12,.yl 1024000),(0,.yl 1024000),(1,.fp [.vs (l.map c2)]),(3,.z k),(4,.ptr 1049600 0),(5,.vs (l.map c2)),(6,.z l.length),(7,.z k)],FR67 l,[(0,.yl 1024000)]]
theorem wr_2 {k : Nat} (h : k≤1000000000) : IntKind.i64.wrap (((k : Nat) : Int) + 2) = ((k + 2 : Nat) : Int):=by rw [wrap_small (by omega) (by omega)]; omega
end Go.Proofs.YtbpneedpcccpaaaGreat.G

namespace Go.Geo
open Go Go.Zv
theorem eds_range (l : List Pt) : eds l = (List.range l.length).map (edn l):=by
 apply Qc2
 intro i
 by_cases h : i < l.length
 ·rw [edn_get h,Qan,range_get h]; rfl
 ·rw [List.getElem?_eq_none (by rw [eds_len]; omega),List.getElem?_eq_none (by simp; omega)]
def rotL (r : Nat) (l : List Pt) : List Pt:=(List.range l.length).map fun i=>ptn l (i + r)
end Go.Geo

namespace Go.Geo
open Go Go.Zv
def rc (fx fy l w X Y : Int) : List Pt:=[(fx + w * Y,fy - w * X),(fx + l * X + w * Y,fy + l * Y - w * X),(fx + l * X - w * Y,fy + l * Y + w * X),(fx - w * Y,fy + w * X)]
theorem cut_no {ax ay bx by_ cx cy dx dy : Int} (h1 : 0 < crW ax ay bx by_ cx cy) (h2 : 0 < crW ax ay bx by_ dx dy) (h3 : 0 < crW cx cy dx dy ax ay) (h4 : 0 < crW cx cy dx dy bx by_) : cutB ax ay bx by_ cx cy dx dy = false:=by
 have s : ∀ {n : Int},0 < n → sgn n = 1:=fun h=>by unfold sgn; rw [if_pos h]
 unfold cutB endsB sdI
 rw [s h1,s h2,s h3,s h4]
 have d : decide (w64 (1 * 1) < 0) = false:=by decide
 have d2 : decide ((1 : Int) = 0) = false:=by decide
 simp only [d,d2,Qt,Qb0]
structure RCok (fx fy l w X Y R : Int) : Prop where
 l0 : 0 < l
 w0 : 0 < w
 R0 : 0 < R
 n : X * X + Y * Y = R
 b : ∀ p ∈ rc fx fy l w X Y,(-439400000≤p.1∧p.1≤439400000)∧(-439400000≤p.2∧p.2≤439400000)
theorem crW_M {ax ay bx by_ px py : Int} (h1 : -439400000≤ax∧ax≤439400000) (h2 : -439400000≤ay∧ay≤439400000) (h3 : -439400000≤bx∧bx≤439400000) (h4 : -439400000≤by_∧by_≤439400000) (h5 : -439400000≤px∧px≤439400000) (h6 : -439400000≤py∧py≤439400000) : crW ax ay bx by_ px py = cr ax ay bx by_ px py:=by
 refine crW_B ?_ ?_ ?_ ?_ ?_ ?_ <;> unfold B <;> omega
theorem mayB_iff {p : Pt} : mayB p = true ↔ (-439400000≤p.1∧p.1≤439400000)∧(-439400000≤p.2∧p.2≤439400000):=by
 unfold mayB mxI mnI
 simp only [Qg,decide_eq_true_eq]
 split <;> split <;> omega
theorem rc_may {fx fy l w X Y R : Int} (h : RCok fx fy l w X Y R) : (rc fx fy l w X Y).all mayB = true:=by
 rw [Qj]; intro p hp; exact mayB_iff.2 (h.b p hp)
theorem rc_sim {fx fy l w X Y R : Int} (h : RCok fx fy l w X Y R) : simB (rc fx fy l w X Y) = true:=by
 have b0:=h.b (fx + w * Y,fy - w * X) (by simp [rc])
 have b1:=h.b (fx + l * X + w * Y,fy + l * Y - w * X) (by simp [rc])
 have b2:=h.b (fx + l * X - w * Y,fy + l * Y + w * X) (by simp [rc])
 have b3:=h.b (fx - w * Y,fy + w * X) (by simp [rc])
 have hp : 0 < 2 * l * w * R:=Qca (Qca (by have:=h.l0; omega) h.w0) h.R0
 have n:=h.n
 have e012 : cr (fx + w * Y) (fy - w * X) (fx + l * X + w * Y) (fy + l * Y - w * X) (fx + l * X - w * Y) (fy + l * Y + w * X) = 2 * l * w * R:=by rw [← n]; unfold cr; grind
 have e013 : cr (fx + w * Y) (fy - w * X) (fx + l * X + w * Y) (fy + l * Y - w * X) (fx - w * Y) (fy + w * X) = 2 * l * w * R:=by rw [← n]; unfold cr; grind
 have e123 : cr (fx + l * X + w * Y) (fy + l * Y - w * X) (fx + l * X - w * Y) (fy + l * Y + w * X) (fx - w * Y) (fy + w * X) = 2 * l * w * R:=by rw [← n]; unfold cr; grind
 have e120 : cr (fx + l * X + w * Y) (fy + l * Y - w * X) (fx + l * X - w * Y) (fy + l * Y + w * X) (fx + w * Y) (fy - w * X) = 2 * l * w * R:=by rw [← n]; unfold cr; grind
 have e230 : cr (fx + l * X - w * Y) (fy + l * Y + w * X) (fx - w * Y) (fy + w * X) (fx + w * Y) (fy - w * X) = 2 * l * w * R:=by rw [← n]; unfold cr; grind
 have e231 : cr (fx + l * X - w * Y) (fy + l * Y + w * X) (fx - w * Y) (fy + w * X) (fx + l * X + w * Y) (fy + l * Y - w * X) = 2 * l * w * R:=by rw [← n]; unfold cr; grind
 have e301 : cr (fx - w * Y) (fy + w * X) (fx + w * Y) (fy - w * X) (fx + l * X + w * Y) (fy + l * Y - w * X) = 2 * l * w * R:=by rw [← n]; unfold cr; grind
 have e302 : cr (fx - w * Y) (fy + w * X) (fx + w * Y) (fy - w * X) (fx + l * X - w * Y) (fy + l * Y + w * X) = 2 * l * w * R:=by rw [← n]; unfold cr; grind
 unfold rc
 generalize fx + w * Y = x0 at *
 generalize fy - w * X = y0 at *
 generalize fx + l * X + w * Y = x1 at *
 generalize fy + l * Y - w * X = y1 at *
 generalize fx + l * X - w * Y = x2 at *
 generalize fy + l * Y + w * X = y2 at *
 generalize fx - w * Y = x3 at *
 generalize fy + w * X = y3 at *
 simp only at b0 b1 b2 b3
 rw [← crW_M b0.1 b0.2 b1.1 b1.2 b2.1 b2.2] at e012
 rw [← crW_M b0.1 b0.2 b1.1 b1.2 b3.1 b3.2] at e013
 rw [← crW_M b1.1 b1.2 b2.1 b2.2 b3.1 b3.2] at e123
 rw [← crW_M b1.1 b1.2 b2.1 b2.2 b0.1 b0.2] at e120
 rw [← crW_M b2.1 b2.2 b3.1 b3.2 b0.1 b0.2] at e230
 rw [← crW_M b2.1 b2.2 b3.1 b3.2 b1.1 b1.2] at e231
 rw [← crW_M b3.1 b3.2 b0.1 b0.2 b1.1 b1.2] at e301
 rw [← crW_M b3.1 b3.2 b0.1 b0.2 b2.1 b2.2] at e302
 have q02:=cut_no (by rw [e012]; exact hp) (by rw [e013]; exact hp) (by rw [e230]; exact hp) (by rw [e231]; exact hp)
 have q20:=cut_no (by rw [e230]; exact hp) (by rw [e231]; exact hp) (by rw [e012]; exact hp) (by rw [e013]; exact hp)
 have q13:=cut_no (by rw [e123]; exact hp) (by rw [e120]; exact hp) (by rw [e301]; exact hp) (by rw [e302]; exact hp)
 have q31:=cut_no (by rw [e301]; exact hp) (by rw [e302]; exact hp) (by rw [e123]; exact hp) (by rw [e120]; exact hp)
 have s : ∀ {n : Int},n = 2 * l * w * R → ¬ (sgn n = 0):=fun h=>by rw [h]; unfold sgn; rw [if_pos hp]; decide
 have hr : List.range 4 = [0,1,2,3]:=rfl
 have s0:=s e012
 have s1:=s e123
 have s2:=s e230
 have s3:=s e301
 simp [simB,bad1,bad2,adjB,edn,cutE,ptn,oriE,hr,s0,s1,s2,s3,q02,q13,q20,q31]
theorem arF_M {x : Int} {e : Pt × Pt} (hx : -2000000000000000000≤x∧x≤2000000000000000000) (h1 : -439400000≤e.1.1∧e.1.1≤439400000) (h2 : -439400000≤e.1.2∧e.1.2≤439400000) (h3 : -439400000≤e.2.1∧e.2.1≤439400000) (h4 : -439400000≤e.2.2∧e.2.2≤439400000) :
  arF x e = x + (e.1.1 * e.2.2 - e.1.2 * e.2.1) ∧ -400000000000000000≤e.1.1 * e.2.2 - e.1.2 * e.2.1∧e.1.1 * e.2.2 - e.1.2 * e.2.1≤400000000000000000:=by
 have m1:=mul_bd h1.1 h1.2 h4.1 h4.2
 have m2:=mul_bd h2.1 h2.2 h3.1 h3.2
 unfold arF w64
 refine ⟨?_,by omega,by omega⟩
 rw [wrap_small (n:=e.1.1 * e.2.2) (by omega) (by omega),wrap_small (n:=e.1.2 * e.2.1) (by omega) (by omega),wrap_small (n:=e.1.1 * e.2.2 - e.1.2 * e.2.1) (by omega) (by omega),wrap_small (by omega) (by omega)]
theorem rc_area {fx fy l w X Y R : Int} (h : RCok fx fy l w X Y R) : areaW (rc fx fy l w X Y) = 4 * l * w * R:=by
 have b0:=h.b (fx + w * Y,fy - w * X) (by simp [rc])
 have b1:=h.b (fx + l * X + w * Y,fy + l * Y - w * X) (by simp [rc])
 have b2:=h.b (fx + l * X - w * Y,fy + l * Y + w * X) (by simp [rc])
 have b3:=h.b (fx - w * Y,fy + w * X) (by simp [rc])
 have n:=h.n
 have fin : (0 + ((fx + w * Y) * (fy + l * Y - w * X) - (fy - w * X) * (fx + l * X + w * Y)) + ((fx + l * X + w * Y) * (fy + l * Y + w * X) - (fy + l * Y - w * X) * (fx + l * X - w * Y)) + ((fx + l * X - w * Y) * (fy + w * X) - (fy + l * Y + w * X) * (fx - w * Y)) + ((fx - w * Y) * (fy - w * X) - (fy + w * X) * (fx + w * Y))) = 4 * l * w * R:=by rw [← n]; grind
 rw [← fin]
 unfold rc areaW
 simp only at b0 b1 b2 b3
 generalize fx + w * Y = x0 at *
 generalize fy - w * X = y0 at *
 generalize fx + l * X + w * Y = x1 at *
 generalize fy + l * Y - w * X = y1 at *
 generalize fx + l * X - w * Y = x2 at *
 generalize fy + l * Y + w * X = y2 at *
 generalize fx - w * Y = x3 at *
 generalize fy + w * X = y3 at *
 have a0:=arF_M (x:=0) (e:=((x0,y0),(x1,y1))) (by omega) b0.1 b0.2 b1.1 b1.2
 simp only at a0
 have a1:=arF_M (x:=0 + (x0 * y1 - y0 * x1)) (e:=((x1,y1),(x2,y2))) (by omega) b1.1 b1.2 b2.1 b2.2
 simp only at a1
 have a2:=arF_M (x:=0 + (x0 * y1 - y0 * x1) + (x1 * y2 - y1 * x2)) (e:=((x2,y2),(x3,y3))) (by omega) b2.1 b2.2 b3.1 b3.2
 simp only at a2
 have a3:=arF_M (x:=0 + (x0 * y1 - y0 * x1) + (x1 * y2 - y1 * x2) + (x2 * y3 - y2 * x3)) (e:=((x3,y3),(x0,y0))) (by omega) b3.1 b3.2 b0.1 b0.2
 simp only at a3
 show arF (arF (arF (arF 0 ((x0,y0),(x1,y1))) ((x1,y1),(x2,y2))) ((x2,y2),(x3,y3))) ((x3,y3),(x0,y0)) = _
 rw [a0.1,a1.1,a2.1,a3.1]
theorem rc_val {fx fy l w X Y R : Int} (h : RCok fx fy l w X Y R) : valB (rc fx fy l w X Y) = true:=by
 unfold valB
 rw [rc_may h,rc_sim h,rc_area h]
 have hp : 0 < 4 * l * w * R:=Qca (Qca (by have:=h.l0; omega) h.w0) h.R0
 simp [rc,hp]
end Go.Geo

namespace Go.Geo
open Go Go.Zv
theorem w64_add (x y : Int) : w64 (w64 x + y) = w64 (x + y):=by
 simp only [w64,IntKind.wrap,IntKind.signed,IntKind.bits]; simp; omega
end Go.Geo

namespace Go.Geo
open Go Go.Zv
def adjM (n i k : Nat) : Bool:=decide (k % n = i % n) || (decide (k % n = (i + 1) % n) || decide (i % n = (k + 1) % n))
def badM (l : List Pt) (i k : Nat) : Bool:=!adjM l.length i k && cutE (edn l i) (edn l k)
def badN (l : List Pt) (i : Nat) : Bool:=decide (oriE (ptn l i) (ptn l (i + 1)) (ptn l (i + 2)) = 0) || ((List.range l.length).map (badM l i)).any id
theorem ptn_per (l : List Pt) (k : Nat) : ptn l (k + l.length) = ptn l k:=by unfold ptn; rw [Nat.add_mod_right]
end Go.Geo
