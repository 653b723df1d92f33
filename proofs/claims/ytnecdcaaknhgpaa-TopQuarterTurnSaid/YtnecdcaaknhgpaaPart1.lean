/- Part of the proof: the evaluation of the program's code and its tie to the machine, or what functions of the program compute over it. -/
import Derived.Test.YtnecdcaaknhgpaaEng6
namespace Go.Proofs.Ytnecdcaaknhgpaa
open Go Go.Zv
set_option maxRecDepth 100000
def A9_L0b : ACode := 
    (.seq (
    (.seq (
    .reg none [
      ⟨some 74, .mv (.t 13), none, true⟩,
      ⟨some 75, .mv (.t 10), none, true⟩,
      ⟨some 76, .bin .lss (.t 74) (.t 75), none, true⟩] (some [2, 5, 8, 9, 10, 13, 76]) []) (
    (.cond (.t 76) (
      .skip) (
      .exit 2))))) (
    (.seq (
    (.block 3 (
    (.seq (
    .reg (some [.dr [84, 88, 91] [], .dr [84, 88, 91] [], .dr [84, 88, 91] [], .dr [81, 88, 91] [], .dr [81, 88, 91] [], .dr [81, 88, 91] [], .dr [88, 91] [], .dr [81, 84, 85, 91] [], .dr [81, 84, 85, 91] [], .dr [81, 84, 85, 91] [], .dr [81, 84, 85, 88] [], .dr [81, 84, 85, 88] [], .dr [81, 84, 85, 88] [], .free, .free]) [
      ⟨some 79, .mv (.t 13), none, true⟩,
      ⟨some 80, .iaa 3 1 (.t 8) (.t 79), none, true⟩,
      ⟨some 81, .load false 1 (.t 80), none, true⟩,
      ⟨some 82, .mv (.t 10), none, true⟩,
      ⟨some 83, .iaa 3 1 (.t 8) (.t 82), none, true⟩,
      ⟨some 84, .load false 1 (.t 83), none, true⟩,
      ⟨some 85, .call 37 [.t 81, .t 84], none, true⟩,
      ⟨some 86, .mv (.t 13), none, true⟩,
      ⟨some 87, .iaa 3 1 (.t 9) (.t 86), none, true⟩,
      ⟨some 88, .load false 1 (.t 87), none, true⟩,
      ⟨some 89, .mv (.t 10), none, true⟩,
      ⟨some 90, .iaa 3 1 (.t 9) (.t 89), none, true⟩,
      ⟨some 91, .load false 1 (.t 90), none, true⟩,
      ⟨some 92, .call 37 [.t 88, .t 91], none, true⟩,
      ⟨some 93, .bib true (.t 85) (.t 92), none, true⟩] (some [2, 5, 8, 9, 10, 13, 93]) []) (
    (.cond (.t 93) (
      (.seq (
      .reg none [
        ⟨some 4, .as (.c (.bool false)), none, true⟩] (some [4]) []) (
      .ret))) (
      .skip))))) (some [2, 5, 8, 9, 10, 13]) [4, 85, 92])) (
    .reg none [
      ⟨some 77, .mv (.t 13), none, true⟩,
      ⟨some 78, .bin .add (.t 77) (.c (.int .i64 1)), none, true⟩,
      ⟨some 13, .as (.t 78), none, true⟩] (some [2, 5, 8, 9, 10, 13]) []))))
def A9_L0 : ACode := .loop A9_L0b (some [2, 5, 8, 9, 10, 13]) [4, 85, 92]
def A9_L1b : ACode := 
  (.seq (
  (.seq (
  .reg none [
    ⟨some 44, .mv (.t 10), none, true⟩,
    ⟨some 45, .bin .lss (.t 44) (.c (.int .i64 3)), none, true⟩] (some [2, 5, 8, 9, 10, 45]) []) (
  (.cond (.t 45) (
    .skip) (
    .exit 0))))) (
  (.seq (
  (.block 1 (
  (.seq (
  .reg (some [.dr [53] [], .dr [53] [], .dr [53] [], .dr [51] [], .dr [51] [], .free, .free, .dr [] [], .dr [] [], .dr [] [], .free]) [
    ⟨some 49, .mv (.t 10), none, true⟩,
    ⟨some 50, .iaa 3 1 (.t 8) (.t 49), none, true⟩,
    ⟨some 51, .load false 1 (.t 50), none, true⟩,
    ⟨some 52, .fad 0 (.t 2), none, true⟩,
    ⟨some 53, .load true 2 (.t 52), none, true⟩,
    ⟨some 54, .call 35 [.t 51, .t 53], none, true⟩,
    ⟨some 48, .mv (.t 54), none, true⟩,
    ⟨some 55, .ext (.t 48) 0, none, true⟩,
    ⟨some 56, .ext (.t 48) 1, none, true⟩,
    ⟨some 11, .as (.t 55), none, true⟩,
    ⟨some 12, .as (.t 56), none, true⟩] (some [2, 5, 8, 9, 10, 11, 12]) []) (
  (.seq (
  (.seq (
  .reg none [
    ⟨some 57, .mv (.t 12), none, true⟩,
    ⟨some 58, .un .not (.t 57), none, true⟩,
    ⟨some 59, .mv (.t 58), none, true⟩,
    ⟨some 60, .mv (.t 11), some (59, false), true⟩,
    ⟨some 61, .mv (.t 10), some (59, false), true⟩,
    ⟨some 62, .iaa 3 1 (.t 9) (.t 61), some (59, false), true⟩,
    ⟨some 63, .load false 1 (.t 62), some (59, false), true⟩,
    ⟨some 64, .call 36 [.t 60, .t 63], some (59, false), true⟩,
    ⟨some 65, .un .not (.t 64), some (59, false), true⟩,
    ⟨some 66, .pick (.t 59) (.c (.bool true)) (.t 65), none, true⟩,
    ⟨some 67, .mv (.t 66), none, true⟩,
    ⟨some 68, .mv (.t 10), some (67, false), true⟩,
    ⟨some 69, .iaa 3 1 (.t 9) (.t 68), some (67, false), true⟩,
    ⟨some 70, .load false 1 (.t 69), some (67, false), true⟩,
    ⟨some 71, .call 31 [.t 70], some (67, false), true⟩,
    ⟨some 72, .un .not (.t 71), some (67, false), true⟩,
    ⟨some 73, .pick (.t 67) (.c (.bool true)) (.t 72), none, true⟩] (some [2, 5, 8, 9, 10, 73]) []) (
  (.cond (.t 73) (
    (.seq (
    .reg none [
      ⟨some 4, .as (.c (.bool false)), none, true⟩] (some [4]) []) (
    .ret))) (
    .skip))))) (
  (.seq (
  .reg none [
    ⟨some 13, .as (.c (.int .i64 0)), none, true⟩] (some [2, 5, 8, 9, 10, 13]) []) (
  (.block 2 (
  A9_L0) (some [2, 5, 8, 9, 10]) [4, 13, 85, 92])))))))) (some [2, 5, 8, 9, 10]) [4, 11, 12, 13, 54, 64, 71, 85, 92])) (
  .reg none [
    ⟨some 46, .mv (.t 10), none, true⟩,
    ⟨some 47, .bin .add (.t 46) (.c (.int .i64 1)), none, true⟩,
    ⟨some 10, .as (.t 47), none, true⟩] (some [2, 5, 8, 9, 10]) []))))
def A9_L1 : ACode := .loop A9_L1b (some [2, 5, 8, 9, 10]) [4, 11, 12, 13, 54, 64, 71, 85, 92]
/-- ambidexter/ambidextertop.TopQuarterTurn -/
def A9 : AFn := .code [.t 4] (
(.seq (
.reg none [
  ⟨some 2, .box (.t 0), none, true⟩,
  ⟨some 3, .box (.t 1), none, true⟩,
  ⟨some 4, .as (.c (.bool false)), none, true⟩] (some [2, 3]) []) (
(.seq (
.reg none [
  ⟨some 14, .call 34 [], none, true⟩,
  ⟨some 5, .as (.t 14), none, true⟩] (some [2, 3, 5]) []) (
(.seq (
(.seq (
.reg none [
  ⟨some 15, .load true 12 (.t 2), none, true⟩,
  ⟨some 16, .call 16 [.t 15], none, true⟩,
  ⟨some 17, .un .not (.t 16), none, true⟩] (some [2, 3, 5, 17]) []) (
(.cond (.t 17) (
  (.seq (
  .reg none [
    ⟨some 18, .mv (.t 5), none, true⟩,
    ⟨some 4, .as (.t 18), none, true⟩] (some [4]) []) (
  .ret))) (
  .skip))))) (
(.seq (
.reg none [
  ⟨some 19, .load true 12 (.t 2), none, true⟩,
  ⟨some 20, .load true 3 (.t 3), none, true⟩,
  ⟨some 21, .call 19 [.t 19, .t 20], none, true⟩,
  ⟨some 6, .alloc [.int .i64 0, .int .i64 0, .int .i64 0], none, true⟩,
  ⟨none, .store 3 (.t 6) (.t 21), none, true⟩] (some [2, 5, 6]) [3]) (
(.seq (
.reg none [
  ⟨some 22, .load true 3 (.t 6), none, true⟩,
  ⟨some 7, .alloc [.int .i64 0, .int .i64 0, .int .i64 0], none, true⟩,
  ⟨none, .store 3 (.t 7) (.t 22), none, true⟩] (some [2, 5, 6, 7]) []) (
(.seq (
.reg none [
  ⟨some 23, .iaa 3 1 (.t 6) (.c (.int .i64 0)), none, true⟩,
  ⟨some 24, .load false 1 (.t 23), none, true⟩,
  ⟨some 25, .bin .add (.t 24) (.c (.int .i64 9)), none, true⟩,
  ⟨some 26, .iaa 3 1 (.t 7) (.c (.int .i64 0)), none, true⟩,
  ⟨none, .store 1 (.t 26) (.t 25), none, true⟩] (some [2, 5, 6, 7]) []) (
(.seq (
(.seq (
.reg none [
  ⟨some 27, .load true 12 (.t 2), none, true⟩,
  ⟨some 28, .load true 3 (.t 6), none, true⟩,
  ⟨some 29, .call 18 [.t 27, .t 28], none, true⟩,
  ⟨some 30, .un .not (.t 29), none, true⟩,
  ⟨some 31, .mv (.t 30), none, true⟩,
  ⟨some 32, .load true 12 (.t 2), some (31, false), true⟩,
  ⟨some 33, .load true 3 (.t 7), some (31, false), true⟩,
  ⟨some 34, .call 18 [.t 32, .t 33], some (31, false), true⟩,
  ⟨some 35, .un .not (.t 34), some (31, false), true⟩,
  ⟨some 36, .pick (.t 31) (.c (.bool true)) (.t 35), none, true⟩] (some [2, 5, 6, 7, 36]) []) (
(.cond (.t 36) (
  (.seq (
  .reg none [
    ⟨some 37, .mv (.t 5), none, true⟩,
    ⟨some 4, .as (.t 37), none, true⟩] (some [4]) []) (
  .ret))) (
  .skip))))) (
(.seq (
.reg none [
  ⟨some 38, .load true 12 (.t 2), none, true⟩,
  ⟨some 39, .load true 3 (.t 6), none, true⟩,
  ⟨some 40, .call 20 [.t 38, .t 39], none, true⟩,
  ⟨some 8, .alloc [.nils 2, .nils 2, .nils 2], none, true⟩,
  ⟨none, .store 3 (.t 8) (.t 40), none, true⟩] (some [2, 5, 7, 8]) [6]) (
(.seq (
.reg none [
  ⟨some 41, .load true 12 (.t 2), none, true⟩,
  ⟨some 42, .load true 3 (.t 7), none, true⟩,
  ⟨some 43, .call 20 [.t 41, .t 42], none, true⟩,
  ⟨some 9, .alloc [.nils 2, .nils 2, .nils 2], none, true⟩,
  ⟨none, .store 3 (.t 9) (.t 43), none, true⟩] (some [2, 5, 8, 9]) [7]) (
(.seq (
(.seq (
.reg none [
  ⟨some 10, .as (.c (.int .i64 0)), none, true⟩] (some [2, 5, 8, 9, 10]) []) (
(.block 0 (
A9_L1) (some [5]) [4, 10, 11, 12, 13, 54, 64, 71, 85, 92])))) (
(.seq (
.reg none [
  ⟨some 94, .mv (.t 5), none, true⟩,
  ⟨some 4, .as (.t 94), none, true⟩] (some [4]) []) (
.ret)))))))))))))))))))))))
def A15_L0b : ACode := 
  (.seq (
  .reg none [
    ⟨some 12, .bin .lss (.t 11) (.c (.int .i64 3)), none, true⟩] (some [1, 3, 10, 11, 12]) []) (
  (.seq (
  (.cond (.t 12) (
    .skip) (
    .exit 0))) (
  (.seq (
  (.block 1 (
  (.seq (
  .reg none [
    ⟨some 13, .mv (.t 11), none, true⟩,
    ⟨some 14, .ixa false 3 1 (.t 10) (.t 11), none, true⟩,
    ⟨some 4, .as (.t 13), none, true⟩,
    ⟨some 5, .as (.t 14), none, true⟩] (some [1, 3, 4, 5, 10, 11]) []) (
  (.seq (
  (.seq (
  .reg (some [.free, .free, .free, .free, .free, .free, .free, .dr [] [], .dr [] [], .free, .free, .free, .free, .free, .dr [] [], .dr [] [], .free, .free, .free, .free, .free, .dr [43] [], .dr [43] [], .dr [43] [], .dr [43] [], .dr [39] [], .dr [39] [], .dr [39] [], .dr [39] [], .free, .free]) [
    ⟨some 15, .mv (.t 5), none, true⟩,
    ⟨some 16, .bin .lss (.t 15) (.c (.int .i64 1)), none, true⟩,
    ⟨some 17, .mv (.t 16), none, true⟩,
    ⟨some 18, .mv (.t 5), some (17, false), true⟩,
    ⟨some 19, .bin .gtr (.t 18) (.c (.int .i64 40)), some (17, false), true⟩,
    ⟨some 20, .pick (.t 17) (.c (.bool true)) (.t 19), none, true⟩,
    ⟨some 21, .mv (.t 20), none, true⟩,
    ⟨some 22, .mv (.t 4), some (21, false), true⟩,
    ⟨some 23, .fad 6 (.t 1), some (21, false), true⟩,
    ⟨some 24, .iaa 3 1 (.t 23) (.t 22), some (21, false), true⟩,
    ⟨some 25, .load false 1 (.t 24), some (21, false), true⟩,
    ⟨some 26, .bin .lss (.t 25) (.c (.int .i64 (-17))), some (21, false), true⟩,
    ⟨some 27, .pick (.t 21) (.c (.bool true)) (.t 26), none, true⟩,
    ⟨some 28, .mv (.t 27), none, true⟩,
    ⟨some 29, .mv (.t 4), some (28, false), true⟩,
    ⟨some 30, .fad 9 (.t 1), some (28, false), true⟩,
    ⟨some 31, .iaa 3 1 (.t 30) (.t 29), some (28, false), true⟩,
    ⟨some 32, .load false 1 (.t 31), some (28, false), true⟩,
    ⟨some 33, .bin .gtr (.t 32) (.c (.int .i64 18)), some (28, false), true⟩,
    ⟨some 34, .pick (.t 28) (.c (.bool true)) (.t 33), none, true⟩,
    ⟨some 35, .mv (.t 34), none, true⟩,
    ⟨some 36, .mv (.t 4), some (35, false), true⟩,
    ⟨some 37, .fad 6 (.t 1), some (35, false), true⟩,
    ⟨some 38, .iaa 3 1 (.t 37) (.t 36), some (35, false), true⟩,
    ⟨some 39, .load false 1 (.t 38), some (35, false), true⟩,
    ⟨some 40, .mv (.t 4), some (35, false), true⟩,
    ⟨some 41, .fad 9 (.t 1), some (35, false), true⟩,
    ⟨some 42, .iaa 3 1 (.t 41) (.t 40), some (35, false), true⟩,
    ⟨some 43, .load false 1 (.t 42), some (35, false), true⟩,
    ⟨some 44, .bin .gtr (.t 39) (.t 43), some (35, false), true⟩,
    ⟨some 45, .pick (.t 35) (.c (.bool true)) (.t 44), none, true⟩] (some [1, 3, 5, 10, 11, 45]) []) (
  (.cond (.t 45) (
    (.seq (
    .reg none [
      ⟨some 2, .as (.c (.bool false)), none, true⟩] (some [2]) []) (
    .ret))) (
    .skip))))) (
  .reg none [
    ⟨some 46, .mv (.t 3), none, true⟩,
    ⟨some 47, .mv (.t 5), none, true⟩,
    ⟨some 48, .bin .add (.t 46) (.t 47), none, true⟩,
    ⟨some 3, .as (.t 48), none, true⟩] (some [1, 3, 10, 11]) []))))) (some [1, 3, 10, 11]) [2, 4, 5])) (
  .reg none [
    ⟨some 49, .bin .add (.t 11) (.c (.int .i64 1)), none, true⟩,
    ⟨some 11, .mv (.t 49), none, true⟩] (some [1, 3, 10, 11]) []))))))
def A15_L0 : ACode := .loop A15_L0b (some [1, 3, 10, 11]) [2, 4, 5]
/-- ambidexter/arm.Valid -/
def A15 : AFn := .code [.t 2] (
(.seq (
.reg none [
  ⟨some 1, .box (.t 0), none, true⟩,
  ⟨some 2, .as (.c (.bool false)), none, true⟩] (some [1]) []) (
(.seq (
.reg none [
  ⟨some 7, .fad 5 (.t 1), none, true⟩,
  ⟨some 8, .load false 1 (.t 7), none, true⟩,
  ⟨some 3, .as (.t 8), none, true⟩] (some [1, 3]) []) (
(.seq (
(.seq (
.reg none [
  ⟨some 9, .fad 2 (.t 1), none, true⟩,
  ⟨some 10, .load true 3 (.t 9), none, true⟩,
  ⟨some 11, .mv (.c (.int .i64 0)), none, true⟩] (some [1, 3, 10, 11]) []) (
(.block 0 (
A15_L0) (some [1, 3]) [2, 4, 5])))) (
(.seq (
(.seq (
.reg none [
  ⟨some 50, .fad 5 (.t 1), none, true⟩,
  ⟨some 51, .load false 1 (.t 50), none, true⟩,
  ⟨some 52, .bin .lss (.t 51) (.c (.int .i64 1)), none, true⟩,
  ⟨some 53, .mv (.t 52), none, true⟩,
  ⟨some 54, .fad 5 (.t 1), some (53, false), true⟩,
  ⟨some 55, .load false 1 (.t 54), some (53, false), true⟩,
  ⟨some 56, .bin .gtr (.t 55) (.c (.int .i64 4)), some (53, false), true⟩,
  ⟨some 57, .pick (.t 53) (.c (.bool true)) (.t 56), none, true⟩,
  ⟨some 58, .mv (.t 57), none, true⟩,
  ⟨some 59, .fad 0 (.t 1), some (58, false), true⟩,
  ⟨some 60, .fad 0 (.t 59), some (58, false), true⟩,
  ⟨some 61, .load false 1 (.t 60), some (58, false), true⟩,
  ⟨some 62, .bin .rem (.t 61) (.c (.int .i64 16)), some (58, false), true⟩,
  ⟨some 63, .bin .neq (.t 62) (.c (.int .i64 0)), some (58, false), true⟩,
  ⟨some 64, .pick (.t 58) (.c (.bool true)) (.t 63), none, true⟩,
  ⟨some 65, .mv (.t 64), none, true⟩,
  ⟨some 66, .fad 0 (.t 1), some (65, false), true⟩,
  ⟨some 67, .fad 1 (.t 66), some (65, false), true⟩,
  ⟨some 68, .load false 1 (.t 67), some (65, false), true⟩,
  ⟨some 69, .bin .rem (.t 68) (.c (.int .i64 16)), some (65, false), true⟩,
  ⟨some 70, .bin .neq (.t 69) (.c (.int .i64 0)), some (65, false), true⟩,
  ⟨some 71, .pick (.t 65) (.c (.bool true)) (.t 70), none, true⟩] (some [1, 3, 71]) []) (
(.cond (.t 71) (
  (.seq (
  .reg none [
    ⟨some 2, .as (.c (.bool false)), none, true⟩] (some [2]) []) (
  .ret))) (
  .skip))))) (
(.seq (
.reg none [
  ⟨some 72, .mv (.t 3), none, true⟩,
  ⟨some 73, .bin .sub (.c (.int .i64 100)) (.t 72), none, true⟩,
  ⟨some 74, .bin .mul (.t 73) (.c (.int .i64 4394000)), none, true⟩,
  ⟨some 6, .as (.t 74), none, true⟩] (some [1, 6]) []) (
(.seq (
.reg none [
  ⟨some 75, .fad 0 (.t 1), none, true⟩,
  ⟨some 76, .fad 0 (.t 75), none, true⟩,
  ⟨some 77, .load false 1 (.t 76), none, true⟩,
  ⟨some 78, .fad 0 (.t 1), none, true⟩,
  ⟨some 79, .fad 1 (.t 78), none, true⟩,
  ⟨some 80, .load false 1 (.t 79), none, true⟩,
  ⟨some 81, .mn [.t 77, .t 80], none, true⟩,
  ⟨some 82, .mv (.t 6), none, true⟩,
  ⟨some 83, .un .neg (.t 82), none, true⟩,
  ⟨some 84, .bin .geq (.t 81) (.t 83), none, true⟩,
  ⟨some 85, .mv (.t 84), none, true⟩,
  ⟨some 86, .fad 0 (.t 1), some (85, true), true⟩,
  ⟨some 87, .fad 0 (.t 86), some (85, true), true⟩,
  ⟨some 88, .load false 1 (.t 87), some (85, true), true⟩,
  ⟨some 89, .fad 0 (.t 1), some (85, true), true⟩,
  ⟨some 90, .fad 1 (.t 89), some (85, true), true⟩,
  ⟨some 91, .load false 1 (.t 90), some (85, true), true⟩,
  ⟨some 92, .mx [.t 88, .t 91], some (85, true), true⟩,
  ⟨some 93, .mv (.t 6), some (85, true), true⟩,
  ⟨some 94, .bin .leq (.t 92) (.t 93), some (85, true), true⟩,
  ⟨some 95, .pick (.t 85) (.t 94) (.c (.bool false)), none, true⟩,
  ⟨some 2, .as (.t 95), none, true⟩] (some [2]) [1]) (
.ret)))))))))))))
def A16_L0b : ACode := 
  (.seq (
  (.seq (
  .reg none [
    ⟨some 33, .mv (.t 4), none, true⟩,
    ⟨some 34, .bin .lss (.t 33) (.c (.int .i64 3)), none, true⟩] (some [1, 3, 4, 34]) []) (
  (.cond (.t 34) (
    .skip) (
    .exit 0))))) (
  (.seq (
  (.block 1 (
  (.seq (
  (.seq (
  .reg (some [.dr [] [], .dr [] [], .free, .free, .free, .free, .dr [] [], .dr [] [], .free, .free, .free, .free, .free, .dr [] [], .dr [] [], .free, .free, .free, .free, .free, .dr [] [], .dr [] [], .free, .free, .free, .free, .free, .dr [] [], .dr [] [], .free, .free, .free, .free, .free, .dr [] [], .dr [] [], .free, .free, .free, .free, .free, .dr [85] [], .dr [85] [], .dr [85] [], .dr [85] [], .dr [81] [], .dr [81] [], .dr [81] [], .dr [81] [], .free, .free]) [
    ⟨some 37, .mv (.t 4), none, true⟩,
    ⟨some 38, .fad 2 (.t 1), none, true⟩,
    ⟨some 39, .iaa 3 1 (.t 38) (.t 37), none, true⟩,
    ⟨some 40, .load false 1 (.t 39), none, true⟩,
    ⟨some 41, .bin .lss (.t 40) (.c (.int .i64 1)), none, true⟩,
    ⟨some 42, .mv (.t 41), none, true⟩,
    ⟨some 43, .mv (.t 4), some (42, false), true⟩,
    ⟨some 44, .fad 2 (.t 1), some (42, false), true⟩,
    ⟨some 45, .iaa 3 1 (.t 44) (.t 43), some (42, false), true⟩,
    ⟨some 46, .load false 1 (.t 45), some (42, false), true⟩,
    ⟨some 47, .bin .gtr (.t 46) (.c (.int .i64 40)), some (42, false), true⟩,
    ⟨some 48, .pick (.t 42) (.c (.bool true)) (.t 47), none, true⟩,
    ⟨some 49, .mv (.t 48), none, true⟩,
    ⟨some 50, .mv (.t 4), some (49, false), true⟩,
    ⟨some 51, .fad 6 (.t 1), some (49, false), true⟩,
    ⟨some 52, .iaa 3 1 (.t 51) (.t 50), some (49, false), true⟩,
    ⟨some 53, .load false 1 (.t 52), some (49, false), true⟩,
    ⟨some 54, .bin .lss (.t 53) (.c (.int .i64 (-17))), some (49, false), true⟩,
    ⟨some 55, .pick (.t 49) (.c (.bool true)) (.t 54), none, true⟩,
    ⟨some 56, .mv (.t 55), none, true⟩,
    ⟨some 57, .mv (.t 4), some (56, false), true⟩,
    ⟨some 58, .fad 6 (.t 1), some (56, false), true⟩,
    ⟨some 59, .iaa 3 1 (.t 58) (.t 57), some (56, false), true⟩,
    ⟨some 60, .load false 1 (.t 59), some (56, false), true⟩,
    ⟨some 61, .bin .gtr (.t 60) (.c (.int .i64 18)), some (56, false), true⟩,
    ⟨some 62, .pick (.t 56) (.c (.bool true)) (.t 61), none, true⟩,
    ⟨some 63, .mv (.t 62), none, true⟩,
    ⟨some 64, .mv (.t 4), some (63, false), true⟩,
    ⟨some 65, .fad 9 (.t 1), some (63, false), true⟩,
    ⟨some 66, .iaa 3 1 (.t 65) (.t 64), some (63, false), true⟩,
    ⟨some 67, .load false 1 (.t 66), some (63, false), true⟩,
    ⟨some 68, .bin .lss (.t 67) (.c (.int .i64 (-17))), some (63, false), true⟩,
    ⟨some 69, .pick (.t 63) (.c (.bool true)) (.t 68), none, true⟩,
    ⟨some 70, .mv (.t 69), none, true⟩,
    ⟨some 71, .mv (.t 4), some (70, false), true⟩,
    ⟨some 72, .fad 9 (.t 1), some (70, false), true⟩,
    ⟨some 73, .iaa 3 1 (.t 72) (.t 71), some (70, false), true⟩,
    ⟨some 74, .load false 1 (.t 73), some (70, false), true⟩,
    ⟨some 75, .bin .gtr (.t 74) (.c (.int .i64 18)), some (70, false), true⟩,
    ⟨some 76, .pick (.t 70) (.c (.bool true)) (.t 75), none, true⟩,
    ⟨some 77, .mv (.t 76), none, true⟩,
    ⟨some 78, .mv (.t 4), some (77, false), true⟩,
    ⟨some 79, .fad 6 (.t 1), some (77, false), true⟩,
    ⟨some 80, .iaa 3 1 (.t 79) (.t 78), some (77, false), true⟩,
    ⟨some 81, .load false 1 (.t 80), some (77, false), true⟩,
    ⟨some 82, .mv (.t 4), some (77, false), true⟩,
    ⟨some 83, .fad 9 (.t 1), some (77, false), true⟩,
    ⟨some 84, .iaa 3 1 (.t 83) (.t 82), some (77, false), true⟩,
    ⟨some 85, .load false 1 (.t 84), some (77, false), true⟩,
    ⟨some 86, .bin .gtr (.t 81) (.t 85), some (77, false), true⟩,
    ⟨some 87, .pick (.t 77) (.c (.bool true)) (.t 86), none, true⟩] (some [1, 3, 4, 87]) []) (
  (.cond (.t 87) (
    (.seq (
    .reg none [
      ⟨some 2, .as (.c (.bool false)), none, true⟩] (some [2]) []) (
    .ret))) (
    .skip))))) (
  .reg none [
    ⟨some 88, .mv (.t 3), none, true⟩,
    ⟨some 89, .mv (.t 4), none, true⟩,
    ⟨some 90, .fad 2 (.t 1), none, true⟩,
    ⟨some 91, .iaa 3 1 (.t 90) (.t 89), none, true⟩,
    ⟨some 92, .load false 1 (.t 91), none, true⟩,
    ⟨some 93, .bin .add (.t 88) (.t 92), none, true⟩,
    ⟨some 3, .as (.t 93), none, true⟩] (some [1, 3, 4]) []))) (some [1, 3, 4]) [2])) (
  .reg none [
    ⟨some 35, .mv (.t 4), none, true⟩,
    ⟨some 36, .bin .add (.t 35) (.c (.int .i64 1)), none, true⟩,
    ⟨some 4, .as (.t 36), none, true⟩] (some [1, 3, 4]) []))))
def A16_L0 : ACode := .loop A16_L0b (some [1, 3, 4]) [2]
/-- ambidexter/ambidexterref07.Right -/
def A16 : AFn := .code [.t 2] (
(.seq (
.reg none [
  ⟨some 1, .box (.t 0), none, true⟩,
  ⟨some 2, .as (.c (.bool false)), none, true⟩] (some [1]) []) (
(.seq (
(.seq (
.reg none [
  ⟨some 5, .load true 12 (.t 1), none, true⟩,
  ⟨some 6, .call 46 [.t 5], none, true⟩,
  ⟨some 7, .mv (.t 6), none, true⟩,
  ⟨some 8, .fad 5 (.t 1), some (7, false), true⟩,
  ⟨some 9, .load false 1 (.t 8), some (7, false), true⟩,
  ⟨some 10, .bin .lss (.t 9) (.c (.int .i64 1)), some (7, false), true⟩,
  ⟨some 11, .pick (.t 7) (.c (.bool true)) (.t 10), none, true⟩,
  ⟨some 12, .mv (.t 11), none, true⟩,
  ⟨some 13, .fad 5 (.t 1), some (12, false), true⟩,
  ⟨some 14, .load false 1 (.t 13), some (12, false), true⟩,
  ⟨some 15, .bin .gtr (.t 14) (.c (.int .i64 4)), some (12, false), true⟩,
  ⟨some 16, .pick (.t 12) (.c (.bool true)) (.t 15), none, true⟩,
  ⟨some 17, .mv (.t 16), none, true⟩,
  ⟨some 18, .fad 0 (.t 1), some (17, false), true⟩,
  ⟨some 19, .fad 0 (.t 18), some (17, false), true⟩,
  ⟨some 20, .load false 1 (.t 19), some (17, false), true⟩,
  ⟨some 21, .bin .rem (.t 20) (.c (.int .i64 16)), some (17, false), true⟩,
  ⟨some 22, .bin .neq (.t 21) (.c (.int .i64 0)), some (17, false), true⟩,
  ⟨some 23, .pick (.t 17) (.c (.bool true)) (.t 22), none, true⟩,
  ⟨some 24, .mv (.t 23), none, true⟩,
  ⟨some 25, .fad 0 (.t 1), some (24, false), true⟩,
  ⟨some 26, .fad 1 (.t 25), some (24, false), true⟩,
  ⟨some 27, .load false 1 (.t 26), some (24, false), true⟩,
  ⟨some 28, .bin .rem (.t 27) (.c (.int .i64 16)), some (24, false), true⟩,
  ⟨some 29, .bin .neq (.t 28) (.c (.int .i64 0)), some (24, false), true⟩,
  ⟨some 30, .pick (.t 24) (.c (.bool true)) (.t 29), none, true⟩] (some [1, 30]) []) (
(.cond (.t 30) (
  (.seq (
  .reg none [
    ⟨some 2, .as (.c (.bool false)), none, true⟩] (some [2]) []) (
  .ret))) (
  .skip))))) (
(.seq (
.reg none [
  ⟨some 31, .fad 5 (.t 1), none, true⟩,
  ⟨some 32, .load false 1 (.t 31), none, true⟩,
  ⟨some 3, .as (.t 32), none, true⟩] (some [1, 3]) []) (
(.seq (
(.seq (
.reg none [
  ⟨some 4, .as (.c (.int .i64 0)), none, true⟩] (some [1, 3, 4]) []) (
(.block 0 (
A16_L0) (some [1, 3]) [2, 4])))) (
(.seq (
.reg none [
  ⟨some 94, .fad 0 (.t 1), none, true⟩,
  ⟨some 95, .fad 0 (.t 94), none, true⟩,
  ⟨some 96, .load false 1 (.t 95), none, true⟩,
  ⟨some 97, .call 47 [.t 96], none, true⟩,
  ⟨some 98, .mv (.t 3), none, true⟩,
  ⟨some 99, .bin .mul (.t 98) (.c (.int .i64 4394000)), none, true⟩,
  ⟨some 100, .bin .add (.t 97) (.t 99), none, true⟩,
  ⟨some 101, .bin .leq (.t 100) (.c (.int .i64 439400000)), none, true⟩,
  ⟨some 102, .mv (.t 101), none, true⟩,
  ⟨some 103, .fad 0 (.t 1), some (102, true), true⟩,
  ⟨some 104, .fad 1 (.t 103), some (102, true), true⟩,
  ⟨some 105, .load false 1 (.t 104), some (102, true), true⟩,
  ⟨some 106, .call 47 [.t 105], some (102, true), true⟩,
  ⟨some 107, .mv (.t 3), some (102, true), true⟩,
  ⟨some 108, .bin .mul (.t 107) (.c (.int .i64 4394000)), some (102, true), true⟩,
  ⟨some 109, .bin .add (.t 106) (.t 108), some (102, true), true⟩,
  ⟨some 110, .bin .leq (.t 109) (.c (.int .i64 439400000)), some (102, true), true⟩,
  ⟨some 111, .pick (.t 102) (.t 110) (.c (.bool false)), none, true⟩,
  ⟨some 2, .as (.t 111), none, true⟩] (some [2]) [1]) (
.ret)))))))))))
def A17_L0b : ACode := 
  (.seq (
  .reg none [
    ⟨some 9, .bin .lss (.t 8) (.c (.int .i64 3)), none, true⟩] (some [2, 7, 8, 9]) []) (
  (.seq (
  (.cond (.t 9) (
    .skip) (
    .exit 0))) (
  (.seq (
  (.block 1 (
  (.seq (
  .reg none [
    ⟨some 10, .mv (.t 8), none, true⟩,
    ⟨some 11, .ixa false 3 1 (.t 7) (.t 8), none, true⟩,
    ⟨some 5, .as (.t 10), none, true⟩,
    ⟨some 6, .as (.t 11), none, true⟩] (some [2, 5, 6, 7, 8]) []) (
  (.seq (
  .reg none [
    ⟨some 12, .mv (.t 6), none, true⟩,
    ⟨some 13, .mv (.t 5), none, true⟩,
    ⟨some 14, .fad 6 (.t 2), none, true⟩,
    ⟨some 15, .iaa 3 1 (.t 14) (.t 13), none, true⟩,
    ⟨some 16, .load false 1 (.t 15), none, true⟩,
    ⟨some 17, .bin .lss (.t 12) (.t 16), none, true⟩,
    ⟨some 18, .mv (.t 17), none, true⟩,
    ⟨some 19, .mv (.t 6), some (18, false), true⟩,
    ⟨some 20, .mv (.t 5), some (18, false), true⟩,
    ⟨some 21, .fad 9 (.t 2), some (18, false), true⟩,
    ⟨some 22, .iaa 3 1 (.t 21) (.t 20), some (18, false), true⟩,
    ⟨some 23, .load false 1 (.t 22), some (18, false), true⟩,
    ⟨some 24, .bin .gtr (.t 19) (.t 23), some (18, false), true⟩,
    ⟨some 25, .pick (.t 18) (.c (.bool true)) (.t 24), none, true⟩] (some [2, 7, 8, 25]) []) (
  (.cond (.t 25) (
    (.seq (
    .reg none [
      ⟨some 4, .as (.c (.bool false)), none, true⟩] (some [4]) []) (
    .ret))) (
    .skip))))))) (some [2, 7, 8]) [4, 5, 6])) (
  .reg none [
    ⟨some 26, .bin .add (.t 8) (.c (.int .i64 1)), none, true⟩,
    ⟨some 8, .mv (.t 26), none, true⟩] (some [2, 7, 8]) []))))))
def A17_L0 : ACode := .loop A17_L0b (some [2, 7, 8]) [4, 5, 6]
/-- ambidexter/arm.InLimits -/
def A17 : AFn := .code [.t 4] (
(.seq (
.reg none [
  ⟨some 2, .box (.t 0), none, true⟩,
  ⟨some 3, .box (.t 1), none, true⟩,
  ⟨some 4, .as (.c (.bool false)), none, true⟩] (some [2, 3]) []) (
(.seq (
(.seq (
.reg none [
  ⟨some 7, .load true 3 (.t 3), none, true⟩,
  ⟨some 8, .mv (.c (.int .i64 0)), none, true⟩] (some [2, 7, 8]) [3]) (
(.block 0 (
A17_L0) (some []) [4, 5, 6])))) (
(.seq (
.reg none [
  ⟨some 4, .as (.c (.bool true)), none, true⟩] (some [4]) []) (
.ret)))))))
def A18_L0b : ACode := 
  (.seq (
  (.seq (
  .reg none [
    ⟨some 6, .mv (.t 5), none, true⟩,
    ⟨some 7, .bin .lss (.t 6) (.c (.int .i64 3)), none, true⟩] (some [2, 3, 5, 7]) []) (
  (.cond (.t 7) (
    .skip) (
    .exit 0))))) (
  (.seq (
  (.block 1 (
  (.seq (
  .reg (some [.dr [16] [], .dr [16] [], .dr [16] [], .dr [12] [], .dr [12] [], .dr [12] [], .dr [12] [], .free, .free, .dr [25] [], .dr [25] [], .dr [25] [], .dr [21] [], .dr [21] [], .dr [21] [], .dr [21] [], .free, .free]) [
    ⟨some 10, .mv (.t 5), none, true⟩,
    ⟨some 11, .iaa 3 1 (.t 3) (.t 10), none, true⟩,
    ⟨some 12, .load false 1 (.t 11), none, true⟩,
    ⟨some 13, .mv (.t 5), none, true⟩,
    ⟨some 14, .fad 6 (.t 2), none, true⟩,
    ⟨some 15, .iaa 3 1 (.t 14) (.t 13), none, true⟩,
    ⟨some 16, .load false 1 (.t 15), none, true⟩,
    ⟨some 17, .bin .lss (.t 12) (.t 16), none, true⟩,
    ⟨some 18, .mv (.t 17), none, true⟩,
    ⟨some 19, .mv (.t 5), some (18, false), true⟩,
    ⟨some 20, .iaa 3 1 (.t 3) (.t 19), some (18, false), true⟩,
    ⟨some 21, .load false 1 (.t 20), some (18, false), true⟩,
    ⟨some 22, .mv (.t 5), some (18, false), true⟩,
    ⟨some 23, .fad 9 (.t 2), some (18, false), true⟩,
    ⟨some 24, .iaa 3 1 (.t 23) (.t 22), some (18, false), true⟩,
    ⟨some 25, .load false 1 (.t 24), some (18, false), true⟩,
    ⟨some 26, .bin .gtr (.t 21) (.t 25), some (18, false), true⟩,
    ⟨some 27, .pick (.t 18) (.c (.bool true)) (.t 26), none, true⟩] (some [2, 3, 5, 27]) []) (
  (.cond (.t 27) (
    (.seq (
    .reg none [
      ⟨some 4, .as (.c (.bool false)), none, true⟩] (some [4]) []) (
    .ret))) (
    .skip))))) (some [2, 3, 5]) [4])) (
  .reg none [
    ⟨some 8, .mv (.t 5), none, true⟩,
    ⟨some 9, .bin .add (.t 8) (.c (.int .i64 1)), none, true⟩,
    ⟨some 5, .as (.t 9), none, true⟩] (some [2, 3, 5]) []))))
def A18_L0 : ACode := .loop A18_L0b (some [2, 3, 5]) [4]
/-- ambidexter/ambidexterref07.Fits -/
def A18 : AFn := .code [.t 4] (
(.seq (
.reg none [
  ⟨some 2, .box (.t 0), none, true⟩,
  ⟨some 3, .box (.t 1), none, true⟩,
  ⟨some 4, .as (.c (.bool false)), none, true⟩] (some [2, 3]) []) (
(.seq (
(.seq (
.reg none [
  ⟨some 5, .as (.c (.int .i64 0)), none, true⟩] (some [2, 3, 5]) []) (
(.block 0 (
A18_L0) (some []) [4, 5])))) (
(.seq (
.reg none [
  ⟨some 4, .as (.c (.bool true)), none, true⟩] (some [4]) []) (
.ret)))))))
def A19_L0b : ACode := 
  (.seq (
  (.seq (
  .reg none [
    ⟨some 8, .mv (.t 6), none, true⟩,
    ⟨some 9, .bin .lss (.t 8) (.c (.int .i64 3)), none, true⟩] (some [2, 3, 4, 5, 6, 9]) []) (
  (.cond (.t 9) (
    .skip) (
    .exit 0))))) (
  (.seq (
  (.block 1 (
  .reg (some [.dr [16, 19, 24, 28] [], .dr [19, 24, 28] [], .dr [19, 24, 28] [], .dr [19, 24, 28] [], .dr [19, 24, 28] [], .dr [16, 24, 28] [], .dr [16, 24, 28] [], .dr [16, 24, 28] [], .dr [16, 24, 28] [], .dr [16, 19, 28] [], .dr [16, 19, 28] [], .dr [16, 19, 28] [], .dr [16, 19, 28] [], .dr [16, 19, 24] [], .dr [16, 19, 24] [], .dr [16, 19, 24] [], .dr [16, 19, 24] [], .dr [16, 19] [], .dr [16, 19] [], .dr [16] [], .dr [] [], .free, .free]) [
    ⟨some 12, .mv (.t 6), none, true⟩,
    ⟨some 13, .mv (.t 6), none, true⟩,
    ⟨some 14, .fad 6 (.t 2), none, true⟩,
    ⟨some 15, .iaa 3 1 (.t 14) (.t 13), none, true⟩,
    ⟨some 16, .load false 1 (.t 15), none, true⟩,
    ⟨some 17, .mv (.t 6), none, true⟩,
    ⟨some 18, .iaa 3 1 (.t 3) (.t 17), none, true⟩,
    ⟨some 19, .load false 1 (.t 18), none, true⟩,
    ⟨some 20, .conv .i64 (.t 19), none, true⟩,
    ⟨some 21, .mv (.t 6), none, true⟩,
    ⟨some 22, .fad 9 (.t 2), none, true⟩,
    ⟨some 23, .iaa 3 1 (.t 22) (.t 21), none, true⟩,
    ⟨some 24, .load false 1 (.t 23), none, true⟩,
    ⟨some 25, .mv (.t 6), none, true⟩,
    ⟨some 26, .fad 6 (.t 2), none, true⟩,
    ⟨some 27, .iaa 3 1 (.t 26) (.t 25), none, true⟩,
    ⟨some 28, .load false 1 (.t 27), none, true⟩,
    ⟨some 29, .bin .sub (.t 24) (.t 28), none, true⟩,
    ⟨some 30, .bin .add (.t 29) (.c (.int .i64 1)), none, true⟩,
    ⟨some 31, .bin .rem (.t 20) (.t 30), none, true⟩,
    ⟨some 32, .bin .add (.t 16) (.t 31), none, true⟩,
    ⟨some 33, .iaa 3 1 (.t 5) (.t 12), none, true⟩,
    ⟨none, .store 1 (.t 33) (.t 32), none, true⟩] (some [2, 3, 4, 5, 6]) []) (some [2, 3, 4, 5, 6]) [])) (
  .reg none [
    ⟨some 10, .mv (.t 6), none, true⟩,
    ⟨some 11, .bin .add (.t 10) (.c (.int .i64 1)), none, true⟩,
    ⟨some 6, .as (.t 11), none, true⟩] (some [2, 3, 4, 5, 6]) []))))
def A19_L0 : ACode := .loop A19_L0b (some [2, 3, 4, 5, 6]) []
/-- ambidexter/ambidexterref07.Joint -/
def A19 : AFn := .code [.cell true 3 4] (
(.seq (
.reg none [
  ⟨some 2, .box (.t 0), none, true⟩,
  ⟨some 3, .box (.t 1), none, true⟩,
  ⟨some 4, .alloc [.int .i64 0, .int .i64 0, .int .i64 0], none, true⟩] (some [2, 3, 4]) []) (
(.seq (
.reg none [
  ⟨some 7, .build [.int .i64 0, .int .i64 0, .int .i64 0] [], none, true⟩,
  ⟨some 5, .alloc [.int .i64 0, .int .i64 0, .int .i64 0], none, true⟩,
  ⟨none, .store 3 (.t 5) (.t 7), none, true⟩] (some [2, 3, 4, 5]) []) (
(.seq (
(.seq (
.reg none [
  ⟨some 6, .as (.c (.int .i64 0)), none, true⟩] (some [2, 3, 4, 5, 6]) []) (
(.block 0 (
A19_L0) (some [4, 5]) [6])))) (
(.seq (
.reg none [
  ⟨some 34, .load true 3 (.t 5), none, true⟩,
  ⟨none, .store 3 (.t 4) (.t 34), none, true⟩] (some [4]) [5]) (
.ret)))))))))
def A20_L0b : ACode := 
  (.seq (
  .reg none [
    ⟨some 24, .bin .lss (.t 23) (.c (.int .i64 3)), none, true⟩] (some [4, 5, 6, 7, 22, 23, 24]) []) (
  (.seq (
  (.cond (.t 24) (
    .skip) (
    .exit 0))) (
  (.seq (
  (.block 1 (
  (.seq (
  .reg none [
    ⟨some 25, .mv (.t 23), none, true⟩,
    ⟨some 26, .ixa true 3 3 (.t 22) (.t 23), none, true⟩,
    ⟨some 9, .alloc [.int .i64 0, .int .i64 0, .int .i64 0], none, true⟩,
    ⟨some 8, .as (.t 25), none, true⟩,
    ⟨none, .store 3 (.t 9) (.t 26), none, true⟩] (some [4, 5, 6, 7, 8, 9, 22, 23]) []) (
  .reg (some [.loc, .loc, .loc, .loc, .loc, .loc, .dr [29, 32, 36] [], .dr [28, 32, 36] [], .dr [28, 29, 36] [], .dr [28, 29, 32] [], .free, .free, .free]) [
    ⟨some 27, .mv (.t 8), none, true⟩,
    ⟨some 30, .mv (.t 8), none, true⟩,
    ⟨some 31, .iaa 4 2 (.t 7) (.t 30), none, true⟩,
    ⟨some 33, .mv (.t 8), none, true⟩,
    ⟨some 34, .bin .add (.t 33) (.c (.int .i64 1)), none, true⟩,
    ⟨some 35, .iaa 4 2 (.t 7) (.t 34), none, true⟩,
    ⟨some 28, .load true 15 (.t 6), none, true⟩,
    ⟨some 29, .load true 3 (.t 9), none, true⟩,
    ⟨some 32, .load true 2 (.t 31), none, true⟩,
    ⟨some 36, .load true 2 (.t 35), none, true⟩,
    ⟨some 37, .call 48 [.t 28, .t 29, .t 32, .t 36], none, true⟩,
    ⟨some 38, .iaa 3 1 (.t 5) (.t 27), none, true⟩,
    ⟨none, .store 1 (.t 38) (.t 37), none, true⟩] (some [4, 5, 6, 7, 22, 23]) [9]))) (some [4, 5, 6, 7, 22, 23]) [8, 9, 37])) (
  .reg none [
    ⟨some 39, .bin .add (.t 23) (.c (.int .i64 1)), none, true⟩,
    ⟨some 23, .mv (.t 39), none, true⟩] (some [4, 5, 6, 7, 22, 23]) []))))))
def A20_L0 : ACode := .loop A20_L0b (some [4, 5, 6, 7, 22, 23]) [8, 9, 37]
/-- ambidexter/arm.LinkPolygons -/
def A20 : AFn := .code [.cell true 3 4] (
(.seq (
.reg none [
  ⟨some 2, .box (.t 0), none, true⟩,
  ⟨some 3, .box (.t 1), none, true⟩,
  ⟨some 4, .alloc [.nils 2, .nils 2, .nils 2], none, true⟩] (some [2, 3, 4]) []) (
(.seq (
.reg none [
  ⟨some 5, .alloc [.nils 2, .nils 2, .nils 2], none, true⟩] (some [2, 3, 4, 5]) []) (
(.seq (
.reg none [
  ⟨some 10, .load true 12 (.t 2), none, true⟩,
  ⟨some 11, .load true 3 (.t 3), none, true⟩,
  ⟨some 12, .build [.int .i64 0, .int .i64 0, .int .i64 0, .int .i64 0, .int .i64 0, .int .i64 0, .int .i64 0, .int .i64 0, .int .i64 0, .int .i64 0, .int .i64 0, .int .i64 0, .int .i64 0, .int .i64 0, .int .i64 0] [(0, 12, .t 10), (12, 3, .t 11)], none, true⟩,
  ⟨some 6, .alloc [.int .i64 0, .int .i64 0, .int .i64 0, .int .i64 0, .int .i64 0, .int .i64 0, .int .i64 0, .int .i64 0, .int .i64 0, .int .i64 0, .int .i64 0, .int .i64 0, .int .i64 0, .int .i64 0, .int .i64 0], none, true⟩,
  ⟨none, .store 15 (.t 6) (.t 12), none, true⟩] (some [4, 5, 6]) [2, 3]) (
(.seq (
.reg none [
  ⟨some 13, .fad 0 (.t 6), none, true⟩,
  ⟨some 14, .load true 12 (.t 13), none, true⟩,
  ⟨some 15, .fad 12 (.t 6), none, true⟩,
  ⟨some 16, .load true 3 (.t 15), none, true⟩,
  ⟨some 17, .call 27 [.t 14, .t 16], none, true⟩,
  ⟨some 7, .alloc [.int .i64 0, .int .i64 0, .int .i64 0, .int .i64 0, .int .i64 0, .int .i64 0, .int .i64 0, .int .i64 0], none, true⟩,
  ⟨none, .store 8 (.t 7) (.t 17), none, true⟩] (some [4, 5, 6, 7]) []) (
(.seq (
(.seq (
.reg none [
  ⟨some 18, .fad 0 (.t 6), none, true⟩,
  ⟨some 19, .load true 12 (.t 18), none, true⟩,
  ⟨some 20, .fad 12 (.t 6), none, true⟩,
  ⟨some 21, .load true 3 (.t 20), none, true⟩,
  ⟨some 22, .call 25 [.t 19, .t 21], none, true⟩,
  ⟨some 23, .mv (.c (.int .i64 0)), none, true⟩] (some [4, 5, 6, 7, 22, 23]) []) (
(.block 0 (
A20_L0) (some [4, 5]) [8, 9, 37])))) (
(.seq (
.reg none [
  ⟨some 40, .load true 3 (.t 5), none, true⟩,
  ⟨none, .store 3 (.t 4) (.t 40), none, true⟩] (some [4]) [5]) (
.ret)))))))))))))
def A25_L0b : ACode := 
  (.seq (
  .reg none [
    ⟨some 12, .bin .lss (.t 11) (.c (.int .i64 3)), none, true⟩] (some [4, 5, 6, 10, 11, 12]) []) (
  (.seq (
  (.cond (.t 12) (
    .skip) (
    .exit 0))) (
  (.seq (
  (.block 1 (
  (.seq (
  .reg none [
    ⟨some 13, .mv (.t 11), none, true⟩,
    ⟨some 14, .ixa false 3 1 (.t 10) (.t 11), none, true⟩,
    ⟨some 7, .as (.t 13), none, true⟩,
    ⟨some 8, .as (.t 14), none, true⟩] (some [4, 5, 6, 7, 8, 10, 11]) []) (
  (.seq (
  .reg none [
    ⟨some 15, .load true 3 (.t 6), none, true⟩,
    ⟨some 16, .mv (.t 8), none, true⟩,
    ⟨some 17, .call 51 [.t 15, .t 16], none, true⟩,
    ⟨none, .store 3 (.t 6) (.t 17), none, true⟩] (some [4, 5, 6, 7, 10, 11]) []) (
  .reg none [
    ⟨some 18, .mv (.t 7), none, true⟩,
    ⟨some 19, .load true 3 (.t 6), none, true⟩,
    ⟨some 20, .iaa 3 3 (.t 5) (.t 18), none, true⟩,
    ⟨none, .store 3 (.t 20) (.t 19), none, true⟩] (some [4, 5, 6, 10, 11]) []))))) (some [4, 5, 6, 10, 11]) [7, 8])) (
  .reg none [
    ⟨some 21, .bin .add (.t 11) (.c (.int .i64 1)), none, true⟩,
    ⟨some 11, .mv (.t 21), none, true⟩] (some [4, 5, 6, 10, 11]) []))))))
def A25_L0 : ACode := .loop A25_L0b (some [4, 5, 6, 10, 11]) [7, 8]
/-- ambidexter/arm.LinkDirections -/
def A25 : AFn := .code [.cell true 9 4] (
(.seq (
.reg none [
  ⟨some 2, .box (.t 0), none, true⟩,
  ⟨some 3, .box (.t 1), none, true⟩,
  ⟨some 4, .alloc [.int .i64 0, .int .i64 0, .int .i64 0, .int .i64 0, .int .i64 0, .int .i64 0, .int .i64 0, .int .i64 0, .int .i64 0], none, true⟩] (some [3, 4]) [2]) (
(.seq (
.reg none [
  ⟨some 5, .alloc [.int .i64 0, .int .i64 0, .int .i64 0, .int .i64 0, .int .i64 0, .int .i64 0, .int .i64 0, .int .i64 0, .int .i64 0], none, true⟩] (some [3, 4, 5]) []) (
(.seq (
.reg none [
  ⟨some 9, .build [.int .i64 0, .int .i64 0, .int .i64 0] [(0, 1, .c (.int .i64 1))], none, true⟩,
  ⟨some 6, .alloc [.int .i64 0, .int .i64 0, .int .i64 0], none, true⟩,
  ⟨none, .store 3 (.t 6) (.t 9), none, true⟩] (some [3, 4, 5, 6]) []) (
(.seq (
(.seq (
.reg none [
  ⟨some 10, .load true 3 (.t 3), none, true⟩,
  ⟨some 11, .mv (.c (.int .i64 0)), none, true⟩] (some [4, 5, 6, 10, 11]) [3]) (
(.block 0 (
A25_L0) (some [4, 5]) [7, 8, 17])))) (
(.seq (
.reg none [
  ⟨some 22, .load true 9 (.t 5), none, true⟩,
  ⟨none, .store 9 (.t 4) (.t 22), none, true⟩] (some [4]) [5]) (
.ret)))))))))))
def A27_L0b : ACode := 
  (.seq (
  .reg none [
    ⟨some 20, .bin .lss (.t 19) (.c (.int .i64 3)), none, true⟩] (some [2, 4, 5, 7, 18, 19, 20]) []) (
  (.seq (
  (.cond (.t 20) (
    .skip) (
    .exit 0))) (
  (.seq (
  (.block 1 (
  (.seq (
  .reg none [
    ⟨some 21, .mv (.t 19), none, true⟩,
    ⟨some 22, .ixa true 3 3 (.t 18) (.t 19), none, true⟩,
    ⟨some 9, .alloc [.int .i64 0, .int .i64 0, .int .i64 0], none, true⟩,
    ⟨some 8, .as (.t 21), none, true⟩,
    ⟨none, .store 3 (.t 9) (.t 22), none, true⟩] (some [2, 4, 5, 7, 8, 9, 18, 19]) []) (
  .reg (some [.loc, .loc, .loc, .loc, .loc, .loc, .dr [30] [], .dr [26] [], .free, .free, .free, .free]) [
    ⟨some 23, .mv (.t 8), none, true⟩,
    ⟨some 24, .bin .add (.t 23) (.c (.int .i64 1)), none, true⟩,
    ⟨some 25, .mv (.t 7), none, true⟩,
    ⟨some 27, .mv (.t 8), none, true⟩,
    ⟨some 28, .fad 2 (.t 2), none, true⟩,
    ⟨some 29, .iaa 3 1 (.t 28) (.t 27), none, true⟩,
    ⟨some 26, .load true 3 (.t 9), none, true⟩,
    ⟨some 30, .load false 1 (.t 29), none, true⟩,
    ⟨some 31, .call 55 [.t 26, .t 30], none, true⟩,
    ⟨some 32, .cal (.t 25) [.t 31], none, true⟩,
    ⟨some 33, .iaa 4 2 (.t 5) (.t 24), none, true⟩,
    ⟨none, .store 2 (.t 33) (.t 32), none, true⟩] (some [2, 4, 5, 7, 18, 19]) [9]))) (some [2, 4, 5, 7, 18, 19]) [8, 9, 31, 32])) (
  .reg none [
    ⟨some 34, .bin .add (.t 19) (.c (.int .i64 1)), none, true⟩,
    ⟨some 19, .mv (.t 34), none, true⟩] (some [2, 4, 5, 7, 18, 19]) []))))))
def A27_L0 : ACode := .loop A27_L0b (some [2, 4, 5, 7, 18, 19]) [8, 9, 31, 32]
/-- ambidexter/arm.JointPoints -/
def A27 : AFn := .code [.cell true 8 4] (
(.seq (
.reg none [
  ⟨some 2, .box (.t 0), none, true⟩,
  ⟨some 3, .box (.t 1), none, true⟩,
  ⟨some 4, .alloc [.int .i64 0, .int .i64 0, .int .i64 0, .int .i64 0, .int .i64 0, .int .i64 0, .int .i64 0, .int .i64 0], none, true⟩] (some [2, 3, 4]) []) (
(.seq (
.reg none [
  ⟨some 10, .fad 0 (.t 2), none, true⟩,
  ⟨some 11, .load true 2 (.t 10), none, true⟩,
  ⟨some 12, .build [.int .i64 0, .int .i64 0, .int .i64 0, .int .i64 0, .int .i64 0, .int .i64 0, .int .i64 0, .int .i64 0] [(0, 2, .t 11)], none, true⟩,
  ⟨some 5, .alloc [.int .i64 0, .int .i64 0, .int .i64 0, .int .i64 0, .int .i64 0, .int .i64 0, .int .i64 0, .int .i64 0], none, true⟩,
  ⟨none, .store 8 (.t 5) (.t 12), none, true⟩] (some [2, 3, 4, 5]) []) (
(.seq (
.reg none [
  ⟨some 13, .fad 0 (.t 2), none, true⟩,
  ⟨some 14, .load true 2 (.t 13), none, true⟩,
  ⟨some 6, .alloc [.int .i64 0, .int .i64 0], none, true⟩,
  ⟨none, .store 2 (.t 6) (.t 14), none, true⟩] (some [2, 3, 4, 5, 6]) []) (
(.seq (
.reg none [
  ⟨some 15, .mkf (.func 53) [] [.t 6], none, true⟩,
  ⟨some 7, .as (.t 15), none, true⟩] (some [2, 3, 4, 5, 7]) []) (
(.seq (
(.seq (
.reg none [
  ⟨some 16, .load true 12 (.t 2), none, true⟩,
  ⟨some 17, .load true 3 (.t 3), none, true⟩,
  ⟨some 18, .call 25 [.t 16, .t 17], none, true⟩,
  ⟨some 19, .mv (.c (.int .i64 0)), none, true⟩] (some [2, 4, 5, 7, 18, 19]) [3]) (
(.block 0 (
A27_L0) (some [4, 5]) [8, 9, 31, 32])))) (
(.seq (
.reg none [
  ⟨some 35, .load true 8 (.t 5), none, true⟩,
  ⟨none, .store 8 (.t 4) (.t 35), none, true⟩] (some [4]) [5]) (
.ret)))))))))))))
/-- ambidexter/polygon.Valid -/
def A31 : AFn := .code [.t 2] (
(.seq (
.reg none [
  ⟨some 2, .as (.c (.bool false)), none, true⟩] (some [0]) []) (
(.seq (
(.seq (
.reg none [
  ⟨some 3, .mv (.t 0), none, true⟩,
  ⟨some 4, .len 0 (.t 3), none, true⟩,
  ⟨some 5, .bin .lss (.t 4) (.c (.int .i64 3)), none, true⟩,
  ⟨some 6, .mv (.t 5), none, true⟩,
  ⟨some 7, .mv (.t 0), some (6, false), true⟩,
  ⟨some 8, .len 0 (.t 7), some (6, false), true⟩,
  ⟨some 9, .bin .gtr (.t 8) (.c (.int .i64 12)), some (6, false), true⟩,
  ⟨some 10, .pick (.t 6) (.c (.bool true)) (.t 9), none, true⟩,
  ⟨some 11, .mv (.t 10), none, true⟩,
  ⟨some 12, .mv (.t 0), some (11, false), true⟩,
  ⟨some 13, .call 56 [.t 12, .fu 57], some (11, false), true⟩,
  ⟨some 14, .pick (.t 11) (.c (.bool true)) (.t 13), none, true⟩] (some [0, 14]) []) (
(.cond (.t 14) (
  (.seq (
  .reg none [
    ⟨some 2, .as (.c (.bool false)), none, true⟩] (some [2]) []) (
  .ret))) (
  .skip))))) (
(.seq (
.reg none [
  ⟨some 15, .mv (.t 0), none, true⟩,
  ⟨some 16, .call 59 [.t 15], none, true⟩,
  ⟨some 17, .mv (.t 16), none, true⟩,
  ⟨some 18, .mv (.t 0), some (17, true), true⟩,
  ⟨some 19, .call 32 [.t 18], some (17, true), true⟩,
  ⟨some 20, .bin .gtr (.t 19) (.c (.int .i64 0)), some (17, true), true⟩,
  ⟨some 21, .pick (.t 17) (.t 20) (.c (.bool false)), none, true⟩,
  ⟨some 2, .as (.t 21), none, true⟩] (some [2]) []) (
.ret)))))))
def A32_R0a : ACode := 
  .reg none [
    ⟨some 5, .alloc [.int .i64 0, .int .i64 0, .int .i64 0, .int .i64 0], none, true⟩,
    ⟨none, .store 4 (.t 5) (.t 9), none, true⟩] (some [3, 5]) []
def A32_R0b : ACode := 
  (.block 1 (
  .reg none [
    ⟨some 10, .load false 1 (.t 3), none, true⟩,
    ⟨some 11, .iaa 2 2 (.t 5) (.c (.int .i64 0)), none, true⟩,
    ⟨some 12, .fad 0 (.t 11), none, true⟩,
    ⟨some 13, .load false 1 (.t 12), none, true⟩,
    ⟨some 14, .iaa 2 2 (.t 5) (.c (.int .i64 1)), none, true⟩,
    ⟨some 15, .fad 1 (.t 14), none, true⟩,
    ⟨some 16, .load false 1 (.t 15), none, true⟩,
    ⟨some 17, .bin .mul (.t 13) (.t 16), none, true⟩,
    ⟨some 18, .iaa 2 2 (.t 5) (.c (.int .i64 0)), none, true⟩,
    ⟨some 19, .fad 1 (.t 18), none, true⟩,
    ⟨some 20, .load false 1 (.t 19), none, true⟩,
    ⟨some 21, .iaa 2 2 (.t 5) (.c (.int .i64 1)), none, true⟩,
    ⟨some 22, .fad 0 (.t 21), none, true⟩,
    ⟨some 23, .load false 1 (.t 22), none, true⟩,
    ⟨some 24, .bin .mul (.t 20) (.t 23), none, true⟩,
    ⟨some 25, .bin .sub (.t 17) (.t 24), none, true⟩,
    ⟨some 26, .bin .add (.t 10) (.t 25), none, true⟩,
    ⟨none, .store 1 (.t 3) (.t 26), none, true⟩] (some []) [3, 5]) (some []) [])
def A32_R0 : ACode := .rf 0 (.t 7) [8, 9]  A32_R0a A32_R0b
/-- ambidexter/polygon.DoubleArea -/
def A32 : AFn := .code [.t 2] (
(.seq (
.reg none [
  ⟨some 2, .as (.c (.int .i64 0)), none, true⟩] (some [0, 2]) []) (
(.seq (
.reg none [
  ⟨some 3, .alloc [.int .i64 0], none, true⟩,
  ⟨none, .store 1 (.t 3) (.c (.int .i64 0)), none, true⟩] (some [0, 2, 3]) []) (
(.seq (
(.seq (
.reg none [
  ⟨some 6, .mv (.t 0), none, true⟩,
  ⟨some 7, .call 60 [.t 6], none, true⟩] (some [2, 3, 7]) []) (
(.block 0 (
A32_R0) (some [3]) [5])))) (
(.seq (
.reg none [
  ⟨some 27, .load false 1 (.t 3), none, true⟩,
  ⟨some 2, .as (.t 27), none, true⟩] (some [2]) [3]) (
.ret)))))))))
def A33_R0a : ACode := 
  .reg none [
    ⟨some 7, .alloc [.int .i64 0, .int .i64 0, .int .i64 0, .int .i64 0], none, true⟩,
    ⟨none, .store 4 (.t 7) (.t 13), none, true⟩] (some [3, 4, 5, 7]) []
def A33_R0b : ACode := 
  (.block 1 (
  (.seq (
  .reg (some [.dr [17, 8, 9] [], .dr [17, 8, 9] [], .dr [15, 8, 9] [], .dr [15, 8, 9] [], .dr [15, 17, 9] [], .dr [15, 17, 8] [], .dr [17] [8], .free]) [
    ⟨some 14, .iaa 2 2 (.t 7) (.c (.int .i64 0)), none, true⟩,
    ⟨some 15, .load true 2 (.t 14), none, true⟩,
    ⟨some 16, .iaa 2 2 (.t 7) (.c (.int .i64 1)), none, true⟩,
    ⟨some 17, .load true 2 (.t 16), none, true⟩,
    ⟨some 8, .alloc [.int .i64 0, .int .i64 0], none, true⟩,
    ⟨some 9, .alloc [.int .i64 0, .int .i64 0], none, true⟩,
    ⟨none, .store 2 (.t 8) (.t 15), none, true⟩,
    ⟨none, .store 2 (.t 9) (.t 17), none, true⟩] (some [3, 4, 5, 8, 9]) [7]) (
  (.seq (
  (.seq (
  .reg none [
    ⟨some 18, .load true 2 (.t 8), none, true⟩,
    ⟨some 19, .load true 2 (.t 9), none, true⟩,
    ⟨some 20, .load true 2 (.t 3), none, true⟩,
    ⟨some 21, .call 61 [.t 18, .t 19, .t 20], none, true⟩] (some [3, 4, 5, 8, 9, 21]) []) (
  (.cond (.t 21) (
    (.seq (
    .reg none [
      ⟨none, .store 1 (.t 4) (.c (.int .i64 0)), none, true⟩] (some []) []) (
    .ret))) (
    .skip))))) (
  (.seq (
  (.seq (
  .reg none [
    ⟨some 22, .fad 1 (.t 8), none, true⟩,
    ⟨some 23, .load false 1 (.t 22), none, true⟩,
    ⟨some 24, .fad 1 (.t 3), none, true⟩,
    ⟨some 25, .load false 1 (.t 24), none, true⟩,
    ⟨some 26, .bin .gtr (.t 23) (.t 25), none, true⟩,
    ⟨some 27, .fad 1 (.t 9), none, true⟩,
    ⟨some 28, .load false 1 (.t 27), none, true⟩,
    ⟨some 29, .fad 1 (.t 3), none, true⟩,
    ⟨some 30, .load false 1 (.t 29), none, true⟩,
    ⟨some 31, .bin .gtr (.t 28) (.t 30), none, true⟩,
    ⟨some 32, .bib false (.t 26) (.t 31), none, true⟩] (some [3, 5, 8, 9, 32]) []) (
  (.cond (.t 32) (
    .exit 1) (
    .skip))))) (
  (.seq (
  .reg (some [.dr [34, 35, 39, 41] [], .dr [33, 35, 39, 41] [], .dr [33, 34, 39, 41] [], .dr [39, 41] [], .dr [39, 41] [], .dr [33, 34, 35, 36, 41] [], .dr [33, 34, 35, 36, 41] [], .dr [33, 34, 35, 36, 39] [], .dr [33, 34, 35, 36, 39] [], .dr [33, 34, 35, 36] [], .free]) [
    ⟨some 33, .load true 2 (.t 8), none, true⟩,
    ⟨some 34, .load true 2 (.t 9), none, true⟩,
    ⟨some 35, .load true 2 (.t 3), none, true⟩,
    ⟨some 36, .call 62 [.t 33, .t 34, .t 35], none, true⟩,
    ⟨some 37, .bin .gtr (.t 36) (.c (.int .i64 0)), none, true⟩,
    ⟨some 38, .fad 1 (.t 9), none, true⟩,
    ⟨some 39, .load false 1 (.t 38), none, true⟩,
    ⟨some 40, .fad 1 (.t 8), none, true⟩,
    ⟨some 41, .load false 1 (.t 40), none, true⟩,
    ⟨some 42, .bin .gtr (.t 39) (.t 41), none, true⟩,
    ⟨some 43, .bib false (.t 37) (.t 42), none, true⟩] (some [5, 43]) [3, 8, 9]) (
  (.cond (.t 43) (
    .reg none [
      ⟨some 44, .load false 1 (.t 5), none, true⟩,
      ⟨some 45, .un .not (.t 44), none, true⟩,
      ⟨none, .store 1 (.t 5) (.t 45), none, true⟩] (some []) [5]) (
    .skip))))))))))) (some []) [8, 9, 21, 36])
def A33_R0 : ACode := .rf 0 (.t 11) [12, 13]  A33_R0a A33_R0b
/-- ambidexter/polygon.Locate -/
def A33 : AFn := .code [.cell false 1 4] (
(.seq (
.reg none [
  ⟨some 3, .box (.t 1), none, true⟩,
  ⟨some 4, .alloc [.int .i64 0], none, true⟩] (some [0, 3, 4]) []) (
(.seq (
.reg none [
  ⟨some 5, .alloc [.bool false], none, true⟩,
  ⟨none, .store 1 (.t 5) (.c (.bool false)), none, true⟩] (some [0, 3, 4, 5]) []) (
(.seq (
(.seq (
.reg none [
  ⟨some 10, .mv (.t 0), none, true⟩,
  ⟨some 11, .call 60 [.t 10], none, true⟩] (some [3, 4, 5, 11]) []) (
(.block 0 (
A33_R0) (some [4, 5]) [7, 8, 9, 21, 36])))) (
(.seq (
(.seq (
.reg none [
  ⟨some 46, .load false 1 (.t 5), none, true⟩] (some [4, 46]) [5]) (
(.cond (.t 46) (
  (.seq (
  .reg none [
    ⟨none, .store 1 (.t 4) (.c (.int .i64 1)), none, true⟩] (some [4]) []) (
  .ret))) (
  .skip))))) (
(.seq (
.reg none [
  ⟨none, .store 1 (.t 4) (.c (.int .i64 (-1))), none, true⟩] (some [4]) []) (
.ret)))))))))))
/-- ambidexter/ambidextertop.head07 -/
def A34 : AFn := .code [.t 0] (
(.seq (
.reg none [
  ⟨some 0, .as (.c (.bool false)), none, true⟩] (some []) []) (
(.seq (
.reg none [
  ⟨some 5, .call 63 [], none, true⟩,
  ⟨some 1, .alloc [.int .i64 0, .int .i64 0, .int .i64 0, .int .i64 0, .int .i64 0, .int .i64 0, .int .i64 0, .int .i64 0, .int .i64 0, .int .i64 0, .int .i64 0, .int .i64 0], none, true⟩,
  ⟨none, .store 12 (.t 1) (.t 5), none, true⟩] (some [1]) []) (
(.seq (
.reg none [
  ⟨some 6, .load true 12 (.t 1), none, true⟩,
  ⟨some 7, .build [.int .i64 0, .int .i64 0, .int .i64 0] [(0, 1, .c (.int .i64 0)), (1, 1, .c (.int .i64 9)), (2, 1, .c (.int .i64 0))], none, true⟩,
  ⟨some 8, .call 27 [.t 6, .t 7], none, true⟩,
  ⟨some 2, .alloc [.int .i64 0, .int .i64 0, .int .i64 0, .int .i64 0, .int .i64 0, .int .i64 0, .int .i64 0, .int .i64 0], none, true⟩,
  ⟨none, .store 8 (.t 2) (.t 8), none, true⟩] (some [1, 2]) []) (
(.seq (
.reg none [
  ⟨some 9, .load true 12 (.t 1), none, true⟩,
  ⟨some 10, .build [.int .i64 0, .int .i64 0, .int .i64 0] [(0, 1, .c (.int .i64 0)), (1, 1, .c (.int .i64 0)), (2, 1, .c (.int .i64 0))], none, true⟩,
  ⟨some 11, .call 20 [.t 9, .t 10], none, true⟩,
  ⟨some 3, .alloc [.nils 2, .nils 2, .nils 2], none, true⟩,
  ⟨none, .store 3 (.t 3) (.t 11), none, true⟩] (some [1, 2, 3]) []) (
(.seq (
.reg none [
  ⟨some 4, .as (.c (.int .i64 4394000)), none, true⟩] (some [1, 2, 3, 4]) []) (
(.seq (
.reg none [
  ⟨some 12, .load true 12 (.t 1), none, true⟩,
  ⟨some 13, .call 15 [.t 12], none, true⟩,
  ⟨some 14, .mv (.t 13), none, true⟩,
  ⟨some 15, .load true 12 (.t 1), some (14, true), true⟩,
  ⟨some 16, .build [.int .i64 0, .int .i64 0, .int .i64 0] [(0, 1, .c (.int .i64 18)), (1, 1, .c (.int .i64 (-17))), (2, 1, .c (.int .i64 0))], some (14, true), true⟩,
  ⟨some 17, .call 17 [.t 15, .t 16], some (14, true), true⟩,
  ⟨some 18, .pick (.t 14) (.t 17) (.c (.bool false)), none, true⟩,
  ⟨some 19, .mv (.t 18), none, true⟩,
  ⟨some 20, .iaa 4 2 (.t 2) (.c (.int .i64 1)), some (19, true), true⟩,
  ⟨some 21, .load true 2 (.t 20), some (19, true), true⟩,
  ⟨some 22, .mv (.t 4), some (19, true), true⟩,
  ⟨some 23, .bin .mul (.c (.int .i64 3)) (.t 22), some (19, true), true⟩,
  ⟨some 24, .build [.int .i64 0, .int .i64 0] [(0, 1, .t 23)], some (19, true), true⟩,
  ⟨some 25, .eqa false [0, 0] (.t 21) (.t 24), some (19, true), true⟩,
  ⟨some 26, .pick (.t 19) (.t 25) (.c (.bool false)), none, true⟩,
  ⟨some 27, .mv (.t 26), none, true⟩,
  ⟨some 28, .iaa 4 2 (.t 2) (.c (.int .i64 3)), some (27, true), true⟩,
  ⟨some 29, .load true 2 (.t 28), some (27, true), true⟩,
  ⟨some 30, .mv (.t 4), some (27, true), true⟩,
  ⟨some 31, .bin .mul (.c (.int .i64 3)) (.t 30), some (27, true), true⟩,
  ⟨some 32, .mv (.t 4), some (27, true), true⟩,
  ⟨some 33, .bin .mul (.c (.int .i64 3)) (.t 32), some (27, true), true⟩,
  ⟨some 34, .build [.int .i64 0, .int .i64 0] [(0, 1, .t 31), (1, 1, .t 33)], some (27, true), true⟩,
  ⟨some 35, .eqa false [0, 0] (.t 29) (.t 34), some (27, true), true⟩,
  ⟨some 36, .pick (.t 27) (.t 35) (.c (.bool false)), none, true⟩,
  ⟨some 37, .mv (.t 36), none, true⟩,
  ⟨some 38, .iaa 3 1 (.t 3) (.c (.int .i64 0)), some (37, true), true⟩,
  ⟨some 39, .load false 1 (.t 38), some (37, true), true⟩,
  ⟨some 40, .mv (.t 4), some (37, true), true⟩,
  ⟨some 41, .un .neg (.t 40), some (37, true), true⟩,
  ⟨some 42, .build [.int .i64 0, .int .i64 0] [(0, 1, .c (.int .i64 0)), (1, 1, .t 41)], some (37, true), true⟩,
  ⟨some 43, .mv (.t 4), some (37, true), true⟩,
  ⟨some 44, .bin .mul (.c (.int .i64 3)) (.t 43), some (37, true), true⟩,
  ⟨some 45, .mv (.t 4), some (37, true), true⟩,
  ⟨some 46, .un .neg (.t 45), some (37, true), true⟩,
  ⟨some 47, .build [.int .i64 0, .int .i64 0] [(0, 1, .t 44), (1, 1, .t 46)], some (37, true), true⟩,
  ⟨some 48, .mv (.t 4), some (37, true), true⟩,
  ⟨some 49, .bin .mul (.c (.int .i64 3)) (.t 48), some (37, true), true⟩,
  ⟨some 50, .mv (.t 4), some (37, true), true⟩,
  ⟨some 51, .build [.int .i64 0, .int .i64 0] [(0, 1, .t 49), (1, 1, .t 50)], some (37, true), true⟩,
  ⟨some 52, .mv (.t 4), some (37, true), true⟩,
  ⟨some 53, .build [.int .i64 0, .int .i64 0] [(0, 1, .c (.int .i64 0)), (1, 1, .t 52)], some (37, true), true⟩,
  ⟨some 54, .bsl 2 4 [.int .i64 0, .int .i64 0] [(0, .t 42), (1, .t 47), (2, .t 51), (3, .t 53)], some (37, true), true⟩,
  ⟨some 55, .call 36 [.t 39, .t 54], some (37, true), true⟩,
  ⟨some 56, .pick (.t 37) (.t 55) (.c (.bool false)), none, true⟩,
  ⟨some 57, .mv (.t 56), none, true⟩,
  ⟨some 58, .iaa 3 1 (.t 3) (.c (.int .i64 0)), some (57, true), true⟩,
  ⟨some 59, .load false 1 (.t 58), some (57, true), true⟩,
  ⟨some 60, .iaa 3 1 (.t 3) (.c (.int .i64 1)), some (57, true), true⟩,
  ⟨some 61, .load false 1 (.t 60), some (57, true), true⟩,
  ⟨some 62, .call 37 [.t 59, .t 61], some (57, true), true⟩,
  ⟨some 63, .pick (.t 57) (.t 62) (.c (.bool false)), none, true⟩,
  ⟨some 64, .mv (.t 63), none, true⟩,
  ⟨some 65, .iaa 3 1 (.t 3) (.c (.int .i64 0)), some (64, true), true⟩,
  ⟨some 66, .load false 1 (.t 65), some (64, true), true⟩,
  ⟨some 67, .iaa 3 1 (.t 3) (.c (.int .i64 2)), some (64, true), true⟩,
  ⟨some 68, .load false 1 (.t 67), some (64, true), true⟩,
  ⟨some 69, .call 37 [.t 66, .t 68], some (64, true), true⟩,
  ⟨some 70, .un .not (.t 69), some (64, true), true⟩,
  ⟨some 71, .pick (.t 64) (.t 70) (.c (.bool false)), none, true⟩,
  ⟨some 72, .mv (.t 71), none, true⟩,
  ⟨some 73, .iaa 4 2 (.t 2) (.c (.int .i64 1)), some (72, true), true⟩,
  ⟨some 74, .load true 2 (.t 73), some (72, true), true⟩,
  ⟨some 75, .call 64 [.t 74], some (72, true), true⟩,
  ⟨some 76, .mv (.t 4), some (72, true), true⟩,
  ⟨some 77, .bin .mul (.c (.int .i64 3)) (.t 76), some (72, true), true⟩,
  ⟨some 78, .build [.int .i64 0, .int .i64 0] [(1, 1, .t 77)], some (72, true), true⟩,
  ⟨some 79, .eqa false [0, 0] (.t 75) (.t 78), some (72, true), true⟩,
  ⟨some 80, .pick (.t 72) (.t 79) (.c (.bool false)), none, true⟩,
  ⟨some 0, .as (.t 80), none, true⟩] (some [0]) [1, 2, 3]) (
.ret)))))))))))))
/-- ambidexter/ambidextertop.quarterR14 -/
def A35 : AFn := .code [.t 4, .t 5] (
(.seq (
.reg none [
  ⟨some 3, .box (.t 1), none, true⟩,
  ⟨some 4, .as (.c (.nils 2)), none, true⟩,
  ⟨some 5, .as (.c (.bool false)), none, true⟩] (some [0, 3]) []) (
(.seq (
.reg none [
  ⟨some 9, .mv (.t 0), none, true⟩,
  ⟨some 10, .build [.int .i64 0, .int .i64 0] [], none, true⟩,
  ⟨some 11, .load true 2 (.t 3), none, true⟩,
  ⟨some 12, .call 67 [.t 10, .t 11], none, true⟩,
  ⟨some 13, .call 66 [.t 9, .t 12], none, true⟩,
  ⟨some 14, .call 65 [.t 13, .c (.int .i64 9)], none, true⟩,
  ⟨some 8, .mv (.t 14), none, true⟩,
  ⟨some 15, .ext (.t 8) 0, none, true⟩,
  ⟨some 16, .ext (.t 8) 1, none, true⟩,
  ⟨some 6, .as (.t 15), none, true⟩,
  ⟨some 7, .as (.t 16), none, true⟩] (some [3, 6, 7]) []) (
(.seq (
.reg none [
  ⟨some 17, .mv (.t 6), none, true⟩,
  ⟨some 18, .load true 2 (.t 3), none, true⟩,
  ⟨some 19, .call 66 [.t 17, .t 18], none, true⟩,
  ⟨some 20, .mv (.t 7), none, true⟩,
  ⟨some 4, .as (.t 19), none, true⟩,
  ⟨some 5, .as (.t 20), none, true⟩] (some [4, 5]) [3]) (
.ret)))))))
/-- ambidexter/polygon.Equal -/
def A36 : AFn := .code [.t 4] (
(.seq (
.reg none [
  ⟨some 4, .as (.c (.bool false)), none, true⟩] (some [0, 1]) []) (
(.seq (
.reg none [
  ⟨some 5, .mv (.t 0), none, true⟩,
  ⟨some 6, .mv (.t 1), none, true⟩,
  ⟨some 7, .call 68 [.t 5, .t 6], none, true⟩,
  ⟨some 4, .as (.t 7), none, true⟩] (some [4]) []) (
.ret)))))
/-- ambidexter/intersect.Polygons -/
def A37 : AFn := .code [.t 4] (
(.seq (
.reg none [
  ⟨some 4, .as (.c (.bool false)), none, true⟩] (some [0, 1]) []) (
(.seq (
.reg none [
  ⟨some 8, .mv (.t 0), none, true⟩,
  ⟨some 9, .mv (.t 1), none, true⟩,
  ⟨some 10, .call 69 [.t 8, .t 9], none, true⟩,
  ⟨some 7, .mv (.t 10), none, true⟩,
  ⟨some 11, .ext (.t 7) 0, none, true⟩,
  ⟨some 12, .ext (.t 7) 1, none, true⟩,
  ⟨some 5, .alloc [.int .i64 0, .int .i64 0, .int .i64 0], none, true⟩,
  ⟨none, .store 3 (.t 5) (.t 11), none, true⟩,
  ⟨some 6, .as (.t 12), none, true⟩] (some [6]) [5]) (
(.seq (
.reg none [
  ⟨some 13, .mv (.t 6), none, true⟩,
  ⟨some 4, .as (.t 13), none, true⟩] (some [4]) []) (
.ret)))))))
/-- ambidexter/ambidexterref07.far -/
def A46 : AFn := .code [.t 2] (
(.seq (
.reg none [
  ⟨some 1, .box (.t 0), none, true⟩,
  ⟨some 2, .as (.c (.bool false)), none, true⟩] (some [1]) []) (
(.seq (
.reg none [
  ⟨some 3, .fad 0 (.t 1), none, true⟩,
  ⟨some 4, .fad 0 (.t 3), none, true⟩,
  ⟨some 5, .load false 1 (.t 4), none, true⟩,
  ⟨some 6, .bin .gtr (.t 5) (.c (.int .i64 1000000000)), none, true⟩,
  ⟨some 7, .mv (.t 6), none, true⟩,
  ⟨some 8, .fad 0 (.t 1), some (7, false), true⟩,
  ⟨some 9, .fad 0 (.t 8), some (7, false), true⟩,
  ⟨some 10, .load false 1 (.t 9), some (7, false), true⟩,
  ⟨some 11, .bin .lss (.t 10) (.c (.int .i64 (-1000000000))), some (7, false), true⟩,
  ⟨some 12, .pick (.t 7) (.c (.bool true)) (.t 11), none, true⟩,
  ⟨some 13, .mv (.t 12), none, true⟩,
  ⟨some 14, .fad 0 (.t 1), some (13, false), true⟩,
  ⟨some 15, .fad 1 (.t 14), some (13, false), true⟩,
  ⟨some 16, .load false 1 (.t 15), some (13, false), true⟩,
  ⟨some 17, .bin .gtr (.t 16) (.c (.int .i64 1000000000)), some (13, false), true⟩,
  ⟨some 18, .pick (.t 13) (.c (.bool true)) (.t 17), none, true⟩,
  ⟨some 19, .mv (.t 18), none, true⟩,
  ⟨some 20, .fad 0 (.t 1), some (19, false), true⟩,
  ⟨some 21, .fad 1 (.t 20), some (19, false), true⟩,
  ⟨some 22, .load false 1 (.t 21), some (19, false), true⟩,
  ⟨some 23, .bin .lss (.t 22) (.c (.int .i64 (-1000000000))), some (19, false), true⟩,
  ⟨some 24, .pick (.t 19) (.c (.bool true)) (.t 23), none, true⟩,
  ⟨some 2, .as (.t 24), none, true⟩] (some [2]) [1]) (
.ret)))))
/-- ambidexter/ambidexterref07.size -/
def A47 : AFn := .code [.t 2] (
(.seq (
.reg none [
  ⟨some 2, .as (.c (.int .i64 0)), none, true⟩] (some [0]) []) (
(.seq (
(.seq (
.reg none [
  ⟨some 3, .mv (.t 0), none, true⟩,
  ⟨some 4, .bin .lss (.t 3) (.c (.int .i64 0)), none, true⟩] (some [0, 4]) []) (
(.cond (.t 4) (
  (.seq (
  .reg none [
    ⟨some 5, .mv (.t 0), none, true⟩,
    ⟨some 6, .un .neg (.t 5), none, true⟩,
    ⟨some 2, .as (.t 6), none, true⟩] (some [2]) []) (
  .ret))) (
  .skip))))) (
(.seq (
.reg none [
  ⟨some 7, .mv (.t 0), none, true⟩,
  ⟨some 2, .as (.t 7), none, true⟩] (some [2]) []) (
.ret)))))))
/-- (ambidexter/arm.posed).link -/
def A48 : AFn := .code [.t 8] (
(.seq (
.reg none [
  ⟨some 4, .box (.t 0), none, true⟩,
  ⟨some 5, .box (.t 1), none, true⟩,
  ⟨some 6, .box (.t 2), none, true⟩,
  ⟨some 7, .box (.t 3), none, true⟩,
  ⟨some 8, .as (.c (.nils 2)), none, true⟩] (some [4, 5, 6, 7]) []) (
(.seq (
.reg none [
  ⟨some 10, .load true 3 (.t 5), none, true⟩,
  ⟨some 11, .fad 0 (.t 4), none, true⟩,
  ⟨some 12, .fad 5 (.t 11), none, true⟩,
  ⟨some 13, .load false 1 (.t 12), none, true⟩,
  ⟨some 14, .call 55 [.t 10, .t 13], none, true⟩,
  ⟨some 15, .call 64 [.t 14], none, true⟩,
  ⟨some 9, .alloc [.int .i64 0, .int .i64 0], none, true⟩,
  ⟨none, .store 2 (.t 9) (.t 15), none, true⟩] (some [6, 7, 9]) [4, 5]) (
(.seq (
.reg (some [.dr [17, 19, 20, 22, 23, 25, 26] [], .dr [16, 19, 20, 22, 23, 25, 26] [], .dr [19, 20, 22, 23, 25, 26] [], .dr [16, 17, 18, 20, 22, 23, 25, 26] [], .dr [16, 17, 18, 19, 22, 23, 25, 26] [], .dr [22, 23, 25, 26] [], .dr [16, 17, 18, 19, 20, 21, 23, 25, 26] [], .dr [16, 17, 18, 19, 20, 21, 22, 25, 26] [], .dr [25, 26] [], .dr [16, 17, 18, 19, 20, 21, 22, 23, 24, 26] [], .dr [16, 17, 18, 19, 20, 21, 22, 23, 24, 25] [], .free, .free, .free]) [
  ⟨some 16, .load true 2 (.t 6), none, true⟩,
  ⟨some 17, .load true 2 (.t 9), none, true⟩,
  ⟨some 18, .call 67 [.t 16, .t 17], none, true⟩,
  ⟨some 19, .load true 2 (.t 7), none, true⟩,
  ⟨some 20, .load true 2 (.t 9), none, true⟩,
  ⟨some 21, .call 67 [.t 19, .t 20], none, true⟩,
  ⟨some 22, .load true 2 (.t 7), none, true⟩,
  ⟨some 23, .load true 2 (.t 9), none, true⟩,
  ⟨some 24, .call 54 [.t 22, .t 23], none, true⟩,
  ⟨some 25, .load true 2 (.t 6), none, true⟩,
  ⟨some 26, .load true 2 (.t 9), none, true⟩,
  ⟨some 27, .call 54 [.t 25, .t 26], none, true⟩,
  ⟨some 28, .bsl 2 4 [.int .i64 0, .int .i64 0] [(0, .t 18), (1, .t 21), (2, .t 24), (3, .t 27)], none, true⟩,
  ⟨some 8, .as (.t 28), none, true⟩] (some [8]) [6, 7, 9]) (
.ret)))))))
/-- ambidexter/rotation.Compose -/
def A51 : AFn := .code [.cell true 3 4] (
(.seq (
.reg none [
  ⟨some 2, .box (.t 0), none, true⟩,
  ⟨some 4, .alloc [.int .i64 0, .int .i64 0, .int .i64 0], none, true⟩] (some [1, 2, 4]) []) (
(.seq (
(.seq (
.reg none [
  ⟨some 6, .load true 3 (.t 2), none, true⟩,
  ⟨some 7, .call 82 [.t 6], none, true⟩,
  ⟨some 8, .un .not (.t 7), none, true⟩,
  ⟨some 9, .mv (.t 8), none, true⟩,
  ⟨some 10, .fad 2 (.t 2), some (9, false), true⟩,
  ⟨some 11, .load false 1 (.t 10), some (9, false), true⟩,
  ⟨some 12, .bin .eql (.t 11) (.c (.int .i64 3)), some (9, false), true⟩,
  ⟨some 13, .pick (.t 9) (.c (.bool true)) (.t 12), none, true⟩] (some [1, 2, 4, 13]) []) (
(.cond (.t 13) (
  (.seq (
  .reg none [
    ⟨some 14, .build [.int .i64 0, .int .i64 0, .int .i64 0] [], none, true⟩,
    ⟨none, .store 3 (.t 4) (.t 14), none, true⟩] (some [4]) []) (
  .ret))) (
  .skip))))) (
(.seq (
.reg none [
  ⟨some 15, .fad 0 (.t 2), none, true⟩,
  ⟨some 16, .load false 1 (.t 15), none, true⟩,
  ⟨some 17, .fad 1 (.t 2), none, true⟩,
  ⟨some 18, .load false 1 (.t 17), none, true⟩,
  ⟨some 19, .build [.int .i64 0, .int .i64 0] [(0, 1, .t 16), (1, 1, .t 18)], none, true⟩,
  ⟨some 20, .mv (.t 1), none, true⟩,
  ⟨some 21, .call 83 [.t 19, .t 20], none, true⟩,
  ⟨some 5, .alloc [.int .i64 0, .int .i64 0], none, true⟩,
  ⟨none, .store 2 (.t 5) (.t 21), none, true⟩] (some [2, 4, 5]) []) (
(.seq (
.reg none [
  ⟨some 22, .fad 0 (.t 5), none, true⟩,
  ⟨some 23, .load false 1 (.t 22), none, true⟩,
  ⟨some 24, .fad 1 (.t 5), none, true⟩,
  ⟨some 25, .load false 1 (.t 24), none, true⟩,
  ⟨some 26, .fad 2 (.t 2), none, true⟩,
  ⟨some 27, .load false 1 (.t 26), none, true⟩,
  ⟨some 28, .bin .add (.t 27) (.c (.int .i64 1)), none, true⟩,
  ⟨some 29, .build [.int .i64 0, .int .i64 0, .int .i64 0] [(0, 1, .t 23), (1, 1, .t 25), (2, 1, .t 28)], none, true⟩,
  ⟨none, .store 3 (.t 4) (.t 29), none, true⟩] (some [4]) [2, 5]) (
.ret)))))))))
/-- ambidexter/arm.JointPoints$1 -/
def A53 : AFn := .code [.cell true 2 3] (
(.seq (
.reg none [
  ⟨some 2, .box (.t 0), none, true⟩,
  ⟨some 3, .alloc [.int .i64 0, .int .i64 0], none, true⟩] (some [1, 2, 3]) []) (
(.seq (
.reg none [
  ⟨some 4, .load true 2 (.t 1), none, true⟩,
  ⟨some 5, .load true 2 (.t 2), none, true⟩,
  ⟨some 6, .call 54 [.t 4, .t 5], none, true⟩,
  ⟨none, .store 2 (.t 1) (.t 6), none, true⟩] (some [1, 3]) [2]) (
(.seq (
.reg none [
  ⟨some 7, .load true 2 (.t 1), none, true⟩,
  ⟨none, .store 2 (.t 3) (.t 7), none, true⟩] (some [3]) []) (
.ret)))))))
/-- ambidexter/geom.Add -/
def A54 : AFn := .code [.cell true 2 4] (
(.seq (
.reg none [
  ⟨some 2, .box (.t 0), none, true⟩,
  ⟨some 3, .box (.t 1), none, true⟩,
  ⟨some 4, .alloc [.int .i64 0, .int .i64 0], none, true⟩] (some [2, 3, 4]) []) (
(.seq (
.reg none [
  ⟨some 5, .fad 0 (.t 2), none, true⟩,
  ⟨some 6, .load false 1 (.t 5), none, true⟩,
  ⟨some 7, .fad 0 (.t 3), none, true⟩,
  ⟨some 8, .load false 1 (.t 7), none, true⟩,
  ⟨some 9, .bin .add (.t 6) (.t 8), none, true⟩,
  ⟨some 10, .fad 1 (.t 2), none, true⟩,
  ⟨some 11, .load false 1 (.t 10), none, true⟩,
  ⟨some 12, .fad 1 (.t 3), none, true⟩,
  ⟨some 13, .load false 1 (.t 12), none, true⟩,
  ⟨some 14, .bin .add (.t 11) (.t 13), none, true⟩,
  ⟨some 15, .build [.int .i64 0, .int .i64 0] [(0, 1, .t 9), (1, 1, .t 14)], none, true⟩,
  ⟨none, .store 2 (.t 4) (.t 15), none, true⟩] (some [4]) [2, 3]) (
.ret)))))
/-- ambidexter/rotation.Offset -/
def A55 : AFn := .code [.cell true 2 4] (
(.seq (
.reg none [
  ⟨some 2, .box (.t 0), none, true⟩,
  ⟨some 4, .alloc [.int .i64 0, .int .i64 0], none, true⟩] (some [1, 2, 4]) []) (
(.seq (
.reg none [
  ⟨some 6, .mv (.t 1), none, true⟩,
  ⟨some 7, .fad 2 (.t 2), none, true⟩,
  ⟨some 8, .load false 1 (.t 7), none, true⟩,
  ⟨some 9, .call 86 [.t 8], none, true⟩,
  ⟨some 10, .bin .quo (.c (.int .i64 4394000)) (.t 9), none, true⟩,
  ⟨some 11, .bin .mul (.t 6) (.t 10), none, true⟩,
  ⟨some 5, .as (.t 11), none, true⟩] (some [2, 4, 5]) []) (
(.seq (
.reg none [
  ⟨some 12, .mv (.t 5), none, true⟩,
  ⟨some 13, .fad 0 (.t 2), none, true⟩,
  ⟨some 14, .load false 1 (.t 13), none, true⟩,
  ⟨some 15, .bin .mul (.t 12) (.t 14), none, true⟩,
  ⟨some 16, .mv (.t 5), none, true⟩,
  ⟨some 17, .fad 1 (.t 2), none, true⟩,
  ⟨some 18, .load false 1 (.t 17), none, true⟩,
  ⟨some 19, .bin .mul (.t 16) (.t 18), none, true⟩,
  ⟨some 20, .build [.int .i64 0, .int .i64 0] [(0, 1, .t 15), (1, 1, .t 19)], none, true⟩,
  ⟨none, .store 2 (.t 4) (.t 20), none, true⟩] (some [4]) [2]) (
.ret)))))))
/-- slices.ContainsFunc[ambidexter/api.Polygon,ambidexter/api.Point] -/
def A56 : AFn := .code [.t 4] (
(.seq (
.reg none [
  ⟨some 4, .as (.c (.bool false)), none, true⟩] (some [0, 1]) []) (
(.seq (
.reg none [
  ⟨some 5, .mv (.t 0), none, true⟩,
  ⟨some 6, .mv (.t 1), none, true⟩,
  ⟨some 7, .call 87 [.t 5, .t 6], none, true⟩,
  ⟨some 8, .bin .geq (.t 7) (.c (.int .i64 0)), none, true⟩,
  ⟨some 4, .as (.t 8), none, true⟩] (some [4]) []) (
.ret)))))
/-- ambidexter/polygon.Valid$1 -/
def A57 : AFn := .code [.t 2] (
(.seq (
.reg none [
  ⟨some 1, .box (.t 0), none, true⟩,
  ⟨some 2, .as (.c (.bool false)), none, true⟩] (some [1]) []) (
(.seq (
.reg none [
  ⟨some 3, .load true 2 (.t 1), none, true⟩,
  ⟨some 4, .call 58 [.t 3], none, true⟩,
  ⟨some 5, .un .not (.t 4), none, true⟩,
  ⟨some 2, .as (.t 5), none, true⟩] (some [2]) [1]) (
.ret)))))
/-- ambidexter/polygon.may -/
def A58 : AFn := .code [.t 2] (
(.seq (
.reg none [
  ⟨some 1, .box (.t 0), none, true⟩,
  ⟨some 2, .as (.c (.bool false)), none, true⟩] (some [1]) []) (
(.seq (
.reg none [
  ⟨some 3, .fad 0 (.t 1), none, true⟩,
  ⟨some 4, .load false 1 (.t 3), none, true⟩,
  ⟨some 5, .fad 1 (.t 1), none, true⟩,
  ⟨some 6, .load false 1 (.t 5), none, true⟩,
  ⟨some 7, .mx [.t 4, .t 6], none, true⟩,
  ⟨some 8, .bin .leq (.t 7) (.c (.int .i64 439400000)), none, true⟩,
  ⟨some 9, .mv (.t 8), none, true⟩,
  ⟨some 10, .fad 0 (.t 1), some (9, true), true⟩,
  ⟨some 11, .load false 1 (.t 10), some (9, true), true⟩,
  ⟨some 12, .fad 1 (.t 1), some (9, true), true⟩,
  ⟨some 13, .load false 1 (.t 12), some (9, true), true⟩,
  ⟨some 14, .mn [.t 11, .t 13], some (9, true), true⟩,
  ⟨some 15, .bin .geq (.t 14) (.c (.int .i64 (-439400000))), some (9, true), true⟩,
  ⟨some 16, .pick (.t 9) (.t 15) (.c (.bool false)), none, true⟩,
  ⟨some 2, .as (.t 16), none, true⟩] (some [2]) [1]) (
.ret)))))
def A59_R0a : ACode := 
    (.seq (
    .reg none [
      ⟨some 6, .as (.t 29), none, true⟩] (some [2, 3, 4, 5, 6, 30]) []) (
    .reg none [
      ⟨some 7, .alloc [.int .i64 0, .int .i64 0, .int .i64 0, .int .i64 0], none, true⟩,
      ⟨none, .store 4 (.t 7) (.t 30), none, true⟩] (some [2, 3, 4, 5, 6, 7]) []))
def A59_R0b : ACode := 
    (.block 3 (
    (.seq (
    (.seq (
    .reg (some [.dr [32] [], .dr [] [], .free, .free, .dr [36, 38] [], .dr [38] [], .dr [38] [], .dr [36] [], .dr [] [], .free, .free, .free, .dr [46] [], .dr [43, 46] [], .dr [43, 46] [], .dr [43] [], .dr [43] [], .free, .free]) [
      ⟨some 31, .mv (.t 6), none, true⟩,
      ⟨some 32, .load false 1 (.t 4), none, true⟩,
      ⟨some 33, .bin .eql (.t 31) (.t 32), none, true⟩,
      ⟨some 34, .mv (.t 33), none, true⟩,
      ⟨some 35, .mv (.t 6), some (34, false), true⟩,
      ⟨some 36, .load false 1 (.t 4), some (34, false), true⟩,
      ⟨some 37, .bin .add (.t 36) (.c (.int .i64 1)), some (34, false), true⟩,
      ⟨some 38, .load false 1 (.t 3), some (34, false), true⟩,
      ⟨some 39, .bin .rem (.t 37) (.t 38), some (34, false), true⟩,
      ⟨some 40, .bin .eql (.t 35) (.t 39), some (34, false), true⟩,
      ⟨some 41, .pick (.t 34) (.c (.bool true)) (.t 40), none, true⟩,
      ⟨some 42, .mv (.t 41), none, true⟩,
      ⟨some 43, .load false 1 (.t 4), some (42, false), true⟩,
      ⟨some 44, .mv (.t 6), some (42, false), true⟩,
      ⟨some 45, .bin .add (.t 44) (.c (.int .i64 1)), some (42, false), true⟩,
      ⟨some 46, .load false 1 (.t 3), some (42, false), true⟩,
      ⟨some 47, .bin .rem (.t 45) (.t 46), some (42, false), true⟩,
      ⟨some 48, .bin .eql (.t 43) (.t 47), some (42, false), true⟩,
      ⟨some 49, .pick (.t 42) (.c (.bool true)) (.t 48), none, true⟩] (some [2, 5, 7, 49]) [3, 4]) (
    (.cond (.t 49) (
      .exit 3) (
      .skip))))) (
    (.seq (
    .reg none [
      ⟨some 50, .iaa 2 2 (.t 5) (.c (.int .i64 0)), none, true⟩,
      ⟨some 51, .load true 2 (.t 50), none, true⟩,
      ⟨some 52, .iaa 2 2 (.t 5) (.c (.int .i64 1)), none, true⟩,
      ⟨some 53, .load true 2 (.t 52), none, true⟩,
      ⟨some 54, .iaa 2 2 (.t 7) (.c (.int .i64 0)), none, true⟩,
      ⟨some 55, .load true 2 (.t 54), none, true⟩,
      ⟨some 56, .iaa 2 2 (.t 7) (.c (.int .i64 1)), none, true⟩,
      ⟨some 57, .load true 2 (.t 56), none, true⟩,
      ⟨some 58, .call 88 [.t 51, .t 53, .t 55, .t 57], none, true⟩] (some [2, 58]) [5, 7]) (
    (.cond (.t 58) (
      (.seq (
      .reg none [
        ⟨none, .store 1 (.t 2) (.c (.bool false)), none, true⟩] (some []) []) (
      .ret))) (
      .skip))))))) (some []) [58])
def A59_R0 : ACode := .rf 1 (.t 28) [29, 30]  A59_R0a A59_R0b
def A59_R1a : ACode := 
  (.seq (
  .reg none [
    ⟨some 4, .alloc [.int .i64 0], none, true⟩,
    ⟨none, .store 1 (.t 4) (.t 12), none, true⟩] (some [1, 2, 3, 4, 13]) []) (
  .reg none [
    ⟨some 5, .alloc [.int .i64 0, .int .i64 0, .int .i64 0, .int .i64 0], none, true⟩,
    ⟨none, .store 4 (.t 5) (.t 13), none, true⟩] (some [1, 2, 3, 4, 5]) []))
def A59_R1b : ACode := 
  (.block 1 (
  (.seq (
  (.seq (
  .reg (some [.dr [17, 18, 19, 21, 23, 24] [], .dr [17, 18, 19, 21, 23, 24] [], .dr [15, 18, 19, 21, 23, 24] [], .dr [15, 18, 19, 21, 23, 24] [], .dr [15, 17, 19, 21] [], .dr [15, 17, 18, 21] [], .dr [15, 17, 18, 21] [], .dr [15, 17, 18, 19] [], .dr [15, 17, 18] [], .dr [15, 17] [], .dr [15, 17] [], .free, .free]) [
    ⟨some 14, .iaa 2 2 (.t 5) (.c (.int .i64 0)), none, true⟩,
    ⟨some 15, .load true 2 (.t 14), none, true⟩,
    ⟨some 16, .iaa 2 2 (.t 5) (.c (.int .i64 1)), none, true⟩,
    ⟨some 17, .load true 2 (.t 16), none, true⟩,
    ⟨some 18, .load false 1 (.t 1), none, true⟩,
    ⟨some 19, .load false 1 (.t 4), none, true⟩,
    ⟨some 20, .bin .add (.t 19) (.c (.int .i64 2)), none, true⟩,
    ⟨some 21, .load false 1 (.t 3), none, true⟩,
    ⟨some 22, .bin .rem (.t 20) (.t 21), none, true⟩,
    ⟨some 23, .ias 2 (.t 18) (.t 22), none, true⟩,
    ⟨some 24, .load true 2 (.t 23), none, true⟩,
    ⟨some 25, .call 62 [.t 15, .t 17, .t 24], none, true⟩,
    ⟨some 26, .bin .eql (.t 25) (.c (.int .i64 0)), none, true⟩] (some [1, 2, 3, 4, 5, 26]) []) (
  (.cond (.t 26) (
    (.seq (
    .reg none [
      ⟨none, .store 1 (.t 2) (.c (.bool false)), none, true⟩] (some []) []) (
    .ret))) (
    .skip))))) (
  (.seq (
  .reg none [
    ⟨some 27, .load false 1 (.t 1), none, true⟩,
    ⟨some 28, .call 60 [.t 27], none, true⟩] (some [2, 3, 4, 5, 28]) [1]) (
  (.block 2 (
  A59_R0) (some []) [6, 7, 58])))))) (some []) [6, 7, 25, 28, 58])
def A59_R1 : ACode := .rf 0 (.t 11) [12, 13]  A59_R1a A59_R1b
/-- ambidexter/polygon.simple -/
def A59 : AFn := .code [.cell false 1 2] (
(.seq (
.reg none [
  ⟨some 1, .box (.t 0), none, true⟩,
  ⟨some 2, .alloc [.bool false], none, true⟩] (some [1, 2]) []) (
(.seq (
.reg none [
  ⟨some 8, .load false 1 (.t 1), none, true⟩,
  ⟨some 9, .len 0 (.t 8), none, true⟩,
  ⟨some 3, .alloc [.int .i64 0], none, true⟩,
  ⟨none, .store 1 (.t 3) (.t 9), none, true⟩] (some [1, 2, 3]) []) (
(.seq (
(.seq (
.reg none [
  ⟨some 10, .load false 1 (.t 1), none, true⟩,
  ⟨some 11, .call 60 [.t 10], none, true⟩] (some [1, 2, 3, 11]) []) (
(.block 0 (
A59_R1) (some [2]) [4, 5, 6, 7, 25, 28, 58])))) (
(.seq (
.reg none [
  ⟨none, .store 1 (.t 2) (.c (.bool true)), none, true⟩] (some [2]) []) (
.ret)))))))))
/-- ambidexter/polygon.edges -/
def A60 : AFn := .code [.t 2] (
(.seq (
.reg none [
  ⟨some 1, .box (.t 0), none, true⟩,
  ⟨some 2, .as (.c (.nilf)), none, true⟩] (some [1]) []) (
(.seq (
.reg none [
  ⟨some 3, .mkf (.func 89) [] [.t 1], none, true⟩,
  ⟨some 2, .as (.t 3), none, true⟩] (some [2]) []) (
.ret)))))
/-- ambidexter/geom.OnSegment -/
def A61 : AFn := .code [.t 6] (
(.seq (
.reg none [
  ⟨some 3, .box (.t 0), none, true⟩,
  ⟨some 4, .box (.t 1), none, true⟩,
  ⟨some 5, .box (.t 2), none, true⟩,
  ⟨some 6, .as (.c (.bool false)), none, true⟩] (some [3, 4, 5]) []) (
(.seq (
.reg none [
  ⟨some 7, .load true 2 (.t 3), none, true⟩,
  ⟨some 8, .load true 2 (.t 4), none, true⟩,
  ⟨some 9, .load true 2 (.t 5), none, true⟩,
  ⟨some 10, .call 90 [.t 7, .t 8, .t 9], none, true⟩,
  ⟨some 11, .mv (.t 10), none, true⟩,
  ⟨some 12, .load true 2 (.t 3), some (11, true), true⟩,
  ⟨some 13, .load true 2 (.t 4), some (11, true), true⟩,
  ⟨some 14, .load true 2 (.t 5), some (11, true), true⟩,
  ⟨some 15, .call 62 [.t 12, .t 13, .t 14], some (11, true), true⟩,
  ⟨some 16, .bin .eql (.t 15) (.c (.int .i64 0)), some (11, true), true⟩,
  ⟨some 17, .pick (.t 11) (.t 16) (.c (.bool false)), none, true⟩,
  ⟨some 6, .as (.t 17), none, true⟩] (some [6]) [3, 4, 5]) (
.ret)))))
/-- ambidexter/geom.Orientation -/
def A62 : AFn := .code [.t 6] (
(.seq (
.reg none [
  ⟨some 3, .box (.t 0), none, true⟩,
  ⟨some 4, .box (.t 1), none, true⟩,
  ⟨some 5, .box (.t 2), none, true⟩,
  ⟨some 6, .as (.c (.int .i64 0)), none, true⟩] (some [3, 4, 5]) []) (
(.seq (
.reg (some [.dr [11, 13, 14, 7, 8] [], .dr [10, 13, 14, 7, 8] [], .dr [13, 14, 7, 8] [], .dr [10, 11, 12, 14, 7, 8] [], .dr [10, 11, 12, 13, 7, 8] [], .dr [7, 8] [], .dr [10, 11, 12, 13, 14, 15, 8] [], .dr [10, 11, 12, 13, 14, 15, 7] [], .free, .free]) [
  ⟨some 10, .load true 2 (.t 4), none, true⟩,
  ⟨some 11, .load true 2 (.t 3), none, true⟩,
  ⟨some 12, .call 67 [.t 10, .t 11], none, true⟩,
  ⟨some 13, .load true 2 (.t 5), none, true⟩,
  ⟨some 14, .load true 2 (.t 3), none, true⟩,
  ⟨some 15, .call 67 [.t 13, .t 14], none, true⟩,
  ⟨some 7, .alloc [.int .i64 0, .int .i64 0], none, true⟩,
  ⟨some 8, .alloc [.int .i64 0, .int .i64 0], none, true⟩,
  ⟨none, .store 2 (.t 7) (.t 12), none, true⟩,
  ⟨none, .store 2 (.t 8) (.t 15), none, true⟩] (some [7, 8]) [3, 4, 5]) (
(.seq (
(.seq (
.reg none [
  ⟨some 16, .fad 0 (.t 7), none, true⟩,
  ⟨some 17, .load false 1 (.t 16), none, true⟩,
  ⟨some 18, .fad 1 (.t 8), none, true⟩,
  ⟨some 19, .load false 1 (.t 18), none, true⟩,
  ⟨some 20, .bin .mul (.t 17) (.t 19), none, true⟩,
  ⟨some 21, .fad 1 (.t 7), none, true⟩,
  ⟨some 22, .load false 1 (.t 21), none, true⟩,
  ⟨some 23, .fad 0 (.t 8), none, true⟩,
  ⟨some 24, .load false 1 (.t 23), none, true⟩,
  ⟨some 25, .bin .mul (.t 22) (.t 24), none, true⟩,
  ⟨some 26, .bin .sub (.t 20) (.t 25), none, true⟩,
  ⟨some 9, .as (.t 26), none, true⟩] (some [9]) [7, 8]) (
(.block 0 (
(.seq (
.reg none [
  ⟨some 28, .mv (.t 9), none, true⟩,
  ⟨some 29, .bin .gtr (.t 28) (.c (.int .i64 0)), none, true⟩,
  ⟨some 27, .as (.t 29), none, true⟩] (some [9, 27]) []) (
(.cond (.t 27) (
  (.seq (
  .reg none [
    ⟨some 6, .as (.c (.int .i64 1)), none, true⟩] (some [6]) []) (
  .ret))) (
  (.seq (
  .reg none [
    ⟨some 31, .mv (.t 9), none, true⟩,
    ⟨some 32, .bin .lss (.t 31) (.c (.int .i64 0)), none, true⟩,
    ⟨some 30, .as (.t 32), none, true⟩] (some [30]) []) (
  (.cond (.t 30) (
    (.seq (
    .reg none [
      ⟨some 6, .as (.c (.int .i64 (-1))), none, true⟩] (some [6]) []) (
    .ret))) (
    .skip))))))))) (some []) [6, 27, 30])))) (
(.seq (
.reg none [
  ⟨some 6, .as (.c (.int .i64 0)), none, true⟩] (some [6]) []) (
.ret)))))))))
/-- ambidexter/ambidextertop.smallR14 -/
def A63 : AFn := .code [.cell true 12 0] (
(.seq (
.reg none [
  ⟨some 0, .alloc [.int .i64 0, .int .i64 0, .int .i64 0, .int .i64 0, .int .i64 0, .int .i64 0, .int .i64 0, .int .i64 0, .int .i64 0, .int .i64 0, .int .i64 0, .int .i64 0], none, true⟩] (some [0]) []) (
(.seq (
.reg none [
  ⟨some 1, .build [.int .i64 0, .int .i64 0, .int .i64 0] [(0, 1, .c (.int .i64 3)), (1, 1, .c (.int .i64 2)), (2, 1, .c (.int .i64 1))], none, true⟩,
  ⟨some 2, .build [.int .i64 0, .int .i64 0, .int .i64 0] [(0, 1, .c (.int .i64 (-17))), (1, 1, .c (.int .i64 (-17))), (2, 1, .c (.int .i64 (-17)))], none, true⟩,
  ⟨some 3, .build [.int .i64 0, .int .i64 0, .int .i64 0] [(0, 1, .c (.int .i64 18)), (1, 1, .c (.int .i64 18)), (2, 1, .c (.int .i64 18))], none, true⟩,
  ⟨some 4, .build [.int .i64 0, .int .i64 0, .int .i64 0, .int .i64 0, .int .i64 0, .int .i64 0, .int .i64 0, .int .i64 0, .int .i64 0, .int .i64 0, .int .i64 0, .int .i64 0] [(2, 3, .t 1), (5, 1, .c (.int .i64 1)), (6, 3, .t 2), (9, 3, .t 3)], none, true⟩,
  ⟨none, .store 12 (.t 0) (.t 4), none, true⟩] (some [0]) []) (
.ret)))))
/-- ambidexter/rotation.RotateQuarter -/
def A64 : AFn := .code [.cell true 2 2] (
(.seq (
.reg none [
  ⟨some 1, .box (.t 0), none, true⟩,
  ⟨some 2, .alloc [.int .i64 0, .int .i64 0], none, true⟩] (some [1, 2]) []) (
(.seq (
.reg none [
  ⟨some 4, .fad 0 (.t 1), none, true⟩,
  ⟨some 5, .load false 1 (.t 4), none, true⟩,
  ⟨some 6, .fad 1 (.t 1), none, true⟩,
  ⟨some 7, .load false 1 (.t 6), none, true⟩,
  ⟨some 8, .build [.int .i64 0, .int .i64 0] [(0, 1, .t 5), (1, 1, .t 7)], none, true⟩,
  ⟨some 9, .call 91 [.t 8], none, true⟩,
  ⟨some 3, .alloc [.int .i64 0, .int .i64 0], none, true⟩,
  ⟨none, .store 2 (.t 3) (.t 9), none, true⟩] (some [2, 3]) [1]) (
(.seq (
.reg none [
  ⟨some 10, .fad 0 (.t 3), none, true⟩,
  ⟨some 11, .load false 1 (.t 10), none, true⟩,
  ⟨some 12, .fad 1 (.t 3), none, true⟩,
  ⟨some 13, .load false 1 (.t 12), none, true⟩,
  ⟨some 14, .build [.int .i64 0, .int .i64 0] [(0, 1, .t 11), (1, 1, .t 13)], none, true⟩,
  ⟨none, .store 2 (.t 2) (.t 14), none, true⟩] (some [2]) [3]) (
.ret)))))))
/-- ambidexter/polygon.Rotate -/
def A65 : AFn := .code [.t 4, .t 5] (
(.seq (
.reg none [
  ⟨some 3, .box (.t 1), none, true⟩,
  ⟨some 4, .as (.c (.nils 2)), none, true⟩,
  ⟨some 5, .as (.c (.bool false)), none, true⟩] (some [0, 3]) []) (
(.seq (
.reg none [
  ⟨some 6, .alloc [.bool false], none, true⟩,
  ⟨none, .store 1 (.t 6) (.c (.bool true)), none, true⟩] (some [0, 3, 6]) []) (
(.seq (
.reg none [
  ⟨some 8, .mv (.t 0), none, true⟩,
  ⟨some 9, .mkf (.func 93) [] [.t 3, .t 6], none, true⟩,
  ⟨some 10, .call 92 [.t 8, .t 9], none, true⟩,
  ⟨some 7, .as (.t 10), none, true⟩] (some [6, 7]) []) (
(.seq (
(.seq (
.reg none [
  ⟨some 11, .load false 1 (.t 6), none, true⟩,
  ⟨some 12, .un .not (.t 11), none, true⟩] (some [7, 12]) []) (
(.cond (.t 12) (
  (.seq (
  .reg none [
    ⟨some 4, .as (.c (.nils 2)), none, true⟩,
    ⟨some 5, .as (.c (.bool false)), none, true⟩] (some [4, 5]) []) (
  .ret))) (
  .skip))))) (
(.seq (
.reg none [
  ⟨some 13, .mv (.t 7), none, true⟩,
  ⟨some 4, .as (.t 13), none, true⟩,
  ⟨some 5, .as (.c (.bool true)), none, true⟩] (some [4, 5]) []) (
.ret)))))))))))
/-- ambidexter/polygon.Translate -/
def A66 : AFn := .code [.t 4] (
(.seq (
.reg none [
  ⟨some 3, .box (.t 1), none, true⟩,
  ⟨some 4, .as (.c (.nils 2)), none, true⟩] (some [0, 3]) []) (
(.seq (
.reg none [
  ⟨some 5, .mv (.t 0), none, true⟩,
  ⟨some 6, .mkf (.func 95) [] [.t 3], none, true⟩,
  ⟨some 7, .call 92 [.t 5, .t 6], none, true⟩,
  ⟨some 4, .as (.t 7), none, true⟩] (some [4]) []) (
.ret)))))
/-- ambidexter/geom.Sub -/
def A67 : AFn := .code [.cell true 2 4] (
(.seq (
.reg none [
  ⟨some 2, .box (.t 0), none, true⟩,
  ⟨some 3, .box (.t 1), none, true⟩,
  ⟨some 4, .alloc [.int .i64 0, .int .i64 0], none, true⟩] (some [2, 3, 4]) []) (
(.seq (
.reg none [
  ⟨some 5, .fad 0 (.t 2), none, true⟩,
  ⟨some 6, .load false 1 (.t 5), none, true⟩,
  ⟨some 7, .fad 0 (.t 3), none, true⟩,
  ⟨some 8, .load false 1 (.t 7), none, true⟩,
  ⟨some 9, .bin .sub (.t 6) (.t 8), none, true⟩,
  ⟨some 10, .fad 1 (.t 2), none, true⟩,
  ⟨some 11, .load false 1 (.t 10), none, true⟩,
  ⟨some 12, .fad 1 (.t 3), none, true⟩,
  ⟨some 13, .load false 1 (.t 12), none, true⟩,
  ⟨some 14, .bin .sub (.t 11) (.t 13), none, true⟩,
  ⟨some 15, .build [.int .i64 0, .int .i64 0] [(0, 1, .t 9), (1, 1, .t 14)], none, true⟩,
  ⟨none, .store 2 (.t 4) (.t 15), none, true⟩] (some [4]) [2, 3]) (
.ret)))))
def A68_L0b : ACode := 
  (.seq (
  .reg none [
    ⟨some 14, .bin .lss (.t 13) (.t 12), none, true⟩] (some [0, 1, 12, 13, 14]) []) (
  (.seq (
  (.cond (.t 14) (
    .skip) (
    .exit 0))) (
  (.seq (
  (.block 1 (
  (.seq (
  .reg none [
    ⟨some 15, .mv (.t 13), none, true⟩,
    ⟨some 5, .as (.t 15), none, true⟩] (some [0, 1, 5, 12, 13]) []) (
  (.seq (
  .reg (some [.dr [22, 23] [], .dr [22, 23] [], .dr [22, 23] [], .dr [22, 23] [], .dr [18, 19] [], .dr [18, 19] [], .dr [18, 19] [], .dr [18, 19] [], .free]) [
    ⟨some 16, .mv (.t 0), none, true⟩,
    ⟨some 17, .mv (.t 5), none, true⟩,
    ⟨some 18, .ias 2 (.t 16) (.t 17), none, true⟩,
    ⟨some 19, .load true 2 (.t 18), none, true⟩,
    ⟨some 20, .mv (.t 1), none, true⟩,
    ⟨some 21, .mv (.t 5), none, true⟩,
    ⟨some 22, .ias 2 (.t 20) (.t 21), none, true⟩,
    ⟨some 23, .load true 2 (.t 22), none, true⟩,
    ⟨some 24, .eqa true [0, 0] (.t 19) (.t 23), none, true⟩] (some [0, 1, 12, 13, 24]) []) (
  (.cond (.t 24) (
    (.seq (
    .reg none [
      ⟨some 4, .as (.c (.bool false)), none, true⟩] (some [4]) []) (
    .ret))) (
    .skip))))))) (some [0, 1, 12, 13]) [4, 5])) (
  .reg none [
    ⟨some 25, .bin .add (.t 13) (.c (.int .i64 1)), none, true⟩,
    ⟨some 13, .mv (.t 25), none, true⟩] (some [0, 1, 12, 13]) []))))))
def A68_L0 : ACode := .loop A68_L0b (some [0, 1, 12, 13]) [4, 5]
/-- slices.Equal[ambidexter/api.Polygon,ambidexter/api.Point] -/
def A68 : AFn := .code [.t 4] (
(.seq (
.reg none [
  ⟨some 4, .as (.c (.bool false)), none, true⟩] (some [0, 1]) []) (
(.seq (
(.seq (
.reg none [
  ⟨some 6, .mv (.t 0), none, true⟩,
  ⟨some 7, .len 0 (.t 6), none, true⟩,
  ⟨some 8, .mv (.t 1), none, true⟩,
  ⟨some 9, .len 0 (.t 8), none, true⟩,
  ⟨some 10, .bin .neq (.t 7) (.t 9), none, true⟩] (some [0, 1, 10]) []) (
(.cond (.t 10) (
  (.seq (
  .reg none [
    ⟨some 4, .as (.c (.bool false)), none, true⟩] (some [4]) []) (
  .ret))) (
  .skip))))) (
(.seq (
(.seq (
.reg none [
  ⟨some 11, .mv (.t 0), none, true⟩,
  ⟨some 12, .len 0 (.t 11), none, true⟩,
  ⟨some 13, .mv (.c (.int .i64 0)), none, true⟩] (some [0, 1, 12, 13]) []) (
(.block 0 (
A68_L0) (some []) [4, 5])))) (
(.seq (
.reg none [
  ⟨some 4, .as (.c (.bool true)), none, true⟩] (some [4]) []) (
.ret)))))))))
def A69_L0b : ACode := 
  (.seq (
  .reg none [
    ⟨some 47, .bin .lss (.t 46) (.t 45), none, true⟩] (some [0, 3, 4, 5, 45, 46, 47]) []) (
  (.seq (
  (.cond (.t 47) (
    .skip) (
    .exit 6))) (
  (.seq (
  (.block 7 (
  (.seq (
  .reg none [
    ⟨some 48, .mv (.t 46), none, true⟩,
    ⟨some 11, .as (.t 48), none, true⟩] (some [0, 3, 4, 5, 11, 45, 46]) []) (
  (.seq (
  .reg none [
    ⟨some 49, .load false 1 (.t 3), none, true⟩,
    ⟨some 50, .mv (.t 11), none, true⟩,
    ⟨some 51, .mv (.t 0), none, true⟩,
    ⟨some 52, .call 97 [.t 49, .t 50, .t 51], none, true⟩] (some [0, 3, 4, 5, 11, 45, 46, 52]) []) (
  (.cond (.t 52) (
    (.seq (
    .reg none [
      ⟨some 53, .mv (.t 11), none, true⟩,
      ⟨some 54, .build [.int .i64 0, .int .i64 0, .int .i64 0] [(0, 1, .c (.int .i64 3)), (2, 1, .t 53)], none, true⟩,
      ⟨none, .store 3 (.t 4) (.t 54), none, true⟩,
      ⟨none, .store 1 (.t 5) (.c (.bool true)), none, true⟩] (some [4, 5]) []) (
    .ret))) (
    .skip))))))) (some [0, 3, 4, 5, 45, 46]) [52])) (
  .reg none [
    ⟨some 55, .bin .add (.t 46) (.c (.int .i64 1)), none, true⟩,
    ⟨some 46, .mv (.t 55), none, true⟩] (some [0, 3, 4, 5, 45, 46]) []))))))
def A69_L0 : ACode := .loop A69_L0b (some [0, 3, 4, 5, 45, 46]) [52]
def A69_L1b : ACode := 
  (.seq (
  .reg none [
    ⟨some 35, .bin .lss (.t 34) (.t 33), none, true⟩] (some [0, 3, 4, 5, 33, 34, 35]) []) (
  (.seq (
  (.cond (.t 35) (
    .skip) (
    .exit 4))) (
  (.seq (
  (.block 5 (
  (.seq (
  .reg none [
    ⟨some 36, .mv (.t 34), none, true⟩,
    ⟨some 10, .as (.t 36), none, true⟩] (some [0, 3, 4, 5, 10, 33, 34]) []) (
  (.seq (
  .reg none [
    ⟨some 37, .mv (.t 0), none, true⟩,
    ⟨some 38, .mv (.t 10), none, true⟩,
    ⟨some 39, .load false 1 (.t 3), none, true⟩,
    ⟨some 40, .call 97 [.t 37, .t 38, .t 39], none, true⟩] (some [0, 3, 4, 5, 10, 33, 34, 40]) []) (
  (.cond (.t 40) (
    (.seq (
    .reg none [
      ⟨some 41, .mv (.t 10), none, true⟩,
      ⟨some 42, .build [.int .i64 0, .int .i64 0, .int .i64 0] [(0, 1, .c (.int .i64 2)), (1, 1, .t 41)], none, true⟩,
      ⟨none, .store 3 (.t 4) (.t 42), none, true⟩,
      ⟨none, .store 1 (.t 5) (.c (.bool true)), none, true⟩] (some [4, 5]) []) (
    .ret))) (
    .skip))))))) (some [0, 3, 4, 5, 33, 34]) [40])) (
  .reg none [
    ⟨some 43, .bin .add (.t 34) (.c (.int .i64 1)), none, true⟩,
    ⟨some 34, .mv (.t 43), none, true⟩] (some [0, 3, 4, 5, 33, 34]) []))))))
def A69_L1 : ACode := .loop A69_L1b (some [0, 3, 4, 5, 33, 34]) [40]
def A69_R2a : ACode := 
    (.seq (
    .reg none [
      ⟨some 8, .as (.t 18), none, true⟩] (some [4, 5, 6, 7, 8, 19]) []) (
    .reg none [
      ⟨some 9, .alloc [.int .i64 0, .int .i64 0, .int .i64 0, .int .i64 0], none, true⟩,
      ⟨none, .store 4 (.t 9) (.t 19), none, true⟩] (some [4, 5, 6, 7, 8, 9]) []))
def A69_R2b : ACode := 
    (.block 3 (
    (.seq (
    .reg none [
      ⟨some 20, .fad 0 (.t 7), none, true⟩,
      ⟨some 21, .load true 2 (.t 20), none, true⟩,
      ⟨some 22, .fad 2 (.t 7), none, true⟩,
      ⟨some 23, .load true 2 (.t 22), none, true⟩,
      ⟨some 24, .fad 0 (.t 9), none, true⟩,
      ⟨some 25, .load true 2 (.t 24), none, true⟩,
      ⟨some 26, .fad 2 (.t 9), none, true⟩,
      ⟨some 27, .load true 2 (.t 26), none, true⟩,
      ⟨some 28, .call 88 [.t 21, .t 23, .t 25, .t 27], none, true⟩] (some [4, 5, 6, 8, 28]) [7, 9]) (
    (.cond (.t 28) (
      (.seq (
      .reg none [
        ⟨some 29, .load false 1 (.t 6), none, true⟩,
        ⟨some 30, .mv (.t 8), none, true⟩,
        ⟨some 31, .build [.int .i64 0, .int .i64 0, .int .i64 0] [(0, 1, .c (.int .i64 1)), (1, 1, .t 29), (2, 1, .t 30)], none, true⟩,
        ⟨none, .store 3 (.t 4) (.t 31), none, true⟩,
        ⟨none, .store 1 (.t 5) (.c (.bool true)), none, true⟩] (some []) [6]) (
      .ret))) (
      .skip))))) (some []) [28])
def A69_R2 : ACode := .rf 1 (.t 17) [18, 19]  A69_R2a A69_R2b
def A69_R3a : ACode := 
  (.seq (
  .reg none [
    ⟨some 6, .alloc [.int .i64 0], none, true⟩,
    ⟨none, .store 1 (.t 6) (.t 14), none, true⟩] (some [3, 4, 5, 6, 15]) []) (
  .reg none [
    ⟨some 7, .alloc [.int .i64 0, .int .i64 0, .int .i64 0, .int .i64 0], none, true⟩,
    ⟨none, .store 4 (.t 7) (.t 15), none, true⟩] (some [3, 4, 5, 6, 7]) []))
def A69_R3b : ACode := 
  (.block 1 (
  (.seq (
  .reg none [
    ⟨some 16, .load false 1 (.t 3), none, true⟩,
    ⟨some 17, .call 96 [.t 16], none, true⟩] (some [4, 5, 6, 7, 17]) [3]) (
  (.block 2 (
  A69_R2) (some []) [8, 9, 28])))) (some []) [8, 9, 17, 28])
def A69_R3 : ACode := .rf 0 (.t 13) [14, 15]  A69_R3a A69_R3b
/-- ambidexter/intersect.FindContact -/
def A69 : AFn := .code [.cell true 3 4, .cell false 1 5] (
(.seq (
.reg none [
  ⟨some 3, .box (.t 1), none, true⟩,
  ⟨some 4, .alloc [.int .i64 0, .int .i64 0, .int .i64 0], none, true⟩,
  ⟨some 5, .alloc [.bool false], none, true⟩] (some [0, 3, 4, 5]) []) (
(.seq (
(.seq (
.reg none [
  ⟨some 12, .mv (.t 0), none, true⟩,
  ⟨some 13, .call 96 [.t 12], none, true⟩] (some [0, 3, 4, 5, 13]) []) (
(.block 0 (
A69_R3) (some [0, 3, 4, 5]) [6, 7, 9, 17, 28])))) (
(.seq (
(.seq (
.reg none [
  ⟨some 32, .mv (.t 0), none, true⟩,
  ⟨some 33, .len 0 (.t 32), none, true⟩,
  ⟨some 34, .mv (.c (.int .i64 0)), none, true⟩] (some [0, 3, 4, 5, 33, 34]) []) (
(.block 4 (
A69_L1) (some [0, 3, 4, 5]) [40])))) (
(.seq (
(.seq (
.reg none [
  ⟨some 44, .load false 1 (.t 3), none, true⟩,
  ⟨some 45, .len 0 (.t 44), none, true⟩,
  ⟨some 46, .mv (.c (.int .i64 0)), none, true⟩] (some [0, 3, 4, 5, 45, 46]) []) (
(.block 6 (
A69_L0) (some [4, 5]) [52])))) (
(.seq (
.reg none [
  ⟨some 56, .build [.int .i64 0, .int .i64 0, .int .i64 0] [], none, true⟩,
  ⟨none, .store 3 (.t 4) (.t 56), none, true⟩,
  ⟨none, .store 1 (.t 5) (.c (.bool false)), none, true⟩] (some [4, 5]) []) (
.ret)))))))))))
/-- ambidexter/rotation.ValidDirection -/
def A82 : AFn := .code [.t 2] (
(.seq (
.reg none [
  ⟨some 1, .box (.t 0), none, true⟩,
  ⟨some 2, .as (.c (.bool false)), none, true⟩] (some [1]) []) (
(.seq (
(.seq (
.reg none [
  ⟨some 6, .fad 2 (.t 1), none, true⟩,
  ⟨some 7, .load false 1 (.t 6), none, true⟩,
  ⟨some 8, .bin .lss (.t 7) (.c (.int .i64 0)), none, true⟩,
  ⟨some 9, .mv (.t 8), none, true⟩,
  ⟨some 10, .fad 2 (.t 1), some (9, false), true⟩,
  ⟨some 11, .load false 1 (.t 10), some (9, false), true⟩,
  ⟨some 12, .bin .gtr (.t 11) (.c (.int .i64 3)), some (9, false), true⟩,
  ⟨some 13, .pick (.t 9) (.c (.bool true)) (.t 12), none, true⟩] (some [1, 13]) []) (
(.cond (.t 13) (
  (.seq (
  .reg none [
    ⟨some 2, .as (.c (.bool false)), none, true⟩] (some [2]) []) (
  .ret))) (
  .skip))))) (
(.seq (
.reg none [
  ⟨some 14, .fad 2 (.t 1), none, true⟩,
  ⟨some 15, .load false 1 (.t 14), none, true⟩,
  ⟨some 16, .mkf (.func 86) [.t 15] [], none, true⟩,
  ⟨some 3, .as (.t 16), none, true⟩] (some [1, 3]) []) (
(.seq (
.reg none [
  ⟨some 17, .mv (.t 3), none, true⟩,
  ⟨some 18, .cal (.t 17) [], none, true⟩,
  ⟨some 4, .alloc [.int .i64 0], none, true⟩,
  ⟨none, .store 1 (.t 4) (.t 18), none, true⟩] (some [1, 4]) []) (
(.seq (
.reg none [
  ⟨some 19, .mkf (.func 108) [] [.t 4], none, true⟩,
  ⟨some 5, .as (.t 19), none, true⟩] (some [1, 4, 5]) []) (
(.seq (
.reg none [
  ⟨some 20, .mv (.t 5), none, true⟩,
  ⟨some 21, .fad 0 (.t 1), none, true⟩,
  ⟨some 22, .load false 1 (.t 21), none, true⟩,
  ⟨some 23, .cal (.t 20) [.t 22], none, true⟩,
  ⟨some 24, .mv (.t 23), none, true⟩,
  ⟨some 25, .mv (.t 5), some (24, true), true⟩,
  ⟨some 26, .fad 1 (.t 1), some (24, true), true⟩,
  ⟨some 27, .load false 1 (.t 26), some (24, true), true⟩,
  ⟨some 28, .cal (.t 25) [.t 27], some (24, true), true⟩,
  ⟨some 29, .pick (.t 24) (.t 28) (.c (.bool false)), none, true⟩,
  ⟨some 30, .mv (.t 29), none, true⟩,
  ⟨some 31, .fad 0 (.t 1), some (30, true), true⟩,
  ⟨some 32, .load false 1 (.t 31), some (30, true), true⟩,
  ⟨some 33, .fad 0 (.t 1), some (30, true), true⟩,
  ⟨some 34, .load false 1 (.t 33), some (30, true), true⟩,
  ⟨some 35, .bin .mul (.t 32) (.t 34), some (30, true), true⟩,
  ⟨some 36, .fad 1 (.t 1), some (30, true), true⟩,
  ⟨some 37, .load false 1 (.t 36), some (30, true), true⟩,
  ⟨some 38, .fad 1 (.t 1), some (30, true), true⟩,
  ⟨some 39, .load false 1 (.t 38), some (30, true), true⟩,
  ⟨some 40, .bin .mul (.t 37) (.t 39), some (30, true), true⟩,
  ⟨some 41, .bin .add (.t 35) (.t 40), some (30, true), true⟩,
  ⟨some 42, .load false 1 (.t 4), some (30, true), true⟩,
  ⟨some 43, .load false 1 (.t 4), some (30, true), true⟩,
  ⟨some 44, .bin .mul (.t 42) (.t 43), some (30, true), true⟩,
  ⟨some 45, .bin .eql (.t 41) (.t 44), some (30, true), true⟩,
  ⟨some 46, .pick (.t 30) (.t 45) (.c (.bool false)), none, true⟩,
  ⟨some 2, .as (.t 46), none, true⟩] (some [2]) [1]) (
.ret)))))))))))))
/-- (ambidexter/rotation.vector).by -/
def A83 : AFn := .code [.cell true 2 4] (
(.seq (
.reg none [
  ⟨some 2, .box (.t 0), none, true⟩,
  ⟨some 4, .alloc [.int .i64 0, .int .i64 0], none, true⟩] (some [1, 2, 4]) []) (
(.seq (
.reg none [
  ⟨some 8, .mv (.t 1), none, true⟩,
  ⟨some 9, .call 109 [.t 8], none, true⟩,
  ⟨some 7, .mv (.t 9), none, true⟩,
  ⟨some 10, .ext (.t 7) 0, none, true⟩,
  ⟨some 11, .ext (.t 7) 1, none, true⟩,
  ⟨some 5, .as (.t 10), none, true⟩,
  ⟨some 6, .as (.t 11), none, true⟩] (some [2, 4, 5, 6]) []) (
(.seq (
.reg none [
  ⟨some 12, .fad 0 (.t 2), none, true⟩,
  ⟨some 13, .load false 1 (.t 12), none, true⟩,
  ⟨some 14, .mv (.t 5), none, true⟩,
  ⟨some 15, .bin .mul (.t 13) (.t 14), none, true⟩,
  ⟨some 16, .fad 1 (.t 2), none, true⟩,
  ⟨some 17, .load false 1 (.t 16), none, true⟩,
  ⟨some 18, .mv (.t 6), none, true⟩,
  ⟨some 19, .bin .mul (.t 17) (.t 18), none, true⟩,
  ⟨some 20, .bin .sub (.t 15) (.t 19), none, true⟩,
  ⟨some 21, .fad 0 (.t 2), none, true⟩,
  ⟨some 22, .load false 1 (.t 21), none, true⟩,
  ⟨some 23, .mv (.t 6), none, true⟩,
  ⟨some 24, .bin .mul (.t 22) (.t 23), none, true⟩,
  ⟨some 25, .fad 1 (.t 2), none, true⟩,
  ⟨some 26, .load false 1 (.t 25), none, true⟩,
  ⟨some 27, .mv (.t 5), none, true⟩,
  ⟨some 28, .bin .mul (.t 26) (.t 27), none, true⟩,
  ⟨some 29, .bin .add (.t 24) (.t 28), none, true⟩,
  ⟨some 30, .build [.int .i64 0, .int .i64 0] [(0, 1, .t 20), (1, 1, .t 29)], none, true⟩,
  ⟨none, .store 2 (.t 4) (.t 30), none, true⟩] (some [4]) [2]) (
.ret)))))))
def A86_L0b : ACode := 
  (.seq (
  .reg none [
    ⟨some 6, .bin .lss (.t 5) (.t 4), none, true⟩] (some [3, 4, 5, 6]) []) (
  (.seq (
  (.cond (.t 6) (
    .skip) (
    .exit 0))) (
  (.seq (
  (.block 1 (
  .reg none [
    ⟨some 7, .mv (.t 3), none, true⟩,
    ⟨some 8, .bin .mul (.t 7) (.c (.int .i64 65)), none, true⟩,
    ⟨some 3, .as (.t 8), none, true⟩] (some [3, 4, 5]) []) (some [3, 4, 5]) [])) (
  .reg none [
    ⟨some 9, .bin .add (.t 5) (.c (.int .i64 1)), none, true⟩,
    ⟨some 5, .mv (.t 9), none, true⟩] (some [3, 4, 5]) []))))))
def A86_L0 : ACode := .loop A86_L0b (some [3, 4, 5]) []
/-- (ambidexter/rotation.power).of -/
def A86 : AFn := .code [.t 2] (
(.seq (
.reg none [
  ⟨some 2, .as (.c (.int .i64 0)), none, true⟩] (some [0]) []) (
(.seq (
.reg none [
  ⟨some 3, .as (.c (.int .i64 1)), none, true⟩] (some [0, 3]) []) (
(.seq (
(.seq (
.reg none [
  ⟨some 4, .mv (.t 0), none, true⟩,
  ⟨some 5, .mv (.c (.int .i64 0)), none, true⟩] (some [3, 4, 5]) []) (
(.block 0 (
A86_L0) (some [3]) [])))) (
(.seq (
.reg none [
  ⟨some 10, .mv (.t 3), none, true⟩,
  ⟨some 2, .as (.t 10), none, true⟩] (some [2]) []) (
.ret)))))))))
def A87_L0b : ACode := 
  (.seq (
  .reg none [
    ⟨some 9, .bin .lss (.t 8) (.t 7), none, true⟩] (some [0, 1, 7, 8, 9]) []) (
  (.seq (
  (.cond (.t 9) (
    .skip) (
    .exit 0))) (
  (.seq (
  (.block 1 (
  (.seq (
  .reg none [
    ⟨some 10, .mv (.t 8), none, true⟩,
    ⟨some 5, .as (.t 10), none, true⟩] (some [0, 1, 5, 7, 8]) []) (
  (.seq (
  .reg none [
    ⟨some 11, .mv (.t 1), none, true⟩,
    ⟨some 12, .mv (.t 0), none, true⟩,
    ⟨some 13, .mv (.t 5), none, true⟩,
    ⟨some 14, .ias 2 (.t 12) (.t 13), none, true⟩,
    ⟨some 15, .load true 2 (.t 14), none, true⟩,
    ⟨some 16, .cal (.t 11) [.t 15], none, true⟩] (some [0, 1, 5, 7, 8, 16]) []) (
  (.cond (.t 16) (
    (.seq (
    .reg none [
      ⟨some 17, .mv (.t 5), none, true⟩,
      ⟨some 4, .as (.t 17), none, true⟩] (some [4]) []) (
    .ret))) (
    .skip))))))) (some [0, 1, 7, 8]) [4, 5, 16])) (
  .reg none [
    ⟨some 18, .bin .add (.t 8) (.c (.int .i64 1)), none, true⟩,
    ⟨some 8, .mv (.t 18), none, true⟩] (some [0, 1, 7, 8]) []))))))
def A87_L0 : ACode := .loop A87_L0b (some [0, 1, 7, 8]) [4, 5, 16]
/-- slices.IndexFunc[ambidexter/api.Polygon,ambidexter/api.Point] -/
def A87 : AFn := .code [.t 4] (
(.seq (
.reg none [
  ⟨some 4, .as (.c (.int .i64 0)), none, true⟩] (some [0, 1]) []) (
(.seq (
(.seq (
.reg none [
  ⟨some 6, .mv (.t 0), none, true⟩,
  ⟨some 7, .len 0 (.t 6), none, true⟩,
  ⟨some 8, .mv (.c (.int .i64 0)), none, true⟩] (some [0, 1, 7, 8]) []) (
(.block 0 (
A87_L0) (some []) [4, 5, 16])))) (
(.seq (
.reg none [
  ⟨some 4, .as (.c (.int .i64 (-1))), none, true⟩] (some [4]) []) (
.ret)))))))
/-- ambidexter/geom.SegmentsIntersect -/
def A88 : AFn := .code [.t 8] (
(.seq (
.reg none [
  ⟨some 4, .box (.t 0), none, true⟩,
  ⟨some 5, .box (.t 1), none, true⟩,
  ⟨some 6, .box (.t 2), none, true⟩,
  ⟨some 7, .box (.t 3), none, true⟩,
  ⟨some 8, .as (.c (.bool false)), none, true⟩] (some [4, 5, 6, 7]) []) (
(.seq (
.reg none [
  ⟨some 9, .as (.fu 111), none, true⟩] (some [4, 5, 6, 7, 9]) []) (
(.seq (
.reg none [
  ⟨some 15, .mv (.t 9), none, true⟩,
  ⟨some 16, .load true 2 (.t 4), none, true⟩,
  ⟨some 17, .load true 2 (.t 5), none, true⟩,
  ⟨some 18, .load true 2 (.t 6), none, true⟩,
  ⟨some 19, .load true 2 (.t 7), none, true⟩,
  ⟨some 20, .cal (.t 15) [.t 16, .t 17, .t 18, .t 19], none, true⟩,
  ⟨some 14, .mv (.t 20), none, true⟩,
  ⟨some 21, .ext (.t 14) 0, none, true⟩,
  ⟨some 22, .ext (.t 14) 1, none, true⟩,
  ⟨some 10, .as (.t 21), none, true⟩,
  ⟨some 11, .as (.t 22), none, true⟩] (some [4, 5, 6, 7, 9, 10, 11]) []) (
(.seq (
.reg none [
  ⟨some 24, .mv (.t 9), none, true⟩,
  ⟨some 25, .load true 2 (.t 6), none, true⟩,
  ⟨some 26, .load true 2 (.t 7), none, true⟩,
  ⟨some 27, .load true 2 (.t 4), none, true⟩,
  ⟨some 28, .load true 2 (.t 5), none, true⟩,
  ⟨some 29, .cal (.t 24) [.t 25, .t 26, .t 27, .t 28], none, true⟩,
  ⟨some 23, .mv (.t 29), none, true⟩,
  ⟨some 30, .ext (.t 23) 0, none, true⟩,
  ⟨some 31, .ext (.t 23) 1, none, true⟩,
  ⟨some 12, .as (.t 30), none, true⟩,
  ⟨some 13, .as (.t 31), none, true⟩] (some [10, 11, 12, 13]) [4, 5, 6, 7]) (
(.seq (
.reg none [
  ⟨some 32, .mv (.t 10), none, true⟩,
  ⟨some 33, .mv (.t 32), none, true⟩,
  ⟨some 34, .mv (.t 12), some (33, true), true⟩,
  ⟨some 35, .pick (.t 33) (.t 34) (.c (.bool false)), none, true⟩,
  ⟨some 36, .mv (.t 35), none, true⟩,
  ⟨some 37, .mv (.t 11), some (36, false), true⟩,
  ⟨some 38, .pick (.t 36) (.c (.bool true)) (.t 37), none, true⟩,
  ⟨some 39, .mv (.t 38), none, true⟩,
  ⟨some 40, .mv (.t 13), some (39, false), true⟩,
  ⟨some 41, .pick (.t 39) (.c (.bool true)) (.t 40), none, true⟩,
  ⟨some 8, .as (.t 41), none, true⟩] (some [8]) []) (
.ret)))))))))))
def A89_L0b : ACode := 
  (.seq (
  .reg none [
    ⟨some 8, .bin .lss (.t 7) (.t 6), none, true⟩] (some [0, 1, 5, 6, 7, 8]) []) (
  (.seq (
  (.cond (.t 8) (
    .skip) (
    .exit 0))) (
  (.seq (
  (.block 1 (
  (.seq (
  .reg none [
    ⟨some 9, .mv (.t 7), none, true⟩,
    ⟨some 10, .ias 2 (.t 5) (.t 7), none, true⟩,
    ⟨some 11, .load true 2 (.t 10), none, true⟩,
    ⟨some 4, .alloc [.int .i64 0, .int .i64 0], none, true⟩,
    ⟨some 3, .as (.t 9), none, true⟩,
    ⟨none, .store 2 (.t 4) (.t 11), none, true⟩] (some [0, 1, 3, 4, 5, 6, 7]) []) (
  (.seq (
  .reg (some [.dr [14, 15, 18, 19, 21, 22] [], .dr [14, 15, 18, 19, 21, 22] [], .dr [15, 18, 19, 21, 22] [], .dr [14, 18, 19] [], .dr [14, 15, 18, 19] [], .dr [14, 15, 18, 19] [], .dr [14, 15] [], .dr [14, 15] [], .dr [14, 15] [], .dr [14] [], .dr [14] [], .dr [] [], .free, .free]) [
    ⟨some 12, .mv (.t 0), none, true⟩,
    ⟨some 13, .mv (.t 3), none, true⟩,
    ⟨some 14, .load true 2 (.t 4), none, true⟩,
    ⟨some 15, .load false 1 (.t 1), none, true⟩,
    ⟨some 16, .mv (.t 3), none, true⟩,
    ⟨some 17, .bin .add (.t 16) (.c (.int .i64 1)), none, true⟩,
    ⟨some 18, .load false 1 (.t 1), none, true⟩,
    ⟨some 19, .len 0 (.t 18), none, true⟩,
    ⟨some 20, .bin .rem (.t 17) (.t 19), none, true⟩,
    ⟨some 21, .ias 2 (.t 15) (.t 20), none, true⟩,
    ⟨some 22, .load true 2 (.t 21), none, true⟩,
    ⟨some 23, .build [.int .i64 0, .int .i64 0, .int .i64 0, .int .i64 0] [(0, 2, .t 14), (2, 2, .t 22)], none, true⟩,
    ⟨some 24, .cal (.t 12) [.t 13, .t 23], none, true⟩,
    ⟨some 25, .un .not (.t 24), none, true⟩] (some [0, 1, 5, 6, 7, 25]) [4]) (
  (.cond (.t 25) (
    .ret) (
    .skip))))))) (some [0, 1, 5, 6, 7]) [3, 4, 24])) (
  .reg none [
    ⟨some 26, .bin .add (.t 7) (.c (.int .i64 1)), none, true⟩,
    ⟨some 7, .mv (.t 26), none, true⟩] (some [0, 1, 5, 6, 7]) []))))))
def A89_L0 : ACode := .loop A89_L0b (some [0, 1, 5, 6, 7]) [3, 4, 24]
/-- ambidexter/polygon.edges$1 -/
def A89 : AFn := .code [] (
(.seq (
.reg none [
  ⟨some 5, .load false 1 (.t 1), none, true⟩,
  ⟨some 6, .len 0 (.t 5), none, true⟩,
  ⟨some 7, .mv (.c (.int .i64 0)), none, true⟩] (some [0, 1, 5, 6, 7]) []) (
(.block 0 (
A89_L0) (some []) [3, 4, 24]))))
/-- ambidexter/geom.within -/
def A90 : AFn := .code [.t 6] (
(.seq (
.reg none [
  ⟨some 3, .box (.t 0), none, true⟩,
  ⟨some 4, .box (.t 1), none, true⟩,
  ⟨some 5, .box (.t 2), none, true⟩,
  ⟨some 6, .as (.c (.bool false)), none, true⟩] (some [3, 4, 5]) []) (
(.seq (
.reg none [
  ⟨some 10, .load true 2 (.t 3), none, true⟩,
  ⟨some 11, .load true 2 (.t 4), none, true⟩,
  ⟨some 12, .bsl 2 2 [.int .i64 0, .int .i64 0] [(0, .t 10), (1, .t 11)], none, true⟩,
  ⟨some 13, .call 107 [.t 12], none, true⟩,
  ⟨some 9, .mv (.t 13), none, true⟩,
  ⟨some 14, .ext (.t 9) 0, none, true⟩,
  ⟨some 15, .ext (.t 9) 1, none, true⟩,
  ⟨some 7, .alloc [.int .i64 0, .int .i64 0], none, true⟩,
  ⟨some 8, .alloc [.int .i64 0, .int .i64 0], none, true⟩,
  ⟨none, .store 2 (.t 7) (.t 14), none, true⟩,
  ⟨none, .store 2 (.t 8) (.t 15), none, true⟩] (some [5, 7, 8]) [3, 4]) (
(.seq (
.reg none [
  ⟨some 16, .fad 0 (.t 5), none, true⟩,
  ⟨some 17, .load false 1 (.t 16), none, true⟩,
  ⟨some 18, .fad 0 (.t 7), none, true⟩,
  ⟨some 19, .load false 1 (.t 18), none, true⟩,
  ⟨some 20, .bin .geq (.t 17) (.t 19), none, true⟩,
  ⟨some 21, .mv (.t 20), none, true⟩,
  ⟨some 22, .fad 0 (.t 5), some (21, true), true⟩,
  ⟨some 23, .load false 1 (.t 22), some (21, true), true⟩,
  ⟨some 24, .fad 0 (.t 8), some (21, true), true⟩,
  ⟨some 25, .load false 1 (.t 24), some (21, true), true⟩,
  ⟨some 26, .bin .leq (.t 23) (.t 25), some (21, true), true⟩,
  ⟨some 27, .pick (.t 21) (.t 26) (.c (.bool false)), none, true⟩,
  ⟨some 28, .mv (.t 27), none, true⟩,
  ⟨some 29, .fad 1 (.t 5), some (28, true), true⟩,
  ⟨some 30, .load false 1 (.t 29), some (28, true), true⟩,
  ⟨some 31, .fad 1 (.t 7), some (28, true), true⟩,
  ⟨some 32, .load false 1 (.t 31), some (28, true), true⟩,
  ⟨some 33, .bin .geq (.t 30) (.t 32), some (28, true), true⟩,
  ⟨some 34, .pick (.t 28) (.t 33) (.c (.bool false)), none, true⟩,
  ⟨some 35, .mv (.t 34), none, true⟩,
  ⟨some 36, .fad 1 (.t 5), some (35, true), true⟩,
  ⟨some 37, .load false 1 (.t 36), some (35, true), true⟩,
  ⟨some 38, .fad 1 (.t 8), some (35, true), true⟩,
  ⟨some 39, .load false 1 (.t 38), some (35, true), true⟩,
  ⟨some 40, .bin .leq (.t 37) (.t 39), some (35, true), true⟩,
  ⟨some 41, .pick (.t 35) (.t 40) (.c (.bool false)), none, true⟩,
  ⟨some 6, .as (.t 41), none, true⟩] (some [6]) [5, 7, 8]) (
.ret)))))))
/-- (ambidexter/rotation.vector).left -/
def A91 : AFn := .code [.cell true 2 2] (
(.seq (
.reg none [
  ⟨some 1, .box (.t 0), none, true⟩,
  ⟨some 2, .alloc [.int .i64 0, .int .i64 0], none, true⟩] (some [1, 2]) []) (
(.seq (
.reg none [
  ⟨some 3, .fad 1 (.t 1), none, true⟩,
  ⟨some 4, .load false 1 (.t 3), none, true⟩,
  ⟨some 5, .un .neg (.t 4), none, true⟩,
  ⟨some 6, .fad 0 (.t 1), none, true⟩,
  ⟨some 7, .load false 1 (.t 6), none, true⟩,
  ⟨some 8, .build [.int .i64 0, .int .i64 0] [(0, 1, .t 5), (1, 1, .t 7)], none, true⟩,
  ⟨none, .store 2 (.t 2) (.t 8), none, true⟩] (some [2]) [1]) (
.ret)))))
def A92_L0b : ACode := 
  (.seq (
  .reg none [
    ⟨some 11, .bin .lss (.t 10) (.t 9), none, true⟩] (some [1, 5, 8, 9, 10, 11]) []) (
  (.seq (
  (.cond (.t 11) (
    .skip) (
    .exit 0))) (
  (.seq (
  (.block 1 (
  (.seq (
  .reg none [
    ⟨some 12, .ias 2 (.t 8) (.t 10), none, true⟩,
    ⟨some 13, .load true 2 (.t 12), none, true⟩,
    ⟨some 7, .alloc [.int .i64 0, .int .i64 0], none, true⟩,
    ⟨none, .store 2 (.t 7) (.t 13), none, true⟩] (some [1, 5, 7, 8, 9, 10]) []) (
  .reg none [
    ⟨some 14, .mv (.t 5), none, true⟩,
    ⟨some 15, .mv (.t 1), none, true⟩,
    ⟨some 16, .load true 2 (.t 7), none, true⟩,
    ⟨some 17, .cal (.t 15) [.t 16], none, true⟩,
    ⟨some 18, .bsl 2 1 [.int .i64 0, .int .i64 0] [(0, .t 17)], none, true⟩,
    ⟨some 19, .app 2 (.t 14) (.t 18), none, true⟩,
    ⟨some 5, .as (.t 19), none, true⟩] (some [1, 5, 8, 9, 10]) [7]))) (some [1, 5, 8, 9, 10]) [7, 17, 18])) (
  .reg none [
    ⟨some 20, .bin .add (.t 10) (.c (.int .i64 1)), none, true⟩,
    ⟨some 10, .mv (.t 20), none, true⟩] (some [1, 5, 8, 9, 10]) []))))))
def A92_L0 : ACode := .loop A92_L0b (some [1, 5, 8, 9, 10]) [7, 17, 18]
/-- ambidexter/polygon.each[ambidexter/api.Point,ambidexter/api.Polygon] -/
def A92 : AFn := .code [.t 4] (
(.seq (
.reg none [
  ⟨some 4, .as (.c (.nils 2)), none, true⟩] (some [0, 1]) []) (
(.seq (
.reg none [
  ⟨some 5, .as (.c (.nils 2)), none, true⟩] (some [0, 1, 5]) []) (
(.seq (
(.seq (
.reg none [
  ⟨some 8, .mv (.t 0), none, true⟩,
  ⟨some 9, .len 0 (.t 8), none, true⟩,
  ⟨some 10, .mv (.c (.int .i64 0)), none, true⟩] (some [1, 5, 8, 9, 10]) []) (
(.block 0 (
A92_L0) (some [5]) [7, 17, 18])))) (
(.seq (
.reg none [
  ⟨some 21, .mv (.t 5), none, true⟩,
  ⟨some 4, .as (.t 21), none, true⟩] (some [4]) []) (
.ret)))))))))
/-- ambidexter/polygon.Rotate$1 -/
def A93 : AFn := .code [.cell true 2 4] (
(.seq (
.reg none [
  ⟨some 3, .box (.t 0), none, true⟩,
  ⟨some 4, .alloc [.int .i64 0, .int .i64 0], none, true⟩] (some [1, 2, 3, 4]) []) (
(.seq (
.reg none [
  ⟨some 8, .load true 2 (.t 3), none, true⟩,
  ⟨some 9, .load false 1 (.t 1), none, true⟩,
  ⟨some 10, .call 94 [.t 8, .t 9], none, true⟩,
  ⟨some 7, .mv (.t 10), none, true⟩,
  ⟨some 11, .ext (.t 7) 0, none, true⟩,
  ⟨some 12, .ext (.t 7) 1, none, true⟩,
  ⟨some 5, .alloc [.int .i64 0, .int .i64 0], none, true⟩,
  ⟨none, .store 2 (.t 5) (.t 11), none, true⟩,
  ⟨some 6, .as (.t 12), none, true⟩] (some [2, 4, 5, 6]) [3]) (
(.seq (
.reg none [
  ⟨some 13, .load false 1 (.t 2), none, true⟩,
  ⟨some 14, .mv (.t 13), none, true⟩,
  ⟨some 15, .mv (.t 6), some (14, true), true⟩,
  ⟨some 16, .pick (.t 14) (.t 15) (.c (.bool false)), none, true⟩,
  ⟨none, .store 1 (.t 2) (.t 16), none, true⟩] (some [4, 5]) []) (
(.seq (
.reg none [
  ⟨some 17, .load true 2 (.t 5), none, true⟩,
  ⟨none, .store 2 (.t 4) (.t 17), none, true⟩] (some [4]) [5]) (
.ret)))))))))
/-- ambidexter/rotation.RotatePoint -/
def A94 : AFn := .code [.cell true 2 4, .t 5] (
(.seq (
.reg none [
  ⟨some 2, .box (.t 0), none, true⟩,
  ⟨some 4, .alloc [.int .i64 0, .int .i64 0], none, true⟩,
  ⟨some 5, .as (.c (.bool false)), none, true⟩] (some [1, 2, 4]) []) (
(.seq (
.reg none [
  ⟨some 7, .fad 0 (.t 2), none, true⟩,
  ⟨some 8, .load false 1 (.t 7), none, true⟩,
  ⟨some 9, .fad 1 (.t 2), none, true⟩,
  ⟨some 10, .load false 1 (.t 9), none, true⟩,
  ⟨some 11, .build [.int .i64 0, .int .i64 0] [(0, 1, .t 8), (1, 1, .t 10)], none, true⟩,
  ⟨some 12, .mv (.t 1), none, true⟩,
  ⟨some 13, .call 83 [.t 11, .t 12], none, true⟩,
  ⟨some 6, .alloc [.int .i64 0, .int .i64 0], none, true⟩,
  ⟨none, .store 2 (.t 6) (.t 13), none, true⟩] (some [4, 6]) [2]) (
(.seq (
(.seq (
.reg none [
  ⟨some 14, .fad 0 (.t 6), none, true⟩,
  ⟨some 15, .load false 1 (.t 14), none, true⟩,
  ⟨some 16, .bin .rem (.t 15) (.c (.int .i64 65)), none, true⟩,
  ⟨some 17, .bin .neq (.t 16) (.c (.int .i64 0)), none, true⟩,
  ⟨some 18, .mv (.t 17), none, true⟩,
  ⟨some 19, .fad 1 (.t 6), some (18, false), true⟩,
  ⟨some 20, .load false 1 (.t 19), some (18, false), true⟩,
  ⟨some 21, .bin .rem (.t 20) (.c (.int .i64 65)), some (18, false), true⟩,
  ⟨some 22, .bin .neq (.t 21) (.c (.int .i64 0)), some (18, false), true⟩,
  ⟨some 23, .pick (.t 18) (.c (.bool true)) (.t 22), none, true⟩] (some [4, 6, 23]) []) (
(.cond (.t 23) (
  (.seq (
  .reg none [
    ⟨some 24, .build [.int .i64 0, .int .i64 0] [], none, true⟩,
    ⟨none, .store 2 (.t 4) (.t 24), none, true⟩,
    ⟨some 5, .as (.c (.bool false)), none, true⟩] (some [4, 5]) []) (
  .ret))) (
  .skip))))) (
(.seq (
.reg none [
  ⟨some 25, .fad 0 (.t 6), none, true⟩,
  ⟨some 26, .load false 1 (.t 25), none, true⟩,
  ⟨some 27, .bin .quo (.t 26) (.c (.int .i64 65)), none, true⟩,
  ⟨some 28, .fad 1 (.t 6), none, true⟩,
  ⟨some 29, .load false 1 (.t 28), none, true⟩,
  ⟨some 30, .bin .quo (.t 29) (.c (.int .i64 65)), none, true⟩,
  ⟨some 31, .build [.int .i64 0, .int .i64 0] [(0, 1, .t 27), (1, 1, .t 30)], none, true⟩,
  ⟨none, .store 2 (.t 4) (.t 31), none, true⟩,
  ⟨some 5, .as (.c (.bool true)), none, true⟩] (some [4, 5]) [6]) (
.ret)))))))))
/-- ambidexter/polygon.Translate$1 -/
def A95 : AFn := .code [.cell true 2 3] (
(.seq (
.reg none [
  ⟨some 2, .box (.t 0), none, true⟩,
  ⟨some 3, .alloc [.int .i64 0, .int .i64 0], none, true⟩] (some [1, 2, 3]) []) (
(.seq (
.reg none [
  ⟨some 4, .load true 2 (.t 2), none, true⟩,
  ⟨some 5, .load true 2 (.t 1), none, true⟩,
  ⟨some 6, .call 54 [.t 4, .t 5], none, true⟩,
  ⟨none, .store 2 (.t 3) (.t 6), none, true⟩] (some [3]) [2]) (
.ret)))))
/-- ambidexter/intersect.edges -/
def A96 : AFn := .code [.t 2] (
(.seq (
.reg none [
  ⟨some 1, .box (.t 0), none, true⟩,
  ⟨some 2, .as (.c (.nilf)), none, true⟩] (some [1]) []) (
(.seq (
.reg none [
  ⟨some 3, .mkf (.func 112) [] [.t 1], none, true⟩,
  ⟨some 2, .as (.t 3), none, true⟩] (some [2]) []) (
.ret)))))
/-- ambidexter/intersect.inside -/
def A97 : AFn := .code [.t 6] (
(.seq (
.reg none [
  ⟨some 6, .as (.c (.bool false)), none, true⟩] (some [0, 1, 2]) []) (
(.seq (
.reg none [
  ⟨some 7, .mv (.t 1), none, true⟩,
  ⟨some 8, .bin .geq (.t 7) (.c (.int .i64 0)), none, true⟩,
  ⟨some 9, .mv (.t 8), none, true⟩,
  ⟨some 10, .mv (.t 1), some (9, true), true⟩,
  ⟨some 11, .mv (.t 0), some (9, true), true⟩,
  ⟨some 12, .len 0 (.t 11), some (9, true), true⟩,
  ⟨some 13, .bin .lss (.t 10) (.t 12), some (9, true), true⟩,
  ⟨some 14, .pick (.t 9) (.t 13) (.c (.bool false)), none, true⟩,
  ⟨some 15, .mv (.t 14), none, true⟩,
  ⟨some 16, .mv (.t 2), some (15, true), true⟩,
  ⟨some 17, .mv (.t 0), some (15, true), true⟩,
  ⟨some 18, .mv (.t 1), some (15, true), true⟩,
  ⟨some 19, .ias 2 (.t 17) (.t 18), some (15, true), true⟩,
  ⟨some 20, .load true 2 (.t 19), some (15, true), true⟩,
  ⟨some 21, .call 33 [.t 16, .t 20], some (15, true), true⟩,
  ⟨some 22, .bin .neq (.t 21) (.c (.int .i64 (-1))), some (15, true), true⟩,
  ⟨some 23, .pick (.t 15) (.t 22) (.c (.bool false)), none, true⟩,
  ⟨some 6, .as (.t 23), none, true⟩] (some [6]) []) (
.ret)))))
/-- ambidexter/geom.BoundingBox -/
def A107 : AFn := .code [.cell true 2 2, .cell true 2 3] (
(.seq (
.reg none [
  ⟨some 2, .alloc [.int .i64 0, .int .i64 0], none, true⟩,
  ⟨some 3, .alloc [.int .i64 0, .int .i64 0], none, true⟩] (some [0, 2, 3]) []) (
(.seq (
(.seq (
.reg none [
  ⟨some 6, .mv (.t 0), none, true⟩,
  ⟨some 7, .len 0 (.t 6), none, true⟩,
  ⟨some 8, .bin .eql (.t 7) (.c (.int .i64 0)), none, true⟩] (some [0, 2, 3, 8]) []) (
(.cond (.t 8) (
  (.seq (
  .reg none [
    ⟨some 9, .build [.int .i64 0, .int .i64 0] [], none, true⟩,
    ⟨some 10, .build [.int .i64 0, .int .i64 0] [], none, true⟩,
    ⟨none, .store 2 (.t 2) (.t 9), none, true⟩,
    ⟨none, .store 2 (.t 3) (.t 10), none, true⟩] (some [2, 3]) []) (
  .ret))) (
  .skip))))) (
(.seq (
.reg none [
  ⟨some 11, .mv (.t 0), none, true⟩,
  ⟨some 12, .mv (.t 0), none, true⟩,
  ⟨some 13, .ias 2 (.t 12) (.c (.int .i64 0)), none, true⟩,
  ⟨some 14, .load true 2 (.t 13), none, true⟩,
  ⟨some 15, .call 117 [.t 11, .t 14, .fu 118], none, true⟩,
  ⟨some 4, .alloc [.int .i64 0, .int .i64 0], none, true⟩,
  ⟨none, .store 2 (.t 4) (.t 15), none, true⟩] (some [0, 2, 3, 4]) []) (
(.seq (
.reg none [
  ⟨some 16, .mv (.t 0), none, true⟩,
  ⟨some 17, .mv (.t 0), none, true⟩,
  ⟨some 18, .ias 2 (.t 17) (.c (.int .i64 0)), none, true⟩,
  ⟨some 19, .load true 2 (.t 18), none, true⟩,
  ⟨some 20, .call 117 [.t 16, .t 19, .fu 119], none, true⟩,
  ⟨some 5, .alloc [.int .i64 0, .int .i64 0], none, true⟩,
  ⟨none, .store 2 (.t 5) (.t 20), none, true⟩] (some [2, 3, 4, 5]) []) (
(.seq (
.reg (some [.dr [22] [], .dr [21] [2], .dr [22] [], .free]) [
  ⟨some 21, .load true 2 (.t 4), none, true⟩,
  ⟨some 22, .load true 2 (.t 5), none, true⟩,
  ⟨none, .store 2 (.t 2) (.t 21), none, true⟩,
  ⟨none, .store 2 (.t 3) (.t 22), none, true⟩] (some [2, 3]) [4, 5]) (
.ret)))))))))))
/-- ambidexter/rotation.ValidDirection$1 -/
def A108 : AFn := .code [.t 3] (
(.seq (
.reg none [
  ⟨some 3, .as (.c (.bool false)), none, true⟩] (some [0, 1]) []) (
(.seq (
.reg none [
  ⟨some 4, .mv (.t 0), none, true⟩,
  ⟨some 5, .load false 1 (.t 1), none, true⟩,
  ⟨some 6, .un .neg (.t 5), none, true⟩,
  ⟨some 7, .bin .geq (.t 4) (.t 6), none, true⟩,
  ⟨some 8, .mv (.t 7), none, true⟩,
  ⟨some 9, .mv (.t 0), some (8, true), true⟩,
  ⟨some 10, .load false 1 (.t 1), some (8, true), true⟩,
  ⟨some 11, .bin .leq (.t 9) (.t 10), some (8, true), true⟩,
  ⟨some 12, .pick (.t 8) (.t 11) (.c (.bool false)), none, true⟩,
  ⟨some 3, .as (.t 12), none, true⟩] (some [3]) []) (
.ret)))))
def A109_L0b : ACode := 
  (.seq (
  .reg none [
    ⟨some 22, .bin .lss (.t 21) (.t 20), none, true⟩] (some [6, 7, 20, 21, 22]) []) (
  (.seq (
  (.cond (.t 22) (
    .skip) (
    .exit 0))) (
  (.seq (
  (.block 1 (
  .reg none [
    ⟨some 23, .mv (.t 7), none, true⟩,
    ⟨some 24, .load true 2 (.t 6), none, true⟩,
    ⟨some 25, .cal (.t 23) [.t 24], none, true⟩,
    ⟨none, .store 2 (.t 6) (.t 25), none, true⟩] (some [6, 7, 20, 21]) []) (some [6, 7, 20, 21]) [])) (
  .reg none [
    ⟨some 26, .bin .add (.t 21) (.c (.int .i64 1)), none, true⟩,
    ⟨some 21, .mv (.t 26), none, true⟩] (some [6, 7, 20, 21]) []))))))
def A109_L0 : ACode := .loop A109_L0b (some [6, 7, 20, 21]) []
/-- ambidexter/rotation.CosSin -/
def A109 : AFn := .code [.t 2, .t 3] (
(.seq (
.reg none [
  ⟨some 2, .as (.c (.int .i64 0)), none, true⟩,
  ⟨some 3, .as (.c (.int .i64 0)), none, true⟩] (some [0]) []) (
(.seq (
.reg none [
  ⟨some 8, .mv (.t 0), none, true⟩,
  ⟨some 9, .call 120 [.t 8], none, true⟩,
  ⟨some 4, .as (.t 9), none, true⟩] (some [4]) []) (
(.seq (
.reg none [
  ⟨some 10, .call 121 [], none, true⟩,
  ⟨some 11, .mv (.t 4), none, true⟩,
  ⟨some 12, .bin .rem (.t 11) (.c (.int .i64 9)), none, true⟩,
  ⟨some 13, .ixa true 9 2 (.t 10) (.t 12), none, true⟩,
  ⟨some 5, .alloc [.int .i64 0, .int .i64 0], none, true⟩,
  ⟨none, .store 2 (.t 5) (.t 13), none, true⟩] (some [4, 5]) []) (
(.seq (
.reg none [
  ⟨some 14, .iaa 2 1 (.t 5) (.c (.int .i64 0)), none, true⟩,
  ⟨some 15, .load false 1 (.t 14), none, true⟩,
  ⟨some 16, .iaa 2 1 (.t 5) (.c (.int .i64 1)), none, true⟩,
  ⟨some 17, .load false 1 (.t 16), none, true⟩,
  ⟨some 18, .build [.int .i64 0, .int .i64 0] [(0, 1, .t 15), (1, 1, .t 17)], none, true⟩,
  ⟨some 6, .alloc [.int .i64 0, .int .i64 0], none, true⟩,
  ⟨none, .store 2 (.t 6) (.t 18), none, true⟩] (some [4, 6]) [5]) (
(.seq (
.reg none [
  ⟨some 7, .as (.fu 91), none, true⟩] (some [4, 6, 7]) []) (
(.seq (
(.seq (
.reg none [
  ⟨some 19, .mv (.t 4), none, true⟩,
  ⟨some 20, .bin .quo (.t 19) (.c (.int .i64 9)), none, true⟩,
  ⟨some 21, .mv (.c (.int .i64 0)), none, true⟩] (some [6, 7, 20, 21]) []) (
(.block 0 (
A109_L0) (some [6]) [])))) (
(.seq (
.reg (some [.dr [30] [], .dr [30] [], .dr [28] [], .dr [28] [], .dr [30] [], .free]) [
  ⟨some 27, .fad 0 (.t 6), none, true⟩,
  ⟨some 28, .load false 1 (.t 27), none, true⟩,
  ⟨some 29, .fad 1 (.t 6), none, true⟩,
  ⟨some 30, .load false 1 (.t 29), none, true⟩,
  ⟨some 2, .as (.t 28), none, true⟩,
  ⟨some 3, .as (.t 30), none, true⟩] (some [2, 3]) [6]) (
.ret)))))))))))))))
/-- ambidexter/geom.SegmentsIntersect$1 -/
def A111 : AFn := .code [.t 8, .t 9] (
(.seq (
.reg none [
  ⟨some 4, .box (.t 0), none, true⟩,
  ⟨some 5, .box (.t 1), none, true⟩,
  ⟨some 6, .box (.t 2), none, true⟩,
  ⟨some 7, .box (.t 3), none, true⟩,
  ⟨some 8, .as (.c (.bool false)), none, true⟩,
  ⟨some 9, .as (.c (.bool false)), none, true⟩] (some [4, 5, 6, 7]) []) (
(.seq (
.reg (some [.dr [13, 14, 16, 17, 18] [], .dr [12, 14, 16, 17, 18] [], .dr [12, 13, 16, 17, 18] [], .dr [16, 17, 18] [], .dr [12, 13, 14, 15, 17, 18] [], .dr [12, 13, 14, 15, 16, 18] [], .dr [12, 13, 14, 15, 16, 17] [], .free, .free, .free]) [
  ⟨some 12, .load true 2 (.t 4), none, true⟩,
  ⟨some 13, .load true 2 (.t 5), none, true⟩,
  ⟨some 14, .load true 2 (.t 6), none, true⟩,
  ⟨some 15, .call 62 [.t 12, .t 13, .t 14], none, true⟩,
  ⟨some 16, .load true 2 (.t 4), none, true⟩,
  ⟨some 17, .load true 2 (.t 5), none, true⟩,
  ⟨some 18, .load true 2 (.t 7), none, true⟩,
  ⟨some 19, .call 62 [.t 16, .t 17, .t 18], none, true⟩,
  ⟨some 10, .as (.t 15), none, true⟩,
  ⟨some 11, .as (.t 19), none, true⟩] (some [4, 5, 6, 7, 10, 11]) []) (
(.seq (
.reg none [
  ⟨some 20, .mv (.t 10), none, true⟩,
  ⟨some 21, .mv (.t 11), none, true⟩,
  ⟨some 22, .bin .mul (.t 20) (.t 21), none, true⟩,
  ⟨some 23, .bin .lss (.t 22) (.c (.int .i64 0)), none, true⟩,
  ⟨some 24, .mv (.t 10), none, true⟩,
  ⟨some 25, .bin .eql (.t 24) (.c (.int .i64 0)), none, true⟩,
  ⟨some 26, .mv (.t 25), none, true⟩,
  ⟨some 27, .load true 2 (.t 4), some (26, true), true⟩,
  ⟨some 28, .load true 2 (.t 5), some (26, true), true⟩,
  ⟨some 29, .load true 2 (.t 6), some (26, true), true⟩,
  ⟨some 30, .call 90 [.t 27, .t 28, .t 29], some (26, true), true⟩,
  ⟨some 31, .pick (.t 26) (.t 30) (.c (.bool false)), none, true⟩,
  ⟨some 32, .mv (.t 31), none, true⟩,
  ⟨some 33, .mv (.t 11), some (32, false), true⟩,
  ⟨some 34, .bin .eql (.t 33) (.c (.int .i64 0)), some (32, false), true⟩,
  ⟨some 35, .mv (.t 34), some (32, false), true⟩,
  ⟨some 36, .load true 2 (.t 4), some (35, true), true⟩,
  ⟨some 37, .load true 2 (.t 5), some (35, true), true⟩,
  ⟨some 38, .load true 2 (.t 7), some (35, true), true⟩,
  ⟨some 39, .call 90 [.t 36, .t 37, .t 38], some (35, true), true⟩,
  ⟨some 40, .pick (.t 35) (.t 39) (.c (.bool false)), some (32, false), true⟩,
  ⟨some 41, .pick (.t 32) (.c (.bool true)) (.t 40), none, true⟩,
  ⟨some 8, .as (.t 23), none, true⟩,
  ⟨some 9, .as (.t 41), none, true⟩] (some [8, 9]) [4, 5, 6, 7]) (
.ret)))))))
def A112_L0b : ACode := 
  (.seq (
  .reg none [
    ⟨some 8, .bin .lss (.t 7) (.t 6), none, true⟩] (some [0, 1, 5, 6, 7, 8]) []) (
  (.seq (
  (.cond (.t 8) (
    .skip) (
    .exit 0))) (
  (.seq (
  (.block 1 (
  (.seq (
  .reg none [
    ⟨some 9, .mv (.t 7), none, true⟩,
    ⟨some 10, .ias 2 (.t 5) (.t 7), none, true⟩,
    ⟨some 11, .load true 2 (.t 10), none, true⟩,
    ⟨some 4, .alloc [.int .i64 0, .int .i64 0], none, true⟩,
    ⟨some 3, .as (.t 9), none, true⟩,
    ⟨none, .store 2 (.t 4) (.t 11), none, true⟩] (some [0, 1, 3, 4, 5, 6, 7]) []) (
  (.seq (
  .reg (some [.dr [14, 15, 18, 19, 21, 22] [], .dr [14, 15, 18, 19, 21, 22] [], .dr [15, 18, 19, 21, 22] [], .dr [14, 18, 19] [], .dr [14, 15, 18, 19] [], .dr [14, 15, 18, 19] [], .dr [14, 15] [], .dr [14, 15] [], .dr [14, 15] [], .dr [14] [], .dr [14] [], .dr [] [], .free, .free]) [
    ⟨some 12, .mv (.t 0), none, true⟩,
    ⟨some 13, .mv (.t 3), none, true⟩,
    ⟨some 14, .load true 2 (.t 4), none, true⟩,
    ⟨some 15, .load false 1 (.t 1), none, true⟩,
    ⟨some 16, .mv (.t 3), none, true⟩,
    ⟨some 17, .bin .add (.t 16) (.c (.int .i64 1)), none, true⟩,
    ⟨some 18, .load false 1 (.t 1), none, true⟩,
    ⟨some 19, .len 0 (.t 18), none, true⟩,
    ⟨some 20, .bin .rem (.t 17) (.t 19), none, true⟩,
    ⟨some 21, .ias 2 (.t 15) (.t 20), none, true⟩,
    ⟨some 22, .load true 2 (.t 21), none, true⟩,
    ⟨some 23, .build [.int .i64 0, .int .i64 0, .int .i64 0, .int .i64 0] [(0, 2, .t 14), (2, 2, .t 22)], none, true⟩,
    ⟨some 24, .cal (.t 12) [.t 13, .t 23], none, true⟩,
    ⟨some 25, .un .not (.t 24), none, true⟩] (some [0, 1, 5, 6, 7, 25]) [4]) (
  (.cond (.t 25) (
    .ret) (
    .skip))))))) (some [0, 1, 5, 6, 7]) [3, 4, 24])) (
  .reg none [
    ⟨some 26, .bin .add (.t 7) (.c (.int .i64 1)), none, true⟩,
    ⟨some 7, .mv (.t 26), none, true⟩] (some [0, 1, 5, 6, 7]) []))))))
def A112_L0 : ACode := .loop A112_L0b (some [0, 1, 5, 6, 7]) [3, 4, 24]
/-- ambidexter/intersect.edges$1 -/
def A112 : AFn := .code [] (
(.seq (
.reg none [
  ⟨some 5, .load false 1 (.t 1), none, true⟩,
  ⟨some 6, .len 0 (.t 5), none, true⟩,
  ⟨some 7, .mv (.c (.int .i64 0)), none, true⟩] (some [0, 1, 5, 6, 7]) []) (
(.block 0 (
A112_L0) (some []) [3, 4, 24]))))
def A117_L0b : ACode := 
  (.seq (
  .reg none [
    ⟨some 12, .bin .lss (.t 11) (.t 10), none, true⟩] (some [2, 4, 6, 9, 10, 11, 12]) []) (
  (.seq (
  (.cond (.t 12) (
    .skip) (
    .exit 0))) (
  (.seq (
  (.block 1 (
  (.seq (
  .reg none [
    ⟨some 13, .ias 2 (.t 9) (.t 11), none, true⟩,
    ⟨some 14, .load true 2 (.t 13), none, true⟩,
    ⟨some 8, .alloc [.int .i64 0, .int .i64 0], none, true⟩,
    ⟨none, .store 2 (.t 8) (.t 14), none, true⟩] (some [2, 4, 6, 8, 9, 10, 11]) []) (
  .reg none [
    ⟨some 15, .mv (.t 2), none, true⟩,
    ⟨some 16, .load true 2 (.t 4), none, true⟩,
    ⟨some 17, .load true 2 (.t 8), none, true⟩,
    ⟨some 18, .cal (.t 15) [.t 16, .t 17], none, true⟩,
    ⟨none, .store 2 (.t 4) (.t 18), none, true⟩] (some [2, 4, 6, 9, 10, 11]) [8]))) (some [2, 4, 6, 9, 10, 11]) [8])) (
  .reg none [
    ⟨some 19, .bin .add (.t 11) (.c (.int .i64 1)), none, true⟩,
    ⟨some 11, .mv (.t 19), none, true⟩] (some [2, 4, 6, 9, 10, 11]) []))))))
def A117_L0 : ACode := .loop A117_L0b (some [2, 4, 6, 9, 10, 11]) [8]
/-- ambidexter/geom.fold[ambidexter/api.Point,ambidexter/api.Point] -/
def A117 : AFn := .code [.cell true 2 6] (
(.seq (
.reg none [
  ⟨some 4, .box (.t 1), none, true⟩,
  ⟨some 6, .alloc [.int .i64 0, .int .i64 0], none, true⟩] (some [0, 2, 4, 6]) []) (
(.seq (
(.seq (
.reg none [
  ⟨some 9, .mv (.t 0), none, true⟩,
  ⟨some 10, .len 0 (.t 9), none, true⟩,
  ⟨some 11, .mv (.c (.int .i64 0)), none, true⟩] (some [2, 4, 6, 9, 10, 11]) []) (
(.block 0 (
A117_L0) (some [4, 6]) [8])))) (
(.seq (
.reg none [
  ⟨some 20, .load true 2 (.t 4), none, true⟩,
  ⟨none, .store 2 (.t 6) (.t 20), none, true⟩] (some [6]) [4]) (
.ret)))))))
/-- ambidexter/geom.BoundingBox$1 -/
def A118 : AFn := .code [.cell true 2 4] (
(.seq (
.reg none [
  ⟨some 2, .box (.t 0), none, true⟩,
  ⟨some 3, .box (.t 1), none, true⟩,
  ⟨some 4, .alloc [.int .i64 0, .int .i64 0], none, true⟩] (some [2, 3, 4]) []) (
(.seq (
.reg none [
  ⟨some 5, .fad 0 (.t 2), none, true⟩,
  ⟨some 6, .load false 1 (.t 5), none, true⟩,
  ⟨some 7, .fad 0 (.t 3), none, true⟩,
  ⟨some 8, .load false 1 (.t 7), none, true⟩,
  ⟨some 9, .mn [.t 6, .t 8], none, true⟩,
  ⟨some 10, .fad 1 (.t 2), none, true⟩,
  ⟨some 11, .load false 1 (.t 10), none, true⟩,
  ⟨some 12, .fad 1 (.t 3), none, true⟩,
  ⟨some 13, .load false 1 (.t 12), none, true⟩,
  ⟨some 14, .mn [.t 11, .t 13], none, true⟩,
  ⟨some 15, .build [.int .i64 0, .int .i64 0] [(0, 1, .t 9), (1, 1, .t 14)], none, true⟩,
  ⟨none, .store 2 (.t 4) (.t 15), none, true⟩] (some [4]) [2, 3]) (
.ret)))))
/-- ambidexter/geom.BoundingBox$2 -/
def A119 : AFn := .code [.cell true 2 4] (
(.seq (
.reg none [
  ⟨some 2, .box (.t 0), none, true⟩,
  ⟨some 3, .box (.t 1), none, true⟩,
  ⟨some 4, .alloc [.int .i64 0, .int .i64 0], none, true⟩] (some [2, 3, 4]) []) (
(.seq (
.reg none [
  ⟨some 5, .fad 0 (.t 2), none, true⟩,
  ⟨some 6, .load false 1 (.t 5), none, true⟩,
  ⟨some 7, .fad 0 (.t 3), none, true⟩,
  ⟨some 8, .load false 1 (.t 7), none, true⟩,
  ⟨some 9, .mx [.t 6, .t 8], none, true⟩,
  ⟨some 10, .fad 1 (.t 2), none, true⟩,
  ⟨some 11, .load false 1 (.t 10), none, true⟩,
  ⟨some 12, .fad 1 (.t 3), none, true⟩,
  ⟨some 13, .load false 1 (.t 12), none, true⟩,
  ⟨some 14, .mx [.t 11, .t 13], none, true⟩,
  ⟨some 15, .build [.int .i64 0, .int .i64 0] [(0, 1, .t 9), (1, 1, .t 14)], none, true⟩,
  ⟨none, .store 2 (.t 4) (.t 15), none, true⟩] (some [4]) [2, 3]) (
.ret)))))
/-- ambidexter/rotation.round -/
def A120 : AFn := .code [.t 2] (
(.seq (
.reg none [
  ⟨some 2, .as (.c (.int .i64 0)), none, true⟩] (some [0]) []) (
(.seq (
.reg none [
  ⟨some 3, .mv (.t 0), none, true⟩,
  ⟨some 4, .bin .rem (.t 3) (.c (.int .i64 36)), none, true⟩,
  ⟨some 0, .as (.t 4), none, true⟩] (some [0]) []) (
(.seq (
(.seq (
.reg none [
  ⟨some 5, .mv (.t 0), none, true⟩,
  ⟨some 6, .bin .lss (.t 5) (.c (.int .i64 0)), none, true⟩] (some [0, 6]) []) (
(.cond (.t 6) (
  .reg none [
    ⟨some 7, .mv (.t 0), none, true⟩,
    ⟨some 8, .bin .add (.t 7) (.c (.int .i64 36)), none, true⟩,
    ⟨some 0, .as (.t 8), none, true⟩] (some [0]) []) (
  .skip))))) (
(.seq (
.reg none [
  ⟨some 9, .mv (.t 0), none, true⟩,
  ⟨some 2, .as (.t 9), none, true⟩] (some [2]) []) (
.ret)))))))))
/-- ambidexter/rotation.quarter -/
def A121 : AFn := .code [.cell true 18 0] (
(.seq (
.reg none [
  ⟨some 0, .alloc [.int .i64 0, .int .i64 0, .int .i64 0, .int .i64 0, .int .i64 0, .int .i64 0, .int .i64 0, .int .i64 0, .int .i64 0, .int .i64 0, .int .i64 0, .int .i64 0, .int .i64 0, .int .i64 0, .int .i64 0, .int .i64 0, .int .i64 0, .int .i64 0], none, true⟩] (some [0]) []) (
(.seq (
.reg none [
  ⟨some 1, .build [.int .i64 0, .int .i64 0] [(0, 1, .c (.int .i64 65)), (1, 1, .c (.int .i64 0))], none, true⟩,
  ⟨some 2, .build [.int .i64 0, .int .i64 0] [(0, 1, .c (.int .i64 63)), (1, 1, .c (.int .i64 16))], none, true⟩,
  ⟨some 3, .build [.int .i64 0, .int .i64 0] [(0, 1, .c (.int .i64 60)), (1, 1, .c (.int .i64 25))], none, true⟩,
  ⟨some 4, .build [.int .i64 0, .int .i64 0] [(0, 1, .c (.int .i64 56)), (1, 1, .c (.int .i64 33))], none, true⟩,
  ⟨some 5, .build [.int .i64 0, .int .i64 0] [(0, 1, .c (.int .i64 52)), (1, 1, .c (.int .i64 39))], none, true⟩,
  ⟨some 6, .build [.int .i64 0, .int .i64 0] [(0, 1, .c (.int .i64 39)), (1, 1, .c (.int .i64 52))], none, true⟩,
  ⟨some 7, .build [.int .i64 0, .int .i64 0] [(0, 1, .c (.int .i64 33)), (1, 1, .c (.int .i64 56))], none, true⟩,
  ⟨some 8, .build [.int .i64 0, .int .i64 0] [(0, 1, .c (.int .i64 25)), (1, 1, .c (.int .i64 60))], none, true⟩,
  ⟨some 9, .build [.int .i64 0, .int .i64 0] [(0, 1, .c (.int .i64 16)), (1, 1, .c (.int .i64 63))], none, true⟩,
  ⟨some 10, .build [.int .i64 0, .int .i64 0, .int .i64 0, .int .i64 0, .int .i64 0, .int .i64 0, .int .i64 0, .int .i64 0, .int .i64 0, .int .i64 0, .int .i64 0, .int .i64 0, .int .i64 0, .int .i64 0, .int .i64 0, .int .i64 0, .int .i64 0, .int .i64 0] [(0, 2, .t 1), (2, 2, .t 2), (4, 2, .t 3), (6, 2, .t 4), (8, 2, .t 5), (10, 2, .t 6), (12, 2, .t 7), (14, 2, .t 8), (16, 2, .t 9)], none, true⟩,
  ⟨none, .store 18 (.t 0) (.t 10), none, true⟩] (some [0]) []) (
.ret)))))

def E : FuncId → Option AFn
  | 9 => some A9
  | 15 => some A15
  | 16 => some A16
  | 17 => some A17
  | 18 => some A18
  | 19 => some A19
  | 20 => some A20
  | 25 => some A25
  | 27 => some A27
  | 31 => some A31
  | 32 => some A32
  | 33 => some A33
  | 34 => some A34
  | 35 => some A35
  | 36 => some A36
  | 37 => some A37
  | 46 => some A46
  | 47 => some A47
  | 48 => some A48
  | 51 => some A51
  | 53 => some A53
  | 54 => some A54
  | 55 => some A55
  | 56 => some A56
  | 57 => some A57
  | 58 => some A58
  | 59 => some A59
  | 60 => some A60
  | 61 => some A61
  | 62 => some A62
  | 63 => some A63
  | 64 => some A64
  | 65 => some A65
  | 66 => some A66
  | 67 => some A67
  | 68 => some A68
  | 69 => some A69
  | 82 => some A82
  | 83 => some A83
  | 86 => some A86
  | 87 => some A87
  | 88 => some A88
  | 89 => some A89
  | 90 => some A90
  | 91 => some A91
  | 92 => some A92
  | 93 => some A93
  | 94 => some A94
  | 95 => some A95
  | 96 => some A96
  | 97 => some A97
  | 107 => some A107
  | 108 => some A108
  | 109 => some A109
  | 111 => some A111
  | 112 => some A112
  | 117 => some A117
  | 118 => some A118
  | 119 => some A119
  | 120 => some A120
  | 121 => some A121
  | _ => none
theorem E_9 : E 9 = some A9 := rfl
theorem E_15 : E 15 = some A15 := rfl
theorem E_16 : E 16 = some A16 := rfl
theorem E_17 : E 17 = some A17 := rfl
theorem E_18 : E 18 = some A18 := rfl
theorem E_19 : E 19 = some A19 := rfl
theorem E_20 : E 20 = some A20 := rfl
theorem E_25 : E 25 = some A25 := rfl
theorem E_27 : E 27 = some A27 := rfl
theorem E_31 : E 31 = some A31 := rfl
theorem E_32 : E 32 = some A32 := rfl
theorem E_33 : E 33 = some A33 := rfl
theorem E_34 : E 34 = some A34 := rfl
theorem E_35 : E 35 = some A35 := rfl
theorem E_36 : E 36 = some A36 := rfl
theorem E_37 : E 37 = some A37 := rfl
theorem E_46 : E 46 = some A46 := rfl
theorem E_47 : E 47 = some A47 := rfl
theorem E_48 : E 48 = some A48 := rfl
theorem E_51 : E 51 = some A51 := rfl
theorem E_53 : E 53 = some A53 := rfl
theorem E_54 : E 54 = some A54 := rfl
theorem E_55 : E 55 = some A55 := rfl
theorem E_56 : E 56 = some A56 := rfl
theorem E_57 : E 57 = some A57 := rfl
theorem E_58 : E 58 = some A58 := rfl
theorem E_59 : E 59 = some A59 := rfl
theorem E_60 : E 60 = some A60 := rfl
theorem E_61 : E 61 = some A61 := rfl
theorem E_62 : E 62 = some A62 := rfl
theorem E_63 : E 63 = some A63 := rfl
theorem E_64 : E 64 = some A64 := rfl
theorem E_65 : E 65 = some A65 := rfl
theorem E_66 : E 66 = some A66 := rfl
theorem E_67 : E 67 = some A67 := rfl
theorem E_68 : E 68 = some A68 := rfl
theorem E_69 : E 69 = some A69 := rfl
theorem E_82 : E 82 = some A82 := rfl
theorem E_83 : E 83 = some A83 := rfl
theorem E_86 : E 86 = some A86 := rfl
theorem E_87 : E 87 = some A87 := rfl
theorem E_88 : E 88 = some A88 := rfl
theorem E_89 : E 89 = some A89 := rfl
theorem E_90 : E 90 = some A90 := rfl
theorem E_91 : E 91 = some A91 := rfl
theorem E_92 : E 92 = some A92 := rfl
theorem E_93 : E 93 = some A93 := rfl
theorem E_94 : E 94 = some A94 := rfl
theorem E_95 : E 95 = some A95 := rfl
theorem E_96 : E 96 = some A96 := rfl
theorem E_97 : E 97 = some A97 := rfl
theorem E_107 : E 107 = some A107 := rfl
theorem E_108 : E 108 = some A108 := rfl
theorem E_109 : E 109 = some A109 := rfl
theorem E_111 : E 111 = some A111 := rfl
theorem E_112 : E 112 = some A112 := rfl
theorem E_117 : E 117 = some A117 := rfl
theorem E_118 : E 118 = some A118 := rfl
theorem E_119 : E 119 = some A119 := rfl
theorem E_120 : E 120 = some A120 := rfl
theorem E_121 : E 121 = some A121 := rfl
theorem A9_L0_eq (s : St) : K E A9_L0 s = (K E A9_L0b s).bind (loopF E A9_L0 (some [2, 5, 8, 9, 10, 13]) [4, 85, 92]) := loop_fold rfl s
theorem A9_L1_eq (s : St) : K E A9_L1 s = (K E A9_L1b s).bind (loopF E A9_L1 (some [2, 5, 8, 9, 10]) [4, 11, 12, 13, 54, 64, 71, 85, 92]) := loop_fold rfl s
theorem A15_L0_eq (s : St) : K E A15_L0 s = (K E A15_L0b s).bind (loopF E A15_L0 (some [1, 3, 10, 11]) [2, 4, 5]) := loop_fold rfl s
theorem A16_L0_eq (s : St) : K E A16_L0 s = (K E A16_L0b s).bind (loopF E A16_L0 (some [1, 3, 4]) [2]) := loop_fold rfl s
theorem A17_L0_eq (s : St) : K E A17_L0 s = (K E A17_L0b s).bind (loopF E A17_L0 (some [2, 7, 8]) [4, 5, 6]) := loop_fold rfl s
theorem A18_L0_eq (s : St) : K E A18_L0 s = (K E A18_L0b s).bind (loopF E A18_L0 (some [2, 3, 5]) [4]) := loop_fold rfl s
theorem A19_L0_eq (s : St) : K E A19_L0 s = (K E A19_L0b s).bind (loopF E A19_L0 (some [2, 3, 4, 5, 6]) []) := loop_fold rfl s
theorem A20_L0_eq (s : St) : K E A20_L0 s = (K E A20_L0b s).bind (loopF E A20_L0 (some [4, 5, 6, 7, 22, 23]) [8, 9, 37]) := loop_fold rfl s
theorem A25_L0_eq (s : St) : K E A25_L0 s = (K E A25_L0b s).bind (loopF E A25_L0 (some [4, 5, 6, 10, 11]) [7, 8]) := loop_fold rfl s
theorem A27_L0_eq (s : St) : K E A27_L0 s = (K E A27_L0b s).bind (loopF E A27_L0 (some [2, 4, 5, 7, 18, 19]) [8, 9, 31, 32]) := loop_fold rfl s
theorem A68_L0_eq (s : St) : K E A68_L0 s = (K E A68_L0b s).bind (loopF E A68_L0 (some [0, 1, 12, 13]) [4, 5]) := loop_fold rfl s
theorem A69_L0_eq (s : St) : K E A69_L0 s = (K E A69_L0b s).bind (loopF E A69_L0 (some [0, 3, 4, 5, 45, 46]) [52]) := loop_fold rfl s
theorem A69_L1_eq (s : St) : K E A69_L1 s = (K E A69_L1b s).bind (loopF E A69_L1 (some [0, 3, 4, 5, 33, 34]) [40]) := loop_fold rfl s
theorem A86_L0_eq (s : St) : K E A86_L0 s = (K E A86_L0b s).bind (loopF E A86_L0 (some [3, 4, 5]) []) := loop_fold rfl s
theorem A87_L0_eq (s : St) : K E A87_L0 s = (K E A87_L0b s).bind (loopF E A87_L0 (some [0, 1, 7, 8]) [4, 5, 16]) := loop_fold rfl s
theorem A89_L0_eq (s : St) : K E A89_L0 s = (K E A89_L0b s).bind (loopF E A89_L0 (some [0, 1, 5, 6, 7]) [3, 4, 24]) := loop_fold rfl s
theorem A92_L0_eq (s : St) : K E A92_L0 s = (K E A92_L0b s).bind (loopF E A92_L0 (some [1, 5, 8, 9, 10]) [7, 17, 18]) := loop_fold rfl s
theorem A109_L0_eq (s : St) : K E A109_L0 s = (K E A109_L0b s).bind (loopF E A109_L0 (some [6, 7, 20, 21]) []) := loop_fold rfl s
theorem A112_L0_eq (s : St) : K E A112_L0 s = (K E A112_L0b s).bind (loopF E A112_L0 (some [0, 1, 5, 6, 7]) [3, 4, 24]) := loop_fold rfl s
theorem A117_L0_eq (s : St) : K E A117_L0 s = (K E A117_L0b s).bind (loopF E A117_L0 (some [2, 4, 6, 9, 10, 11]) [8]) := loop_fold rfl s
end Go.Proofs.Ytnecdcaaknhgpaa

namespace Go.Geo
set_option maxRecDepth 100000
set_option maxHeartbeats 4000000
set_option linter.unusedSimpArgs false
set_option linter.unusedVariables false
open Go Go.Zv
def sgn (n : Int) : Int := if n > 0 then 1 else if n < 0 then -1 else 0
def crW (ax ay bx by_ px py : Int) : Int := w64 (w64 (w64 (bx - ax) * w64 (py - ay)) - w64 (w64 (by_ - ay) * w64 (px - ax)))
abbrev pt (p : Int × Int) : LV := .agg [.int .i64 p.1, .int .i64 p.2]
def c2 (p : Int × Int) : List LV := [.int .i64 p.1, .int .i64 p.2]
theorem get_c2 {l : List (Int × Int)} {i : Nat} {p : Int × Int} (h : l[i]? = some p) : (l.map c2)[i]? = some [.int .i64 p.1, .int .i64 p.2] := by
  rw [List.getElem?_map, h]; rfl
theorem wr_nat {n : Nat} (h : n < 9223372036854775808) : IntKind.i64.wrap (n : Int) = n := by
  simp [IntKind.wrap, IntKind.signed, IntKind.bits]; omega
theorem wr_succ {n : Nat} (h : n + 1 < 9223372036854775808) : IntKind.i64.wrap ((n : Int) + 1) = ((n + 1 : Nat) : Int) := by
  have := wr_nat h; simpa using this
def minP (a b : Int × Int) : Int × Int := (mnI a.1 b.1, mnI a.2 b.2)
def maxP (a b : Int × Int) : Int × Int := (mxI a.1 b.1, mxI a.2 b.2)
def bbL : List (Int × Int) → Int × Int
  | [] => (0, 0)
  | p :: t => (p :: t).foldl minP p
def bbH : List (Int × Int) → Int × Int
  | [] => (0, 0)
  | p :: t => (p :: t).foldl maxP p
def withinB (ax ay bx by_ px py : Int) : Bool := decide (mnI ax bx ≤ px) && (decide (px ≤ mxI ax bx) && (decide (mnI ay by_ ≤ py) && decide (py ≤ mxI ay by_)))
theorem mn_self (a : Int) : mnI a a = a := by unfold mnI; split <;> rfl
theorem mx_self (a : Int) : mxI a a = a := by unfold mxI; split <;> rfl
def onB (ax ay bx by_ px py : Int) : Bool := withinB ax ay bx by_ px py && decide (sgn (crW ax ay bx by_ px py) = 0)
def sdI (ax ay bx by_ cx cy dx dy : Int) : Int := w64 (sgn (crW ax ay bx by_ cx cy) * sgn (crW ax ay bx by_ dx dy))
def endsB (ax ay bx by_ cx cy dx dy : Int) : Bool := (decide (sgn (crW ax ay bx by_ cx cy) = 0) && withinB ax ay bx by_ cx cy) || (decide (sgn (crW ax ay bx by_ dx dy) = 0) && withinB ax ay bx by_ dx dy)
theorem wrap0 : IntKind.i64.wrap 0 = 0 := by decide
def cutB (ax ay bx by_ cx cy dx dy : Int) : Bool := (decide (sdI ax ay bx by_ cx cy dx dy < 0) && decide (sdI cx cy dx dy ax ay bx by_ < 0)) || (endsB ax ay bx by_ cx cy dx dy || endsB cx cy dx dy ax ay bx by_)
theorem cut_eq_B (ax ay bx by_ cx cy dx dy : Int) : ((onB ax ay bx by_ cx cy || onB ax ay bx by_ dx dy || onB cx cy dx dy ax ay || onB cx cy dx dy bx by_) || (decide (sdI ax ay bx by_ cx cy dx dy < 0) && decide (sdI cx cy dx dy ax ay bx by_ < 0))) = cutB ax ay bx by_ cx cy dx dy := by
  unfold cutB onB endsB
  generalize withinB ax ay bx by_ cx cy = a
  generalize withinB ax ay bx by_ dx dy = b
  generalize withinB cx cy dx dy ax ay = c
  generalize withinB cx cy dx dy bx by_ = d
  generalize decide (sgn (crW ax ay bx by_ cx cy) = 0) = e
  generalize decide (sgn (crW ax ay bx by_ dx dy) = 0) = f
  generalize decide (sgn (crW cx cy dx dy ax ay) = 0) = g
  generalize decide (sgn (crW cx cy dx dy bx by_) = 0) = h
  generalize decide (sdI ax ay bx by_ cx cy dx dy < 0) = i
  generalize decide (sdI cx cy dx dy ax ay bx by_ < 0) = j
  revert a b c d e f g h i j; decide
def sharedB (W S T : Int) : Bool := if W < 0 then decide (0 ≤ -S) && (decide (-S ≤ -W) && (decide (0 ≤ -T) && decide (-T ≤ -W))) else decide (0 ≤ S) && (decide (S ≤ W) && (decide (0 ≤ T) && decide (T ≤ W)))
def B (x : Int) : Prop := -500000000 ≤ x ∧ x ≤ 500000000
theorem wB {x : Int} (h : B x) : IntKind.i64.wrap x = x := by unfold B at h; exact wrap_small (by omega) (by omega)
def cr (ax ay bx by_ px py : Int) : Int := (bx - ax) * (py - ay) - (by_ - ay) * (px - ax)
theorem mul_bd {x y A C : Int} (h1 : -A ≤ x) (h2 : x ≤ A) (h3 : -C ≤ y) (h4 : y ≤ C) : -(A * C) ≤ x * y ∧ x * y ≤ A * C := by
  have hA : 0 ≤ A := by omega
  have hC : 0 ≤ C := by omega
  have a1 : x * y ≤ A * C := by
    rcases Int.le_total 0 x with hx | hx
    · have h5 : x * y ≤ x * C := Int.mul_le_mul_of_nonneg_left h4 hx
      have h6 : x * C ≤ A * C := Int.mul_le_mul_of_nonneg_right h2 hC
      omega
    · have h5 : (-x) * (-y) ≤ (-x) * C := Int.mul_le_mul_of_nonneg_left (by omega) (by omega)
      have h6 : (-x) * C ≤ A * C := Int.mul_le_mul_of_nonneg_right (by omega) hC
      have h7 : (-x) * (-y) = x * y := by grind
      omega
  have a2 : -(A * C) ≤ x * y := by
    rcases Int.le_total 0 x with hx | hx
    · have h5 : x * (-y) ≤ x * C := Int.mul_le_mul_of_nonneg_left (by omega) hx
      have h6 : x * C ≤ A * C := Int.mul_le_mul_of_nonneg_right h2 hC
      have h7 : x * (-y) = -(x * y) := by grind
      omega
    · have h5 : (-x) * y ≤ (-x) * C := Int.mul_le_mul_of_nonneg_left h4 (by omega)
      have h6 : (-x) * C ≤ A * C := Int.mul_le_mul_of_nonneg_right (by omega) hC
      have h7 : (-x) * y = -(x * y) := by grind
      omega
  exact ⟨a2, a1⟩
theorem wprod {x y z w : Int} (h1 : -1000000000 ≤ x) (h2 : x ≤ 1000000000) (h3 : -1000000000 ≤ y) (h4 : y ≤ 1000000000) (h5 : -1000000000 ≤ z) (h6 : z ≤ 1000000000) (h7 : -1000000000 ≤ w) (h8 : w ≤ 1000000000) :
    IntKind.i64.wrap (IntKind.i64.wrap (IntKind.i64.wrap x * IntKind.i64.wrap y) - IntKind.i64.wrap (IntKind.i64.wrap z * IntKind.i64.wrap w)) = x * y - z * w ∧ -2000000000000000000 ≤ x * y - z * w ∧ x * y - z * w ≤ 2000000000000000000 := by
  obtain ⟨p1, p2⟩ := mul_bd h1 h2 h3 h4
  obtain ⟨q1, q2⟩ := mul_bd h5 h6 h7 h8
  rw [wrap_small (n := x) (by omega) (by omega), wrap_small (n := y) (by omega) (by omega), wrap_small (n := z) (by omega) (by omega), wrap_small (n := w) (by omega) (by omega)]
  rw [wrap_small (n := x * y) (by omega) (by omega), wrap_small (n := z * w) (by omega) (by omega), wrap_small (n := x * y - z * w) (by omega) (by omega)]
  exact ⟨rfl, by omega, by omega⟩
theorem crW_B {ax ay bx by_ px py : Int} (h1 : B ax) (h2 : B ay) (h3 : B bx) (h4 : B by_) (h5 : B px) (h6 : B py) : crW ax ay bx by_ px py = cr ax ay bx by_ px py := by
  unfold B at *
  exact (wprod (by omega) (by omega) (by omega) (by omega) (by omega) (by omega) (by omega) (by omega)).1
theorem tmod_bd (x : Int) {n : Int} (h : 0 < n) : -n < x.tmod n ∧ x.tmod n < n := ⟨Int.lt_tmod_of_pos x h, Int.tmod_lt_of_pos x h⟩
theorem sgn_cases (n : Int) : sgn n = 1 ∨ sgn n = 0 ∨ sgn n = -1 := by unfold sgn; split <;> (try split) <;> simp
theorem sgn_neg (n : Int) : sgn (-n) = -sgn n := by unfold sgn; repeat' split
                                                    all_goals omega
theorem sgn_zero : sgn 0 = 0 := by decide
theorem cr_swap (ax ay bx by_ px py : Int) : cr bx by_ ax ay px py = - cr ax ay bx by_ px py := by unfold cr; grind
theorem cr_swap2 (ax ay bx by_ px py : Int) : cr ax ay px py bx by_ = - cr ax ay bx by_ px py := by unfold cr; grind
theorem cr_rot (ax ay bx by_ px py : Int) : cr bx by_ px py ax ay = cr ax ay bx by_ px py := by unfold cr; grind
theorem cr_rot2 (ax ay bx by_ px py : Int) : cr px py ax ay bx by_ = cr ax ay bx by_ px py := by unfold cr; grind
theorem cr_add (ax ay bx by_ px py u v : Int) : cr (ax + u) (ay + v) (bx + u) (by_ + v) (px + u) (py + v) = cr ax ay bx by_ px py := by unfold cr; grind
theorem cr_sub (ax ay bx by_ px py u v : Int) : cr (ax - u) (ay - v) (bx - u) (by_ - v) (px - u) (py - v) = cr ax ay bx by_ px py := by unfold cr; grind
theorem cr_quarter (ax ay bx by_ px py : Int) : cr (0 - ay) ax (0 - by_) bx (0 - py) px = cr ax ay bx by_ px py := by unfold cr; grind
theorem cr_aac (ax ay px py : Int) : cr ax ay ax ay px py = 0 := by unfold cr; grind
theorem cr_abb (ax ay px py : Int) : cr ax ay px py px py = 0 := by unfold cr; grind
theorem wsum {x y z w : Int} (h1 : -1000000000 ≤ x) (h2 : x ≤ 1000000000) (h3 : -1000000000 ≤ y) (h4 : y ≤ 1000000000) (h5 : -1000000000 ≤ z) (h6 : z ≤ 1000000000) (h7 : -1000000000 ≤ w) (h8 : w ≤ 1000000000) :
    IntKind.i64.wrap (IntKind.i64.wrap (IntKind.i64.wrap x * IntKind.i64.wrap y) + IntKind.i64.wrap (IntKind.i64.wrap z * IntKind.i64.wrap w)) = x * y + z * w := by
  obtain ⟨p1, p2⟩ := mul_bd h1 h2 h3 h4
  obtain ⟨q1, q2⟩ := mul_bd h5 h6 h7 h8
  rw [wrap_small (n := x) (by omega) (by omega), wrap_small (n := y) (by omega) (by omega), wrap_small (n := z) (by omega) (by omega), wrap_small (n := w) (by omega) (by omega)]
  rw [wrap_small (n := x * y) (by omega) (by omega), wrap_small (n := z * w) (by omega) (by omega), wrap_small (n := x * y + z * w) (by omega) (by omega)]
theorem mul_nn {x y : Int} : 0 ≤ x * y ↔ (0 ≤ x ∧ 0 ≤ y) ∨ (x ≤ 0 ∧ y ≤ 0) := by
  constructor
  · intro h
    rcases Int.lt_trichotomy x 0 with hx | hx | hx
    · rcases Int.lt_trichotomy y 0 with hy | hy | hy
      · right; omega
      · right; omega
      · have := Int.mul_neg_of_neg_of_pos hx hy; omega
    · subst hx
      rcases Int.le_total 0 y with hy | hy
      · left; omega
      · right; omega
    · rcases Int.lt_trichotomy y 0 with hy | hy | hy
      · have := Int.mul_neg_of_pos_of_neg hx hy; omega
      · left; omega
      · left; omega
  · rintro (⟨h1, h2⟩ | ⟨h1, h2⟩)
    · exact Int.mul_nonneg h1 h2
    · exact Int.mul_nonneg_of_nonpos_of_nonpos h1 h2
theorem bt {a b p : Int} : (mnI a b ≤ p ∧ p ≤ mxI a b) ↔ 0 ≤ (p - a) * (b - p) := by
  rw [mul_nn]; unfold mnI mxI
  constructor
  · intro h; split at h <;> split at h <;> omega
  · intro h; split <;> split <;> omega
theorem withinB_iff {ax ay bx by_ px py : Int} : withinB ax ay bx by_ px py = true ↔ 0 ≤ (px - ax) * (bx - px) ∧ 0 ≤ (py - ay) * (by_ - py) := by
  rw [← bt, ← bt]
  simp [withinB, and_assoc]
theorem sgn_eq0 {n : Int} : sgn n = 0 ↔ n = 0 := by unfold sgn; repeat' split
                                                    all_goals omega
theorem sq_pos {x : Int} (h : x ≠ 0) : 0 < x * x := by
  rcases Int.lt_trichotomy x 0 with h1 | h1 | h1
  · exact Int.mul_pos_of_neg_of_neg h1 h1
  · exact absurd h1 h
  · exact Int.mul_pos h1 h1
theorem on_key {u v U V : Int} (hc : U * v - V * u = 0) (hd : 0 ≤ u * (U - u) + v * (V - v)) (hne : U ≠ 0 ∨ V ≠ 0) : 0 ≤ u * (U - u) ∧ 0 ≤ v * (V - v) := by
  have key : (V * V) * (u * (U - u)) = (U * U) * (v * (V - v)) := by
    have e : U * v = V * u := by omega
    have : (V * V) * (u * (U - u)) = (V * u) * (V * U) - (V * u) * (V * u) := by grind
    rw [this, ← e]; grind
  have sq : ∀ x : Int, 0 ≤ x * x := fun x => by
    by_cases h : x = 0
    · subst h; simp
    · have := sq_pos h; omega
  constructor
  · refine Classical.byContradiction fun h => ?_
    have h1 : u * (U - u) < 0 := by omega
    have h2 : 0 < v * (V - v) := by omega
    have h3 : 0 ≤ (U * U) * (v * (V - v)) := Int.mul_nonneg (sq U) (by omega)
    rcases hne with hU | hV
    · have := Int.mul_pos (sq_pos hU) h2
      have h5 : (V * V) * (u * (U - u)) ≤ 0 := Int.mul_nonpos_of_nonneg_of_nonpos (sq V) (by omega)
      omega
    · have := Int.mul_neg_of_pos_of_neg (sq_pos hV) h1
      omega
  · refine Classical.byContradiction fun h => ?_
    have h1 : v * (V - v) < 0 := by omega
    have h2 : 0 < u * (U - u) := by omega
    rcases hne with hU | hV
    · have := Int.mul_neg_of_pos_of_neg (sq_pos hU) h1
      have h5 : 0 ≤ (V * V) * (u * (U - u)) := Int.mul_nonneg (sq V) (by omega)
      omega
    · have := Int.mul_pos (sq_pos hV) h2
      have h5 : (U * U) * (v * (V - v)) ≤ 0 := Int.mul_nonpos_of_nonneg_of_nonpos (sq U) (by omega)
      omega
theorem on_iff {ax ay bx by_ px py : Int} : (withinB ax ay bx by_ px py = true ∧ cr ax ay bx by_ px py = 0) ↔ (cr ax ay bx by_ px py = 0 ∧ 0 ≤ (px - ax) * (bx - px) + (py - ay) * (by_ - py) ∧ ((ax = bx ∧ ay = by_) → (px = ax ∧ py = ay))) := by
  rw [withinB_iff]
  constructor
  · rintro ⟨⟨h1, h2⟩, h3⟩
    refine ⟨h3, by omega, ?_⟩
    rintro ⟨rfl, rfl⟩
    rw [mul_nn] at h1 h2
    omega
  · rintro ⟨h3, h4, h5⟩
    refine ⟨?_, h3⟩
    by_cases he : ax = bx ∧ ay = by_
    · obtain ⟨rfl, rfl⟩ := h5 he
      obtain ⟨rfl, rfl⟩ := he
      simp
    · have := on_key (u := px - ax) (v := py - ay) (U := bx - ax) (V := by_ - ay) (by unfold cr at h3; exact h3) (by
        have e1 : bx - ax - (px - ax) = bx - px := by omega
        have e2 : by_ - ay - (py - ay) = by_ - py := by omega
        rw [e1, e2]; exact h4) (by omega)
      have e1 : bx - ax - (px - ax) = bx - px := by omega
      have e2 : by_ - ay - (py - ay) = by_ - py := by omega
      rw [e1, e2] at this; exact this
theorem onB_iff {ax ay bx by_ px py : Int} (h1 : B ax) (h2 : B ay) (h3 : B bx) (h4 : B by_) (h5 : B px) (h6 : B py) : onB ax ay bx by_ px py = true ↔ (cr ax ay bx by_ px py = 0 ∧ 0 ≤ (px - ax) * (bx - px) + (py - ay) * (by_ - py) ∧ ((ax = bx ∧ ay = by_) → (px = ax ∧ py = ay))) := by
  rw [← on_iff]; unfold onB; rw [crW_B h1 h2 h3 h4 h5 h6]; simp [sgn_eq0]
def wW (ax ay bx by_ cx cy dx dy : Int) : Int := (bx - ax) * (dy - cy) - (by_ - ay) * (dx - cx)
def sS (ax ay bx by_ cx cy dx dy : Int) : Int := (cx - ax) * (dy - cy) - (cy - ay) * (dx - cx)
def tT (ax ay bx by_ cx cy dx dy : Int) : Int := (cx - ax) * (by_ - ay) - (cy - ay) * (bx - ax)
section
variable (ax ay bx by_ cx cy dx dy : Int)
theorem o1_eq : cr ax ay bx by_ cx cy = - tT ax ay bx by_ cx cy dx dy := by unfold cr tT; grind
theorem o2_eq : cr ax ay bx by_ dx dy = wW ax ay bx by_ cx cy dx dy - tT ax ay bx by_ cx cy dx dy := by unfold cr tT wW; grind
theorem o3_eq : cr cx cy dx dy ax ay = sS ax ay bx by_ cx cy dx dy := by unfold cr sS; grind
theorem o4_eq : cr cx cy dx dy bx by_ = sS ax ay bx by_ cx cy dx dy - wW ax ay bx by_ cx cy dx dy := by unfold cr sS wW; grind
end
theorem sq_nn (x : Int) : 0 ≤ x * x := by
  by_cases h : x = 0
  · subst h; simp
  · have := sq_pos h; omega
theorem nn_of_mul {x y : Int} (hx : 0 < x) (h : 0 ≤ x * y) : 0 ≤ y := by
  rw [mul_nn] at h; omega
theorem within_A {ax ay bx by_ cx cy dx dy : Int} (hT : tT ax ay bx by_ cx cy dx dy = 0) (hW : wW ax ay bx by_ cx cy dx dy ≠ 0) :
    withinB ax ay bx by_ cx cy = true ↔ 0 ≤ sS ax ay bx by_ cx cy dx dy * (wW ax ay bx by_ cx cy dx dy - sS ax ay bx by_ cx cy dx dy) := by
  have e1 : wW ax ay bx by_ cx cy dx dy * (cx - ax) = sS ax ay bx by_ cx cy dx dy * (bx - ax) := by
    have : wW ax ay bx by_ cx cy dx dy * (cx - ax) - sS ax ay bx by_ cx cy dx dy * (bx - ax) = (dx - cx) * (- tT ax ay bx by_ cx cy dx dy) := by unfold wW sS tT; grind
    rw [hT] at this; simp at this; omega
  have e2 : wW ax ay bx by_ cx cy dx dy * (cy - ay) = sS ax ay bx by_ cx cy dx dy * (by_ - ay) := by
    have : wW ax ay bx by_ cx cy dx dy * (cy - ay) - sS ax ay bx by_ cx cy dx dy * (by_ - ay) = (dy - cy) * (- tT ax ay bx by_ cx cy dx dy) := by unfold wW sS tT; grind
    rw [hT] at this; simp at this; omega
  have hne : bx - ax ≠ 0 ∨ by_ - ay ≠ 0 := by
    refine Classical.byContradiction fun h => hW ?_
    have h1 : bx - ax = 0 := by omega
    have h2 : by_ - ay = 0 := by omega
    unfold wW; rw [h1, h2]; simp
  generalize sS ax ay bx by_ cx cy dx dy = s at *
  generalize wW ax ay bx by_ cx cy dx dy = w at *
  have hw := sq_pos hW
  have f1 : (w * w) * ((cx - ax) * (bx - cx)) = (s * (w - s)) * ((bx - ax) * (bx - ax)) := by
    have : (w * w) * ((cx - ax) * (bx - cx)) = (w * (cx - ax)) * (w * (bx - ax) - w * (cx - ax)) := by grind
    rw [this, e1]; grind
  have f2 : (w * w) * ((cy - ay) * (by_ - cy)) = (s * (w - s)) * ((by_ - ay) * (by_ - ay)) := by
    have : (w * w) * ((cy - ay) * (by_ - cy)) = (w * (cy - ay)) * (w * (by_ - ay) - w * (cy - ay)) := by grind
    rw [this, e2]; grind
  rw [withinB_iff]
  constructor
  · rintro ⟨h1, h2⟩
    rcases hne with hn | hn
    · have : 0 ≤ (s * (w - s)) * ((bx - ax) * (bx - ax)) := by rw [← f1]; exact Int.mul_nonneg (by omega) h1
      rw [Int.mul_comm] at this
      exact nn_of_mul (sq_pos hn) this
    · have : 0 ≤ (s * (w - s)) * ((by_ - ay) * (by_ - ay)) := by rw [← f2]; exact Int.mul_nonneg (by omega) h2
      rw [Int.mul_comm] at this
      exact nn_of_mul (sq_pos hn) this
  · intro h
    exact ⟨nn_of_mul hw (by rw [f1]; exact Int.mul_nonneg h (sq_nn _)), nn_of_mul hw (by rw [f2]; exact Int.mul_nonneg h (sq_nn _))⟩
theorem sgn_mul_neg {x y : Int} : IntKind.i64.wrap (sgn x * sgn y) < 0 ↔ x * y < 0 := by
  have h : x * y < 0 ↔ ¬ (0 ≤ x * y) := by omega
  rw [h, mul_nn]
  unfold sgn
  repeat' split
  all_goals (simp only [Int.mul_zero, Int.zero_mul, Int.one_mul, Int.mul_one, Int.reduceMul, Int.reduceNeg])
  all_goals (first | (rw [show IntKind.i64.wrap 1 = 1 by decide]; omega) | (rw [show IntKind.i64.wrap (-1) = -1 by decide]; omega) | (rw [show IntKind.i64.wrap 0 = 0 by decide]; omega))
structure B8 (ax ay bx by_ cx cy dx dy : Int) : Prop where
  a0 : B ax
  a1 : B ay
  b0 : B bx
  b1 : B by_
  c0 : B cx
  c1 : B cy
  d0 : B dx
  d1 : B dy
theorem cutB_iff {ax ay bx by_ cx cy dx dy : Int} (h : B8 ax ay bx by_ cx cy dx dy) : cutB ax ay bx by_ cx cy dx dy = true ↔
    (cr ax ay bx by_ cx cy * cr ax ay bx by_ dx dy < 0 ∧ cr cx cy dx dy ax ay * cr cx cy dx dy bx by_ < 0) ∨
    ((cr ax ay bx by_ cx cy = 0 ∧ withinB ax ay bx by_ cx cy = true) ∨ (cr ax ay bx by_ dx dy = 0 ∧ withinB ax ay bx by_ dx dy = true)) ∨
    ((cr cx cy dx dy ax ay = 0 ∧ withinB cx cy dx dy ax ay = true) ∨ (cr cx cy dx dy bx by_ = 0 ∧ withinB cx cy dx dy bx by_ = true)) := by
  unfold cutB endsB sdI
  rw [crW_B h.a0 h.a1 h.b0 h.b1 h.c0 h.c1, crW_B h.a0 h.a1 h.b0 h.b1 h.d0 h.d1, crW_B h.c0 h.c1 h.d0 h.d1 h.a0 h.a1, crW_B h.c0 h.c1 h.d0 h.d1 h.b0 h.b1]
  simp only [Bool.or_eq_true, Bool.and_eq_true, decide_eq_true_eq, sgn_mul_neg, sgn_eq0]
theorem cut_par {ax ay bx by_ cx cy dx dy : Int} (h : B8 ax ay bx by_ cx cy dx dy) (hW : wW ax ay bx by_ cx cy dx dy = 0) :
    cutB ax ay bx by_ cx cy dx dy = (onB ax ay bx by_ cx cy || (onB ax ay bx by_ dx dy || (onB cx cy dx dy ax ay || onB cx cy dx dy bx by_))) := by
  rw [Bool.eq_iff_iff, cutB_iff h]
  simp only [Bool.or_eq_true]
  unfold onB
  rw [crW_B h.a0 h.a1 h.b0 h.b1 h.c0 h.c1, crW_B h.a0 h.a1 h.b0 h.b1 h.d0 h.d1, crW_B h.c0 h.c1 h.d0 h.d1 h.a0 h.a1, crW_B h.c0 h.c1 h.d0 h.d1 h.b0 h.b1]
  simp only [Bool.and_eq_true, decide_eq_true_eq, sgn_eq0]
  have hn : ¬ (cr ax ay bx by_ cx cy * cr ax ay bx by_ dx dy < 0) := by
    rw [o1_eq ax ay bx by_ cx cy dx dy, o2_eq ax ay bx by_ cx cy dx dy, hW]
    have := sq_nn (tT ax ay bx by_ cx cy dx dy)
    have e : -tT ax ay bx by_ cx cy dx dy * (0 - tT ax ay bx by_ cx cy dx dy) = tT ax ay bx by_ cx cy dx dy * tT ax ay bx by_ cx cy dx dy := by grind
    rw [e]; omega
  constructor
  · rintro (⟨h1, _⟩ | h | h)
    · exact absurd h1 hn
    · rcases h with h | h
      · exact .inl ⟨h.2, h.1⟩
      · exact .inr (.inl ⟨h.2, h.1⟩)
    · rcases h with h | h
      · exact .inr (.inr (.inl ⟨h.2, h.1⟩))
      · exact .inr (.inr (.inr ⟨h.2, h.1⟩))
  · rintro (h | h | h | h)
    · exact .inr (.inl (.inl ⟨h.2, h.1⟩))
    · exact .inr (.inl (.inr ⟨h.2, h.1⟩))
    · exact .inr (.inr (.inl ⟨h.2, h.1⟩))
    · exact .inr (.inr (.inr ⟨h.2, h.1⟩))
theorem shared_iff {W S T : Int} (hW : W ≠ 0) : sharedB W S T = true ↔ 0 ≤ S * (W - S) ∧ 0 ≤ T * (W - T) := by
  rw [mul_nn, mul_nn]; unfold sharedB
  split <;> simp only [Bool.and_eq_true, decide_eq_true_eq] <;> omega
theorem cut_cross {ax ay bx by_ cx cy dx dy : Int} (h : B8 ax ay bx by_ cx cy dx dy) (hW : wW ax ay bx by_ cx cy dx dy ≠ 0) :
    cutB ax ay bx by_ cx cy dx dy = sharedB (wW ax ay bx by_ cx cy dx dy) (sS ax ay bx by_ cx cy dx dy) (tT ax ay bx by_ cx cy dx dy) := by
  rw [Bool.eq_iff_iff, cutB_iff h, shared_iff hW]
  have wa := within_A (ax := ax) (ay := ay) (bx := bx) (by_ := by_) (cx := cx) (cy := cy) (dx := dx) (dy := dy)
  have wb := within_A (ax := ax) (ay := ay) (bx := bx) (by_ := by_) (cx := dx) (cy := dy) (dx := cx) (dy := cy)
  have wc := within_A (ax := cx) (ay := cy) (bx := dx) (by_ := dy) (cx := ax) (cy := ay) (dx := bx) (dy := by_)
  have wd := within_A (ax := cx) (ay := cy) (bx := dx) (by_ := dy) (cx := bx) (cy := by_) (dx := ax) (dy := ay)
  rw [show wW ax ay bx by_ dx dy cx cy = - wW ax ay bx by_ cx cy dx dy by unfold wW; grind, show sS ax ay bx by_ dx dy cx cy = - sS ax ay bx by_ cx cy dx dy by unfold sS; grind, show tT ax ay bx by_ dx dy cx cy = tT ax ay bx by_ cx cy dx dy - wW ax ay bx by_ cx cy dx dy by unfold tT wW; grind] at wb
  rw [show wW cx cy dx dy ax ay bx by_ = - wW ax ay bx by_ cx cy dx dy by unfold wW; grind, show sS cx cy dx dy ax ay bx by_ = - tT ax ay bx by_ cx cy dx dy by unfold sS tT; grind, show tT cx cy dx dy ax ay bx by_ = - sS ax ay bx by_ cx cy dx dy by unfold tT sS; grind] at wc
  rw [show wW cx cy dx dy bx by_ ax ay = wW ax ay bx by_ cx cy dx dy by unfold wW; grind, show sS cx cy dx dy bx by_ ax ay = tT ax ay bx by_ cx cy dx dy by unfold sS tT; grind, show tT cx cy dx dy bx by_ ax ay = wW ax ay bx by_ cx cy dx dy - sS ax ay bx by_ cx cy dx dy by unfold tT sS wW; grind] at wd
  rw [o1_eq ax ay bx by_ cx cy dx dy, o2_eq ax ay bx by_ cx cy dx dy, o3_eq ax ay bx by_ cx cy dx dy, o4_eq ax ay bx by_ cx cy dx dy]
  generalize wW ax ay bx by_ cx cy dx dy = W at *
  generalize sS ax ay bx by_ cx cy dx dy = S at *
  generalize tT ax ay bx by_ cx cy dx dy = T at *
  have e1 : -T * (W - T) = -(T * (W - T)) := by grind
  have e2 : S * (S - W) = -(S * (W - S)) := by grind
  have e3 : -S * (-W - -S) = S * (W - S) := by grind
  have e4 : -T * (-W - -T) = T * (W - T) := by grind
  rw [e3] at wb; rw [e4] at wc
  rw [e1, e2]
  have z1 : ∀ {x : Int}, x = 0 → x * (W - x) = 0 := fun h => by rw [h]; simp
  have z2 : ∀ {x : Int}, W - x = 0 → x * (W - x) = 0 := fun h => by rw [h]; simp
  constructor
  · rintro (⟨h1, h2⟩ | (⟨h1, h2⟩ | ⟨h1, h2⟩) | (⟨h1, h2⟩ | ⟨h1, h2⟩))
    · omega
    · have h3 : T = 0 := by omega
      exact ⟨(wa h3 hW).1 h2, by rw [z1 h3]; omega⟩
    · have h3 : T - W = 0 := by omega
      exact ⟨(wb h3 (by omega)).1 h2, by rw [z2 (by omega)]; omega⟩
    · have h3 : S = 0 := h1
      exact ⟨by rw [z1 h3]; omega, (wc (by omega) (by omega)).1 h2⟩
    · have h3 : W - S = 0 := by omega
      exact ⟨by rw [z2 h3]; omega, (wd h3 hW).1 h2⟩
  · rintro ⟨h1, h2⟩
    by_cases t0 : T * (W - T) = 0
    · rcases Int.mul_eq_zero.1 t0 with t | t
      · exact .inr (.inl (.inl ⟨by omega, (wa t hW).2 h1⟩))
      · exact .inr (.inl (.inr ⟨by omega, (wb (by omega) (by omega)).2 h1⟩))
    · by_cases s0 : S * (W - S) = 0
      · rcases Int.mul_eq_zero.1 s0 with t | t
        · exact .inr (.inr (.inl ⟨t, (wc (by omega) (by omega)).2 h2⟩))
        · exact .inr (.inr (.inr ⟨by omega, (wd t hW).2 h2⟩))
      · exact .inl ⟨by omega, by omega⟩
theorem within_swap (ax ay bx by_ px py : Int) : withinB bx by_ ax ay px py = withinB ax ay bx by_ px py := by
  rw [Bool.eq_iff_iff, withinB_iff, withinB_iff, mul_nn, mul_nn, mul_nn, mul_nn]; omega
theorem B8.s1 {ax ay bx by_ cx cy dx dy : Int} (h : B8 ax ay bx by_ cx cy dx dy) : B8 bx by_ ax ay cx cy dx dy := ⟨h.b0, h.b1, h.a0, h.a1, h.c0, h.c1, h.d0, h.d1⟩
theorem B8.s2 {ax ay bx by_ cx cy dx dy : Int} (h : B8 ax ay bx by_ cx cy dx dy) : B8 cx cy dx dy ax ay bx by_ := ⟨h.c0, h.c1, h.d0, h.d1, h.a0, h.a1, h.b0, h.b1⟩
theorem cut_s1 {ax ay bx by_ cx cy dx dy : Int} (h : B8 ax ay bx by_ cx cy dx dy) : cutB bx by_ ax ay cx cy dx dy = cutB ax ay bx by_ cx cy dx dy := by
  rw [Bool.eq_iff_iff, cutB_iff h, cutB_iff h.s1, within_swap ax ay bx by_ cx cy, within_swap ax ay bx by_ dx dy, cr_swap ax ay bx by_ cx cy, cr_swap ax ay bx by_ dx dy, Int.neg_mul_neg, Int.mul_comm (cr cx cy dx dy bx by_)]
  simp only [Int.neg_eq_zero]
  constructor
  · rintro (h | h | h | h)
    · exact .inl h
    · exact .inr (.inl h)
    · exact .inr (.inr (.inr h))
    · exact .inr (.inr (.inl h))
  · rintro (h | h | h | h)
    · exact .inl h
    · exact .inr (.inl h)
    · exact .inr (.inr (.inr h))
    · exact .inr (.inr (.inl h))
theorem cut_s2 {ax ay bx by_ cx cy dx dy : Int} (h : B8 ax ay bx by_ cx cy dx dy) : cutB cx cy dx dy ax ay bx by_ = cutB ax ay bx by_ cx cy dx dy := by
  rw [Bool.eq_iff_iff, cutB_iff h, cutB_iff h.s2]
  constructor
  · rintro (h | h | h)
    · exact .inl ⟨h.2, h.1⟩
    · exact .inr (.inr h)
    · exact .inr (.inl h)
  · rintro (h | h | h)
    · exact .inl ⟨h.2, h.1⟩
    · exact .inr (.inr h)
    · exact .inr (.inl h)
theorem cut_s3 {ax ay bx by_ cx cy dx dy : Int} (h : B8 ax ay bx by_ cx cy dx dy) : cutB ax ay bx by_ dx dy cx cy = cutB ax ay bx by_ cx cy dx dy := by
  rw [← cut_s2 h.s2.s1.s2, cut_s1 h.s2, cut_s2 h]
theorem within_end (ax ay bx by_ : Int) : withinB ax ay bx by_ ax ay = true := by rw [withinB_iff]; simp
theorem cr_a (ax ay bx by_ : Int) : cr ax ay bx by_ ax ay = 0 := by unfold cr; grind
theorem cut_end {ax ay bx by_ dx dy : Int} (h : B8 ax ay bx by_ ax ay dx dy) : cutB ax ay bx by_ ax ay dx dy = true := by
  rw [cutB_iff h]; exact .inr (.inl (.inl ⟨cr_a .., within_end ..⟩))
theorem conv {W S a b M : Int} (h1 : 0 ≤ S) (h2 : 0 ≤ W - S) (ha : a ≤ M) (hb : b ≤ M) : W * a + S * (b - a) ≤ W * M := by
  have e : W * M - (W * a + S * (b - a)) = (W - S) * (M - a) + S * (M - b) := by grind
  have := Int.mul_nonneg h2 (show 0 ≤ M - a by omega)
  have := Int.mul_nonneg h1 (show 0 ≤ M - b by omega)
  omega
theorem conv' {W S a b M : Int} (h1 : 0 ≤ S) (h2 : 0 ≤ W - S) (ha : M ≤ a) (hb : M ≤ b) : W * M ≤ W * a + S * (b - a) := by
  have e : (W * a + S * (b - a)) - W * M = (W - S) * (a - M) + S * (b - M) := by grind
  have := Int.mul_nonneg h2 (show 0 ≤ a - M by omega)
  have := Int.mul_nonneg h1 (show 0 ≤ b - M by omega)
  omega
theorem lap1 {W S T a b c d : Int} (hW : 0 < W) (s1 : 0 ≤ S) (s2 : 0 ≤ W - S) (t1 : 0 ≤ T) (t2 : 0 ≤ W - T) (he : W * a + S * (b - a) = W * c + T * (d - c)) : mnI a b ≤ mxI c d := by
  refine Classical.byContradiction fun h => ?_
  have h1 := conv' (M := mnI a b) (a := a) (b := b) s1 s2 (by unfold mnI; split <;> omega) (by unfold mnI; split <;> omega)
  have h2 := conv (M := mxI c d) (a := c) (b := d) t1 t2 (by unfold mxI; split <;> omega) (by unfold mxI; split <;> omega)
  have h3 := Int.mul_pos hW (show 0 < mnI a b - mxI c d by omega)
  rw [Int.mul_sub] at h3
  omega
theorem lap2 {W S T a b c d : Int} (hW : W ≠ 0) (hS : 0 ≤ S * (W - S)) (hT : 0 ≤ T * (W - T)) (he : W * a + S * (b - a) = W * c + T * (d - c)) : mnI a b ≤ mxI c d ∧ mnI c d ≤ mxI a b := by
  rw [mul_nn] at hS hT
  rcases Int.lt_or_lt_of_ne hW with h | h
  · have he' : (-W) * a + (-S) * (b - a) = (-W) * c + (-T) * (d - c) := by grind
    exact ⟨lap1 (by omega) (by omega) (by omega) (by omega) (by omega) he', lap1 (by omega) (by omega) (by omega) (by omega) (by omega) he'.symm⟩
  · exact ⟨lap1 (by omega) (by omega) (by omega) (by omega) (by omega) he, lap1 (by omega) (by omega) (by omega) (by omega) (by omega) he.symm⟩
theorem lap_pt {a b c d p : Int} (h1 : 0 ≤ (p - a) * (b - p)) (h2 : 0 ≤ (p - c) * (d - p)) : mnI a b ≤ mxI c d ∧ mnI c d ≤ mxI a b := by
  rw [← bt] at h1 h2; omega
theorem cut_lap {ax ay bx by_ cx cy dx dy : Int} (h : B8 ax ay bx by_ cx cy dx dy) (hc : cutB ax ay bx by_ cx cy dx dy = true) :
    (mnI ax bx ≤ mxI cx dx ∧ mnI cx dx ≤ mxI ax bx) ∧ (mnI ay by_ ≤ mxI cy dy ∧ mnI cy dy ≤ mxI ay by_) := by
  have z : ∀ x y : Int, 0 ≤ (x - x) * (y - x) ∧ 0 ≤ (y - x) * (y - y) := fun x y => by simp
  by_cases hW : wW ax ay bx by_ cx cy dx dy = 0
  · rw [cut_par h hW] at hc
    simp only [Bool.or_eq_true, onB, Bool.and_eq_true, withinB_iff] at hc
    rcases hc with ⟨⟨h1, h2⟩, _⟩ | ⟨⟨h1, h2⟩, _⟩ | ⟨⟨h1, h2⟩, _⟩ | ⟨⟨h1, h2⟩, _⟩
    · exact ⟨lap_pt h1 (z _ _).1, lap_pt h2 (z _ _).1⟩
    · exact ⟨lap_pt h1 (z _ _).2, lap_pt h2 (z _ _).2⟩
    · exact ⟨lap_pt (z _ _).1 h1, lap_pt (z _ _).1 h2⟩
    · exact ⟨lap_pt (z _ _).2 h1, lap_pt (z _ _).2 h2⟩
  · rw [cut_cross h hW, shared_iff hW] at hc
    exact ⟨lap2 hW hc.1 hc.2 (by unfold wW sS tT; grind), lap2 hW hc.1 hc.2 (by unfold wW sS tT; grind)⟩
theorem w_x {ax ay bx by_ px py : Int} (hc : cr ax ay bx by_ px py = 0) (hn : bx - ax ≠ 0) (h : 0 ≤ (px - ax) * (bx - px)) : withinB ax ay bx by_ px py = true := by
  rw [withinB_iff]
  refine ⟨h, nn_of_mul (sq_pos hn) ?_⟩
  have e : (bx - ax) * (py - ay) = (by_ - ay) * (px - ax) := by unfold cr at hc; omega
  have : (bx - ax) * (bx - ax) * ((py - ay) * (by_ - py)) = ((by_ - ay) * (by_ - ay)) * ((px - ax) * (bx - px)) := by
    have : (bx - ax) * (bx - ax) * ((py - ay) * (by_ - py)) = ((bx - ax) * (py - ay)) * ((bx - ax) * (by_ - ay) - (bx - ax) * (py - ay)) := by grind
    rw [this, e]; grind
  rw [this]; exact Int.mul_nonneg (sq_nn _) h
theorem w_y {ax ay bx by_ px py : Int} (hc : cr ax ay bx by_ px py = 0) (hn : by_ - ay ≠ 0) (h : 0 ≤ (py - ay) * (by_ - py)) : withinB ax ay bx by_ px py = true := by
  have := w_x (ax := ay) (ay := ax) (bx := by_) (by_ := bx) (px := py) (py := px) (by unfold cr at *; omega) hn h
  rw [withinB_iff] at *; exact ⟨this.2, this.1⟩
theorem line1 {a b c d r : Int} (h1 : 0 ≤ (r - a) * (b - r)) (h2 : 0 ≤ (r - c) * (d - r)) : (0 ≤ (c - a) * (b - c) ∨ 0 ≤ (d - a) * (b - d)) ∨ (0 ≤ (a - c) * (d - a) ∨ 0 ≤ (b - c) * (d - b)) := by
  simp only [mul_nn] at *; omega
theorem common {ax ay bx by_ cx cy dx dy rx ry : Int} (h : B8 ax ay bx by_ cx cy dx dy) (u1 : withinB ax ay bx by_ rx ry = true) (u2 : cr ax ay bx by_ rx ry = 0) (v1 : withinB cx cy dx dy rx ry = true) (v2 : cr cx cy dx dy rx ry = 0) :
    cutB ax ay bx by_ cx cy dx dy = true := by
  by_cases hW : wW ax ay bx by_ cx cy dx dy = 0
  · have same : ∀ {px py qx qy : Int}, qx - px = 0 → qy - py = 0 → withinB px py qx qy rx ry = true → px = rx ∧ py = ry ∧ qx = rx ∧ qy = ry := fun e1 e2 hw => by
      rw [withinB_iff, mul_nn, mul_nn] at hw; omega
    rw [cutB_iff h]
    by_cases hab : bx - ax = 0 ∧ by_ - ay = 0
    · obtain ⟨rfl, rfl, rfl, rfl⟩ := same hab.1 hab.2 u1
      exact .inr (.inr (.inl ⟨v2, v1⟩))
    by_cases hcd : dx - cx = 0 ∧ dy - cy = 0
    · obtain ⟨rfl, rfl, rfl, rfl⟩ := same hcd.1 hcd.2 v1
      exact .inr (.inl (.inl ⟨u2, u1⟩))
    have par : (bx - ax) * (dy - cy) = (by_ - ay) * (dx - cx) := by unfold wW at hW; omega
    rw [withinB_iff] at u1 v1
    have k1 : cr ax ay bx by_ cx cy = 0 ∧ cr ax ay bx by_ dx dy = 0 ∧ cr cx cy dx dy ax ay = 0 ∧ cr cx cy dx dy bx by_ = 0 := by
      have p : ∀ {U V u v x y : Int}, (U ≠ 0 ∨ V ≠ 0) → U * v = V * u → U * y - V * x = 0 → u * y - v * x = 0 := fun {U V u v x y} hn e1 e2 => by
        have g1 : U * (u * y - v * x) = u * (U * y - V * x) + x * (V * u - U * v) := by grind
        have g2 : V * (u * y - v * x) = v * (U * y - V * x) + y * (V * u - U * v) := by grind
        rw [e2, e1] at g1 g2
        simp only [Int.sub_self, Int.mul_zero, Int.add_zero] at g1 g2
        rcases hn with hn | hn
        · exact (Int.mul_eq_zero.1 g1).resolve_left hn
        · exact (Int.mul_eq_zero.1 g2).resolve_left hn
      have n1 : bx - ax ≠ 0 ∨ by_ - ay ≠ 0 := by omega
      have n2 : dx - cx ≠ 0 ∨ dy - cy ≠ 0 := by omega
      unfold cr at u2 v2
      have q1 := p n1 par u2
      have q2 := p n2 (u := bx - ax) (v := by_ - ay) (by grind) v2
      have r1 : (bx - ax) * (cy - ay) - (by_ - ay) * (cx - ax) = 0 := by grind
      have r3 : (dx - cx) * (ay - cy) - (dy - cy) * (ax - cx) = 0 := by grind
      unfold cr
      refine ⟨r1, ?_, r3, ?_⟩ <;> grind
    obtain ⟨k1, k2, k3, k4⟩ := k1
    by_cases hx : bx - ax = 0
    · have hy : by_ - ay ≠ 0 := by omega
      have hy2 : dy - cy ≠ 0 := fun e => by
        rw [e, Int.mul_zero] at par
        have := (Int.mul_eq_zero.1 par.symm).resolve_left hy
        omega
      rcases line1 u1.2 v1.2 with (l | l) | (l | l)
      · exact .inr (.inl (.inl ⟨k1, w_y k1 hy l⟩))
      · exact .inr (.inl (.inr ⟨k2, w_y k2 hy l⟩))
      · exact .inr (.inr (.inl ⟨k3, w_y k3 hy2 l⟩))
      · exact .inr (.inr (.inr ⟨k4, w_y k4 hy2 l⟩))
    · have hx2 : dx - cx ≠ 0 := fun e => by
        rw [e, Int.mul_zero] at par
        have := (Int.mul_eq_zero.1 par).resolve_left hx
        omega
      rcases line1 u1.1 v1.1 with (l | l) | (l | l)
      · exact .inr (.inl (.inl ⟨k1, w_x k1 hx l⟩))
      · exact .inr (.inl (.inr ⟨k2, w_x k2 hx l⟩))
      · exact .inr (.inr (.inl ⟨k3, w_x k3 hx2 l⟩))
      · exact .inr (.inr (.inr ⟨k4, w_x k4 hx2 l⟩))
  · rw [cut_cross h hW, shared_iff hW]
    have e1 : wW ax ay bx by_ rx ry (rx + (dx - cx)) (ry + (dy - cy)) = wW ax ay bx by_ cx cy dx dy := by unfold wW; grind
    have e2 : sS ax ay bx by_ rx ry (rx + (dx - cx)) (ry + (dy - cy)) = sS ax ay bx by_ cx cy dx dy := by unfold cr at v2; unfold sS; grind
    have e3 : tT ax ay bx by_ rx ry (rx + (dx - cx)) (ry + (dy - cy)) = 0 := by unfold cr at u2; unfold tT; grind
    have f1 : wW cx cy dx dy rx ry (rx + (bx - ax)) (ry + (by_ - ay)) = - wW ax ay bx by_ cx cy dx dy := by unfold wW; grind
    have f2 : sS cx cy dx dy rx ry (rx + (bx - ax)) (ry + (by_ - ay)) = - tT ax ay bx by_ cx cy dx dy := by unfold cr at u2; unfold sS tT; grind
    have f3 : tT cx cy dx dy rx ry (rx + (bx - ax)) (ry + (by_ - ay)) = 0 := by unfold cr at v2; unfold tT; grind
    have g1 := (within_A e3 (by rw [e1]; exact hW)).1 u1
    have g2 := (within_A f3 (by rw [f1]; omega)).1 v1
    rw [e1, e2] at g1
    rw [f1, f2] at g2
    refine ⟨g1, ?_⟩
    have : -tT ax ay bx by_ cx cy dx dy * (-wW ax ay bx by_ cx cy dx dy - -tT ax ay bx by_ cx cy dx dy) = tT ax ay bx by_ cx cy dx dy * (wW ax ay bx by_ cx cy dx dy - tT ax ay bx by_ cx cy dx dy) := by grind
    omega
theorem mn_le (a b : Int) : mnI a b ≤ a ∧ mnI a b ≤ b ∧ (mnI a b = a ∨ mnI a b = b) := by unfold mnI; split <;> omega
theorem mx_le (a b : Int) : a ≤ mxI a b ∧ b ≤ mxI a b ∧ (mxI a b = a ∨ mxI a b = b) := by unfold mxI; split <;> omega
theorem fold_min : ∀ (l : List (Int × Int)) (q : Int × Int), ((l.foldl minP q).1 ≤ q.1 ∧ (l.foldl minP q).2 ≤ q.2) ∧ (∀ p ∈ l, (l.foldl minP q).1 ≤ p.1 ∧ (l.foldl minP q).2 ≤ p.2) ∧
    ((l.foldl minP q).1 = q.1 ∨ ∃ p ∈ l, (l.foldl minP q).1 = p.1) ∧ ((l.foldl minP q).2 = q.2 ∨ ∃ p ∈ l, (l.foldl minP q).2 = p.2)
  | [], q => by simp
  | p :: l, q => by
    obtain ⟨⟨h1, h2⟩, h3, h4, h5⟩ := fold_min l (minP q p)
    have m1 := mn_le q.1 p.1
    have m2 := mn_le q.2 p.2
    simp only [List.foldl_cons]
    simp only [minP] at h1 h2 h4 h5
    refine ⟨⟨by simp only [minP] at *; omega, by simp only [minP] at *; omega⟩, fun r hr => ?_, ?_, ?_⟩
    · simp only [List.mem_cons] at hr
      rcases hr with rfl | hr
      · simp only [minP] at *; omega
      · exact h3 r hr
    · rcases h4 with h4 | ⟨r, hr, h4⟩
      · rcases m1.2.2 with m | m
        · exact .inl (by simp only [minP] at *; omega)
        · exact .inr ⟨p, by simp, by simp only [minP] at *; omega⟩
      · exact .inr ⟨r, by simp [hr], h4⟩
    · rcases h5 with h4 | ⟨r, hr, h4⟩
      · rcases m2.2.2 with m | m
        · exact .inl (by simp only [minP] at *; omega)
        · exact .inr ⟨p, by simp, by simp only [minP] at *; omega⟩
      · exact .inr ⟨r, by simp [hr], h4⟩
theorem fold_max : ∀ (l : List (Int × Int)) (q : Int × Int), (q.1 ≤ (l.foldl maxP q).1 ∧ q.2 ≤ (l.foldl maxP q).2) ∧ (∀ p ∈ l, p.1 ≤ (l.foldl maxP q).1 ∧ p.2 ≤ (l.foldl maxP q).2) ∧
    ((l.foldl maxP q).1 = q.1 ∨ ∃ p ∈ l, (l.foldl maxP q).1 = p.1) ∧ ((l.foldl maxP q).2 = q.2 ∨ ∃ p ∈ l, (l.foldl maxP q).2 = p.2)
  | [], q => by simp
  | p :: l, q => by
    obtain ⟨⟨h1, h2⟩, h3, h4, h5⟩ := fold_max l (maxP q p)
    have m1 := mx_le q.1 p.1
    have m2 := mx_le q.2 p.2
    simp only [List.foldl_cons]
    simp only [maxP] at h1 h2 h4 h5
    refine ⟨⟨by simp only [maxP] at *; omega, by simp only [maxP] at *; omega⟩, fun r hr => ?_, ?_, ?_⟩
    · simp only [List.mem_cons] at hr
      rcases hr with rfl | hr
      · simp only [maxP] at *; omega
      · exact h3 r hr
    · rcases h4 with h4 | ⟨r, hr, h4⟩
      · rcases m1.2.2 with m | m
        · exact .inl (by simp only [maxP] at *; omega)
        · exact .inr ⟨p, by simp, by simp only [maxP] at *; omega⟩
      · exact .inr ⟨r, by simp [hr], h4⟩
    · rcases h5 with h4 | ⟨r, hr, h4⟩
      · rcases m2.2.2 with m | m
        · exact .inl (by simp only [maxP] at *; omega)
        · exact .inr ⟨p, by simp, by simp only [maxP] at *; omega⟩
      · exact .inr ⟨r, by simp [hr], h4⟩
/-- what a box is: it bounds, and each side is met -/
structure Box (l : List (Int × Int)) (lo hi : Int × Int) : Prop where
  b1 : ∀ p ∈ l, lo.1 ≤ p.1
  b2 : ∀ p ∈ l, lo.2 ≤ p.2
  b3 : ∀ p ∈ l, p.1 ≤ hi.1
  b4 : ∀ p ∈ l, p.2 ≤ hi.2
  m1 : ∃ p ∈ l, p.1 = lo.1
  m2 : ∃ p ∈ l, p.2 = lo.2
  m3 : ∃ p ∈ l, p.1 = hi.1
  m4 : ∃ p ∈ l, p.2 = hi.2
theorem box {l : List (Int × Int)} (h : l ≠ []) : Box l (bbL l) (bbH l) := by
  cases l with
  | nil => exact absurd rfl h
  | cons p l =>
    obtain ⟨⟨a1, a2⟩, a3, a4, a5⟩ := fold_min (p :: l) p
    obtain ⟨⟨c1, c2⟩, c3, c4, c5⟩ := fold_max (p :: l) p
    refine ⟨fun q hq => (a3 q hq).1, fun q hq => (a3 q hq).2, fun q hq => (c3 q hq).1, fun q hq => (c3 q hq).2, ?_, ?_, ?_, ?_⟩
    · rcases a4 with a | ⟨r, hr, a⟩
      · exact ⟨p, by simp, a.symm⟩
      · exact ⟨r, hr, a.symm⟩
    · rcases a5 with a | ⟨r, hr, a⟩
      · exact ⟨p, by simp, a.symm⟩
      · exact ⟨r, hr, a.symm⟩
    · rcases c4 with a | ⟨r, hr, a⟩
      · exact ⟨p, by simp, a.symm⟩
      · exact ⟨r, hr, a.symm⟩
    · rcases c5 with a | ⟨r, hr, a⟩
      · exact ⟨p, by simp, a.symm⟩
      · exact ⟨r, hr, a.symm⟩
theorem Box.uniq {l : List (Int × Int)} {lo hi lo' hi' : Int × Int} (h : Box l lo hi) (k : Box l lo' hi') : lo = lo' ∧ hi = hi' := by
  obtain ⟨p1, hp1, e1⟩ := h.m1
  obtain ⟨p2, hp2, e2⟩ := h.m2
  obtain ⟨p3, hp3, e3⟩ := h.m3
  obtain ⟨p4, hp4, e4⟩ := h.m4
  obtain ⟨q1, hq1, f1⟩ := k.m1
  obtain ⟨q2, hq2, f2⟩ := k.m2
  obtain ⟨q3, hq3, f3⟩ := k.m3
  obtain ⟨q4, hq4, f4⟩ := k.m4
  have := h.b1 q1 hq1; have := k.b1 p1 hp1
  have := h.b2 q2 hq2; have := k.b2 p2 hp2
  have := h.b3 q3 hq3; have := k.b3 p3 hp3
  have := h.b4 q4 hq4; have := k.b4 p4 hp4
  exact ⟨Prod.ext (by omega) (by omega), Prod.ext (by omega) (by omega)⟩
def gapZ (lo hi lo' hi' : Int × Int) : Int := mxI (mxI (mxI (mxI 0 (lo'.1 - hi.1)) (lo'.2 - hi.2)) (lo.1 - hi'.1)) (lo.2 - hi'.2)
theorem mx_mx (a b x : Int) : x = mxI a b ↔ a ≤ x ∧ b ≤ x ∧ (x = a ∨ x = b) := by unfold mxI; split <;> omega
theorem gapZ_char (lo hi lo' hi' : Int × Int) (x : Int) : x = gapZ lo hi lo' hi' ↔ (0 ≤ x ∧ lo'.1 - hi.1 ≤ x ∧ lo'.2 - hi.2 ≤ x ∧ lo.1 - hi'.1 ≤ x ∧ lo.2 - hi'.2 ≤ x) ∧ (x = 0 ∨ x = lo'.1 - hi.1 ∨ x = lo'.2 - hi.2 ∨ x = lo.1 - hi'.1 ∨ x = lo.2 - hi'.2) := by
  unfold gapZ mxI; repeat' split
  all_goals omega
end Go.Geo

namespace Go.Proofs.Ytnecdcaaknhgpaa.G
set_option maxRecDepth 100000
set_option maxHeartbeats 4000000
set_option linter.unusedSimpArgs false
set_option linter.unusedVariables false
open Go Go.Zv
open Go.Geo
theorem c54 (ax ay bx by_ : Int) : pc E 54 [.agg [.int .i64 ax, .int .i64 ay], .agg [.int .i64 bx, .int .i64 by_]] = some (.agg [.int .i64 (w64 (ax + bx)), .int .i64 (w64 (ay + by_))]) := by
  rw [pc_eq]; simp +contextual -implicitDefEqProofs (maxSteps := 2000000) only [go_sem, ↓reduceIte, Nat.reduceAdd, Nat.reduceMul, Nat.reduceSub, Nat.reduceEqDiff, Nat.reduceLeDiff, Nat.reduceDiv, Nat.reduceMod, Nat.reduceBEq, Nat.reduceBNe, reduceCtorEq, Int.reduceLE, Int.reduceLT, Int.reduceToNat, Int.reduceNeg, Nat.reduceLT, Int.reduceEq, Int.reduceSub, Int.reduceAdd, Int.reduceMul, Nat.reducePow, Int.reduceBEq, Int.reduceBNe, Int.reduceMod, E_54, A54]
theorem c67 (ax ay bx by_ : Int) : pc E 67 [.agg [.int .i64 ax, .int .i64 ay], .agg [.int .i64 bx, .int .i64 by_]] = some (.agg [.int .i64 (w64 (ax - bx)), .int .i64 (w64 (ay - by_))]) := by
  rw [pc_eq]; simp +contextual -implicitDefEqProofs (maxSteps := 2000000) only [go_sem, ↓reduceIte, Nat.reduceAdd, Nat.reduceMul, Nat.reduceSub, Nat.reduceEqDiff, Nat.reduceLeDiff, Nat.reduceDiv, Nat.reduceMod, Nat.reduceBEq, Nat.reduceBNe, reduceCtorEq, Int.reduceLE, Int.reduceLT, Int.reduceToNat, Int.reduceNeg, Nat.reduceLT, Int.reduceEq, Int.reduceSub, Int.reduceAdd, Int.reduceMul, Nat.reducePow, Int.reduceBEq, Int.reduceBNe, Int.reduceMod, E_67, A67]
theorem c62 (ax ay bx by_ px py : Int) : pc E 62 [.agg [.int .i64 ax, .int .i64 ay], .agg [.int .i64 bx, .int .i64 by_], .agg [.int .i64 px, .int .i64 py]] = some (.int .i64 (sgn (crW ax ay bx by_ px py))) := by
  rw [pc_eq]; simp +contextual -implicitDefEqProofs (maxSteps := 2000000) only [go_sem, ↓reduceIte, Nat.reduceAdd, Nat.reduceMul, Nat.reduceSub, Nat.reduceEqDiff, Nat.reduceLeDiff, Nat.reduceDiv, Nat.reduceMod, Nat.reduceBEq, Nat.reduceBNe, reduceCtorEq, Int.reduceLE, Int.reduceLT, Int.reduceToNat, Int.reduceNeg, Nat.reduceLT, Int.reduceEq, Int.reduceSub, Int.reduceAdd, Int.reduceMul, Nat.reducePow, Int.reduceBEq, Int.reduceBNe, Int.reduceMod, E_62, A62, c67, decide_eq_true_eq]
  unfold sgn crW; split <;> (try split) <;> rfl
theorem c118 (ax ay bx by_ : Int) : pc E 118 [.agg [.int .i64 ax, .int .i64 ay], .agg [.int .i64 bx, .int .i64 by_]] = some (.agg [.int .i64 (mnI ax bx), .int .i64 (mnI ay by_)]) := by
  rw [pc_eq]; simp +contextual -implicitDefEqProofs (maxSteps := 2000000) only [go_sem, ↓reduceIte, Nat.reduceAdd, Nat.reduceMul, Nat.reduceSub, Nat.reduceEqDiff, Nat.reduceLeDiff, Nat.reduceDiv, Nat.reduceMod, Nat.reduceBEq, Nat.reduceBNe, reduceCtorEq, Int.reduceLE, Int.reduceLT, Int.reduceToNat, Int.reduceNeg, Nat.reduceLT, Int.reduceEq, Int.reduceSub, Int.reduceAdd, Int.reduceMul, Nat.reducePow, Int.reduceBEq, Int.reduceBNe, Int.reduceMod, E_118, A118]
theorem c119 (ax ay bx by_ : Int) : pc E 119 [.agg [.int .i64 ax, .int .i64 ay], .agg [.int .i64 bx, .int .i64 by_]] = some (.agg [.int .i64 (mxI ax bx), .int .i64 (mxI ay by_)]) := by
  rw [pc_eq]; simp +contextual -implicitDefEqProofs (maxSteps := 2000000) only [go_sem, ↓reduceIte, Nat.reduceAdd, Nat.reduceMul, Nat.reduceSub, Nat.reduceEqDiff, Nat.reduceLeDiff, Nat.reduceDiv, Nat.reduceMod, Nat.reduceBEq, Nat.reduceBNe, reduceCtorEq, Int.reduceLE, Int.reduceLT, Int.reduceToNat, Int.reduceNeg, Nat.reduceLT, Int.reduceEq, Int.reduceSub, Int.reduceAdd, Int.reduceMul, Nat.reducePow, Int.reduceBEq, Int.reduceBNe, Int.reduceMod, E_119, A119]
theorem fold_loop (l : List (Int × Int)) (hl : l.length < 9223372036854775808) (f : FuncId) (g : Int × Int → Int × Int → Int × Int) (hg : ∀ ax ay bx by_, pc E f [.agg [.int .i64 ax, .int .i64 ay], .agg [.int .i64 bx, .int .i64 by_]] = some (.agg [.int .i64 (g (ax, ay) (bx, by_)).1, .int .i64 (g (ax, ay) (bx, by_)).2])) :
    ∀ (k i : Nat) (ax ay : Int), i + k = l.length → (K E A117_L0 ⟨[(2, .fn (.func f) [] []), (4, .ptr 1024 0), (6, .ptr 1536 0), (9, .vs (l.map c2)), (10, .int .i64 l.length), (11, .int .i64 i)], [],
      [(1536, .box [.int .i64 0, .int .i64 0]), (1024, .box [.int .i64 ax, .int .i64 ay])], 0⟩).bind (blockR 0 (some [4, 6]) [8]) =
      some (.ex .nrm ⟨[(4, .ptr 1024 0), (6, .ptr 1536 0)], [], [(1536, .box [.int .i64 0, .int .i64 0]), (1024, .box [.int .i64 ((l.drop i).foldl g (ax, ay)).1, .int .i64 ((l.drop i).foldl g (ax, ay)).2])], 0⟩)
  | 0, i, ax, ay, h => by
    have hi : ¬ ((i : Int) < l.length) := by omega
    have hd : l.drop i = [] := List.drop_of_length_le (by omega)
    rw [A117_L0_eq, hd]
    simp +contextual -implicitDefEqProofs (maxSteps := 2000000) only [go_sem, ↓reduceIte, Nat.reduceAdd, Nat.reduceMul, Nat.reduceSub, Nat.reduceEqDiff, Nat.reduceLeDiff, Nat.reduceDiv, Nat.reduceMod, Nat.reduceBEq, Nat.reduceBNe, reduceCtorEq, Int.reduceLE, Int.reduceLT, Int.reduceToNat, Int.reduceNeg, Nat.reduceLT, Int.reduceEq, Int.reduceSub, Int.reduceAdd, Int.reduceMul, Nat.reducePow, Int.reduceBEq, Int.reduceBNe, Int.reduceMod, A117_L0b, hi, List.foldl_nil]
  | k + 1, i, ax, ay, h => by
    have hi : ((i : Int) < l.length) := by omega
    have hget : l[i]? = some (l[i]'(by omega)) := List.getElem?_eq_getElem _
    generalize l[i]'(by omega) = p at hget
    have hg2 := get_c2 hget
    have hw := wr_succ (n := i) (by omega)
    have h0 : (0 : Int) ≤ (i : Int) := by omega
    have hd : l.drop i = p :: l.drop (i + 1) := by
      have hlt : i < l.length := by omega
      rw [List.drop_eq_getElem_cons hlt]
      rw [List.getElem?_eq_getElem hlt] at hget
      simp only [Option.some.injEq] at hget
      rw [hget]
    rw [A117_L0_eq, hd]
    simp +contextual -implicitDefEqProofs (maxSteps := 2000000) only [go_sem, ↓reduceIte, Nat.reduceAdd, Nat.reduceMul, Nat.reduceSub, Nat.reduceEqDiff, Nat.reduceLeDiff, Nat.reduceDiv, Nat.reduceMod, Nat.reduceBEq, Nat.reduceBNe, reduceCtorEq, Int.reduceLE, Int.reduceLT, Int.reduceToNat, Int.reduceNeg, Nat.reduceLT, Int.reduceEq, Int.reduceSub, Int.reduceAdd, Int.reduceMul, Nat.reducePow, Int.reduceBEq, Int.reduceBNe, Int.reduceMod, A117_L0b, hi, hg2, hg, h0, hw, List.foldl_cons]
    rw [fold_loop l hl f g hg k (i + 1) _ _ (by omega)]
theorem c117 (l : List (Int × Int)) (hl : l.length < 9223372036854775808) (ax ay : Int) (f : FuncId) (g : Int × Int → Int × Int → Int × Int) (hg : ∀ ax ay bx by_, pc E f [.agg [.int .i64 ax, .int .i64 ay], .agg [.int .i64 bx, .int .i64 by_]] = some (.agg [.int .i64 (g (ax, ay) (bx, by_)).1, .int .i64 (g (ax, ay) (bx, by_)).2])) :
    pc E 117 [.vs (l.map c2), .agg [.int .i64 ax, .int .i64 ay], .fn (.func f) [] []] = some (pt (l.foldl g (ax, ay))) := by
  have := fold_loop l hl f g hg l.length 0 ax ay (by omega)
  simp only [Int.ofNat_zero, Int.natCast_zero, List.drop_zero] at this
  rw [pc_eq]; simp +contextual -implicitDefEqProofs (maxSteps := 2000000) only [go_sem, ↓reduceIte, Nat.reduceAdd, Nat.reduceMul, Nat.reduceSub, Nat.reduceEqDiff, Nat.reduceLeDiff, Nat.reduceDiv, Nat.reduceMod, Nat.reduceBEq, Nat.reduceBNe, reduceCtorEq, Int.reduceLE, Int.reduceLT, Int.reduceToNat, Int.reduceNeg, Nat.reduceLT, Int.reduceEq, Int.reduceSub, Int.reduceAdd, Int.reduceMul, Nat.reducePow, Int.reduceBEq, Int.reduceBNe, Int.reduceMod, E_117, A117, List.length_map, this]
theorem c107 (l : List (Int × Int)) (hl : l.length < 9223372036854775808) : pc E 107 [.vs (l.map c2)] = some (.tup [pt (bbL l), pt (bbH l)]) := by
  cases l with
  | nil =>
    rw [pc_eq]; simp +contextual -implicitDefEqProofs only [E_107, A107, go_sem, ↓reduceIte, Nat.reduceAdd, Nat.reduceMul, Nat.reduceSub, Nat.reduceEqDiff, Nat.reduceLeDiff, Nat.reduceDiv, Nat.reduceMod, Nat.reduceBEq, Nat.reduceBNe, reduceCtorEq, Int.reduceLE, Int.reduceLT, Int.reduceToNat, Int.reduceNeg, Nat.reduceLT, Int.reduceEq, Int.reduceSub, Int.reduceAdd, Int.reduceMul, Nat.reducePow, Int.reduceBEq, Int.reduceBNe, Int.reduceMod, List.map_nil, bbL, bbH, Int.ofNat_zero, Int.natCast_zero]
  | cons p t =>
    have h1 := c117 (p :: t) hl p.1 p.2 118 minP (fun ax ay bx by_ => c118 ax ay bx by_)
    have h2 := c117 (p :: t) hl p.1 p.2 119 maxP (fun ax ay bx by_ => c119 ax ay bx by_)
    have hz : ¬ (((p :: t).length : Int) = 0) := by simp only [List.length_cons]; omega
    simp only [List.map_cons, c2, List.length_cons] at h1 h2 hz
    rw [pc_eq]; simp +contextual -implicitDefEqProofs only [E_107, A107, go_sem, ↓reduceIte, Nat.reduceAdd, Nat.reduceMul, Nat.reduceSub, Nat.reduceEqDiff, Nat.reduceLeDiff, Nat.reduceDiv, Nat.reduceMod, Nat.reduceBEq, Nat.reduceBNe, reduceCtorEq, Int.reduceLE, Int.reduceLT, Int.reduceToNat, Int.reduceNeg, Nat.reduceLT, Int.reduceEq, Int.reduceSub, Int.reduceAdd, Int.reduceMul, Nat.reducePow, Int.reduceBEq, Int.reduceBNe, Int.reduceMod, List.map_cons, c2, bbL, bbH, List.length_map, hz, h1, h2]
theorem c107_2 (ax ay bx by_ : Int) : pc E 107 [.vs [[.int .i64 ax, .int .i64 ay], [.int .i64 bx, .int .i64 by_]]] = some (.tup [pt (bbL [(ax, ay), (bx, by_)]), pt (bbH [(ax, ay), (bx, by_)])]) :=
  c107 [(ax, ay), (bx, by_)] (by simp)
theorem c90 (ax ay bx by_ px py : Int) : pc E 90 [.agg [.int .i64 ax, .int .i64 ay], .agg [.int .i64 bx, .int .i64 by_], .agg [.int .i64 px, .int .i64 py]] = some (.bool (withinB ax ay bx by_ px py)) := by
  rw [pc_eq]; simp +contextual -implicitDefEqProofs (maxSteps := 2000000) only [go_sem, ↓reduceIte, Nat.reduceAdd, Nat.reduceMul, Nat.reduceSub, Nat.reduceEqDiff, Nat.reduceLeDiff, Nat.reduceDiv, Nat.reduceMod, Nat.reduceBEq, Nat.reduceBNe, reduceCtorEq, Int.reduceLE, Int.reduceLT, Int.reduceToNat, Int.reduceNeg, Nat.reduceLT, Int.reduceEq, Int.reduceSub, Int.reduceAdd, Int.reduceMul, Nat.reducePow, Int.reduceBEq, Int.reduceBNe, Int.reduceMod, E_90, A90, c107_2, bbL, bbH, List.foldl_cons, List.foldl_nil, minP, maxP, mn_self, mx_self, withinB]
  repeat' split
  all_goals (try simp_all)
  all_goals (try (intros; omega))
theorem c61 (ax ay bx by_ px py : Int) : pc E 61 [.agg [.int .i64 ax, .int .i64 ay], .agg [.int .i64 bx, .int .i64 by_], .agg [.int .i64 px, .int .i64 py]] = some (.bool (onB ax ay bx by_ px py)) := by
  rw [pc_eq]; simp +contextual -implicitDefEqProofs (maxSteps := 2000000) only [go_sem, ↓reduceIte, Nat.reduceAdd, Nat.reduceMul, Nat.reduceSub, Nat.reduceEqDiff, Nat.reduceLeDiff, Nat.reduceDiv, Nat.reduceMod, Nat.reduceBEq, Nat.reduceBNe, reduceCtorEq, Int.reduceLE, Int.reduceLT, Int.reduceToNat, Int.reduceNeg, Nat.reduceLT, Int.reduceEq, Int.reduceSub, Int.reduceAdd, Int.reduceMul, Nat.reducePow, Int.reduceBEq, Int.reduceBNe, Int.reduceMod, E_61, A61, c90, c62, onB]
  repeat' split
  all_goals simp_all [Bool.beq_eq_decide_eq]
theorem c111 (ax ay bx by_ cx cy dx dy : Int) : pc E 111 [.agg [.int .i64 ax, .int .i64 ay], .agg [.int .i64 bx, .int .i64 by_], .agg [.int .i64 cx, .int .i64 cy], .agg [.int .i64 dx, .int .i64 dy]] =
    some (.tup [.bool (decide (sdI ax ay bx by_ cx cy dx dy < 0)), .bool (endsB ax ay bx by_ cx cy dx dy)]) := by
  rw [pc_eq]; simp +contextual -implicitDefEqProofs (maxSteps := 2000000) only [go_sem, ↓reduceIte, Nat.reduceAdd, Nat.reduceMul, Nat.reduceSub, Nat.reduceEqDiff, Nat.reduceLeDiff, Nat.reduceDiv, Nat.reduceMod, Nat.reduceBEq, Nat.reduceBNe, reduceCtorEq, Int.reduceLE, Int.reduceLT, Int.reduceToNat, Int.reduceNeg, Nat.reduceLT, Int.reduceEq, Int.reduceSub, Int.reduceAdd, Int.reduceMul, Nat.reducePow, Int.reduceBEq, Int.reduceBNe, Int.reduceMod, E_111, A111, c90, c62, sdI, endsB]
  repeat' split
  all_goals (try simp_all [wrap0])
  all_goals (try (intros; omega))
  all_goals (try rfl)
theorem c88 (ax ay bx by_ cx cy dx dy : Int) : pc E 88 [.agg [.int .i64 ax, .int .i64 ay], .agg [.int .i64 bx, .int .i64 by_], .agg [.int .i64 cx, .int .i64 cy], .agg [.int .i64 dx, .int .i64 dy]] = some (.bool (cutB ax ay bx by_ cx cy dx dy)) := by
  rw [pc_eq]; simp +contextual -implicitDefEqProofs (maxSteps := 2000000) only [go_sem, ↓reduceIte, Nat.reduceAdd, Nat.reduceMul, Nat.reduceSub, Nat.reduceEqDiff, Nat.reduceLeDiff, Nat.reduceDiv, Nat.reduceMod, Nat.reduceBEq, Nat.reduceBNe, reduceCtorEq, Int.reduceLE, Int.reduceLT, Int.reduceToNat, Int.reduceNeg, Nat.reduceLT, Int.reduceEq, Int.reduceSub, Int.reduceAdd, Int.reduceMul, Nat.reducePow, Int.reduceBEq, Int.reduceBNe, Int.reduceMod, E_88, A88, c111, cutB]
  repeat' split
  all_goals (try simp_all)
  all_goals (try (intros; omega))
  all_goals (try rfl)
end Go.Proofs.Ytnecdcaaknhgpaa.G

namespace Go.Geo
set_option maxRecDepth 100000
set_option maxHeartbeats 4000000
set_option linter.unusedSimpArgs false
set_option linter.unusedVariables false
open Go Go.Zv
abbrev Pt := Int × Int
/-- a polygon's edges -/
def eds : List Pt → List (Pt × Pt)
  | [] => []
  | p :: t => (p :: t).zip (t ++ [p])
theorem eds_len (l : List Pt) : (eds l).length = l.length := by cases l <;> simp [eds]
theorem eds_get {l : List Pt} {k : Nat} {e : Pt × Pt} (h : (eds l)[k]? = some e) : k < l.length ∧ l[k]? = some e.1 ∧ l[(k + 1) % l.length]? = some e.2 := by
  cases l with
  | nil => simp [eds] at h
  | cons p t =>
    have hk : k < (eds (p :: t)).length := (List.getElem?_eq_some_iff.1 h).1
    rw [eds_len] at hk
    refine ⟨hk, ?_⟩
    simp only [eds] at h
    rw [List.getElem?_zip_eq_some] at h
    refine ⟨h.1, ?_⟩
    have h2 := h.2
    simp only [List.length_cons] at hk ⊢
    by_cases e1 : k = t.length
    · subst e1
      rw [Nat.mod_self]
      rw [List.getElem?_append_right (by omega)] at h2
      simpa using h2
    · rw [Nat.mod_eq_of_lt (by omega)]
      rw [List.getElem?_append_left (by omega)] at h2
      simpa using h2
theorem mod_nat {k n : Nat} (hk : k < n) (hn : n ≤ 1000000000) : (((k + 1 : Nat) : Int)).tmod (n : Int) = (((k + 1) % n : Nat) : Int) ∧ ¬ ((n : Int) = 0) ∧ ((n : Int) == 0) = false ∧ (0 : Int) ≤ (((k + 1) % n : Nat) : Int) ∧ (((k + 1) % n : Nat) : Int) < n := by
  have h := Nat.mod_lt (k + 1) (show n > 0 by omega)
  refine ⟨?_, by omega, by simp; omega, by omega, by omega⟩
  rw [Int.tmod_eq_emod_of_nonneg (by omega)]; rfl
theorem wr_k {k : Nat} (h : k ≤ 1000000000) : IntKind.i64.wrap (((k : Nat) : Int) + 1) = ((k + 1 : Nat) : Int) := wr_succ (by omega)
def arF (x : Int) (e : Pt × Pt) : Int := w64 (x + w64 (w64 (e.1.1 * e.2.2) - w64 (e.1.2 * e.2.1)))
/-- twice the area -/
def areaW (l : List Pt) : Int := (eds l).foldl arF 0
abbrev oriE (a b p : Pt) : Int := sgn (crW a.1 a.2 b.1 b.2 p.1 p.2)
/-- a point on an edge -/
def onE (p : Pt) (e : Pt × Pt) : Bool := onB e.1.1 e.1.2 e.2.1 e.2.2 p.1 p.2
/-- an edge that the ray to the right crosses -/
def flE (p : Pt) (e : Pt × Pt) : Bool := (decide (p.2 < e.1.2) != decide (p.2 < e.2.2)) && (decide (0 < sgn (crW e.1.1 e.1.2 e.2.1 e.2.2 p.1 p.2)) == decide (e.1.2 < e.2.2))
def parF (p : Pt) (b : Bool) (e : Pt × Pt) : Bool := b != flE p e
/-- where a point lies: 0 on the boundary, 1 inside, -1 outside -/
def locI (l : List Pt) (p : Pt) : Int := if (eds l).any (onE p) = true then 0 else if (eds l).foldl (parF p) false = true then 1 else -1
end Go.Geo

namespace Go.Geo
set_option maxRecDepth 100000
set_option maxHeartbeats 4000000
set_option linter.unusedSimpArgs false
set_option linter.unusedVariables false
open Go Go.Zv
def mayB (p : Pt) : Bool := decide (mxI p.1 p.2 ≤ 439400000) && decide (-439400000 ≤ mnI p.1 p.2)
def ptn (l : List Pt) (k : Nat) : Pt := l.getD (k % l.length) (0, 0)
def adjB (n i k : Nat) : Bool := decide (k = i) || (decide (k = (i + 1) % n) || decide (i = (k + 1) % n))
def cutE (e f : Pt × Pt) : Bool := cutB e.1.1 e.1.2 e.2.1 e.2.2 f.1.1 f.1.2 f.2.1 f.2.2
def edn (l : List Pt) (k : Nat) : Pt × Pt := (ptn l k, ptn l (k + 1))
def bad2 (l : List Pt) (i k : Nat) : Bool := !adjB l.length i k && cutE (edn l i) (edn l k)
def bad1 (l : List Pt) (i : Nat) : Bool := decide (oriE (ptn l i) (ptn l (i + 1)) (ptn l (i + 2)) = 0) || (List.range l.length).any (bad2 l i)
def simB (l : List Pt) : Bool := !(List.range l.length).any (bad1 l)
/-- what polygon.Valid tells -/
def valB (l : List Pt) : Bool := decide (3 ≤ l.length) && (decide (l.length ≤ 12) && (l.all mayB && (simB l && decide (0 < areaW l))))
theorem ptn_get {l : List Pt} {k : Nat} (h : k < l.length) : l[k]? = some (ptn l k) := by
  unfold ptn; rw [Nat.mod_eq_of_lt h, List.getElem?_eq_getElem h]; simp [List.getD, h]
theorem ptn_mod {l : List Pt} {k : Nat} (h : 0 < l.length) : l[k % l.length]? = some (ptn l k) := by
  have := ptn_get (l := l) (Nat.mod_lt k h)
  rw [this]; unfold ptn; rw [Nat.mod_mod]
theorem edn_get {l : List Pt} {k : Nat} (h : k < l.length) : (eds l)[k]? = some (edn l k) := by
  have hk : k < (eds l).length := by rw [eds_len]; exact h
  obtain ⟨e, he⟩ : ∃ e, (eds l)[k]? = some e := ⟨_, List.getElem?_eq_getElem hk⟩
  obtain ⟨_, h1, h2⟩ := eds_get he
  rw [ptn_get h] at h1
  rw [ptn_mod (by omega)] at h2
  simp only [Option.some.injEq] at h1 h2
  rw [he]; unfold edn; rw [h1, h2]
theorem range_get {n k : Nat} (h : k < n) : (List.range n)[k]? = some k := by simp [h]
end Go.Geo
