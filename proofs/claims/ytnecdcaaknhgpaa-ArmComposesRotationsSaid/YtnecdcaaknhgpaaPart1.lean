/- Part of the proof: the evaluation of the program's code and its tie to the machine, or what functions of the program compute over it. -/
import Derived.Test.YtnecdcaaknhgpaaEng6
namespace Go.Proofs.Ytnecdcaaknhgpaa
open Go Go.Zv
set_option maxRecDepth 100000
def A3_L0b : ACode := 
  (.seq (
  (.seq (
  .reg none [
    ⟨some 48, .mv (.t 15), none, true⟩,
    ⟨some 49, .bin .lss (.t 48) (.c (.int .i64 3)), none, true⟩] (some [3, 4, 5, 11, 12, 13, 14, 15, 49]) []) (
  (.cond (.t 49) (
    .skip) (
    .exit 0))))) (
  (.seq (
  (.block 1 (
  (.seq (
  .reg (some [.dr [57] [], .dr [57] [], .dr [57] [], .dr [54] [], .dr [54] [], .dr [54] [], .free, .free]) [
    ⟨some 52, .mv (.t 15), none, true⟩,
    ⟨some 53, .iaa 3 1 (.t 13) (.t 52), none, true⟩,
    ⟨some 54, .load false 1 (.t 53), none, true⟩,
    ⟨some 55, .mv (.t 15), none, true⟩,
    ⟨some 56, .iaa 3 1 (.t 14) (.t 55), none, true⟩,
    ⟨some 57, .load false 1 (.t 56), none, true⟩,
    ⟨some 58, .call 22 [.t 54, .t 57], none, true⟩,
    ⟨some 59, .un .not (.t 58), none, true⟩] (some [3, 4, 5, 11, 12, 13, 14, 15, 59]) []) (
  (.cond (.t 59) (
    (.seq (
    .reg none [
      ⟨some 10, .as (.c (.bool false)), none, true⟩] (some [10]) []) (
    .ret))) (
    .skip))))) (some [3, 4, 5, 11, 12, 13, 14, 15]) [10, 58])) (
  .reg none [
    ⟨some 50, .mv (.t 15), none, true⟩,
    ⟨some 51, .bin .add (.t 50) (.c (.int .i64 1)), none, true⟩,
    ⟨some 15, .as (.t 51), none, true⟩] (some [3, 4, 5, 11, 12, 13, 14, 15]) []))))
def A3_L0 : ACode := .loop A3_L0b (some [3, 4, 5, 11, 12, 13, 14, 15]) [10, 58]
/-- ambidexter/ambidexterlaw07.ArmMatchesReference -/
def A3 : AFn := .code [.t 10] (
(.seq (
.reg none [
  ⟨some 5, .box (.t 0), none, true⟩,
  ⟨some 6, .box (.t 1), none, true⟩,
  ⟨some 7, .box (.t 2), none, true⟩,
  ⟨some 10, .as (.c (.bool false)), none, true⟩] (some [3, 4, 5, 6, 7]) []) (
(.seq (
.reg none [
  ⟨some 20, .call 14 [], none, true⟩,
  ⟨some 11, .as (.t 20), none, true⟩] (some [3, 4, 5, 6, 7, 11]) []) (
(.seq (
(.seq (
.reg (some [.dr [23] [], .dr [23] [], .dr [21, 22] [], .free, .free, .free, .dr [28, 30, 31] [], .dr [27, 30, 31] [], .dr [30, 31] [], .dr [27, 28, 29, 31] [], .dr [27, 28, 29, 30] [], .free, .free, .free]) [
  ⟨some 21, .load true 12 (.t 5), none, true⟩,
  ⟨some 22, .call 15 [.t 21], none, true⟩,
  ⟨some 23, .load true 12 (.t 5), none, true⟩,
  ⟨some 24, .call 16 [.t 23], none, true⟩,
  ⟨some 25, .bib true (.t 22) (.t 24), none, true⟩,
  ⟨some 26, .mv (.t 25), none, true⟩,
  ⟨some 27, .load true 12 (.t 5), some (26, false), true⟩,
  ⟨some 28, .load true 3 (.t 6), some (26, false), true⟩,
  ⟨some 29, .call 17 [.t 27, .t 28], some (26, false), true⟩,
  ⟨some 30, .load true 12 (.t 5), some (26, false), true⟩,
  ⟨some 31, .load true 3 (.t 6), some (26, false), true⟩,
  ⟨some 32, .call 18 [.t 30, .t 31], some (26, false), true⟩,
  ⟨some 33, .bib true (.t 29) (.t 32), some (26, false), true⟩,
  ⟨some 34, .pick (.t 26) (.c (.bool true)) (.t 33), none, true⟩] (some [3, 4, 5, 7, 11, 34]) [6]) (
(.cond (.t 34) (
  (.seq (
  .reg none [
    ⟨some 10, .as (.c (.bool false)), none, true⟩] (some [10]) []) (
  .ret))) (
  .skip))))) (
(.seq (
(.seq (
.reg none [
  ⟨some 35, .load true 12 (.t 5), none, true⟩,
  ⟨some 36, .call 16 [.t 35], none, true⟩,
  ⟨some 37, .un .not (.t 36), none, true⟩] (some [3, 4, 5, 7, 11, 37]) []) (
(.cond (.t 37) (
  (.seq (
  .reg none [
    ⟨some 38, .mv (.t 11), none, true⟩,
    ⟨some 10, .as (.t 38), none, true⟩] (some [10]) []) (
  .ret))) (
  .skip))))) (
(.seq (
.reg none [
  ⟨some 39, .load true 12 (.t 5), none, true⟩,
  ⟨some 40, .load true 3 (.t 7), none, true⟩,
  ⟨some 41, .call 19 [.t 39, .t 40], none, true⟩,
  ⟨some 12, .alloc [.int .i64 0, .int .i64 0, .int .i64 0], none, true⟩,
  ⟨none, .store 3 (.t 12) (.t 41), none, true⟩] (some [3, 4, 5, 11, 12]) [7]) (
(.seq (
.reg (some [.dr [43, 45, 46, 13, 14] [], .dr [42, 45, 46, 13, 14] [], .dr [45, 46, 13, 14] [], .dr [42, 43, 44, 46, 13, 14] [], .dr [42, 43, 44, 45, 13, 14] [], .dr [13, 14] [], .dr [42, 43, 44, 45, 46, 47, 14] [], .dr [42, 43, 44, 45, 46, 47, 13] [], .free, .free]) [
  ⟨some 42, .load true 12 (.t 5), none, true⟩,
  ⟨some 43, .load true 3 (.t 12), none, true⟩,
  ⟨some 44, .call 20 [.t 42, .t 43], none, true⟩,
  ⟨some 45, .load true 12 (.t 5), none, true⟩,
  ⟨some 46, .load true 3 (.t 12), none, true⟩,
  ⟨some 47, .call 21 [.t 45, .t 46], none, true⟩,
  ⟨some 13, .alloc [.nils 2, .nils 2, .nils 2], none, true⟩,
  ⟨some 14, .alloc [.nils 2, .nils 2, .nils 2], none, true⟩,
  ⟨none, .store 3 (.t 13) (.t 44), none, true⟩,
  ⟨none, .store 3 (.t 14) (.t 47), none, true⟩] (some [3, 4, 5, 11, 12, 13, 14]) []) (
(.seq (
(.seq (
.reg none [
  ⟨some 15, .as (.c (.int .i64 0)), none, true⟩] (some [3, 4, 5, 11, 12, 13, 14, 15]) []) (
(.block 0 (
A3_L0) (some [3, 4, 5, 11, 12]) [10, 15, 58])))) (
(.seq (
.reg none [
  ⟨some 61, .load true 12 (.t 5), none, true⟩,
  ⟨some 62, .load true 3 (.t 12), none, true⟩,
  ⟨some 63, .mv (.t 3), none, true⟩,
  ⟨some 64, .mv (.t 4), none, true⟩,
  ⟨some 65, .call 23 [.t 61, .t 62, .t 63, .t 64], none, true⟩,
  ⟨some 60, .mv (.t 65), none, true⟩,
  ⟨some 66, .ext (.t 60) 0, none, true⟩,
  ⟨some 67, .ext (.t 60) 1, none, true⟩,
  ⟨some 16, .alloc [.int .i64 0, .int .i64 0, .int .i64 0], none, true⟩,
  ⟨none, .store 3 (.t 16) (.t 66), none, true⟩,
  ⟨some 17, .as (.t 67), none, true⟩] (some [3, 4, 5, 11, 12, 16, 17]) []) (
(.seq (
.reg none [
  ⟨some 69, .load true 12 (.t 5), none, true⟩,
  ⟨some 70, .load true 3 (.t 12), none, true⟩,
  ⟨some 71, .mv (.t 3), none, true⟩,
  ⟨some 72, .mv (.t 4), none, true⟩,
  ⟨some 73, .call 24 [.t 69, .t 70, .t 71, .t 72], none, true⟩,
  ⟨some 68, .mv (.t 73), none, true⟩,
  ⟨some 74, .ext (.t 68) 0, none, true⟩,
  ⟨some 75, .ext (.t 68) 1, none, true⟩,
  ⟨some 18, .alloc [.int .i64 0, .int .i64 0, .int .i64 0], none, true⟩,
  ⟨none, .store 3 (.t 18) (.t 74), none, true⟩,
  ⟨some 19, .as (.t 75), none, true⟩] (some [5, 11, 12, 16, 17, 18, 19]) []) (
(.seq (
.reg (some [.free, .free, .dr [79, 81, 82] [], .dr [78, 81, 82] [], .dr [81, 82] [], .dr [78, 79, 80, 82] [], .dr [78, 79, 80, 81] [], .free, .free, .free, .free, .dr [88, 90, 91] [], .dr [87, 90, 91] [], .dr [90, 91] [], .dr [87, 88, 89, 91] [], .dr [87, 88, 89, 90] [], .free, .free, .free, .free, .dr [97] [], .dr [96] [], .free, .free, .free, .dr [] [], .dr [] [], .free, .free, .free]) [
  ⟨some 76, .mv (.t 11), none, true⟩,
  ⟨some 77, .mv (.t 76), none, true⟩,
  ⟨some 78, .load true 12 (.t 5), some (77, true), true⟩,
  ⟨some 79, .load true 3 (.t 12), some (77, true), true⟩,
  ⟨some 80, .call 25 [.t 78, .t 79], some (77, true), true⟩,
  ⟨some 81, .load true 12 (.t 5), some (77, true), true⟩,
  ⟨some 82, .load true 3 (.t 12), some (77, true), true⟩,
  ⟨some 83, .call 26 [.t 81, .t 82], some (77, true), true⟩,
  ⟨some 84, .eqa false [0, 0, 0, 0, 0, 0, 0, 0, 0] (.t 80) (.t 83), some (77, true), true⟩,
  ⟨some 85, .pick (.t 77) (.t 84) (.c (.bool false)), none, true⟩,
  ⟨some 86, .mv (.t 85), none, true⟩,
  ⟨some 87, .load true 12 (.t 5), some (86, true), true⟩,
  ⟨some 88, .load true 3 (.t 12), some (86, true), true⟩,
  ⟨some 89, .call 27 [.t 87, .t 88], some (86, true), true⟩,
  ⟨some 90, .load true 12 (.t 5), some (86, true), true⟩,
  ⟨some 91, .load true 3 (.t 12), some (86, true), true⟩,
  ⟨some 92, .call 28 [.t 90, .t 91], some (86, true), true⟩,
  ⟨some 93, .eqa false [0, 0, 0, 0, 0, 0, 0, 0] (.t 89) (.t 92), some (86, true), true⟩,
  ⟨some 94, .pick (.t 86) (.t 93) (.c (.bool false)), none, true⟩,
  ⟨some 95, .mv (.t 94), none, true⟩,
  ⟨some 96, .load true 3 (.t 16), some (95, true), true⟩,
  ⟨some 97, .load true 3 (.t 18), some (95, true), true⟩,
  ⟨some 98, .eqa false [0, 0, 0] (.t 96) (.t 97), some (95, true), true⟩,
  ⟨some 99, .pick (.t 95) (.t 98) (.c (.bool false)), none, true⟩,
  ⟨some 100, .mv (.t 99), none, true⟩,
  ⟨some 101, .mv (.t 17), some (100, true), true⟩,
  ⟨some 102, .mv (.t 19), some (100, true), true⟩,
  ⟨some 103, .bib false (.t 101) (.t 102), some (100, true), true⟩,
  ⟨some 104, .pick (.t 100) (.t 103) (.c (.bool false)), none, true⟩,
  ⟨some 10, .as (.t 104), none, true⟩] (some [10]) [5, 12, 16, 18]) (
.ret)))))))))))))))))))))
def A4_L0b : ACode := 
  (.seq (
  (.seq (
  .reg none [
    ⟨some 113, .mv (.t 20), none, true⟩,
    ⟨some 114, .bin .lss (.t 113) (.c (.int .i64 4)), none, true⟩] (some [9, 11, 13, 14, 15, 16, 20, 114]) []) (
  (.cond (.t 114) (
    .skip) (
    .exit 6))))) (
  (.seq (
  (.block 7 (
  (.seq (
  .reg (some [.dr [124, 127, 129, 130, 133] [], .dr [124, 127, 129, 130, 133] [], .dr [118, 124, 127, 129, 130, 133] [], .dr [124, 127, 129, 130, 133] [], .dr [124, 127, 129, 130, 133] [], .dr [118, 120, 121, 127, 129, 130, 133] [], .dr [118, 120, 121, 127, 129, 130, 133] [], .dr [118, 120, 121, 127, 129, 130, 133] [], .dr [127, 129, 130, 133] [], .dr [118, 120, 121, 124, 125, 133] [], .dr [118, 120, 121, 124, 125, 133] [], .dr [118, 120, 121, 124, 125, 127, 133] [], .dr [118, 120, 121, 124, 125, 133] [], .dr [118, 120, 121, 124, 125, 133] [], .dr [118, 120, 121, 124, 125, 127, 129, 130] [], .dr [118, 120, 121, 124, 125, 127, 129, 130] [], .dr [118, 120, 121, 124, 125, 127, 129, 130] [], .free, .free]) [
    ⟨some 117, .iaa 3 1 (.t 15) (.c (.int .i64 2)), none, true⟩,
    ⟨some 118, .load false 1 (.t 117), none, true⟩,
    ⟨some 119, .mv (.t 20), none, true⟩,
    ⟨some 120, .ias 2 (.t 118) (.t 119), none, true⟩,
    ⟨some 121, .load true 2 (.t 120), none, true⟩,
    ⟨some 122, .mv (.t 11), none, true⟩,
    ⟨some 123, .iaa 4 2 (.t 13) (.t 122), none, true⟩,
    ⟨some 124, .load true 2 (.t 123), none, true⟩,
    ⟨some 125, .call 29 [.t 121, .t 124], none, true⟩,
    ⟨some 126, .iaa 3 1 (.t 16) (.c (.int .i64 2)), none, true⟩,
    ⟨some 127, .load false 1 (.t 126), none, true⟩,
    ⟨some 128, .mv (.t 20), none, true⟩,
    ⟨some 129, .ias 2 (.t 127) (.t 128), none, true⟩,
    ⟨some 130, .load true 2 (.t 129), none, true⟩,
    ⟨some 131, .mv (.t 11), none, true⟩,
    ⟨some 132, .iaa 4 2 (.t 14) (.t 131), none, true⟩,
    ⟨some 133, .load true 2 (.t 132), none, true⟩,
    ⟨some 134, .call 29 [.t 130, .t 133], none, true⟩,
    ⟨some 135, .bin .neq (.t 125) (.t 134), none, true⟩] (some [9, 11, 13, 14, 15, 16, 20, 135]) []) (
  (.cond (.t 135) (
    (.seq (
    .reg none [
      ⟨some 8, .as (.c (.bool false)), none, true⟩] (some [8]) []) (
    .ret))) (
    .skip))))) (some [9, 11, 13, 14, 15, 16, 20]) [8, 125, 134])) (
  .reg none [
    ⟨some 115, .mv (.t 20), none, true⟩,
    ⟨some 116, .bin .add (.t 115) (.c (.int .i64 1)), none, true⟩,
    ⟨some 20, .as (.t 116), none, true⟩] (some [9, 11, 13, 14, 15, 16, 20]) []))))
def A4_L0 : ACode := .loop A4_L0b (some [9, 11, 13, 14, 15, 16, 20]) [8, 125, 134]
def A4_L1b : ACode := 
    (.seq (
    (.seq (
    .reg none [
      ⟨some 93, .mv (.t 19), none, true⟩,
      ⟨some 94, .mv (.t 18), none, true⟩,
      ⟨some 95, .bin .lss (.t 93) (.t 94), none, true⟩] (some [9, 11, 13, 14, 15, 16, 18, 19, 95]) []) (
    (.cond (.t 95) (
      .skip) (
      .exit 4))))) (
    (.seq (
    (.block 5 (
    (.seq (
    .reg (some [.dr [103, 107, 110] [], .dr [103, 107, 110] [], .dr [103, 107, 110] [], .dr [100, 107, 110] [], .dr [100, 107, 110] [], .dr [100, 107, 110] [], .dr [107, 110] [], .dr [100, 103, 104, 110] [], .dr [100, 103, 104, 110] [], .dr [100, 103, 104, 110] [], .dr [100, 103, 104, 107] [], .dr [100, 103, 104, 107] [], .dr [100, 103, 104, 107] [], .free, .free]) [
      ⟨some 98, .mv (.t 18), none, true⟩,
      ⟨some 99, .iaa 4 2 (.t 13) (.t 98), none, true⟩,
      ⟨some 100, .load true 2 (.t 99), none, true⟩,
      ⟨some 101, .mv (.t 19), none, true⟩,
      ⟨some 102, .iaa 4 2 (.t 13) (.t 101), none, true⟩,
      ⟨some 103, .load true 2 (.t 102), none, true⟩,
      ⟨some 104, .call 29 [.t 100, .t 103], none, true⟩,
      ⟨some 105, .mv (.t 18), none, true⟩,
      ⟨some 106, .iaa 4 2 (.t 14) (.t 105), none, true⟩,
      ⟨some 107, .load true 2 (.t 106), none, true⟩,
      ⟨some 108, .mv (.t 19), none, true⟩,
      ⟨some 109, .iaa 4 2 (.t 14) (.t 108), none, true⟩,
      ⟨some 110, .load true 2 (.t 109), none, true⟩,
      ⟨some 111, .call 29 [.t 107, .t 110], none, true⟩,
      ⟨some 112, .bin .neq (.t 104) (.t 111), none, true⟩] (some [9, 11, 13, 14, 15, 16, 18, 19, 112]) []) (
    (.cond (.t 112) (
      (.seq (
      .reg none [
        ⟨some 8, .as (.c (.bool false)), none, true⟩] (some [8]) []) (
      .ret))) (
      .skip))))) (some [9, 11, 13, 14, 15, 16, 18, 19]) [8, 104, 111])) (
    .reg none [
      ⟨some 96, .mv (.t 19), none, true⟩,
      ⟨some 97, .bin .add (.t 96) (.c (.int .i64 1)), none, true⟩,
      ⟨some 19, .as (.t 97), none, true⟩] (some [9, 11, 13, 14, 15, 16, 18, 19]) []))))
def A4_L1 : ACode := .loop A4_L1b (some [9, 11, 13, 14, 15, 16, 18, 19]) [8, 104, 111]
def A4_L2b : ACode := 
  (.seq (
  (.seq (
  .reg none [
    ⟨some 88, .mv (.t 18), none, true⟩,
    ⟨some 89, .bin .lss (.t 88) (.c (.int .i64 4)), none, true⟩] (some [9, 11, 13, 14, 15, 16, 18, 89]) []) (
  (.cond (.t 89) (
    .skip) (
    .exit 2))))) (
  (.seq (
  (.block 3 (
  (.seq (
  .reg none [
    ⟨some 92, .mv (.t 11), none, true⟩,
    ⟨some 19, .as (.t 92), none, true⟩] (some [9, 11, 13, 14, 15, 16, 18, 19]) []) (
  (.block 4 (
  A4_L1) (some [9, 11, 13, 14, 15, 16, 18]) [8, 19, 104, 111])))) (some [9, 11, 13, 14, 15, 16, 18]) [8, 19, 104, 111])) (
  .reg none [
    ⟨some 90, .mv (.t 18), none, true⟩,
    ⟨some 91, .bin .add (.t 90) (.c (.int .i64 1)), none, true⟩,
    ⟨some 18, .as (.t 91), none, true⟩] (some [9, 11, 13, 14, 15, 16, 18]) []))))
def A4_L2 : ACode := .loop A4_L2b (some [9, 11, 13, 14, 15, 16, 18]) [8, 19, 104, 111]
def A4_L3b : ACode := 
  (.seq (
  (.seq (
  .reg none [
    ⟨some 75, .mv (.t 17), none, true⟩,
    ⟨some 76, .mv (.t 11), none, true⟩,
    ⟨some 77, .bin .leq (.t 75) (.t 76), none, true⟩] (some [9, 11, 13, 14, 15, 16, 17, 77]) []) (
  (.cond (.t 77) (
    .skip) (
    .exit 0))))) (
  (.seq (
  (.block 1 (
  (.seq (
  .reg (some [.dr [85] [], .dr [85] [], .dr [85] [], .dr [82] [], .dr [82] [], .dr [82] [], .free]) [
    ⟨some 80, .mv (.t 17), none, true⟩,
    ⟨some 81, .iaa 4 2 (.t 13) (.t 80), none, true⟩,
    ⟨some 82, .load true 2 (.t 81), none, true⟩,
    ⟨some 83, .mv (.t 17), none, true⟩,
    ⟨some 84, .iaa 4 2 (.t 14) (.t 83), none, true⟩,
    ⟨some 85, .load true 2 (.t 84), none, true⟩,
    ⟨some 86, .eqa true [0, 0] (.t 82) (.t 85), none, true⟩] (some [9, 11, 13, 14, 15, 16, 17, 86]) []) (
  (.cond (.t 86) (
    (.seq (
    .reg none [
      ⟨some 8, .as (.c (.bool false)), none, true⟩] (some [8]) []) (
    .ret))) (
    .skip))))) (some [9, 11, 13, 14, 15, 16, 17]) [8])) (
  .reg none [
    ⟨some 78, .mv (.t 17), none, true⟩,
    ⟨some 79, .bin .add (.t 78) (.c (.int .i64 1)), none, true⟩,
    ⟨some 17, .as (.t 79), none, true⟩] (some [9, 11, 13, 14, 15, 16, 17]) []))))
def A4_L3 : ACode := .loop A4_L3b (some [9, 11, 13, 14, 15, 16, 17]) [8]
/-- ambidexter/ambidexterlaw07.ArmMovesAsChain -/
def A4 : AFn := .code [.t 8] (
(.seq (
.reg none [
  ⟨some 4, .box (.t 0), none, true⟩,
  ⟨some 5, .box (.t 1), none, true⟩,
  ⟨some 8, .as (.c (.bool false)), none, true⟩] (some [2, 3, 4, 5]) []) (
(.seq (
.reg none [
  ⟨some 21, .call 14 [], none, true⟩,
  ⟨some 9, .as (.t 21), none, true⟩] (some [2, 3, 4, 5, 9]) []) (
(.seq (
(.seq (
.reg none [
  ⟨some 22, .load true 12 (.t 4), none, true⟩,
  ⟨some 23, .call 15 [.t 22], none, true⟩,
  ⟨some 24, .un .not (.t 23), none, true⟩] (some [2, 3, 4, 5, 9, 24]) []) (
(.cond (.t 24) (
  (.seq (
  .reg none [
    ⟨some 25, .mv (.t 9), none, true⟩,
    ⟨some 8, .as (.t 25), none, true⟩] (some [8]) []) (
  .ret))) (
  .skip))))) (
(.seq (
.reg none [
  ⟨some 26, .load true 12 (.t 4), none, true⟩,
  ⟨some 27, .load true 3 (.t 5), none, true⟩,
  ⟨some 28, .call 19 [.t 26, .t 27], none, true⟩,
  ⟨some 10, .alloc [.int .i64 0, .int .i64 0, .int .i64 0], none, true⟩,
  ⟨none, .store 3 (.t 10) (.t 28), none, true⟩] (some [2, 3, 4, 9, 10]) [5]) (
(.seq (
.reg none [
  ⟨some 29, .mv (.t 2), none, true⟩,
  ⟨some 30, .conv .i64 (.t 29), none, true⟩,
  ⟨some 31, .bin .rem (.t 30) (.c (.int .i64 3)), none, true⟩,
  ⟨some 11, .as (.t 31), none, true⟩] (some [3, 4, 9, 10, 11]) []) (
(.seq (
.reg none [
  ⟨some 32, .load true 3 (.t 10), none, true⟩,
  ⟨some 12, .alloc [.int .i64 0, .int .i64 0, .int .i64 0], none, true⟩,
  ⟨none, .store 3 (.t 12) (.t 32), none, true⟩] (some [3, 4, 9, 10, 11, 12]) []) (
(.seq (
.reg (some [.dr [37, 43, 47] [], .dr [43, 47] [], .dr [43, 47] [], .dr [43, 47] [], .dr [43, 47] [], .dr [37, 43, 47] [], .dr [37, 43, 47] [], .dr [37, 47] [], .dr [37, 47] [], .dr [37, 47] [], .dr [37, 47] [], .dr [37, 43] [], .dr [37, 43] [], .dr [37, 43] [], .dr [37, 43] [], .dr [37] [], .dr [37] [], .dr [37] [], .dr [] [], .free, .free]) [
  ⟨some 33, .mv (.t 11), none, true⟩,
  ⟨some 34, .mv (.t 11), none, true⟩,
  ⟨some 35, .fad 6 (.t 4), none, true⟩,
  ⟨some 36, .iaa 3 1 (.t 35) (.t 34), none, true⟩,
  ⟨some 37, .load false 1 (.t 36), none, true⟩,
  ⟨some 38, .mv (.t 3), none, true⟩,
  ⟨some 39, .conv .i64 (.t 38), none, true⟩,
  ⟨some 40, .mv (.t 11), none, true⟩,
  ⟨some 41, .fad 9 (.t 4), none, true⟩,
  ⟨some 42, .iaa 3 1 (.t 41) (.t 40), none, true⟩,
  ⟨some 43, .load false 1 (.t 42), none, true⟩,
  ⟨some 44, .mv (.t 11), none, true⟩,
  ⟨some 45, .fad 6 (.t 4), none, true⟩,
  ⟨some 46, .iaa 3 1 (.t 45) (.t 44), none, true⟩,
  ⟨some 47, .load false 1 (.t 46), none, true⟩,
  ⟨some 48, .bin .sub (.t 43) (.t 47), none, true⟩,
  ⟨some 49, .bin .add (.t 48) (.c (.int .i64 1)), none, true⟩,
  ⟨some 50, .bin .rem (.t 39) (.t 49), none, true⟩,
  ⟨some 51, .bin .add (.t 37) (.t 50), none, true⟩,
  ⟨some 52, .iaa 3 1 (.t 12) (.t 33), none, true⟩,
  ⟨none, .store 1 (.t 52) (.t 51), none, true⟩] (some [4, 9, 10, 11, 12]) []) (
(.seq (
.reg (some [.dr [54, 56, 57, 13, 14] [], .dr [53, 56, 57, 13, 14] [], .dr [56, 57, 13, 14] [], .dr [53, 54, 55, 57, 13, 14] [], .dr [53, 54, 55, 56, 13, 14] [], .dr [13, 14] [], .dr [53, 54, 55, 56, 57, 58, 14] [], .dr [53, 54, 55, 56, 57, 58, 13] [], .free, .free]) [
  ⟨some 53, .load true 12 (.t 4), none, true⟩,
  ⟨some 54, .load true 3 (.t 10), none, true⟩,
  ⟨some 55, .call 27 [.t 53, .t 54], none, true⟩,
  ⟨some 56, .load true 12 (.t 4), none, true⟩,
  ⟨some 57, .load true 3 (.t 12), none, true⟩,
  ⟨some 58, .call 27 [.t 56, .t 57], none, true⟩,
  ⟨some 13, .alloc [.int .i64 0, .int .i64 0, .int .i64 0, .int .i64 0, .int .i64 0, .int .i64 0, .int .i64 0, .int .i64 0], none, true⟩,
  ⟨some 14, .alloc [.int .i64 0, .int .i64 0, .int .i64 0, .int .i64 0, .int .i64 0, .int .i64 0, .int .i64 0, .int .i64 0], none, true⟩,
  ⟨none, .store 8 (.t 13) (.t 55), none, true⟩,
  ⟨none, .store 8 (.t 14) (.t 58), none, true⟩] (some [4, 9, 10, 11, 12, 13, 14]) []) (
(.seq (
.reg (some [.dr [60, 62, 63, 15, 16] [], .dr [59, 62, 63, 15, 16] [], .dr [62, 63, 15, 16] [], .dr [59, 60, 61, 63, 15, 16] [], .dr [59, 60, 61, 62, 15, 16] [], .dr [15, 16] [], .dr [59, 60, 61, 62, 63, 64, 16] [], .dr [59, 60, 61, 62, 63, 64, 15] [], .free, .free]) [
  ⟨some 59, .load true 12 (.t 4), none, true⟩,
  ⟨some 60, .load true 3 (.t 10), none, true⟩,
  ⟨some 61, .call 20 [.t 59, .t 60], none, true⟩,
  ⟨some 62, .load true 12 (.t 4), none, true⟩,
  ⟨some 63, .load true 3 (.t 12), none, true⟩,
  ⟨some 64, .call 20 [.t 62, .t 63], none, true⟩,
  ⟨some 15, .alloc [.nils 2, .nils 2, .nils 2], none, true⟩,
  ⟨some 16, .alloc [.nils 2, .nils 2, .nils 2], none, true⟩,
  ⟨none, .store 3 (.t 15) (.t 61), none, true⟩,
  ⟨none, .store 3 (.t 16) (.t 64), none, true⟩] (some [9, 11, 13, 14, 15, 16]) [4, 10, 12]) (
(.seq (
(.seq (
.reg none [
  ⟨some 65, .iaa 3 1 (.t 15) (.c (.int .i64 2)), none, true⟩,
  ⟨some 66, .load false 1 (.t 65), none, true⟩,
  ⟨some 67, .len 0 (.t 66), none, true⟩,
  ⟨some 68, .bin .neq (.t 67) (.c (.int .i64 4)), none, true⟩,
  ⟨some 69, .mv (.t 68), none, true⟩,
  ⟨some 70, .iaa 3 1 (.t 16) (.c (.int .i64 2)), some (69, false), true⟩,
  ⟨some 71, .load false 1 (.t 70), some (69, false), true⟩,
  ⟨some 72, .len 0 (.t 71), some (69, false), true⟩,
  ⟨some 73, .bin .neq (.t 72) (.c (.int .i64 4)), some (69, false), true⟩,
  ⟨some 74, .pick (.t 69) (.c (.bool true)) (.t 73), none, true⟩] (some [9, 11, 13, 14, 15, 16, 74]) []) (
(.cond (.t 74) (
  (.seq (
  .reg none [
    ⟨some 8, .as (.c (.bool false)), none, true⟩] (some [8]) []) (
  .ret))) (
  .skip))))) (
(.seq (
(.seq (
.reg none [
  ⟨some 17, .as (.c (.int .i64 0)), none, true⟩] (some [9, 11, 13, 14, 15, 16, 17]) []) (
(.block 0 (
A4_L3) (some [9, 11, 13, 14, 15, 16]) [8, 17])))) (
(.seq (
(.seq (
.reg none [
  ⟨some 87, .mv (.t 11), none, true⟩,
  ⟨some 18, .as (.t 87), none, true⟩] (some [9, 11, 13, 14, 15, 16, 18]) []) (
(.block 2 (
A4_L2) (some [9, 11, 13, 14, 15, 16]) [8, 18, 19, 104, 111])))) (
(.seq (
(.seq (
.reg none [
  ⟨some 20, .as (.c (.int .i64 0)), none, true⟩] (some [9, 11, 13, 14, 15, 16, 20]) []) (
(.block 6 (
A4_L0) (some [9]) [8, 20, 125, 134])))) (
(.seq (
.reg none [
  ⟨some 136, .mv (.t 9), none, true⟩,
  ⟨some 8, .as (.t 136), none, true⟩] (some [8]) []) (
.ret)))))))))))))))))))))))))))))
def A5_L0b : ACode := 
  (.seq (
  (.seq (
  .reg none [
    ⟨some 143, .mv (.t 21), none, true⟩,
    ⟨some 144, .bin .lss (.t 143) (.c (.int .i64 3)), none, true⟩] (some [11, 13, 19, 20, 21, 144]) []) (
  (.cond (.t 144) (
    .skip) (
    .exit 2))))) (
  (.seq (
  (.block 3 (
  (.seq (
  .reg (some [.dr [] [], .dr [] [], .free, .free, .dr [158] [], .dr [158] [], .dr [158] [], .dr [158] [], .dr [154] [], .dr [154] [], .dr [154] [], .dr [154] [], .free, .free, .dr [168] [], .dr [168] [], .dr [168] [], .dr [168] [], .dr [164] [], .dr [164] [], .dr [164] [], .dr [164] [], .free, .free, .free, .dr [] [], .dr [] [], .dr [] [], .dr [] [], .dr [175] [], .dr [175] [], .free, .free, .free]) [
    ⟨some 147, .mv (.t 21), none, true⟩,
    ⟨some 148, .mv (.t 13), none, true⟩,
    ⟨some 149, .bin .neq (.t 147) (.t 148), none, true⟩,
    ⟨some 150, .mv (.t 149), none, true⟩,
    ⟨some 151, .mv (.t 21), some (150, true), true⟩,
    ⟨some 152, .iaa 3 3 (.t 19) (.t 151), some (150, true), true⟩,
    ⟨some 153, .fad 0 (.t 152), some (150, true), true⟩,
    ⟨some 154, .load false 1 (.t 153), some (150, true), true⟩,
    ⟨some 155, .mv (.t 21), some (150, true), true⟩,
    ⟨some 156, .iaa 3 3 (.t 20) (.t 155), some (150, true), true⟩,
    ⟨some 157, .fad 0 (.t 156), some (150, true), true⟩,
    ⟨some 158, .load false 1 (.t 157), some (150, true), true⟩,
    ⟨some 159, .bin .neq (.t 154) (.t 158), some (150, true), true⟩,
    ⟨some 160, .mv (.t 159), some (150, true), true⟩,
    ⟨some 161, .mv (.t 21), some (160, false), true⟩,
    ⟨some 162, .iaa 3 3 (.t 19) (.t 161), some (160, false), true⟩,
    ⟨some 163, .fad 1 (.t 162), some (160, false), true⟩,
    ⟨some 164, .load false 1 (.t 163), some (160, false), true⟩,
    ⟨some 165, .mv (.t 21), some (160, false), true⟩,
    ⟨some 166, .iaa 3 3 (.t 20) (.t 165), some (160, false), true⟩,
    ⟨some 167, .fad 1 (.t 166), some (160, false), true⟩,
    ⟨some 168, .load false 1 (.t 167), some (160, false), true⟩,
    ⟨some 169, .bin .neq (.t 164) (.t 168), some (160, false), true⟩,
    ⟨some 170, .pick (.t 160) (.c (.bool true)) (.t 169), some (150, true), true⟩,
    ⟨some 171, .mv (.t 170), some (150, true), true⟩,
    ⟨some 172, .mv (.t 21), some (171, false), true⟩,
    ⟨some 173, .iaa 3 3 (.t 19) (.t 172), some (171, false), true⟩,
    ⟨some 174, .fad 2 (.t 173), some (171, false), true⟩,
    ⟨some 175, .load false 1 (.t 174), some (171, false), true⟩,
    ⟨some 176, .mv (.t 21), some (171, false), true⟩,
    ⟨some 177, .bin .add (.t 176) (.c (.int .i64 1)), some (171, false), true⟩,
    ⟨some 178, .bin .neq (.t 175) (.t 177), some (171, false), true⟩,
    ⟨some 179, .pick (.t 171) (.c (.bool true)) (.t 178), some (150, true), true⟩,
    ⟨some 180, .pick (.t 150) (.t 179) (.c (.bool false)), none, true⟩] (some [11, 13, 19, 20, 21, 180]) []) (
  (.cond (.t 180) (
    (.seq (
    .reg none [
      ⟨some 10, .as (.c (.bool false)), none, true⟩] (some [10]) []) (
    .ret))) (
    .skip))))) (some [11, 13, 19, 20, 21]) [10])) (
  .reg none [
    ⟨some 145, .mv (.t 21), none, true⟩,
    ⟨some 146, .bin .add (.t 145) (.c (.int .i64 1)), none, true⟩,
    ⟨some 21, .as (.t 146), none, true⟩] (some [11, 13, 19, 20, 21]) []))))
def A5_L0 : ACode := .loop A5_L0b (some [11, 13, 19, 20, 21]) [10]
def A5_L1b : ACode := 
    (.seq (
    (.seq (
    .reg none [
      ⟨some 98, .mv (.t 18), none, true⟩,
      ⟨some 99, .bin .lss (.t 98) (.c (.int .i64 4)), none, true⟩] (some [5, 9, 11, 12, 13, 14, 16, 17, 18, 99]) []) (
    (.cond (.t 99) (
      .skip) (
      .exit 0))))) (
    (.seq (
    (.block 1 (
    (.seq (
    .reg (some [.dr [109, 112] [], .dr [109, 112] [], .dr [109, 112] [], .dr [109, 112] [], .dr [105, 112] [], .dr [105, 112] [], .dr [105, 112] [], .dr [105, 112] [], .dr [112] [], .dr [105, 109] [], .dr [105, 109] [], .dr [105, 109] [], .dr [105, 109] [], .free, .free, .dr [124, 127] [], .dr [124, 127] [], .dr [124, 127] [], .dr [124, 127] [], .dr [120, 127] [], .dr [120, 127] [], .dr [120, 127] [], .dr [120, 127] [], .dr [127] [], .dr [120, 124] [], .dr [120, 124] [], .dr [120, 124] [], .dr [120, 124] [], .free, .free]) [
      ⟨some 102, .mv (.t 18), none, true⟩,
      ⟨some 103, .iaa 4 2 (.t 17) (.t 102), none, true⟩,
      ⟨some 104, .fad 0 (.t 103), none, true⟩,
      ⟨some 105, .load false 1 (.t 104), none, true⟩,
      ⟨some 106, .mv (.t 18), none, true⟩,
      ⟨some 107, .iaa 4 2 (.t 16) (.t 106), none, true⟩,
      ⟨some 108, .fad 0 (.t 107), none, true⟩,
      ⟨some 109, .load false 1 (.t 108), none, true⟩,
      ⟨some 110, .bin .sub (.t 105) (.t 109), none, true⟩,
      ⟨some 111, .iaa 2 1 (.t 9) (.c (.int .i64 0)), none, true⟩,
      ⟨some 112, .load false 1 (.t 111), none, true⟩,
      ⟨some 113, .conv .i64 (.t 112), none, true⟩,
      ⟨some 114, .bin .mul (.c (.int .i64 16)) (.t 113), none, true⟩,
      ⟨some 115, .bin .neq (.t 110) (.t 114), none, true⟩,
      ⟨some 116, .mv (.t 115), none, true⟩,
      ⟨some 117, .mv (.t 18), some (116, false), true⟩,
      ⟨some 118, .iaa 4 2 (.t 17) (.t 117), some (116, false), true⟩,
      ⟨some 119, .fad 1 (.t 118), some (116, false), true⟩,
      ⟨some 120, .load false 1 (.t 119), some (116, false), true⟩,
      ⟨some 121, .mv (.t 18), some (116, false), true⟩,
      ⟨some 122, .iaa 4 2 (.t 16) (.t 121), some (116, false), true⟩,
      ⟨some 123, .fad 1 (.t 122), some (116, false), true⟩,
      ⟨some 124, .load false 1 (.t 123), some (116, false), true⟩,
      ⟨some 125, .bin .sub (.t 120) (.t 124), some (116, false), true⟩,
      ⟨some 126, .iaa 2 1 (.t 9) (.c (.int .i64 1)), some (116, false), true⟩,
      ⟨some 127, .load false 1 (.t 126), some (116, false), true⟩,
      ⟨some 128, .conv .i64 (.t 127), some (116, false), true⟩,
      ⟨some 129, .bin .mul (.c (.int .i64 16)) (.t 128), some (116, false), true⟩,
      ⟨some 130, .bin .neq (.t 125) (.t 129), some (116, false), true⟩,
      ⟨some 131, .pick (.t 116) (.c (.bool true)) (.t 130), none, true⟩] (some [5, 9, 11, 12, 13, 14, 16, 17, 18, 131]) []) (
    (.cond (.t 131) (
      (.seq (
      .reg none [
        ⟨some 10, .as (.c (.bool false)), none, true⟩] (some [10]) []) (
      .ret))) (
      .skip))))) (some [5, 9, 11, 12, 13, 14, 16, 17, 18]) [10])) (
    .reg none [
      ⟨some 100, .mv (.t 18), none, true⟩,
      ⟨some 101, .bin .add (.t 100) (.c (.int .i64 1)), none, true⟩,
      ⟨some 18, .as (.t 101), none, true⟩] (some [5, 9, 11, 12, 13, 14, 16, 17, 18]) []))))
def A5_L1 : ACode := .loop A5_L1b (some [5, 9, 11, 12, 13, 14, 16, 17, 18]) [10]
/-- ambidexter/ambidexterlaw07.ArmComposesRotations -/
def A5 : AFn := .code [.t 10] (
(.seq (
.reg none [
  ⟨some 5, .box (.t 0), none, true⟩,
  ⟨some 6, .box (.t 1), none, true⟩,
  ⟨some 9, .box (.t 4), none, true⟩,
  ⟨some 10, .as (.c (.bool false)), none, true⟩] (some [2, 3, 5, 6, 9]) []) (
(.seq (
.reg none [
  ⟨some 22, .call 14 [], none, true⟩,
  ⟨some 11, .as (.t 22), none, true⟩] (some [2, 3, 5, 6, 9, 11]) []) (
(.seq (
(.seq (
.reg none [
  ⟨some 23, .load true 12 (.t 5), none, true⟩,
  ⟨some 24, .call 15 [.t 23], none, true⟩,
  ⟨some 25, .un .not (.t 24), none, true⟩] (some [2, 3, 5, 6, 9, 11, 25]) []) (
(.cond (.t 25) (
  (.seq (
  .reg none [
    ⟨some 26, .mv (.t 11), none, true⟩,
    ⟨some 10, .as (.t 26), none, true⟩] (some [10]) []) (
  .ret))) (
  .skip))))) (
(.seq (
.reg none [
  ⟨some 27, .load true 12 (.t 5), none, true⟩,
  ⟨some 28, .load true 3 (.t 6), none, true⟩,
  ⟨some 29, .call 19 [.t 27, .t 28], none, true⟩,
  ⟨some 12, .alloc [.int .i64 0, .int .i64 0, .int .i64 0], none, true⟩,
  ⟨none, .store 3 (.t 12) (.t 29), none, true⟩] (some [2, 3, 5, 9, 11, 12]) [6]) (
(.seq (
.reg none [
  ⟨some 30, .mv (.t 2), none, true⟩,
  ⟨some 31, .conv .i64 (.t 30), none, true⟩,
  ⟨some 32, .bin .rem (.t 31) (.c (.int .i64 2)), none, true⟩,
  ⟨some 13, .as (.t 32), none, true⟩] (some [3, 5, 9, 11, 12, 13]) []) (
(.seq (
.reg none [
  ⟨some 33, .load true 3 (.t 12), none, true⟩,
  ⟨some 14, .alloc [.int .i64 0, .int .i64 0, .int .i64 0], none, true⟩,
  ⟨none, .store 3 (.t 14) (.t 33), none, true⟩] (some [3, 5, 9, 11, 12, 13, 14]) []) (
(.seq (
(.seq (
.reg none [
  ⟨some 34, .mv (.t 3), none, true⟩,
  ⟨some 35, .bin .rem (.t 34) (.c (.int .u8 5)), none, true⟩,
  ⟨some 36, .bin .eql (.t 35) (.c (.int .u8 4)), none, true⟩] (some [3, 5, 9, 11, 12, 13, 14, 36]) []) (
(.cond (.t 36) (
  (.seq (
  .reg none [
    ⟨some 37, .mv (.t 13), none, true⟩,
    ⟨some 38, .mv (.t 13), none, true⟩,
    ⟨some 39, .bin .add (.t 38) (.c (.int .i64 1)), none, true⟩,
    ⟨some 40, .iaa 3 1 (.t 12) (.t 39), none, true⟩,
    ⟨some 41, .load false 1 (.t 40), none, true⟩,
    ⟨some 42, .iaa 3 1 (.t 14) (.t 37), none, true⟩,
    ⟨none, .store 1 (.t 42) (.t 41), none, true⟩] (some [5, 9, 11, 12, 13, 14]) []) (
  .reg none [
    ⟨some 43, .mv (.t 13), none, true⟩,
    ⟨some 44, .bin .add (.t 43) (.c (.int .i64 1)), none, true⟩,
    ⟨some 45, .mv (.t 13), none, true⟩,
    ⟨some 46, .iaa 3 1 (.t 12) (.t 45), none, true⟩,
    ⟨some 47, .load false 1 (.t 46), none, true⟩,
    ⟨some 48, .iaa 3 1 (.t 14) (.t 44), none, true⟩,
    ⟨none, .store 1 (.t 48) (.t 47), none, true⟩] (some [5, 9, 11, 12, 13, 14]) []))) (
  (.seq (
  .reg none [
    ⟨some 49, .mv (.t 13), none, true⟩,
    ⟨some 50, .mv (.t 13), none, true⟩,
    ⟨some 51, .iaa 3 1 (.t 14) (.t 50), none, true⟩,
    ⟨some 52, .load false 1 (.t 51), none, true⟩,
    ⟨some 53, .mv (.t 3), none, true⟩,
    ⟨some 54, .bin .rem (.t 53) (.c (.int .u8 5)), none, true⟩,
    ⟨some 55, .conv .i64 (.t 54), none, true⟩,
    ⟨some 56, .bin .mul (.c (.int .i64 9)) (.t 55), none, true⟩,
    ⟨some 57, .bin .add (.t 52) (.t 56), none, true⟩,
    ⟨some 58, .iaa 3 1 (.t 14) (.t 49), none, true⟩,
    ⟨none, .store 1 (.t 58) (.t 57), none, true⟩] (some [3, 5, 9, 11, 12, 13, 14]) []) (
  .reg none [
    ⟨some 59, .mv (.t 13), none, true⟩,
    ⟨some 60, .bin .add (.t 59) (.c (.int .i64 1)), none, true⟩,
    ⟨some 61, .mv (.t 13), none, true⟩,
    ⟨some 62, .bin .add (.t 61) (.c (.int .i64 1)), none, true⟩,
    ⟨some 63, .iaa 3 1 (.t 14) (.t 62), none, true⟩,
    ⟨some 64, .load false 1 (.t 63), none, true⟩,
    ⟨some 65, .mv (.t 3), none, true⟩,
    ⟨some 66, .bin .rem (.t 65) (.c (.int .u8 5)), none, true⟩,
    ⟨some 67, .conv .i64 (.t 66), none, true⟩,
    ⟨some 68, .bin .mul (.c (.int .i64 9)) (.t 67), none, true⟩,
    ⟨some 69, .bin .sub (.t 64) (.t 68), none, true⟩,
    ⟨some 70, .iaa 3 1 (.t 14) (.t 60), none, true⟩,
    ⟨none, .store 1 (.t 70) (.t 69), none, true⟩] (some [5, 9, 11, 12, 13, 14]) []))))))) (
(.seq (
.reg none [
  ⟨some 71, .load true 12 (.t 5), none, true⟩,
  ⟨some 15, .alloc [.int .i64 0, .int .i64 0, .int .i64 0, .int .i64 0, .int .i64 0, .int .i64 0, .int .i64 0, .int .i64 0, .int .i64 0, .int .i64 0, .int .i64 0, .int .i64 0], none, true⟩,
  ⟨none, .store 12 (.t 15) (.t 71), none, true⟩] (some [5, 9, 11, 12, 13, 14, 15]) []) (
(.seq (
.reg none [
  ⟨some 72, .fad 0 (.t 5), none, true⟩,
  ⟨some 73, .fad 0 (.t 72), none, true⟩,
  ⟨some 74, .load false 1 (.t 73), none, true⟩,
  ⟨some 75, .iaa 2 1 (.t 9) (.c (.int .i64 0)), none, true⟩,
  ⟨some 76, .load false 1 (.t 75), none, true⟩,
  ⟨some 77, .conv .i64 (.t 76), none, true⟩,
  ⟨some 78, .bin .mul (.c (.int .i64 16)) (.t 77), none, true⟩,
  ⟨some 79, .bin .add (.t 74) (.t 78), none, true⟩,
  ⟨some 80, .fad 0 (.t 5), none, true⟩,
  ⟨some 81, .fad 1 (.t 80), none, true⟩,
  ⟨some 82, .load false 1 (.t 81), none, true⟩,
  ⟨some 83, .iaa 2 1 (.t 9) (.c (.int .i64 1)), none, true⟩,
  ⟨some 84, .load false 1 (.t 83), none, true⟩,
  ⟨some 85, .conv .i64 (.t 84), none, true⟩,
  ⟨some 86, .bin .mul (.c (.int .i64 16)) (.t 85), none, true⟩,
  ⟨some 87, .bin .add (.t 82) (.t 86), none, true⟩,
  ⟨some 88, .build [.int .i64 0, .int .i64 0] [(0, 1, .t 79), (1, 1, .t 87)], none, true⟩,
  ⟨some 89, .fad 0 (.t 15), none, true⟩,
  ⟨none, .store 2 (.t 89) (.t 88), none, true⟩] (some [5, 9, 11, 12, 13, 14, 15]) []) (
(.seq (
(.seq (
.reg none [
  ⟨some 90, .load true 12 (.t 15), none, true⟩,
  ⟨some 91, .call 15 [.t 90], none, true⟩] (some [5, 9, 11, 12, 13, 14, 15, 91]) []) (
(.cond (.t 91) (
  (.seq (
  .reg (some [.dr [93, 95, 96, 16, 17] [], .dr [92, 95, 96, 16, 17] [], .dr [95, 96, 16, 17] [], .dr [92, 93, 94, 96, 16, 17] [], .dr [92, 93, 94, 95, 16, 17] [], .dr [16, 17] [], .dr [92, 93, 94, 95, 96, 97, 17] [], .dr [92, 93, 94, 95, 96, 97, 16] [], .free, .free]) [
    ⟨some 92, .load true 12 (.t 5), none, true⟩,
    ⟨some 93, .load true 3 (.t 12), none, true⟩,
    ⟨some 94, .call 27 [.t 92, .t 93], none, true⟩,
    ⟨some 95, .load true 12 (.t 15), none, true⟩,
    ⟨some 96, .load true 3 (.t 12), none, true⟩,
    ⟨some 97, .call 27 [.t 95, .t 96], none, true⟩,
    ⟨some 16, .alloc [.int .i64 0, .int .i64 0, .int .i64 0, .int .i64 0, .int .i64 0, .int .i64 0, .int .i64 0, .int .i64 0], none, true⟩,
    ⟨some 17, .alloc [.int .i64 0, .int .i64 0, .int .i64 0, .int .i64 0, .int .i64 0, .int .i64 0, .int .i64 0, .int .i64 0], none, true⟩,
    ⟨none, .store 8 (.t 16) (.t 94), none, true⟩,
    ⟨none, .store 8 (.t 17) (.t 97), none, true⟩] (some [5, 9, 11, 12, 13, 14, 16, 17]) [15]) (
  (.seq (
  .reg none [
    ⟨some 18, .as (.c (.int .i64 0)), none, true⟩] (some [5, 9, 11, 12, 13, 14, 16, 17, 18]) []) (
  (.block 0 (
  A5_L1) (some [5, 11, 12, 13, 14]) [10, 18])))))) (
  .skip))))) (
(.seq (
(.seq (
.reg none [
  ⟨some 132, .load true 12 (.t 5), none, true⟩,
  ⟨some 133, .load true 3 (.t 14), none, true⟩,
  ⟨some 134, .call 17 [.t 132, .t 133], none, true⟩,
  ⟨some 135, .un .not (.t 134), none, true⟩] (some [5, 11, 12, 13, 14, 135]) []) (
(.cond (.t 135) (
  (.seq (
  .reg none [
    ⟨some 136, .mv (.t 11), none, true⟩,
    ⟨some 10, .as (.t 136), none, true⟩] (some [10]) []) (
  .ret))) (
  .skip))))) (
(.seq (
.reg (some [.dr [138, 140, 141, 19, 20] [], .dr [137, 140, 141, 19, 20] [], .dr [140, 141, 19, 20] [], .dr [137, 138, 139, 141, 19, 20] [], .dr [137, 138, 139, 140, 19, 20] [], .dr [19, 20] [], .dr [137, 138, 139, 140, 141, 142, 20] [], .dr [137, 138, 139, 140, 141, 142, 19] [], .free, .free]) [
  ⟨some 137, .load true 12 (.t 5), none, true⟩,
  ⟨some 138, .load true 3 (.t 12), none, true⟩,
  ⟨some 139, .call 25 [.t 137, .t 138], none, true⟩,
  ⟨some 140, .load true 12 (.t 5), none, true⟩,
  ⟨some 141, .load true 3 (.t 14), none, true⟩,
  ⟨some 142, .call 25 [.t 140, .t 141], none, true⟩,
  ⟨some 19, .alloc [.int .i64 0, .int .i64 0, .int .i64 0, .int .i64 0, .int .i64 0, .int .i64 0, .int .i64 0, .int .i64 0, .int .i64 0], none, true⟩,
  ⟨some 20, .alloc [.int .i64 0, .int .i64 0, .int .i64 0, .int .i64 0, .int .i64 0, .int .i64 0, .int .i64 0, .int .i64 0, .int .i64 0], none, true⟩,
  ⟨none, .store 9 (.t 19) (.t 139), none, true⟩,
  ⟨none, .store 9 (.t 20) (.t 142), none, true⟩] (some [11, 13, 19, 20]) [5, 12, 14]) (
(.seq (
(.seq (
.reg none [
  ⟨some 21, .as (.c (.int .i64 0)), none, true⟩] (some [11, 13, 19, 20, 21]) []) (
(.block 2 (
A5_L0) (some [11]) [10, 21])))) (
(.seq (
.reg none [
  ⟨some 181, .mv (.t 11), none, true⟩,
  ⟨some 10, .as (.t 181), none, true⟩] (some [10]) []) (
.ret)))))))))))))))))))))))))))))
def A6_L0b : ACode := 
  (.seq (
  (.seq (
  .reg none [
    ⟨some 30, .mv (.t 9), none, true⟩,
    ⟨some 31, .mv (.t 2), none, true⟩,
    ⟨some 32, .len 0 (.t 31), none, true⟩,
    ⟨some 33, .bin .lss (.t 30) (.t 32), none, true⟩] (some [2, 3, 7, 8, 9, 33]) []) (
  (.cond (.t 33) (
    .skip) (
    .exit 0))))) (
  (.seq (
  (.block 1 (
  (.seq (
  .reg none [
    ⟨some 36, .mv (.t 2), none, true⟩,
    ⟨some 37, .mv (.t 9), none, true⟩,
    ⟨some 38, .ias 1 (.t 36) (.t 37), none, true⟩,
    ⟨some 39, .load false 1 (.t 38), none, true⟩,
    ⟨some 40, .conv .i64 (.t 39), none, true⟩,
    ⟨some 41, .bin .rem (.t 40) (.c (.int .i64 3)), none, true⟩,
    ⟨some 10, .as (.t 41), none, true⟩] (some [2, 3, 7, 8, 9, 10]) []) (
  (.seq (
  .reg none [
    ⟨some 42, .mv (.t 2), none, true⟩,
    ⟨some 43, .mv (.t 9), none, true⟩,
    ⟨some 44, .ias 1 (.t 42) (.t 43), none, true⟩,
    ⟨some 45, .load false 1 (.t 44), none, true⟩,
    ⟨some 46, .conv .i64 (.t 45), none, true⟩,
    ⟨some 47, .bin .quo (.t 46) (.c (.int .i64 3)), none, true⟩,
    ⟨some 48, .bin .rem (.t 47) (.c (.int .i64 2)), none, true⟩,
    ⟨some 49, .bin .mul (.c (.int .i64 2)) (.t 48), none, true⟩,
    ⟨some 50, .bin .sub (.c (.int .i64 1)) (.t 49), none, true⟩,
    ⟨some 11, .as (.t 50), none, true⟩] (some [2, 3, 7, 8, 9, 10, 11]) []) (
  (.seq (
  .reg none [
    ⟨some 52, .load true 12 (.t 3), none, true⟩,
    ⟨some 53, .load true 3 (.t 8), none, true⟩,
    ⟨some 54, .mv (.t 10), none, true⟩,
    ⟨some 55, .mv (.t 11), none, true⟩,
    ⟨some 56, .call 23 [.t 52, .t 53, .t 54, .t 55], none, true⟩,
    ⟨some 51, .mv (.t 56), none, true⟩,
    ⟨some 57, .ext (.t 51) 0, none, true⟩,
    ⟨some 58, .ext (.t 51) 1, none, true⟩,
    ⟨some 12, .alloc [.int .i64 0, .int .i64 0, .int .i64 0], none, true⟩,
    ⟨none, .store 3 (.t 12) (.t 57), none, true⟩,
    ⟨some 13, .as (.t 58), none, true⟩] (some [2, 3, 7, 8, 9, 10, 11, 12, 13]) []) (
  (.seq (
  .reg (some [.free, .free, .free, .dr [68] [], .dr [68] [], .dr [68] [], .dr [64] [], .dr [64] [], .dr [64] [], .dr [64] [], .free, .free, .free, .free, .free, .free, .dr [81] [], .dr [81] [], .dr [81] [], .dr [77] [], .dr [77] [], .dr [77] [], .dr [77] [], .free, .free, .free, .free]) [
    ⟨some 59, .mv (.t 11), none, true⟩,
    ⟨some 60, .bin .eql (.t 59) (.c (.int .i64 1)), none, true⟩,
    ⟨some 61, .mv (.t 60), none, true⟩,
    ⟨some 62, .mv (.t 10), some (61, true), true⟩,
    ⟨some 63, .iaa 3 1 (.t 8) (.t 62), some (61, true), true⟩,
    ⟨some 64, .load false 1 (.t 63), some (61, true), true⟩,
    ⟨some 65, .mv (.t 10), some (61, true), true⟩,
    ⟨some 66, .fad 9 (.t 3), some (61, true), true⟩,
    ⟨some 67, .iaa 3 1 (.t 66) (.t 65), some (61, true), true⟩,
    ⟨some 68, .load false 1 (.t 67), some (61, true), true⟩,
    ⟨some 69, .bin .eql (.t 64) (.t 68), some (61, true), true⟩,
    ⟨some 70, .pick (.t 61) (.t 69) (.c (.bool false)), none, true⟩,
    ⟨some 71, .mv (.t 70), none, true⟩,
    ⟨some 72, .mv (.t 11), some (71, false), true⟩,
    ⟨some 73, .bin .eql (.t 72) (.c (.int .i64 (-1))), some (71, false), true⟩,
    ⟨some 74, .mv (.t 73), some (71, false), true⟩,
    ⟨some 75, .mv (.t 10), some (74, true), true⟩,
    ⟨some 76, .iaa 3 1 (.t 8) (.t 75), some (74, true), true⟩,
    ⟨some 77, .load false 1 (.t 76), some (74, true), true⟩,
    ⟨some 78, .mv (.t 10), some (74, true), true⟩,
    ⟨some 79, .fad 6 (.t 3), some (74, true), true⟩,
    ⟨some 80, .iaa 3 1 (.t 79) (.t 78), some (74, true), true⟩,
    ⟨some 81, .load false 1 (.t 80), some (74, true), true⟩,
    ⟨some 82, .bin .eql (.t 77) (.t 81), some (74, true), true⟩,
    ⟨some 83, .pick (.t 74) (.t 82) (.c (.bool false)), some (71, false), true⟩,
    ⟨some 84, .pick (.t 71) (.c (.bool true)) (.t 83), none, true⟩,
    ⟨some 14, .as (.t 84), none, true⟩] (some [2, 3, 7, 8, 9, 10, 11, 12, 13, 14]) []) (
  (.seq (
  (.seq (
  .reg none [
    ⟨some 85, .mv (.t 13), none, true⟩,
    ⟨some 86, .mv (.t 14), none, true⟩,
    ⟨some 87, .bib false (.t 85) (.t 86), none, true⟩] (some [2, 3, 7, 8, 9, 10, 11, 12, 13, 87]) []) (
  (.cond (.t 87) (
    (.seq (
    .reg none [
      ⟨some 6, .as (.c (.bool false)), none, true⟩] (some [6]) []) (
    .ret))) (
    .skip))))) (
  (.seq (
  (.seq (
  .reg none [
    ⟨some 88, .mv (.t 13), none, true⟩,
    ⟨some 89, .un .not (.t 88), none, true⟩] (some [2, 3, 7, 8, 9, 10, 11, 12, 89]) []) (
  (.cond (.t 89) (
    .exit 1) (
    .skip))))) (
  (.seq (
  .reg none [
    ⟨some 91, .load true 12 (.t 3), none, true⟩,
    ⟨some 92, .load true 3 (.t 12), none, true⟩,
    ⟨some 93, .mv (.t 10), none, true⟩,
    ⟨some 94, .mv (.t 11), none, true⟩,
    ⟨some 95, .un .neg (.t 94), none, true⟩,
    ⟨some 96, .call 23 [.t 91, .t 92, .t 93, .t 95], none, true⟩,
    ⟨some 90, .mv (.t 96), none, true⟩,
    ⟨some 97, .ext (.t 90) 0, none, true⟩,
    ⟨some 98, .ext (.t 90) 1, none, true⟩,
    ⟨some 15, .alloc [.int .i64 0, .int .i64 0, .int .i64 0], none, true⟩,
    ⟨none, .store 3 (.t 15) (.t 97), none, true⟩,
    ⟨some 16, .as (.t 98), none, true⟩] (some [2, 3, 7, 8, 9, 10, 11, 12, 15, 16]) []) (
  (.seq (
  (.seq (
  .reg (some [.free, .free, .free, .dr [103] [], .dr [102] [], .free, .free, .free, .dr [108] [], .dr [107] [], .free, .free, .free, .free, .dr [118] [], .dr [118] [], .dr [118] [], .dr [115] [], .dr [115] [], .dr [115] [], .dr [115, 118] [], .dr [115] [], .free, .free]) [
    ⟨some 99, .mv (.t 16), none, true⟩,
    ⟨some 100, .un .not (.t 99), none, true⟩,
    ⟨some 101, .mv (.t 100), none, true⟩,
    ⟨some 102, .load true 3 (.t 15), some (101, false), true⟩,
    ⟨some 103, .load true 3 (.t 8), some (101, false), true⟩,
    ⟨some 104, .eqa true [0, 0, 0] (.t 102) (.t 103), some (101, false), true⟩,
    ⟨some 105, .pick (.t 101) (.c (.bool true)) (.t 104), none, true⟩,
    ⟨some 106, .mv (.t 105), none, true⟩,
    ⟨some 107, .load true 12 (.t 3), some (106, false), true⟩,
    ⟨some 108, .load true 3 (.t 12), some (106, false), true⟩,
    ⟨some 109, .call 17 [.t 107, .t 108], some (106, false), true⟩,
    ⟨some 110, .un .not (.t 109), some (106, false), true⟩,
    ⟨some 111, .pick (.t 106) (.c (.bool true)) (.t 110), none, true⟩,
    ⟨some 112, .mv (.t 111), none, true⟩,
    ⟨some 113, .mv (.t 10), some (112, false), true⟩,
    ⟨some 114, .iaa 3 1 (.t 12) (.t 113), some (112, false), true⟩,
    ⟨some 115, .load false 1 (.t 114), some (112, false), true⟩,
    ⟨some 116, .mv (.t 10), some (112, false), true⟩,
    ⟨some 117, .iaa 3 1 (.t 8) (.t 116), some (112, false), true⟩,
    ⟨some 118, .load false 1 (.t 117), some (112, false), true⟩,
    ⟨some 119, .mv (.t 11), some (112, false), true⟩,
    ⟨some 120, .bin .add (.t 118) (.t 119), some (112, false), true⟩,
    ⟨some 121, .bin .neq (.t 115) (.t 120), some (112, false), true⟩,
    ⟨some 122, .pick (.t 112) (.c (.bool true)) (.t 121), none, true⟩] (some [2, 3, 7, 8, 9, 12, 122]) [15]) (
  (.cond (.t 122) (
    (.seq (
    .reg none [
      ⟨some 6, .as (.c (.bool false)), none, true⟩] (some [6]) []) (
    .ret))) (
    .skip))))) (
  .reg none [
    ⟨some 123, .load true 3 (.t 12), none, true⟩,
    ⟨none, .store 3 (.t 8) (.t 123), none, true⟩] (some [2, 3, 7, 8, 9]) [12]))))))))))))))))) (some [2, 3, 7, 8, 9]) [6, 10, 11, 12, 13, 14, 15, 16, 56, 96, 109])) (
  .reg none [
    ⟨some 34, .mv (.t 9), none, true⟩,
    ⟨some 35, .bin .add (.t 34) (.c (.int .i64 1)), none, true⟩,
    ⟨some 9, .as (.t 35), none, true⟩] (some [2, 3, 7, 8, 9]) []))))
def A6_L0 : ACode := .loop A6_L0b (some [2, 3, 7, 8, 9]) [6, 10, 11, 12, 13, 14, 15, 16, 56, 96, 109]
/-- ambidexter/ambidexterlaw07.ArmStepsAreReversible -/
def A6 : AFn := .code [.t 6] (
(.seq (
.reg none [
  ⟨some 3, .box (.t 0), none, true⟩,
  ⟨some 4, .box (.t 1), none, true⟩,
  ⟨some 6, .as (.c (.bool false)), none, true⟩] (some [2, 3, 4]) []) (
(.seq (
.reg none [
  ⟨some 17, .call 14 [], none, true⟩,
  ⟨some 7, .as (.t 17), none, true⟩] (some [2, 3, 4, 7]) []) (
(.seq (
(.seq (
.reg none [
  ⟨some 18, .load true 12 (.t 3), none, true⟩,
  ⟨some 19, .call 15 [.t 18], none, true⟩,
  ⟨some 20, .un .not (.t 19), none, true⟩,
  ⟨some 21, .mv (.t 20), none, true⟩,
  ⟨some 22, .mv (.t 2), some (21, false), true⟩,
  ⟨some 23, .len 0 (.t 22), some (21, false), true⟩,
  ⟨some 24, .bin .gtr (.t 23) (.c (.int .i64 100)), some (21, false), true⟩,
  ⟨some 25, .pick (.t 21) (.c (.bool true)) (.t 24), none, true⟩] (some [2, 3, 4, 7, 25]) []) (
(.cond (.t 25) (
  (.seq (
  .reg none [
    ⟨some 26, .mv (.t 7), none, true⟩,
    ⟨some 6, .as (.t 26), none, true⟩] (some [6]) []) (
  .ret))) (
  .skip))))) (
(.seq (
.reg none [
  ⟨some 27, .load true 12 (.t 3), none, true⟩,
  ⟨some 28, .load true 3 (.t 4), none, true⟩,
  ⟨some 29, .call 19 [.t 27, .t 28], none, true⟩,
  ⟨some 8, .alloc [.int .i64 0, .int .i64 0, .int .i64 0], none, true⟩,
  ⟨none, .store 3 (.t 8) (.t 29), none, true⟩] (some [2, 3, 7, 8]) [4]) (
(.seq (
(.seq (
.reg none [
  ⟨some 9, .as (.c (.int .i64 0)), none, true⟩] (some [2, 3, 7, 8, 9]) []) (
(.block 0 (
A6_L0) (some [3, 7, 8]) [6, 9, 10, 11, 12, 13, 14, 15, 16, 56, 96, 109])))) (
(.seq (
.reg none [
  ⟨some 124, .mv (.t 7), none, true⟩,
  ⟨some 125, .mv (.t 124), none, true⟩,
  ⟨some 126, .load true 12 (.t 3), some (125, true), true⟩,
  ⟨some 127, .load true 3 (.t 8), some (125, true), true⟩,
  ⟨some 128, .call 17 [.t 126, .t 127], some (125, true), true⟩,
  ⟨some 129, .pick (.t 125) (.t 128) (.c (.bool false)), none, true⟩,
  ⟨some 6, .as (.t 129), none, true⟩] (some [6]) [3, 8]) (
.ret)))))))))))))
/-- ambidexter/ambidexterlaw07.ArmReachIsBounded -/
def A7 : AFn := .code [.t 4] (
(.seq (
.reg none [
  ⟨some 2, .box (.t 0), none, true⟩,
  ⟨some 3, .box (.t 1), none, true⟩,
  ⟨some 4, .as (.c (.bool false)), none, true⟩] (some [2, 3]) []) (
(.seq (
.reg none [
  ⟨some 12, .call 14 [], none, true⟩,
  ⟨some 5, .as (.t 12), none, true⟩] (some [2, 3, 5]) []) (
(.seq (
(.seq (
.reg none [
  ⟨some 13, .load true 12 (.t 2), none, true⟩,
  ⟨some 14, .call 15 [.t 13], none, true⟩,
  ⟨some 15, .un .not (.t 14), none, true⟩] (some [2, 3, 5, 15]) []) (
(.cond (.t 15) (
  (.seq (
  .reg none [
    ⟨some 16, .mv (.t 5), none, true⟩,
    ⟨some 4, .as (.t 16), none, true⟩] (some [4]) []) (
  .ret))) (
  .skip))))) (
(.seq (
.reg (some [.dr [18, 19, 20, 6] [], .dr [17, 19, 6] [], .dr [17, 18, 6] [], .dr [17, 6] [], .dr [6] [], .dr [17, 18, 19, 20, 21] [], .free]) [
  ⟨some 17, .load true 12 (.t 2), none, true⟩,
  ⟨some 18, .load true 12 (.t 2), none, true⟩,
  ⟨some 19, .load true 3 (.t 3), none, true⟩,
  ⟨some 20, .call 19 [.t 18, .t 19], none, true⟩,
  ⟨some 21, .call 27 [.t 17, .t 20], none, true⟩,
  ⟨some 6, .alloc [.int .i64 0, .int .i64 0, .int .i64 0, .int .i64 0, .int .i64 0, .int .i64 0, .int .i64 0, .int .i64 0], none, true⟩,
  ⟨none, .store 8 (.t 6) (.t 21), none, true⟩] (some [2, 5, 6]) [3]) (
(.seq (
.reg none [
  ⟨some 22, .fad 2 (.t 2), none, true⟩,
  ⟨some 23, .iaa 3 1 (.t 22) (.c (.int .i64 0)), none, true⟩,
  ⟨some 24, .load false 1 (.t 23), none, true⟩,
  ⟨some 25, .fad 2 (.t 2), none, true⟩,
  ⟨some 26, .iaa 3 1 (.t 25) (.c (.int .i64 1)), none, true⟩,
  ⟨some 27, .load false 1 (.t 26), none, true⟩,
  ⟨some 28, .bin .add (.t 24) (.t 27), none, true⟩,
  ⟨some 29, .fad 2 (.t 2), none, true⟩,
  ⟨some 30, .iaa 3 1 (.t 29) (.c (.int .i64 2)), none, true⟩,
  ⟨some 31, .load false 1 (.t 30), none, true⟩,
  ⟨some 32, .bin .add (.t 28) (.t 31), none, true⟩,
  ⟨some 7, .as (.t 32), none, true⟩] (some [2, 5, 6, 7]) []) (
(.seq (
.reg none [
  ⟨some 33, .fad 2 (.t 2), none, true⟩,
  ⟨some 34, .iaa 3 1 (.t 33) (.c (.int .i64 0)), none, true⟩,
  ⟨some 35, .load false 1 (.t 34), none, true⟩,
  ⟨some 36, .fad 2 (.t 2), none, true⟩,
  ⟨some 37, .iaa 3 1 (.t 36) (.c (.int .i64 1)), none, true⟩,
  ⟨some 38, .load false 1 (.t 37), none, true⟩,
  ⟨some 39, .fad 2 (.t 2), none, true⟩,
  ⟨some 40, .iaa 3 1 (.t 39) (.c (.int .i64 2)), none, true⟩,
  ⟨some 41, .load false 1 (.t 40), none, true⟩,
  ⟨some 42, .mx [.t 35, .t 38, .t 41], none, true⟩,
  ⟨some 43, .bin .mul (.c (.int .i64 2)) (.t 42), none, true⟩,
  ⟨some 44, .mv (.t 7), none, true⟩,
  ⟨some 45, .bin .sub (.t 43) (.t 44), none, true⟩,
  ⟨some 46, .mx [.c (.int .i64 0), .t 45], none, true⟩,
  ⟨some 8, .as (.t 46), none, true⟩] (some [2, 5, 6, 7, 8]) []) (
(.seq (
.reg none [
  ⟨some 47, .mv (.t 7), none, true⟩,
  ⟨some 48, .bin .mul (.t 47) (.c (.int .i64 4394000)), none, true⟩,
  ⟨some 49, .bin .quo (.t 48) (.c (.int .i64 16)), none, true⟩,
  ⟨some 50, .mv (.t 8), none, true⟩,
  ⟨some 51, .bin .mul (.t 50) (.c (.int .i64 4394000)), none, true⟩,
  ⟨some 52, .bin .quo (.t 51) (.c (.int .i64 16)), none, true⟩,
  ⟨some 9, .as (.t 49), none, true⟩,
  ⟨some 10, .as (.t 52), none, true⟩] (some [2, 5, 6, 9, 10]) []) (
(.seq (
.reg none [
  ⟨some 53, .iaa 4 2 (.t 6) (.c (.int .i64 3)), none, true⟩,
  ⟨some 54, .load true 2 (.t 53), none, true⟩,
  ⟨some 55, .fad 0 (.t 2), none, true⟩,
  ⟨some 56, .load true 2 (.t 55), none, true⟩,
  ⟨some 57, .call 29 [.t 54, .t 56], none, true⟩,
  ⟨some 11, .as (.t 57), none, true⟩] (some [2, 5, 6, 9, 10, 11]) []) (
(.seq (
.reg none [
  ⟨some 58, .mv (.t 5), none, true⟩,
  ⟨some 59, .mv (.t 58), none, true⟩,
  ⟨some 60, .iaa 4 2 (.t 6) (.c (.int .i64 0)), some (59, true), true⟩,
  ⟨some 61, .load true 2 (.t 60), some (59, true), true⟩,
  ⟨some 62, .fad 0 (.t 2), some (59, true), true⟩,
  ⟨some 63, .load true 2 (.t 62), some (59, true), true⟩,
  ⟨some 64, .eqa false [0, 0] (.t 61) (.t 63), some (59, true), true⟩,
  ⟨some 65, .pick (.t 59) (.t 64) (.c (.bool false)), none, true⟩,
  ⟨some 66, .mv (.t 65), none, true⟩,
  ⟨some 67, .mv (.t 11), some (66, true), true⟩,
  ⟨some 68, .mv (.t 9), some (66, true), true⟩,
  ⟨some 69, .mv (.t 9), some (66, true), true⟩,
  ⟨some 70, .bin .mul (.t 68) (.t 69), some (66, true), true⟩,
  ⟨some 71, .bin .leq (.t 67) (.t 70), some (66, true), true⟩,
  ⟨some 72, .pick (.t 66) (.t 71) (.c (.bool false)), none, true⟩,
  ⟨some 73, .mv (.t 72), none, true⟩,
  ⟨some 74, .mv (.t 11), some (73, true), true⟩,
  ⟨some 75, .mv (.t 10), some (73, true), true⟩,
  ⟨some 76, .mv (.t 10), some (73, true), true⟩,
  ⟨some 77, .bin .mul (.t 75) (.t 76), some (73, true), true⟩,
  ⟨some 78, .bin .geq (.t 74) (.t 77), some (73, true), true⟩,
  ⟨some 79, .pick (.t 73) (.t 78) (.c (.bool false)), none, true⟩,
  ⟨some 4, .as (.t 79), none, true⟩] (some [4]) [2, 6]) (
.ret)))))))))))))))))))
def A8_L0b : ACode := 
    (.seq (
    (.seq (
    .reg none [
      ⟨some 56, .mv (.t 11), none, true⟩,
      ⟨some 57, .bin .lss (.t 56) (.c (.int .i64 4)), none, true⟩] (some [2, 5, 7, 8, 9, 11, 57]) []) (
    (.cond (.t 57) (
      .skip) (
      .exit 2))))) (
    (.seq (
    (.block 3 (
    (.seq (
    .reg none [
      ⟨some 60, .mv (.t 9), none, true⟩,
      ⟨some 61, .iaa 3 1 (.t 8) (.t 60), none, true⟩,
      ⟨some 62, .load false 1 (.t 61), none, true⟩,
      ⟨some 63, .mv (.t 11), none, true⟩,
      ⟨some 64, .ias 2 (.t 62) (.t 63), none, true⟩,
      ⟨some 65, .load true 2 (.t 64), none, true⟩,
      ⟨some 12, .alloc [.int .i64 0, .int .i64 0], none, true⟩,
      ⟨none, .store 2 (.t 12) (.t 65), none, true⟩] (some [2, 5, 7, 8, 9, 11, 12]) []) (
    (.seq (
    .reg none [
      ⟨some 66, .load true 2 (.t 12), none, true⟩,
      ⟨some 67, .call 30 [.t 66], none, true⟩,
      ⟨some 68, .un .not (.t 67), none, true⟩,
      ⟨some 69, .mv (.t 68), none, true⟩,
      ⟨some 70, .fad 0 (.t 12), some (69, false), true⟩,
      ⟨some 71, .load false 1 (.t 70), some (69, false), true⟩,
      ⟨some 72, .bin .rem (.t 71) (.c (.int .i64 16)), some (69, false), true⟩,
      ⟨some 73, .bin .neq (.t 72) (.c (.int .i64 0)), some (69, false), true⟩,
      ⟨some 74, .pick (.t 69) (.c (.bool true)) (.t 73), none, true⟩,
      ⟨some 75, .mv (.t 74), none, true⟩,
      ⟨some 76, .fad 1 (.t 12), some (75, false), true⟩,
      ⟨some 77, .load false 1 (.t 76), some (75, false), true⟩,
      ⟨some 78, .bin .rem (.t 77) (.c (.int .i64 16)), some (75, false), true⟩,
      ⟨some 79, .bin .neq (.t 78) (.c (.int .i64 0)), some (75, false), true⟩,
      ⟨some 80, .pick (.t 75) (.c (.bool true)) (.t 79), none, true⟩] (some [2, 5, 7, 8, 9, 11, 80]) [12]) (
    (.cond (.t 80) (
      (.seq (
      .reg none [
        ⟨some 4, .as (.c (.bool false)), none, true⟩] (some [4]) []) (
      .ret))) (
      .skip))))))) (some [2, 5, 7, 8, 9, 11]) [4, 12, 67])) (
    .reg none [
      ⟨some 58, .mv (.t 11), none, true⟩,
      ⟨some 59, .bin .add (.t 58) (.c (.int .i64 1)), none, true⟩,
      ⟨some 11, .as (.t 59), none, true⟩] (some [2, 5, 7, 8, 9, 11]) []))))
def A8_L0 : ACode := .loop A8_L0b (some [2, 5, 7, 8, 9, 11]) [4, 12, 67]
def A8_L1b : ACode := 
  (.seq (
  (.seq (
  .reg none [
    ⟨some 27, .mv (.t 9), none, true⟩,
    ⟨some 28, .bin .lss (.t 27) (.c (.int .i64 3)), none, true⟩] (some [2, 5, 7, 8, 9, 28]) []) (
  (.cond (.t 28) (
    .skip) (
    .exit 0))))) (
  (.seq (
  (.block 1 (
  (.seq (
  .reg none [
    ⟨some 31, .mv (.t 9), none, true⟩,
    ⟨some 32, .fad 2 (.t 2), none, true⟩,
    ⟨some 33, .iaa 3 1 (.t 32) (.t 31), none, true⟩,
    ⟨some 34, .load false 1 (.t 33), none, true⟩,
    ⟨some 35, .bin .mul (.t 34) (.c (.int .i64 4394000)), none, true⟩,
    ⟨some 36, .bin .quo (.t 35) (.c (.int .i64 16)), none, true⟩,
    ⟨some 10, .as (.t 36), none, true⟩] (some [2, 5, 7, 8, 9, 10]) []) (
  (.seq (
  (.seq (
  .reg (some [.loc, .loc, .loc, .loc, .loc, .loc, .loc, .loc, .dr [43] [], .dr [39] [], .free, .free, .free, .free, .free, .free, .free, .free, .free]) [
    ⟨some 37, .mv (.t 9), none, true⟩,
    ⟨some 38, .iaa 4 2 (.t 7) (.t 37), none, true⟩,
    ⟨some 40, .mv (.t 9), none, true⟩,
    ⟨some 41, .bin .add (.t 40) (.c (.int .i64 1)), none, true⟩,
    ⟨some 42, .iaa 4 2 (.t 7) (.t 41), none, true⟩,
    ⟨some 45, .mv (.t 10), none, true⟩,
    ⟨some 46, .mv (.t 10), none, true⟩,
    ⟨some 47, .bin .mul (.t 45) (.t 46), none, true⟩,
    ⟨some 39, .load true 2 (.t 38), none, true⟩,
    ⟨some 43, .load true 2 (.t 42), none, true⟩,
    ⟨some 44, .call 29 [.t 39, .t 43], none, true⟩,
    ⟨some 48, .bin .neq (.t 44) (.t 47), none, true⟩,
    ⟨some 49, .mv (.t 48), none, true⟩,
    ⟨some 50, .mv (.t 9), some (49, false), true⟩,
    ⟨some 51, .iaa 3 1 (.t 8) (.t 50), some (49, false), true⟩,
    ⟨some 52, .load false 1 (.t 51), some (49, false), true⟩,
    ⟨some 53, .len 0 (.t 52), some (49, false), true⟩,
    ⟨some 54, .bin .neq (.t 53) (.c (.int .i64 4)), some (49, false), true⟩,
    ⟨some 55, .pick (.t 49) (.c (.bool true)) (.t 54), none, true⟩] (some [2, 5, 7, 8, 9, 55]) []) (
  (.cond (.t 55) (
    (.seq (
    .reg none [
      ⟨some 4, .as (.c (.bool false)), none, true⟩] (some [4]) []) (
    .ret))) (
    .skip))))) (
  (.seq (
  (.seq (
  .reg none [
    ⟨some 11, .as (.c (.int .i64 0)), none, true⟩] (some [2, 5, 7, 8, 9, 11]) []) (
  (.block 2 (
  A8_L0) (some [2, 5, 7, 8, 9]) [4, 11, 12, 67])))) (
  (.seq (
  (.seq (
  .reg none [
    ⟨some 81, .mv (.t 9), none, true⟩,
    ⟨some 82, .bin .add (.t 81) (.c (.int .i64 1)), none, true⟩,
    ⟨some 83, .iaa 4 2 (.t 7) (.t 82), none, true⟩,
    ⟨some 84, .load true 2 (.t 83), none, true⟩,
    ⟨some 85, .call 30 [.t 84], none, true⟩,
    ⟨some 86, .un .not (.t 85), none, true⟩,
    ⟨some 87, .mv (.t 86), none, true⟩,
    ⟨some 88, .mv (.t 9), some (87, false), true⟩,
    ⟨some 89, .bin .add (.t 88) (.c (.int .i64 1)), some (87, false), true⟩,
    ⟨some 90, .iaa 4 2 (.t 7) (.t 89), some (87, false), true⟩,
    ⟨some 91, .fad 0 (.t 90), some (87, false), true⟩,
    ⟨some 92, .load false 1 (.t 91), some (87, false), true⟩,
    ⟨some 93, .bin .rem (.t 92) (.c (.int .i64 16)), some (87, false), true⟩,
    ⟨some 94, .bin .neq (.t 93) (.c (.int .i64 0)), some (87, false), true⟩,
    ⟨some 95, .pick (.t 87) (.c (.bool true)) (.t 94), none, true⟩,
    ⟨some 96, .mv (.t 95), none, true⟩,
    ⟨some 97, .mv (.t 9), some (96, false), true⟩,
    ⟨some 98, .bin .add (.t 97) (.c (.int .i64 1)), some (96, false), true⟩,
    ⟨some 99, .iaa 4 2 (.t 7) (.t 98), some (96, false), true⟩,
    ⟨some 100, .fad 1 (.t 99), some (96, false), true⟩,
    ⟨some 101, .load false 1 (.t 100), some (96, false), true⟩,
    ⟨some 102, .bin .rem (.t 101) (.c (.int .i64 16)), some (96, false), true⟩,
    ⟨some 103, .bin .neq (.t 102) (.c (.int .i64 0)), some (96, false), true⟩,
    ⟨some 104, .pick (.t 96) (.c (.bool true)) (.t 103), none, true⟩] (some [2, 5, 7, 8, 9, 104]) []) (
  (.cond (.t 104) (
    (.seq (
    .reg none [
      ⟨some 4, .as (.c (.bool false)), none, true⟩] (some [4]) []) (
    .ret))) (
    .skip))))) (
  (.seq (
  .reg (some [.free, .free, .free, .free, .free, .free, .dr [118, 121] [], .dr [118, 121] [], .dr [118, 121] [], .dr [118, 121] [], .dr [113, 114, 121] [], .dr [113, 114, 121] [], .dr [113, 114, 121] [], .dr [113, 114, 121] [], .dr [113, 114, 121] [], .dr [113, 114, 118] [], .dr [113, 114, 118] [], .dr [113, 114] [], .dr [113, 114] [], .dr [113, 114] [], .free, .free, .free, .dr [133] [], .dr [133] [], .dr [133] [], .dr [130] [], .dr [130] [], .dr [130] [], .free, .free, .free, .free, .dr [144] [], .dr [144] [], .dr [144] [], .dr [140] [], .dr [140] [], .dr [140] [], .dr [140] [], .free, .free, .free]) [
    ⟨some 105, .mv (.t 9), none, true⟩,
    ⟨some 106, .iaa 3 1 (.t 8) (.t 105), none, true⟩,
    ⟨some 107, .load false 1 (.t 106), none, true⟩,
    ⟨some 108, .call 31 [.t 107], none, true⟩,
    ⟨some 109, .un .not (.t 108), none, true⟩,
    ⟨some 110, .mv (.t 109), none, true⟩,
    ⟨some 111, .mv (.t 9), some (110, false), true⟩,
    ⟨some 112, .iaa 3 1 (.t 8) (.t 111), some (110, false), true⟩,
    ⟨some 113, .load false 1 (.t 112), some (110, false), true⟩,
    ⟨some 114, .call 32 [.t 113], some (110, false), true⟩,
    ⟨some 115, .mv (.t 9), some (110, false), true⟩,
    ⟨some 116, .fad 2 (.t 2), some (110, false), true⟩,
    ⟨some 117, .iaa 3 1 (.t 116) (.t 115), some (110, false), true⟩,
    ⟨some 118, .load false 1 (.t 117), some (110, false), true⟩,
    ⟨some 119, .bin .mul (.c (.int .i64 4)) (.t 118), some (110, false), true⟩,
    ⟨some 120, .fad 5 (.t 2), some (110, false), true⟩,
    ⟨some 121, .load false 1 (.t 120), some (110, false), true⟩,
    ⟨some 122, .bin .mul (.t 119) (.t 121), some (110, false), true⟩,
    ⟨some 123, .bin .mul (.t 122) (.c (.int .i64 4394000)), some (110, false), true⟩,
    ⟨some 124, .bin .mul (.t 123) (.c (.int .i64 4394000)), some (110, false), true⟩,
    ⟨some 125, .bin .neq (.t 114) (.t 124), some (110, false), true⟩,
    ⟨some 126, .pick (.t 110) (.c (.bool true)) (.t 125), none, true⟩,
    ⟨some 127, .mv (.t 126), none, true⟩,
    ⟨some 128, .mv (.t 9), some (127, false), true⟩,
    ⟨some 129, .iaa 3 1 (.t 8) (.t 128), some (127, false), true⟩,
    ⟨some 130, .load false 1 (.t 129), some (127, false), true⟩,
    ⟨some 131, .mv (.t 9), some (127, false), true⟩,
    ⟨some 132, .iaa 4 2 (.t 7) (.t 131), some (127, false), true⟩,
    ⟨some 133, .load true 2 (.t 132), some (127, false), true⟩,
    ⟨some 134, .call 33 [.t 130, .t 133], some (127, false), true⟩,
    ⟨some 135, .bin .neq (.t 134) (.c (.int .i64 0)), some (127, false), true⟩,
    ⟨some 136, .pick (.t 127) (.c (.bool true)) (.t 135), none, true⟩,
    ⟨some 137, .mv (.t 136), none, true⟩,
    ⟨some 138, .mv (.t 9), some (137, false), true⟩,
    ⟨some 139, .iaa 3 1 (.t 8) (.t 138), some (137, false), true⟩,
    ⟨some 140, .load false 1 (.t 139), some (137, false), true⟩,
    ⟨some 141, .mv (.t 9), some (137, false), true⟩,
    ⟨some 142, .bin .add (.t 141) (.c (.int .i64 1)), some (137, false), true⟩,
    ⟨some 143, .iaa 4 2 (.t 7) (.t 142), some (137, false), true⟩,
    ⟨some 144, .load true 2 (.t 143), some (137, false), true⟩,
    ⟨some 145, .call 33 [.t 140, .t 144], some (137, false), true⟩,
    ⟨some 146, .bin .neq (.t 145) (.c (.int .i64 0)), some (137, false), true⟩,
    ⟨some 147, .pick (.t 137) (.c (.bool true)) (.t 146), none, true⟩] (some [2, 5, 7, 8, 9, 147]) []) (
  (.cond (.t 147) (
    (.seq (
    .reg none [
      ⟨some 4, .as (.c (.bool false)), none, true⟩] (some [4]) []) (
    .ret))) (
    .skip))))))))))))) (some [2, 5, 7, 8, 9]) [4, 10, 11, 12, 44, 67, 85, 108, 114, 134, 145])) (
  .reg none [
    ⟨some 29, .mv (.t 9), none, true⟩,
    ⟨some 30, .bin .add (.t 29) (.c (.int .i64 1)), none, true⟩,
    ⟨some 9, .as (.t 30), none, true⟩] (some [2, 5, 7, 8, 9]) []))))
def A8_L1 : ACode := .loop A8_L1b (some [2, 5, 7, 8, 9]) [4, 10, 11, 12, 44, 67, 85, 108, 114, 134, 145]
/-- ambidexter/ambidexterlaw07.ArmLinksAreRigid -/
def A8 : AFn := .code [.t 4] (
(.seq (
.reg none [
  ⟨some 2, .box (.t 0), none, true⟩,
  ⟨some 3, .box (.t 1), none, true⟩,
  ⟨some 4, .as (.c (.bool false)), none, true⟩] (some [2, 3]) []) (
(.seq (
.reg none [
  ⟨some 13, .call 14 [], none, true⟩,
  ⟨some 5, .as (.t 13), none, true⟩] (some [2, 3, 5]) []) (
(.seq (
(.seq (
.reg none [
  ⟨some 14, .load true 12 (.t 2), none, true⟩,
  ⟨some 15, .call 15 [.t 14], none, true⟩,
  ⟨some 16, .un .not (.t 15), none, true⟩] (some [2, 3, 5, 16]) []) (
(.cond (.t 16) (
  (.seq (
  .reg none [
    ⟨some 17, .mv (.t 5), none, true⟩,
    ⟨some 4, .as (.t 17), none, true⟩] (some [4]) []) (
  .ret))) (
  .skip))))) (
(.seq (
.reg none [
  ⟨some 18, .load true 12 (.t 2), none, true⟩,
  ⟨some 19, .load true 3 (.t 3), none, true⟩,
  ⟨some 20, .call 19 [.t 18, .t 19], none, true⟩,
  ⟨some 6, .alloc [.int .i64 0, .int .i64 0, .int .i64 0], none, true⟩,
  ⟨none, .store 3 (.t 6) (.t 20), none, true⟩] (some [2, 5, 6]) [3]) (
(.seq (
.reg (some [.dr [22, 24, 25, 7, 8] [], .dr [21, 24, 25, 7, 8] [], .dr [24, 25, 7, 8] [], .dr [21, 22, 23, 25, 7, 8] [], .dr [21, 22, 23, 24, 7, 8] [], .dr [7, 8] [], .dr [21, 22, 23, 24, 25, 26, 8] [], .dr [21, 22, 23, 24, 25, 26, 7] [], .free, .free]) [
  ⟨some 21, .load true 12 (.t 2), none, true⟩,
  ⟨some 22, .load true 3 (.t 6), none, true⟩,
  ⟨some 23, .call 27 [.t 21, .t 22], none, true⟩,
  ⟨some 24, .load true 12 (.t 2), none, true⟩,
  ⟨some 25, .load true 3 (.t 6), none, true⟩,
  ⟨some 26, .call 20 [.t 24, .t 25], none, true⟩,
  ⟨some 7, .alloc [.int .i64 0, .int .i64 0, .int .i64 0, .int .i64 0, .int .i64 0, .int .i64 0, .int .i64 0, .int .i64 0], none, true⟩,
  ⟨some 8, .alloc [.nils 2, .nils 2, .nils 2], none, true⟩,
  ⟨none, .store 8 (.t 7) (.t 23), none, true⟩,
  ⟨none, .store 3 (.t 8) (.t 26), none, true⟩] (some [2, 5, 7, 8]) [6]) (
(.seq (
(.seq (
.reg none [
  ⟨some 9, .as (.c (.int .i64 0)), none, true⟩] (some [2, 5, 7, 8, 9]) []) (
(.block 0 (
A8_L1) (some [5]) [4, 9, 10, 11, 12, 44, 67, 85, 108, 114, 134, 145])))) (
(.seq (
.reg none [
  ⟨some 148, .mv (.t 5), none, true⟩,
  ⟨some 4, .as (.t 148), none, true⟩] (some [4]) []) (
.ret)))))))))))))))
def A9_L0b : ACode := 
    (.seq (
    (.seq (
    .reg none [
      ⟨some 74, .mv (.t 13), none, true⟩,
      ⟨some 75, .mv (.t 10), none, true⟩,
      ⟨some 76, .bin .lss (.t 74) (.t 75), none, true⟩] (some [2, 5, 8, 9, 10, 13, 76]) []) (
    (.cond (.t 76) (
      .skip) (
      .exit 2))))) (
    (.seq (
    (.block 3 (
    (.seq (
    .reg (some [.dr [84, 88, 91] [], .dr [84, 88, 91] [], .dr [84, 88, 91] [], .dr [81, 88, 91] [], .dr [81, 88, 91] [], .dr [81, 88, 91] [], .dr [88, 91] [], .dr [81, 84, 85, 91] [], .dr [81, 84, 85, 91] [], .dr [81, 84, 85, 91] [], .dr [81, 84, 85, 88] [], .dr [81, 84, 85, 88] [], .dr [81, 84, 85, 88] [], .free, .free]) [
      ⟨some 79, .mv (.t 13), none, true⟩,
      ⟨some 80, .iaa 3 1 (.t 8) (.t 79), none, true⟩,
      ⟨some 81, .load false 1 (.t 80), none, true⟩,
      ⟨some 82, .mv (.t 10), none, true⟩,
      ⟨some 83, .iaa 3 1 (.t 8) (.t 82), none, true⟩,
      ⟨some 84, .load false 1 (.t 83), none, true⟩,
      ⟨some 85, .call 37 [.t 81, .t 84], none, true⟩,
      ⟨some 86, .mv (.t 13), none, true⟩,
      ⟨some 87, .iaa 3 1 (.t 9) (.t 86), none, true⟩,
      ⟨some 88, .load false 1 (.t 87), none, true⟩,
      ⟨some 89, .mv (.t 10), none, true⟩,
      ⟨some 90, .iaa 3 1 (.t 9) (.t 89), none, true⟩,
      ⟨some 91, .load false 1 (.t 90), none, true⟩,
      ⟨some 92, .call 37 [.t 88, .t 91], none, true⟩,
      ⟨some 93, .bib true (.t 85) (.t 92), none, true⟩] (some [2, 5, 8, 9, 10, 13, 93]) []) (
    (.cond (.t 93) (
      (.seq (
      .reg none [
        ⟨some 4, .as (.c (.bool false)), none, true⟩] (some [4]) []) (
      .ret))) (
      .skip))))) (some [2, 5, 8, 9, 10, 13]) [4, 85, 92])) (
    .reg none [
      ⟨some 77, .mv (.t 13), none, true⟩,
      ⟨some 78, .bin .add (.t 77) (.c (.int .i64 1)), none, true⟩,
      ⟨some 13, .as (.t 78), none, true⟩] (some [2, 5, 8, 9, 10, 13]) []))))
def A9_L0 : ACode := .loop A9_L0b (some [2, 5, 8, 9, 10, 13]) [4, 85, 92]
def A9_L1b : ACode := 
  (.seq (
  (.seq (
  .reg none [
    ⟨some 44, .mv (.t 10), none, true⟩,
    ⟨some 45, .bin .lss (.t 44) (.c (.int .i64 3)), none, true⟩] (some [2, 5, 8, 9, 10, 45]) []) (
  (.cond (.t 45) (
    .skip) (
    .exit 0))))) (
  (.seq (
  (.block 1 (
  (.seq (
  .reg (some [.dr [53] [], .dr [53] [], .dr [53] [], .dr [51] [], .dr [51] [], .free, .free, .dr [] [], .dr [] [], .dr [] [], .free]) [
    ⟨some 49, .mv (.t 10), none, true⟩,
    ⟨some 50, .iaa 3 1 (.t 8) (.t 49), none, true⟩,
    ⟨some 51, .load false 1 (.t 50), none, true⟩,
    ⟨some 52, .fad 0 (.t 2), none, true⟩,
    ⟨some 53, .load true 2 (.t 52), none, true⟩,
    ⟨some 54, .call 35 [.t 51, .t 53], none, true⟩,
    ⟨some 48, .mv (.t 54), none, true⟩,
    ⟨some 55, .ext (.t 48) 0, none, true⟩,
    ⟨some 56, .ext (.t 48) 1, none, true⟩,
    ⟨some 11, .as (.t 55), none, true⟩,
    ⟨some 12, .as (.t 56), none, true⟩] (some [2, 5, 8, 9, 10, 11, 12]) []) (
  (.seq (
  (.seq (
  .reg none [
    ⟨some 57, .mv (.t 12), none, true⟩,
    ⟨some 58, .un .not (.t 57), none, true⟩,
    ⟨some 59, .mv (.t 58), none, true⟩,
    ⟨some 60, .mv (.t 11), some (59, false), true⟩,
    ⟨some 61, .mv (.t 10), some (59, false), true⟩,
    ⟨some 62, .iaa 3 1 (.t 9) (.t 61), some (59, false), true⟩,
    ⟨some 63, .load false 1 (.t 62), some (59, false), true⟩,
    ⟨some 64, .call 36 [.t 60, .t 63], some (59, false), true⟩,
    ⟨some 65, .un .not (.t 64), some (59, false), true⟩,
    ⟨some 66, .pick (.t 59) (.c (.bool true)) (.t 65), none, true⟩,
    ⟨some 67, .mv (.t 66), none, true⟩,
    ⟨some 68, .mv (.t 10), some (67, false), true⟩,
    ⟨some 69, .iaa 3 1 (.t 9) (.t 68), some (67, false), true⟩,
    ⟨some 70, .load false 1 (.t 69), some (67, false), true⟩,
    ⟨some 71, .call 31 [.t 70], some (67, false), true⟩,
    ⟨some 72, .un .not (.t 71), some (67, false), true⟩,
    ⟨some 73, .pick (.t 67) (.c (.bool true)) (.t 72), none, true⟩] (some [2, 5, 8, 9, 10, 73]) []) (
  (.cond (.t 73) (
    (.seq (
    .reg none [
      ⟨some 4, .as (.c (.bool false)), none, true⟩] (some [4]) []) (
    .ret))) (
    .skip))))) (
  (.seq (
  .reg none [
    ⟨some 13, .as (.c (.int .i64 0)), none, true⟩] (some [2, 5, 8, 9, 10, 13]) []) (
  (.block 2 (
  A9_L0) (some [2, 5, 8, 9, 10]) [4, 13, 85, 92])))))))) (some [2, 5, 8, 9, 10]) [4, 11, 12, 13, 54, 64, 71, 85, 92])) (
  .reg none [
    ⟨some 46, .mv (.t 10), none, true⟩,
    ⟨some 47, .bin .add (.t 46) (.c (.int .i64 1)), none, true⟩,
    ⟨some 10, .as (.t 47), none, true⟩] (some [2, 5, 8, 9, 10]) []))))
def A9_L1 : ACode := .loop A9_L1b (some [2, 5, 8, 9, 10]) [4, 11, 12, 13, 54, 64, 71, 85, 92]
/-- ambidexter/ambidextertop.TopQuarterTurn -/
def A9 : AFn := .code [.t 4] (
(.seq (
.reg none [
  ⟨some 2, .box (.t 0), none, true⟩,
  ⟨some 3, .box (.t 1), none, true⟩,
  ⟨some 4, .as (.c (.bool false)), none, true⟩] (some [2, 3]) []) (
(.seq (
.reg none [
  ⟨some 14, .call 34 [], none, true⟩,
  ⟨some 5, .as (.t 14), none, true⟩] (some [2, 3, 5]) []) (
(.seq (
(.seq (
.reg none [
  ⟨some 15, .load true 12 (.t 2), none, true⟩,
  ⟨some 16, .call 16 [.t 15], none, true⟩,
  ⟨some 17, .un .not (.t 16), none, true⟩] (some [2, 3, 5, 17]) []) (
(.cond (.t 17) (
  (.seq (
  .reg none [
    ⟨some 18, .mv (.t 5), none, true⟩,
    ⟨some 4, .as (.t 18), none, true⟩] (some [4]) []) (
  .ret))) (
  .skip))))) (
(.seq (
.reg none [
  ⟨some 19, .load true 12 (.t 2), none, true⟩,
  ⟨some 20, .load true 3 (.t 3), none, true⟩,
  ⟨some 21, .call 19 [.t 19, .t 20], none, true⟩,
  ⟨some 6, .alloc [.int .i64 0, .int .i64 0, .int .i64 0], none, true⟩,
  ⟨none, .store 3 (.t 6) (.t 21), none, true⟩] (some [2, 5, 6]) [3]) (
(.seq (
.reg none [
  ⟨some 22, .load true 3 (.t 6), none, true⟩,
  ⟨some 7, .alloc [.int .i64 0, .int .i64 0, .int .i64 0], none, true⟩,
  ⟨none, .store 3 (.t 7) (.t 22), none, true⟩] (some [2, 5, 6, 7]) []) (
(.seq (
.reg none [
  ⟨some 23, .iaa 3 1 (.t 6) (.c (.int .i64 0)), none, true⟩,
  ⟨some 24, .load false 1 (.t 23), none, true⟩,
  ⟨some 25, .bin .add (.t 24) (.c (.int .i64 9)), none, true⟩,
  ⟨some 26, .iaa 3 1 (.t 7) (.c (.int .i64 0)), none, true⟩,
  ⟨none, .store 1 (.t 26) (.t 25), none, true⟩] (some [2, 5, 6, 7]) []) (
(.seq (
(.seq (
.reg none [
  ⟨some 27, .load true 12 (.t 2), none, true⟩,
  ⟨some 28, .load true 3 (.t 6), none, true⟩,
  ⟨some 29, .call 18 [.t 27, .t 28], none, true⟩,
  ⟨some 30, .un .not (.t 29), none, true⟩,
  ⟨some 31, .mv (.t 30), none, true⟩,
  ⟨some 32, .load true 12 (.t 2), some (31, false), true⟩,
  ⟨some 33, .load true 3 (.t 7), some (31, false), true⟩,
  ⟨some 34, .call 18 [.t 32, .t 33], some (31, false), true⟩,
  ⟨some 35, .un .not (.t 34), some (31, false), true⟩,
  ⟨some 36, .pick (.t 31) (.c (.bool true)) (.t 35), none, true⟩] (some [2, 5, 6, 7, 36]) []) (
(.cond (.t 36) (
  (.seq (
  .reg none [
    ⟨some 37, .mv (.t 5), none, true⟩,
    ⟨some 4, .as (.t 37), none, true⟩] (some [4]) []) (
  .ret))) (
  .skip))))) (
(.seq (
.reg none [
  ⟨some 38, .load true 12 (.t 2), none, true⟩,
  ⟨some 39, .load true 3 (.t 6), none, true⟩,
  ⟨some 40, .call 20 [.t 38, .t 39], none, true⟩,
  ⟨some 8, .alloc [.nils 2, .nils 2, .nils 2], none, true⟩,
  ⟨none, .store 3 (.t 8) (.t 40), none, true⟩] (some [2, 5, 7, 8]) [6]) (
(.seq (
.reg none [
  ⟨some 41, .load true 12 (.t 2), none, true⟩,
  ⟨some 42, .load true 3 (.t 7), none, true⟩,
  ⟨some 43, .call 20 [.t 41, .t 42], none, true⟩,
  ⟨some 9, .alloc [.nils 2, .nils 2, .nils 2], none, true⟩,
  ⟨none, .store 3 (.t 9) (.t 43), none, true⟩] (some [2, 5, 8, 9]) [7]) (
(.seq (
(.seq (
.reg none [
  ⟨some 10, .as (.c (.int .i64 0)), none, true⟩] (some [2, 5, 8, 9, 10]) []) (
(.block 0 (
A9_L1) (some [5]) [4, 10, 11, 12, 13, 54, 64, 71, 85, 92])))) (
(.seq (
.reg none [
  ⟨some 94, .mv (.t 5), none, true⟩,
  ⟨some 4, .as (.t 94), none, true⟩] (some [4]) []) (
.ret)))))))))))))))))))))))
def A10_L0b : ACode := 
  (.seq (
  (.seq (
  .reg none [
    ⟨some 51, .mv (.t 12), none, true⟩,
    ⟨some 52, .bin .lss (.t 51) (.c (.int .i64 3)), none, true⟩] (some [5, 6, 7, 8, 10, 11, 12, 52]) []) (
  (.cond (.t 52) (
    .skip) (
    .exit 0))))) (
  (.seq (
  (.block 1 (
  (.seq (
  .reg (some [.dr [61] [], .dr [61] [], .dr [61] [], .dr [61] [], .dr [57] [], .dr [57] [], .dr [57] [], .free, .free, .dr [70] [], .dr [70] [], .dr [70] [], .dr [70] [], .dr [66] [], .dr [66] [], .dr [66] [], .free, .free, .free, .dr [79] [], .dr [79] [], .dr [79] [], .dr [76] [], .dr [76] [], .dr [76] [], .free, .free, .free, .free, .dr [91, 94] [], .dr [91, 94] [], .dr [91, 94] [], .dr [91, 94] [], .dr [91, 94] [], .dr [86, 94] [], .dr [86, 94] [], .dr [86, 94] [], .dr [86, 91] [], .dr [86, 91] [], .dr [86, 91] [], .dr [86] [], .free, .free, .free, .dr [104] [], .dr [104] [], .dr [104] [], .dr [101] [], .dr [101] [], .dr [101] [], .free, .free, .free, .dr [113] [], .dr [113] [], .dr [113] [], .dr [110] [], .dr [110] [], .dr [110] [], .free, .free]) [
    ⟨some 55, .mv (.t 12), none, true⟩,
    ⟨some 56, .iaa 3 1 (.t 7) (.t 55), none, true⟩,
    ⟨some 57, .load false 1 (.t 56), none, true⟩,
    ⟨some 58, .bin .mul (.c (.int .i64 12)) (.t 57), none, true⟩,
    ⟨some 59, .mv (.t 12), none, true⟩,
    ⟨some 60, .iaa 3 1 (.t 6) (.t 59), none, true⟩,
    ⟨some 61, .load false 1 (.t 60), none, true⟩,
    ⟨some 62, .bin .gtr (.t 58) (.t 61), none, true⟩,
    ⟨some 63, .mv (.t 62), none, true⟩,
    ⟨some 64, .mv (.t 12), some (63, false), true⟩,
    ⟨some 65, .iaa 3 1 (.t 8) (.t 64), some (63, false), true⟩,
    ⟨some 66, .load false 1 (.t 65), some (63, false), true⟩,
    ⟨some 67, .bin .mul (.c (.int .i64 12)) (.t 66), some (63, false), true⟩,
    ⟨some 68, .mv (.t 12), some (63, false), true⟩,
    ⟨some 69, .iaa 3 1 (.t 6) (.t 68), some (63, false), true⟩,
    ⟨some 70, .load false 1 (.t 69), some (63, false), true⟩,
    ⟨some 71, .bin .lss (.t 67) (.t 70), some (63, false), true⟩,
    ⟨some 72, .pick (.t 63) (.c (.bool true)) (.t 71), none, true⟩,
    ⟨some 73, .mv (.t 72), none, true⟩,
    ⟨some 74, .mv (.t 12), some (73, false), true⟩,
    ⟨some 75, .iaa 3 1 (.t 8) (.t 74), some (73, false), true⟩,
    ⟨some 76, .load false 1 (.t 75), some (73, false), true⟩,
    ⟨some 77, .mv (.t 12), some (73, false), true⟩,
    ⟨some 78, .iaa 3 1 (.t 7) (.t 77), some (73, false), true⟩,
    ⟨some 79, .load false 1 (.t 78), some (73, false), true⟩,
    ⟨some 80, .bin .sub (.t 76) (.t 79), some (73, false), true⟩,
    ⟨some 81, .bin .gtr (.t 80) (.c (.int .i64 1)), some (73, false), true⟩,
    ⟨some 82, .pick (.t 73) (.c (.bool true)) (.t 81), none, true⟩,
    ⟨some 83, .mv (.t 82), none, true⟩,
    ⟨some 84, .mv (.t 12), some (83, false), true⟩,
    ⟨some 85, .iaa 3 1 (.t 6) (.t 84), some (83, false), true⟩,
    ⟨some 86, .load false 1 (.t 85), some (83, false), true⟩,
    ⟨some 87, .bin .rem (.t 86) (.c (.int .i64 12)), some (83, false), true⟩,
    ⟨some 88, .bin .eql (.t 87) (.c (.int .i64 0)), some (83, false), true⟩,
    ⟨some 89, .mv (.t 12), some (83, false), true⟩,
    ⟨some 90, .iaa 3 1 (.t 7) (.t 89), some (83, false), true⟩,
    ⟨some 91, .load false 1 (.t 90), some (83, false), true⟩,
    ⟨some 92, .mv (.t 12), some (83, false), true⟩,
    ⟨some 93, .iaa 3 1 (.t 8) (.t 92), some (83, false), true⟩,
    ⟨some 94, .load false 1 (.t 93), some (83, false), true⟩,
    ⟨some 95, .bin .eql (.t 91) (.t 94), some (83, false), true⟩,
    ⟨some 96, .bib true (.t 88) (.t 95), some (83, false), true⟩,
    ⟨some 97, .pick (.t 83) (.c (.bool true)) (.t 96), none, true⟩,
    ⟨some 98, .mv (.t 97), none, true⟩,
    ⟨some 99, .mv (.t 12), some (98, false), true⟩,
    ⟨some 100, .iaa 3 1 (.t 10) (.t 99), some (98, false), true⟩,
    ⟨some 101, .load false 1 (.t 100), some (98, false), true⟩,
    ⟨some 102, .mv (.t 12), some (98, false), true⟩,
    ⟨some 103, .iaa 3 1 (.t 7) (.t 102), some (98, false), true⟩,
    ⟨some 104, .load false 1 (.t 103), some (98, false), true⟩,
    ⟨some 105, .bin .lss (.t 101) (.t 104), some (98, false), true⟩,
    ⟨some 106, .pick (.t 98) (.c (.bool true)) (.t 105), none, true⟩,
    ⟨some 107, .mv (.t 106), none, true⟩,
    ⟨some 108, .mv (.t 12), some (107, false), true⟩,
    ⟨some 109, .iaa 3 1 (.t 11) (.t 108), some (107, false), true⟩,
    ⟨some 110, .load false 1 (.t 109), some (107, false), true⟩,
    ⟨some 111, .mv (.t 12), some (107, false), true⟩,
    ⟨some 112, .iaa 3 1 (.t 8) (.t 111), some (107, false), true⟩,
    ⟨some 113, .load false 1 (.t 112), some (107, false), true⟩,
    ⟨some 114, .bin .lss (.t 110) (.t 113), some (107, false), true⟩,
    ⟨some 115, .pick (.t 107) (.c (.bool true)) (.t 114), none, true⟩] (some [5, 6, 7, 8, 10, 11, 12, 115]) []) (
  (.cond (.t 115) (
    (.seq (
    .reg none [
      ⟨some 4, .as (.c (.bool false)), none, true⟩] (some [4]) []) (
    .ret))) (
    .skip))))) (some [5, 6, 7, 8, 10, 11, 12]) [4])) (
  .reg none [
    ⟨some 53, .mv (.t 12), none, true⟩,
    ⟨some 54, .bin .add (.t 53) (.c (.int .i64 1)), none, true⟩,
    ⟨some 12, .as (.t 54), none, true⟩] (some [5, 6, 7, 8, 10, 11, 12]) []))))
def A10_L0 : ACode := .loop A10_L0b (some [5, 6, 7, 8, 10, 11, 12]) [4]
/-- ambidexter/ambidexterlaw27.MonitorBracketsPositions -/
def A10 : AFn := .code [.t 4] (
(.seq (
.reg none [
  ⟨some 2, .box (.t 0), none, true⟩,
  ⟨some 4, .as (.c (.bool false)), none, true⟩] (some [1, 2]) []) (
(.seq (
.reg none [
  ⟨some 13, .call 38 [], none, true⟩,
  ⟨some 5, .as (.t 13), none, true⟩] (some [1, 2, 5]) []) (
(.seq (
.reg none [
  ⟨some 14, .iaa 3 1 (.t 2) (.c (.int .i64 0)), none, true⟩,
  ⟨some 15, .load false 1 (.t 14), none, true⟩,
  ⟨some 16, .conv .i64 (.t 15), none, true⟩,
  ⟨some 17, .bin .rem (.t 16) (.c (.int .i64 200)), none, true⟩,
  ⟨some 18, .iaa 3 1 (.t 2) (.c (.int .i64 1)), none, true⟩,
  ⟨some 19, .load false 1 (.t 18), none, true⟩,
  ⟨some 20, .conv .i64 (.t 19), none, true⟩,
  ⟨some 21, .bin .rem (.t 20) (.c (.int .i64 200)), none, true⟩,
  ⟨some 22, .iaa 3 1 (.t 2) (.c (.int .i64 2)), none, true⟩,
  ⟨some 23, .load false 1 (.t 22), none, true⟩,
  ⟨some 24, .conv .i64 (.t 23), none, true⟩,
  ⟨some 25, .bin .rem (.t 24) (.c (.int .i64 200)), none, true⟩,
  ⟨some 26, .build [.int .i64 0, .int .i64 0, .int .i64 0] [(0, 1, .t 17), (1, 1, .t 21), (2, 1, .t 25)], none, true⟩,
  ⟨some 6, .alloc [.int .i64 0, .int .i64 0, .int .i64 0], none, true⟩,
  ⟨none, .store 3 (.t 6) (.t 26), none, true⟩] (some [1, 5, 6]) [2]) (
(.seq (
.reg none [
  ⟨some 28, .load true 3 (.t 6), none, true⟩,
  ⟨some 29, .call 39 [.t 28], none, true⟩,
  ⟨some 27, .mv (.t 29), none, true⟩,
  ⟨some 30, .ext (.t 27) 0, none, true⟩,
  ⟨some 31, .ext (.t 27) 1, none, true⟩,
  ⟨some 7, .alloc [.int .i64 0, .int .i64 0, .int .i64 0], none, true⟩,
  ⟨some 8, .alloc [.int .i64 0, .int .i64 0, .int .i64 0], none, true⟩,
  ⟨none, .store 3 (.t 7) (.t 30), none, true⟩,
  ⟨none, .store 3 (.t 8) (.t 31), none, true⟩] (some [1, 5, 6, 7, 8]) []) (
(.seq (
.reg none [
  ⟨some 32, .load true 3 (.t 6), none, true⟩,
  ⟨some 9, .alloc [.int .i64 0, .int .i64 0, .int .i64 0], none, true⟩,
  ⟨none, .store 3 (.t 9) (.t 32), none, true⟩] (some [1, 5, 6, 7, 8, 9]) []) (
(.seq (
.reg none [
  ⟨some 33, .mv (.t 1), none, true⟩,
  ⟨some 34, .conv .i64 (.t 33), none, true⟩,
  ⟨some 35, .bin .rem (.t 34) (.c (.int .i64 3)), none, true⟩,
  ⟨some 36, .mv (.t 1), none, true⟩,
  ⟨some 37, .conv .i64 (.t 36), none, true⟩,
  ⟨some 38, .bin .rem (.t 37) (.c (.int .i64 3)), none, true⟩,
  ⟨some 39, .iaa 3 1 (.t 9) (.t 38), none, true⟩,
  ⟨some 40, .load false 1 (.t 39), none, true⟩,
  ⟨some 41, .mv (.t 1), none, true⟩,
  ⟨some 42, .conv .i64 (.t 41), none, true⟩,
  ⟨some 43, .bin .rem (.t 42) (.c (.int .i64 12)), none, true⟩,
  ⟨some 44, .bin .add (.t 40) (.t 43), none, true⟩,
  ⟨some 45, .iaa 3 1 (.t 9) (.t 35), none, true⟩,
  ⟨none, .store 1 (.t 45) (.t 44), none, true⟩] (some [5, 6, 7, 8, 9]) []) (
(.seq (
.reg none [
  ⟨some 47, .load true 3 (.t 9), none, true⟩,
  ⟨some 48, .call 39 [.t 47], none, true⟩,
  ⟨some 46, .mv (.t 48), none, true⟩,
  ⟨some 49, .ext (.t 46) 0, none, true⟩,
  ⟨some 50, .ext (.t 46) 1, none, true⟩,
  ⟨some 10, .alloc [.int .i64 0, .int .i64 0, .int .i64 0], none, true⟩,
  ⟨some 11, .alloc [.int .i64 0, .int .i64 0, .int .i64 0], none, true⟩,
  ⟨none, .store 3 (.t 10) (.t 49), none, true⟩,
  ⟨none, .store 3 (.t 11) (.t 50), none, true⟩] (some [5, 6, 7, 8, 10, 11]) [9]) (
(.seq (
(.seq (
.reg none [
  ⟨some 12, .as (.c (.int .i64 0)), none, true⟩] (some [5, 6, 7, 8, 10, 11, 12]) []) (
(.block 0 (
A10_L0) (some [5]) [4, 12])))) (
(.seq (
.reg none [
  ⟨some 116, .mv (.t 5), none, true⟩,
  ⟨some 4, .as (.t 116), none, true⟩] (some [4]) []) (
.ret)))))))))))))))))))
def A11_L0b : ACode := 
  (.seq (
  (.seq (
  .reg none [
    ⟨some 129, .mv (.t 17), none, true⟩,
    ⟨some 130, .mv (.t 16), none, true⟩,
    ⟨some 131, .len 0 (.t 130), none, true⟩,
    ⟨some 132, .bin .lss (.t 129) (.t 131), none, true⟩] (some [9, 10, 16, 17, 132]) []) (
  (.cond (.t 132) (
    .skip) (
    .exit 4))))) (
  (.seq (
  (.block 5 (
  (.seq (
  .reg none [
    ⟨some 135, .mv (.t 16), none, true⟩,
    ⟨some 136, .mv (.t 17), none, true⟩,
    ⟨some 137, .ias 4 (.t 135) (.t 136), none, true⟩,
    ⟨some 138, .fad 0 (.t 137), none, true⟩,
    ⟨some 139, .load false 1 (.t 138), none, true⟩,
    ⟨some 140, .bin .eql (.t 139) (.c (.int .i64 1)), none, true⟩] (some [9, 10, 16, 17, 140]) []) (
  (.cond (.t 140) (
    (.seq (
    .reg none [
      ⟨some 8, .as (.c (.bool false)), none, true⟩] (some [8]) []) (
    .ret))) (
    .skip))))) (some [9, 10, 16, 17]) [8])) (
  .reg none [
    ⟨some 133, .mv (.t 17), none, true⟩,
    ⟨some 134, .bin .add (.t 133) (.c (.int .i64 1)), none, true⟩,
    ⟨some 17, .as (.t 134), none, true⟩] (some [9, 10, 16, 17]) []))))
def A11_L0 : ACode := .loop A11_L0b (some [9, 10, 16, 17]) [8]
def A11_L1b : ACode := 
    (.seq (
    (.seq (
    .reg none [
      ⟨some 43, .mv (.t 13), none, true⟩,
      ⟨some 44, .bin .lss (.t 43) (.c (.int .i64 3)), none, true⟩] (some [3, 4, 5, 6, 9, 10, 11, 12, 13, 44]) []) (
    (.cond (.t 44) (
      .skip) (
      .exit 2))))) (
    (.seq (
    (.block 3 (
    (.seq (
    .reg (some [.dr [56, 62, 67] [], .dr [56, 62, 67] [], .dr [56, 62, 67] [], .dr [56, 62, 67] [], .dr [56, 62, 67] [], .dr [51, 62, 67] [], .dr [51, 62, 67] [], .dr [51, 62, 67] [], .dr [51, 62, 67] [], .dr [51, 62, 67] [], .dr [62, 67] [], .dr [51, 56, 67] [], .dr [51, 56, 67] [], .dr [51, 56, 67] [], .dr [51, 56, 67] [], .dr [51, 56, 67] [], .dr [51, 56, 62] [], .dr [51, 56, 62] [], .dr [51, 56, 62] [], .dr [51, 56, 62] [], .dr [51, 56, 62] [], .dr [51, 56] [], .free, .free]) [
      ⟨some 47, .mv (.t 12), none, true⟩,
      ⟨some 48, .mv (.t 13), none, true⟩,
      ⟨some 49, .iaa 2 3 (.t 6) (.t 47), none, true⟩,
      ⟨some 50, .iaa 3 1 (.t 49) (.t 48), none, true⟩,
      ⟨some 51, .load false 1 (.t 50), none, true⟩,
      ⟨some 52, .mv (.t 12), none, true⟩,
      ⟨some 53, .mv (.t 13), none, true⟩,
      ⟨some 54, .iaa 2 3 (.t 5) (.t 52), none, true⟩,
      ⟨some 55, .iaa 3 1 (.t 54) (.t 53), none, true⟩,
      ⟨some 56, .load false 1 (.t 55), none, true⟩,
      ⟨some 57, .bin .sub (.t 51) (.t 56), none, true⟩,
      ⟨some 58, .mv (.t 12), none, true⟩,
      ⟨some 59, .mv (.t 13), none, true⟩,
      ⟨some 60, .iaa 2 3 (.t 5) (.t 58), none, true⟩,
      ⟨some 61, .iaa 3 1 (.t 60) (.t 59), none, true⟩,
      ⟨some 62, .load false 1 (.t 61), none, true⟩,
      ⟨some 63, .mv (.t 12), none, true⟩,
      ⟨some 64, .mv (.t 13), none, true⟩,
      ⟨some 65, .iaa 2 3 (.t 6) (.t 63), none, true⟩,
      ⟨some 66, .iaa 3 1 (.t 65) (.t 64), none, true⟩,
      ⟨some 67, .load false 1 (.t 66), none, true⟩,
      ⟨some 68, .bin .sub (.t 62) (.t 67), none, true⟩,
      ⟨some 69, .mx [.t 57, .t 68], none, true⟩,
      ⟨some 14, .as (.t 69), none, true⟩] (some [3, 4, 5, 6, 9, 10, 11, 12, 13, 14]) []) (
    (.seq (
    .reg none [
      ⟨some 70, .mv (.t 10), none, true⟩,
      ⟨some 71, .mv (.t 12), none, true⟩,
      ⟨some 72, .mv (.t 13), none, true⟩,
      ⟨some 73, .build [.int .i64 0, .int .i64 0, .int .i64 0, .int .i64 0] [(0, 1, .c (.int .i64 1)), (1, 1, .t 71), (2, 1, .t 72)], none, true⟩,
      ⟨some 74, .call 43 [.t 70, .t 73], none, true⟩,
      ⟨some 15, .as (.t 74), none, true⟩] (some [3, 4, 5, 6, 9, 10, 11, 12, 13, 14, 15]) []) (
    (.seq (
    .reg none [
      ⟨some 75, .mv (.t 14), none, true⟩,
      ⟨some 76, .fad 35 (.t 4), none, true⟩,
      ⟨some 77, .fad 0 (.t 76), none, true⟩,
      ⟨some 78, .load false 1 (.t 77), none, true⟩,
      ⟨some 79, .bin .gtr (.t 75) (.t 78), none, true⟩,
      ⟨some 80, .mv (.t 79), none, true⟩,
      ⟨some 81, .mv (.t 15), some (80, true), true⟩,
      ⟨some 82, .un .not (.t 81), some (80, true), true⟩,
      ⟨some 83, .pick (.t 80) (.t 82) (.c (.bool false)), none, true⟩,
      ⟨some 84, .mv (.t 83), none, true⟩,
      ⟨some 85, .mv (.t 11), some (84, false), true⟩,
      ⟨some 86, .mv (.t 85), some (84, false), true⟩,
      ⟨some 87, .mv (.t 14), some (86, true), true⟩,
      ⟨some 88, .fad 43 (.t 4), some (86, true), true⟩,
      ⟨some 89, .load false 1 (.t 88), some (86, true), true⟩,
      ⟨some 90, .bin .gtr (.t 87) (.t 89), some (86, true), true⟩,
      ⟨some 91, .pick (.t 86) (.t 90) (.c (.bool false)), some (84, false), true⟩,
      ⟨some 92, .mv (.t 91), some (84, false), true⟩,
      ⟨some 93, .mv (.t 15), some (92, true), true⟩,
      ⟨some 94, .un .not (.t 93), some (92, true), true⟩,
      ⟨some 95, .pick (.t 92) (.t 94) (.c (.bool false)), some (84, false), true⟩,
      ⟨some 96, .pick (.t 84) (.c (.bool true)) (.t 95), none, true⟩,
      ⟨some 97, .mv (.t 96), none, true⟩,
      ⟨some 98, .mv (.t 15), some (97, false), true⟩,
      ⟨some 99, .mv (.t 98), some (97, false), true⟩,
      ⟨some 100, .mv (.t 14), some (99, true), true⟩,
      ⟨some 101, .fad 35 (.t 4), some (99, true), true⟩,
      ⟨some 102, .fad 0 (.t 101), some (99, true), true⟩,
      ⟨some 103, .load false 1 (.t 102), some (99, true), true⟩,
      ⟨some 104, .fad 43 (.t 4), some (99, true), true⟩,
      ⟨some 105, .load false 1 (.t 104), some (99, true), true⟩,
      ⟨some 106, .mn [.t 103, .t 105], some (99, true), true⟩,
      ⟨some 107, .bin .leq (.t 100) (.t 106), some (99, true), true⟩,
      ⟨some 108, .pick (.t 99) (.t 107) (.c (.bool false)), some (97, false), true⟩,
      ⟨some 109, .pick (.t 97) (.c (.bool true)) (.t 108), none, true⟩,
      ⟨some 110, .mv (.t 109), none, true⟩,
      ⟨some 111, .mv (.t 15), some (110, false), true⟩,
      ⟨some 112, .mv (.t 111), some (110, false), true⟩,
      ⟨some 113, .mv (.t 11), some (112, true), true⟩,
      ⟨some 114, .un .not (.t 113), some (112, true), true⟩,
      ⟨some 115, .pick (.t 112) (.t 114) (.c (.bool false)), some (110, false), true⟩,
      ⟨some 116, .mv (.t 115), some (110, false), true⟩,
      ⟨some 117, .mv (.t 14), some (116, true), true⟩,
      ⟨some 118, .fad 35 (.t 4), some (116, true), true⟩,
      ⟨some 119, .fad 0 (.t 118), some (116, true), true⟩,
      ⟨some 120, .load false 1 (.t 119), some (116, true), true⟩,
      ⟨some 121, .bin .leq (.t 117) (.t 120), some (116, true), true⟩,
      ⟨some 122, .pick (.t 116) (.t 121) (.c (.bool false)), some (110, false), true⟩,
      ⟨some 123, .pick (.t 110) (.c (.bool true)) (.t 122), none, true⟩] (some [3, 4, 5, 6, 9, 10, 11, 12, 13, 123]) []) (
    (.cond (.t 123) (
      (.seq (
      .reg none [
        ⟨some 8, .as (.c (.bool false)), none, true⟩] (some [8]) []) (
      .ret))) (
      .skip))))))))) (some [3, 4, 5, 6, 9, 10, 11, 12, 13]) [8, 14, 15, 74])) (
    .reg none [
      ⟨some 45, .mv (.t 13), none, true⟩,
      ⟨some 46, .bin .add (.t 45) (.c (.int .i64 1)), none, true⟩,
      ⟨some 13, .as (.t 46), none, true⟩] (some [3, 4, 5, 6, 9, 10, 11, 12, 13]) []))))
def A11_L1 : ACode := .loop A11_L1b (some [3, 4, 5, 6, 9, 10, 11, 12, 13]) [8, 14, 15, 74]
def A11_L2b : ACode := 
  (.seq (
  (.seq (
  .reg none [
    ⟨some 39, .mv (.t 12), none, true⟩,
    ⟨some 40, .bin .lss (.t 39) (.c (.int .i64 2)), none, true⟩] (some [3, 4, 5, 6, 9, 10, 11, 12, 40]) []) (
  (.cond (.t 40) (
    .skip) (
    .exit 0))))) (
  (.seq (
  (.block 1 (
  (.seq (
  .reg none [
    ⟨some 13, .as (.c (.int .i64 0)), none, true⟩] (some [3, 4, 5, 6, 9, 10, 11, 12, 13]) []) (
  (.block 2 (
  A11_L1) (some [3, 4, 5, 6, 9, 10, 11, 12]) [8, 13, 14, 15, 74])))) (some [3, 4, 5, 6, 9, 10, 11, 12]) [8, 13, 14, 15, 74])) (
  .reg none [
    ⟨some 41, .mv (.t 12), none, true⟩,
    ⟨some 42, .bin .add (.t 41) (.c (.int .i64 1)), none, true⟩,
    ⟨some 12, .as (.t 42), none, true⟩] (some [3, 4, 5, 6, 9, 10, 11, 12]) []))))
def A11_L2 : ACode := .loop A11_L2b (some [3, 4, 5, 6, 9, 10, 11, 12]) [8, 13, 14, 15, 74]
/-- ambidexter/ambidexterlaw27.MonitorDetectsSpeed -/
def A11 : AFn := .code [.t 8] (
(.seq (
.reg none [
  ⟨some 4, .box (.t 0), none, true⟩,
  ⟨some 5, .box (.t 1), none, true⟩,
  ⟨some 6, .box (.t 2), none, true⟩,
  ⟨some 8, .as (.c (.bool false)), none, true⟩] (some [3, 4, 5, 6]) []) (
(.seq (
.reg none [
  ⟨some 18, .call 38 [], none, true⟩,
  ⟨some 9, .as (.t 18), none, true⟩] (some [3, 4, 5, 6, 9]) []) (
(.seq (
(.seq (
.reg none [
  ⟨some 19, .load true 44 (.t 4), none, true⟩,
  ⟨some 20, .load true 6 (.t 5), none, true⟩,
  ⟨some 21, .mv (.t 3), none, true⟩,
  ⟨some 22, .call 40 [.t 19, .t 20, .t 21], none, true⟩,
  ⟨some 23, .un .not (.t 22), none, true⟩,
  ⟨some 24, .mv (.t 23), none, true⟩,
  ⟨some 25, .load true 44 (.t 4), some (24, false), true⟩,
  ⟨some 26, .load true 6 (.t 6), some (24, false), true⟩,
  ⟨some 27, .mv (.t 3), some (24, false), true⟩,
  ⟨some 28, .call 40 [.t 25, .t 26, .t 27], some (24, false), true⟩,
  ⟨some 29, .un .not (.t 28), some (24, false), true⟩,
  ⟨some 30, .pick (.t 24) (.c (.bool true)) (.t 29), none, true⟩] (some [3, 4, 5, 6, 9, 30]) []) (
(.cond (.t 30) (
  (.seq (
  .reg none [
    ⟨some 31, .mv (.t 9), none, true⟩,
    ⟨some 8, .as (.t 31), none, true⟩] (some [8]) []) (
  .ret))) (
  .skip))))) (
(.seq (
.reg none [
  ⟨some 32, .load true 44 (.t 4), none, true⟩,
  ⟨some 33, .load true 6 (.t 5), none, true⟩,
  ⟨some 34, .load true 6 (.t 6), none, true⟩,
  ⟨some 35, .mv (.t 3), none, true⟩,
  ⟨some 36, .call 41 [.t 32, .t 33, .t 34, .t 35], none, true⟩,
  ⟨some 10, .as (.t 36), none, true⟩] (some [3, 4, 5, 6, 9, 10]) []) (
(.seq (
.reg none [
  ⟨some 37, .mv (.t 3), none, true⟩,
  ⟨some 38, .call 42 [.t 37], none, true⟩,
  ⟨some 11, .as (.t 38), none, true⟩] (some [3, 4, 5, 6, 9, 10, 11]) []) (
(.seq (
(.seq (
.reg none [
  ⟨some 12, .as (.c (.int .i64 0)), none, true⟩] (some [3, 4, 5, 6, 9, 10, 11, 12]) []) (
(.block 0 (
A11_L2) (some [3, 4, 6, 9, 10]) [8, 12, 13, 14, 15, 74])))) (
(.seq (
.reg none [
  ⟨some 124, .load true 44 (.t 4), none, true⟩,
  ⟨some 125, .load true 6 (.t 6), none, true⟩,
  ⟨some 126, .load true 6 (.t 6), none, true⟩,
  ⟨some 127, .mv (.t 3), none, true⟩,
  ⟨some 128, .call 41 [.t 124, .t 125, .t 126, .t 127], none, true⟩,
  ⟨some 16, .as (.t 128), none, true⟩] (some [9, 10, 16]) [4, 6]) (
(.seq (
(.seq (
.reg none [
  ⟨some 17, .as (.c (.int .i64 0)), none, true⟩] (some [9, 10, 16, 17]) []) (
(.block 4 (
A11_L0) (some [9, 10, 16]) [8, 17])))) (
(.seq (
.reg none [
  ⟨some 141, .mv (.t 9), none, true⟩,
  ⟨some 142, .mv (.t 141), none, true⟩,
  ⟨some 143, .mv (.t 10), some (142, true), true⟩,
  ⟨some 144, .len 0 (.t 143), some (142, true), true⟩,
  ⟨some 145, .mv (.t 16), some (142, true), true⟩,
  ⟨some 146, .len 0 (.t 145), some (142, true), true⟩,
  ⟨some 147, .bin .geq (.t 144) (.t 146), some (142, true), true⟩,
  ⟨some 148, .pick (.t 142) (.t 147) (.c (.bool false)), none, true⟩,
  ⟨some 8, .as (.t 148), none, true⟩] (some [8]) []) (
.ret)))))))))))))))))))
def A12_L0b : ACode := 
  (.seq (
  (.seq (
  .reg none [
    ⟨some 57, .mv (.t 17), none, true⟩,
    ⟨some 58, .mv (.t 14), none, true⟩,
    ⟨some 59, .len 0 (.t 58), none, true⟩,
    ⟨some 60, .bin .lss (.t 57) (.t 59), none, true⟩] (some [5, 6, 8, 13, 14, 16, 17, 60]) []) (
  (.cond (.t 60) (
    .skip) (
    .exit 0))))) (
  (.seq (
  (.block 1 (
  (.seq (
  .reg none [
    ⟨some 63, .mv (.t 16), none, true⟩,
    ⟨some 64, .mv (.t 14), none, true⟩,
    ⟨some 65, .mv (.t 17), none, true⟩,
    ⟨some 66, .ias 4 (.t 64) (.t 65), none, true⟩,
    ⟨some 67, .load true 4 (.t 66), none, true⟩,
    ⟨some 68, .call 43 [.t 63, .t 67], none, true⟩,
    ⟨some 69, .un .not (.t 68), none, true⟩] (some [5, 6, 8, 13, 14, 16, 17, 69]) []) (
  (.cond (.t 69) (
    (.seq (
    .reg none [
      ⟨some 12, .as (.c (.bool false)), none, true⟩] (some [12]) []) (
    .ret))) (
    .skip))))) (some [5, 6, 8, 13, 14, 16, 17]) [12, 68])) (
  .reg none [
    ⟨some 61, .mv (.t 17), none, true⟩,
    ⟨some 62, .bin .add (.t 61) (.c (.int .i64 1)), none, true⟩,
    ⟨some 17, .as (.t 62), none, true⟩] (some [5, 6, 8, 13, 14, 16, 17]) []))))
def A12_L0 : ACode := .loop A12_L0b (some [5, 6, 8, 13, 14, 16, 17]) [12, 68]
/-- ambidexter/ambidexterlaw27.MonitorIsMonotonic -/
def A12 : AFn := .code [.t 12] (
(.seq (
.reg none [
  ⟨some 6, .box (.t 0), none, true⟩,
  ⟨some 7, .box (.t 1), none, true⟩,
  ⟨some 8, .box (.t 2), none, true⟩,
  ⟨some 12, .as (.c (.bool false)), none, true⟩] (some [3, 4, 5, 6, 7, 8]) []) (
(.seq (
.reg none [
  ⟨some 20, .call 38 [], none, true⟩,
  ⟨some 13, .as (.t 20), none, true⟩] (some [3, 4, 5, 6, 7, 8, 13]) []) (
(.seq (
(.seq (
.reg none [
  ⟨some 21, .load true 44 (.t 6), none, true⟩,
  ⟨some 22, .load true 6 (.t 7), none, true⟩,
  ⟨some 23, .mv (.t 3), none, true⟩,
  ⟨some 24, .call 40 [.t 21, .t 22, .t 23], none, true⟩,
  ⟨some 25, .un .not (.t 24), none, true⟩,
  ⟨some 26, .mv (.t 25), none, true⟩,
  ⟨some 27, .load true 44 (.t 6), some (26, false), true⟩,
  ⟨some 28, .load true 6 (.t 8), some (26, false), true⟩,
  ⟨some 29, .mv (.t 3), some (26, false), true⟩,
  ⟨some 30, .call 40 [.t 27, .t 28, .t 29], some (26, false), true⟩,
  ⟨some 31, .un .not (.t 30), some (26, false), true⟩,
  ⟨some 32, .pick (.t 26) (.c (.bool true)) (.t 31), none, true⟩] (some [3, 4, 5, 6, 7, 8, 13, 32]) []) (
(.cond (.t 32) (
  (.seq (
  .reg none [
    ⟨some 33, .mv (.t 13), none, true⟩,
    ⟨some 12, .as (.t 33), none, true⟩] (some [12]) []) (
  .ret))) (
  .skip))))) (
(.seq (
.reg none [
  ⟨some 34, .load true 44 (.t 6), none, true⟩,
  ⟨some 35, .load true 6 (.t 7), none, true⟩,
  ⟨some 36, .load true 6 (.t 8), none, true⟩,
  ⟨some 37, .mv (.t 3), none, true⟩,
  ⟨some 38, .call 41 [.t 34, .t 35, .t 36, .t 37], none, true⟩,
  ⟨some 14, .as (.t 38), none, true⟩] (some [3, 4, 5, 6, 7, 8, 13, 14]) []) (
(.seq (
.reg none [
  ⟨some 39, .bsl 1 0 [.bool false] [], none, true⟩,
  ⟨some 40, .mv (.t 3), none, true⟩,
  ⟨some 41, .app 1 (.t 39) (.t 40), none, true⟩,
  ⟨some 15, .as (.t 41), none, true⟩] (some [4, 5, 6, 7, 8, 13, 14, 15]) []) (
(.seq (
(.seq (
.reg none [
  ⟨some 42, .mv (.t 15), none, true⟩,
  ⟨some 43, .len 0 (.t 42), none, true⟩,
  ⟨some 44, .bin .gtr (.t 43) (.c (.int .i64 0)), none, true⟩] (some [4, 5, 6, 7, 8, 13, 14, 15, 44]) []) (
(.cond (.t 44) (
  .reg none [
    ⟨some 45, .mv (.t 15), none, true⟩,
    ⟨some 46, .mv (.t 4), none, true⟩,
    ⟨some 47, .conv .i64 (.t 46), none, true⟩,
    ⟨some 48, .mv (.t 15), none, true⟩,
    ⟨some 49, .len 0 (.t 48), none, true⟩,
    ⟨some 50, .bin .rem (.t 47) (.t 49), none, true⟩,
    ⟨some 51, .ias 1 (.t 45) (.t 50), none, true⟩,
    ⟨none, .store 1 (.t 51) (.c (.bool true)), none, true⟩] (some [5, 6, 7, 8, 13, 14, 15]) []) (
  .skip))))) (
(.seq (
.reg none [
  ⟨some 52, .load true 44 (.t 6), none, true⟩,
  ⟨some 53, .load true 6 (.t 7), none, true⟩,
  ⟨some 54, .load true 6 (.t 8), none, true⟩,
  ⟨some 55, .mv (.t 15), none, true⟩,
  ⟨some 56, .call 41 [.t 52, .t 53, .t 54, .t 55], none, true⟩,
  ⟨some 16, .as (.t 56), none, true⟩] (some [5, 6, 8, 13, 14, 16]) [7]) (
(.seq (
(.seq (
.reg none [
  ⟨some 17, .as (.c (.int .i64 0)), none, true⟩] (some [5, 6, 8, 13, 14, 16, 17]) []) (
(.block 0 (
A12_L0) (some [5, 6, 8, 13, 14]) [12, 17, 68])))) (
(.seq (
.reg none [
  ⟨some 70, .load true 44 (.t 6), none, true⟩,
  ⟨some 18, .alloc [.int .i64 0, .int .i64 0, .int .i64 0, .int .i64 0, .int .i64 0, .int .i64 0, .int .i64 0, .int .i64 0, .int .i64 0, .int .i64 0, .int .i64 0, .int .i64 0, .int .i64 0, .int .i64 0, .int .i64 0, .int .i64 0, .int .i64 0, .int .i64 0, .int .i64 0, .int .i64 0, .int .i64 0, .int .i64 0, .int .i64 0, .int .i64 0, .int .i64 0, .int .i64 0, .int .i64 0, .int .i64 0, .int .i64 0, .int .i64 0, .nils 1, .nils 6, .nils 3, .nils 1, .int .i64 0, .int .i64 0, .int .i64 0, .int .i64 0, .int .i64 0, .int .i64 0, .int .i64 0, .nils 1, .int .i64 0, .int .i64 0], none, true⟩,
  ⟨none, .store 44 (.t 18) (.t 70), none, true⟩] (some [5, 6, 8, 13, 14, 18]) []) (
(.seq (
.reg none [
  ⟨some 71, .fad 42 (.t 6), none, true⟩,
  ⟨some 72, .load false 1 (.t 71), none, true⟩,
  ⟨some 73, .mv (.t 5), none, true⟩,
  ⟨some 74, .conv .i64 (.t 73), none, true⟩,
  ⟨some 75, .bin .rem (.t 74) (.c (.int .i64 21)), none, true⟩,
  ⟨some 76, .bin .add (.t 72) (.t 75), none, true⟩,
  ⟨some 77, .mn [.c (.int .i64 20), .t 76], none, true⟩,
  ⟨some 78, .fad 42 (.t 18), none, true⟩,
  ⟨none, .store 1 (.t 78) (.t 77), none, true⟩] (some [6, 8, 13, 14, 18]) []) (
(.seq (
.reg none [
  ⟨some 79, .load true 44 (.t 6), none, true⟩,
  ⟨some 19, .alloc [.int .i64 0, .int .i64 0, .int .i64 0, .int .i64 0, .int .i64 0, .int .i64 0, .int .i64 0, .int .i64 0, .int .i64 0, .int .i64 0, .int .i64 0, .int .i64 0, .int .i64 0, .int .i64 0, .int .i64 0, .int .i64 0, .int .i64 0, .int .i64 0, .int .i64 0, .int .i64 0, .int .i64 0, .int .i64 0, .int .i64 0, .int .i64 0, .int .i64 0, .int .i64 0, .int .i64 0, .int .i64 0, .int .i64 0, .int .i64 0, .nils 1, .nils 6, .nils 3, .nils 1, .int .i64 0, .int .i64 0, .int .i64 0, .int .i64 0, .int .i64 0, .int .i64 0, .int .i64 0, .nils 1, .int .i64 0, .int .i64 0], none, true⟩,
  ⟨none, .store 44 (.t 19) (.t 79), none, true⟩] (some [6, 8, 13, 14, 18, 19]) []) (
(.seq (
.reg none [
  ⟨some 80, .fad 42 (.t 19), none, true⟩,
  ⟨none, .store 1 (.t 80) (.c (.int .i64 0)), none, true⟩] (some [6, 8, 13, 14, 18, 19]) []) (
(.seq (
.reg (some [.free, .free, .dr [84] [], .dr [83] [], .free, .free, .dr [88] [], .dr [87] [], .free, .free, .free, .free, .free, .dr [95] [], .dr [94] [], .free, .free, .free, .dr [102, 103] [], .dr [102, 103] [], .dr [102, 103] [], .dr [101, 103] [], .dr [101, 102] [], .free, .free, .free, .free, .free]) [
  ⟨some 81, .mv (.t 13), none, true⟩,
  ⟨some 82, .mv (.t 81), none, true⟩,
  ⟨some 83, .load true 44 (.t 6), some (82, true), true⟩,
  ⟨some 84, .load true 6 (.t 8), some (82, true), true⟩,
  ⟨some 85, .call 44 [.t 83, .t 84], some (82, true), true⟩,
  ⟨some 86, .mv (.t 85), some (82, true), true⟩,
  ⟨some 87, .load true 44 (.t 18), some (86, false), true⟩,
  ⟨some 88, .load true 6 (.t 8), some (86, false), true⟩,
  ⟨some 89, .call 44 [.t 87, .t 88], some (86, false), true⟩,
  ⟨some 90, .un .not (.t 89), some (86, false), true⟩,
  ⟨some 91, .pick (.t 86) (.c (.bool true)) (.t 90), some (82, true), true⟩,
  ⟨some 92, .pick (.t 82) (.t 91) (.c (.bool false)), none, true⟩,
  ⟨some 93, .mv (.t 92), none, true⟩,
  ⟨some 94, .load true 44 (.t 19), some (93, true), true⟩,
  ⟨some 95, .load true 6 (.t 8), some (93, true), true⟩,
  ⟨some 96, .call 44 [.t 94, .t 95], some (93, true), true⟩,
  ⟨some 97, .pick (.t 93) (.t 96) (.c (.bool false)), none, true⟩,
  ⟨some 98, .mv (.t 97), none, true⟩,
  ⟨some 99, .mv (.t 14), some (98, true), true⟩,
  ⟨some 100, .build [.int .i64 0, .int .i64 0, .int .i64 0, .int .i64 0] [(0, 1, .c (.int .i64 2))], some (98, true), true⟩,
  ⟨some 101, .call 43 [.t 99, .t 100], some (98, true), true⟩,
  ⟨some 102, .load true 44 (.t 6), some (98, true), true⟩,
  ⟨some 103, .load true 6 (.t 8), some (98, true), true⟩,
  ⟨some 104, .call 44 [.t 102, .t 103], some (98, true), true⟩,
  ⟨some 105, .un .not (.t 104), some (98, true), true⟩,
  ⟨some 106, .bib false (.t 101) (.t 105), some (98, true), true⟩,
  ⟨some 107, .pick (.t 98) (.t 106) (.c (.bool false)), none, true⟩,
  ⟨some 12, .as (.t 107), none, true⟩] (some [12]) [6, 8, 18, 19]) (
.ret)))))))))))))))))))))))))))
def A13_L0b : ACode := 
      (.seq (
      (.seq (
      .reg none [
        ⟨some 130, .mv (.t 21), none, true⟩,
        ⟨some 131, .bin .lss (.t 130) (.c (.int .i64 6)), none, true⟩] (some [2, 3, 4, 7, 8, 9, 13, 18, 19, 20, 21, 131]) []) (
      (.cond (.t 131) (
        .skip) (
        .exit 14))))) (
      (.seq (
      (.block 15 (
      .reg (some [.free, .free, .dr [] [], .dr [] [], .free, .free, .free, .dr [152, 154, 156] [], .dr [152, 154, 156] [], .dr [152, 154, 156] [], .dr [143, 152, 154, 156] [], .dr [143, 152, 154, 156] [], .dr [143, 148, 152, 154, 156] [], .dr [143, 148, 152, 154, 156] [], .dr [152, 154, 156] [], .dr [152, 154, 156] [], .dr [152, 154, 156] [], .dr [143, 148, 150] [], .dr [143, 148, 150] [], .dr [143, 148, 150, 152] [], .dr [143, 148, 150] [], .dr [143, 148, 150] [], .dr [143, 148, 150] [], .free, .free, .free, .free]) [
        ⟨some 134, .mv (.t 20), none, true⟩,
        ⟨some 135, .mv (.t 134), none, true⟩,
        ⟨some 136, .mv (.t 2), some (135, false), true⟩,
        ⟨some 137, .mv (.t 19), some (135, false), true⟩,
        ⟨some 138, .ias 1 (.t 136) (.t 137), some (135, false), true⟩,
        ⟨some 139, .load false 1 (.t 138), some (135, false), true⟩,
        ⟨some 140, .mv (.t 139), some (135, false), true⟩,
        ⟨some 141, .mv (.t 18), some (140, true), true⟩,
        ⟨some 142, .iaa 2 1 (.t 9) (.t 141), some (140, true), true⟩,
        ⟨some 143, .load false 1 (.t 142), some (140, true), true⟩,
        ⟨some 144, .mv (.t 21), some (140, true), true⟩,
        ⟨some 145, .bin .quo (.t 144) (.c (.int .i64 3)), some (140, true), true⟩,
        ⟨some 146, .mv (.t 21), some (140, true), true⟩,
        ⟨some 147, .bin .rem (.t 146) (.c (.int .i64 3)), some (140, true), true⟩,
        ⟨some 148, .ias 3 (.t 143) (.t 145), some (140, true), true⟩,
        ⟨some 149, .iaa 3 1 (.t 148) (.t 147), some (140, true), true⟩,
        ⟨some 150, .load false 1 (.t 149), some (140, true), true⟩,
        ⟨some 151, .fad 41 (.t 3), some (140, true), true⟩,
        ⟨some 152, .load false 1 (.t 151), some (140, true), true⟩,
        ⟨some 153, .mv (.t 19), some (140, true), true⟩,
        ⟨some 154, .ias 1 (.t 152) (.t 153), some (140, true), true⟩,
        ⟨some 155, .fad 0 (.t 154), some (140, true), true⟩,
        ⟨some 156, .load false 1 (.t 155), some (140, true), true⟩,
        ⟨some 157, .call 37 [.t 150, .t 156], some (140, true), true⟩,
        ⟨some 158, .pick (.t 140) (.t 157) (.c (.bool false)), some (135, false), true⟩,
        ⟨some 159, .pick (.t 135) (.c (.bool true)) (.t 158), none, true⟩,
        ⟨some 20, .as (.t 159), none, true⟩] (some [2, 3, 4, 7, 8, 9, 13, 18, 19, 20, 21]) []) (some [2, 3, 4, 7, 8, 9, 13, 18, 19, 20, 21]) [])) (
      .reg none [
        ⟨some 132, .mv (.t 21), none, true⟩,
        ⟨some 133, .bin .add (.t 132) (.c (.int .i64 1)), none, true⟩,
        ⟨some 21, .as (.t 133), none, true⟩] (some [2, 3, 4, 7, 8, 9, 13, 18, 19, 20, 21]) []))))
def A13_L0 : ACode := .loop A13_L0b (some [2, 3, 4, 7, 8, 9, 13, 18, 19, 20, 21]) []
def A13_L1b : ACode := 
    (.seq (
    (.seq (
    .reg none [
      ⟨some 123, .mv (.t 19), none, true⟩,
      ⟨some 124, .fad 41 (.t 3), none, true⟩,
      ⟨some 125, .load false 1 (.t 124), none, true⟩,
      ⟨some 126, .len 0 (.t 125), none, true⟩,
      ⟨some 127, .bin .lss (.t 123) (.t 126), none, true⟩] (some [2, 3, 4, 7, 8, 9, 13, 18, 19, 127]) []) (
    (.cond (.t 127) (
      .skip) (
      .exit 12))))) (
    (.seq (
    (.block 13 (
    (.seq (
    .reg none [
      ⟨some 20, .as (.c (.bool false)), none, true⟩] (some [2, 3, 4, 7, 8, 9, 13, 18, 19, 20]) []) (
    (.seq (
    (.seq (
    .reg none [
      ⟨some 21, .as (.c (.int .i64 0)), none, true⟩] (some [2, 3, 4, 7, 8, 9, 13, 18, 19, 20, 21]) []) (
    (.block 14 (
    A13_L0) (some [2, 3, 4, 7, 8, 9, 13, 18, 19, 20]) [21])))) (
    (.seq (
    .reg none [
      ⟨some 160, .mv (.t 20), none, true⟩,
      ⟨some 161, .mv (.t 8), none, true⟩,
      ⟨some 162, .mv (.t 18), none, true⟩,
      ⟨some 163, .mv (.t 19), none, true⟩,
      ⟨some 164, .build [.int .i64 0, .int .i64 0, .int .i64 0, .int .i64 0] [(0, 1, .c (.int .i64 3)), (1, 1, .t 162), (3, 1, .t 163)], none, true⟩,
      ⟨some 165, .call 43 [.t 161, .t 164], none, true⟩,
      ⟨some 166, .bib true (.t 160) (.t 165), none, true⟩] (some [2, 3, 4, 7, 8, 9, 13, 18, 19, 166]) []) (
    (.cond (.t 166) (
      (.seq (
      .reg none [
        ⟨some 6, .as (.c (.bool false)), none, true⟩] (some [6]) []) (
      .ret))) (
      .skip))))))))) (some [2, 3, 4, 7, 8, 9, 13, 18, 19]) [6, 20, 21, 157, 165])) (
    .reg none [
      ⟨some 128, .mv (.t 19), none, true⟩,
      ⟨some 129, .bin .add (.t 128) (.c (.int .i64 1)), none, true⟩,
      ⟨some 19, .as (.t 129), none, true⟩] (some [2, 3, 4, 7, 8, 9, 13, 18, 19]) []))))
def A13_L1 : ACode := .loop A13_L1b (some [2, 3, 4, 7, 8, 9, 13, 18, 19]) [6, 20, 21, 157, 165]
def A13_L2b : ACode := 
  (.seq (
  (.seq (
  .reg none [
    ⟨some 119, .mv (.t 18), none, true⟩,
    ⟨some 120, .bin .lss (.t 119) (.c (.int .i64 2)), none, true⟩] (some [2, 3, 4, 7, 8, 9, 13, 18, 120]) []) (
  (.cond (.t 120) (
    .skip) (
    .exit 10))))) (
  (.seq (
  (.block 11 (
  (.seq (
  .reg none [
    ⟨some 19, .as (.c (.int .i64 0)), none, true⟩] (some [2, 3, 4, 7, 8, 9, 13, 18, 19]) []) (
  (.block 12 (
  A13_L1) (some [2, 3, 4, 7, 8, 9, 13, 18]) [6, 19, 20, 21, 157, 165])))) (some [2, 3, 4, 7, 8, 9, 13, 18]) [6, 19, 20, 21, 157, 165])) (
  .reg none [
    ⟨some 121, .mv (.t 18), none, true⟩,
    ⟨some 122, .bin .add (.t 121) (.c (.int .i64 1)), none, true⟩,
    ⟨some 18, .as (.t 122), none, true⟩] (some [2, 3, 4, 7, 8, 9, 13, 18]) []))))
def A13_L2 : ACode := .loop A13_L2b (some [2, 3, 4, 7, 8, 9, 13, 18]) [6, 19, 20, 21, 157, 165]
def A13_L3b : ACode := 
        (.seq (
        (.seq (
        .reg none [
          ⟨some 97, .mv (.t 17), none, true⟩,
          ⟨some 98, .bin .lss (.t 97) (.c (.int .i64 3)), none, true⟩] (some [2, 3, 4, 7, 8, 9, 13, 14, 15, 16, 17, 98]) []) (
        (.cond (.t 98) (
          .skip) (
          .exit 8))))) (
        (.seq (
        (.block 9 (
        .reg (some [.free, .free, .dr [111, 114, 116] [], .dr [111, 114, 116] [], .dr [104, 111, 114, 116] [], .dr [104, 107, 111, 114, 116] [], .dr [111, 114, 116] [], .dr [111, 114, 116] [], .dr [111, 114, 116] [], .dr [104, 107, 109] [], .dr [104, 107, 109] [], .dr [104, 107, 109, 111] [], .dr [104, 107, 109, 111, 114] [], .dr [104, 107, 109] [], .dr [104, 107, 109] [], .dr [104, 107, 109] [], .free, .free, .free]) [
          ⟨some 101, .mv (.t 13), none, true⟩,
          ⟨some 102, .mv (.t 101), none, true⟩,
          ⟨some 103, .iaa 2 1 (.t 9) (.c (.int .i64 0)), some (102, false), true⟩,
          ⟨some 104, .load false 1 (.t 103), some (102, false), true⟩,
          ⟨some 105, .mv (.t 14), some (102, false), true⟩,
          ⟨some 106, .mv (.t 15), some (102, false), true⟩,
          ⟨some 107, .ias 3 (.t 104) (.t 105), some (102, false), true⟩,
          ⟨some 108, .iaa 3 1 (.t 107) (.t 106), some (102, false), true⟩,
          ⟨some 109, .load false 1 (.t 108), some (102, false), true⟩,
          ⟨some 110, .iaa 2 1 (.t 9) (.c (.int .i64 1)), some (102, false), true⟩,
          ⟨some 111, .load false 1 (.t 110), some (102, false), true⟩,
          ⟨some 112, .mv (.t 16), some (102, false), true⟩,
          ⟨some 113, .mv (.t 17), some (102, false), true⟩,
          ⟨some 114, .ias 3 (.t 111) (.t 112), some (102, false), true⟩,
          ⟨some 115, .iaa 3 1 (.t 114) (.t 113), some (102, false), true⟩,
          ⟨some 116, .load false 1 (.t 115), some (102, false), true⟩,
          ⟨some 117, .call 37 [.t 109, .t 116], some (102, false), true⟩,
          ⟨some 118, .pick (.t 102) (.c (.bool true)) (.t 117), none, true⟩,
          ⟨some 13, .as (.t 118), none, true⟩] (some [2, 3, 4, 7, 8, 9, 13, 14, 15, 16, 17]) []) (some [2, 3, 4, 7, 8, 9, 13, 14, 15, 16, 17]) [])) (
        .reg none [
          ⟨some 99, .mv (.t 17), none, true⟩,
          ⟨some 100, .bin .add (.t 99) (.c (.int .i64 1)), none, true⟩,
          ⟨some 17, .as (.t 100), none, true⟩] (some [2, 3, 4, 7, 8, 9, 13, 14, 15, 16, 17]) []))))
def A13_L3 : ACode := .loop A13_L3b (some [2, 3, 4, 7, 8, 9, 13, 14, 15, 16, 17]) []
def A13_L4b : ACode := 
      (.seq (
      (.seq (
      .reg none [
        ⟨some 93, .mv (.t 16), none, true⟩,
        ⟨some 94, .bin .lss (.t 93) (.c (.int .i64 2)), none, true⟩] (some [2, 3, 4, 7, 8, 9, 13, 14, 15, 16, 94]) []) (
      (.cond (.t 94) (
        .skip) (
        .exit 6))))) (
      (.seq (
      (.block 7 (
      (.seq (
      .reg none [
        ⟨some 17, .as (.c (.int .i64 0)), none, true⟩] (some [2, 3, 4, 7, 8, 9, 13, 14, 15, 16, 17]) []) (
      (.block 8 (
      A13_L3) (some [2, 3, 4, 7, 8, 9, 13, 14, 15, 16]) [17])))) (some [2, 3, 4, 7, 8, 9, 13, 14, 15, 16]) [17])) (
      .reg none [
        ⟨some 95, .mv (.t 16), none, true⟩,
        ⟨some 96, .bin .add (.t 95) (.c (.int .i64 1)), none, true⟩,
        ⟨some 16, .as (.t 96), none, true⟩] (some [2, 3, 4, 7, 8, 9, 13, 14, 15, 16]) []))))
def A13_L4 : ACode := .loop A13_L4b (some [2, 3, 4, 7, 8, 9, 13, 14, 15, 16]) [17]
def A13_L5b : ACode := 
    (.seq (
    (.seq (
    .reg none [
      ⟨some 89, .mv (.t 15), none, true⟩,
      ⟨some 90, .bin .lss (.t 89) (.c (.int .i64 3)), none, true⟩] (some [2, 3, 4, 7, 8, 9, 13, 14, 15, 90]) []) (
    (.cond (.t 90) (
      .skip) (
      .exit 4))))) (
    (.seq (
    (.block 5 (
    (.seq (
    .reg none [
      ⟨some 16, .as (.c (.int .i64 0)), none, true⟩] (some [2, 3, 4, 7, 8, 9, 13, 14, 15, 16]) []) (
    (.block 6 (
    A13_L4) (some [2, 3, 4, 7, 8, 9, 13, 14, 15]) [16, 17])))) (some [2, 3, 4, 7, 8, 9, 13, 14, 15]) [16, 17])) (
    .reg none [
      ⟨some 91, .mv (.t 15), none, true⟩,
      ⟨some 92, .bin .add (.t 91) (.c (.int .i64 1)), none, true⟩,
      ⟨some 15, .as (.t 92), none, true⟩] (some [2, 3, 4, 7, 8, 9, 13, 14, 15]) []))))
def A13_L5 : ACode := .loop A13_L5b (some [2, 3, 4, 7, 8, 9, 13, 14, 15]) [16, 17]
def A13_L6b : ACode := 
  (.seq (
  (.seq (
  .reg none [
    ⟨some 85, .mv (.t 14), none, true⟩,
    ⟨some 86, .bin .lss (.t 85) (.c (.int .i64 2)), none, true⟩] (some [2, 3, 4, 7, 8, 9, 13, 14, 86]) []) (
  (.cond (.t 86) (
    .skip) (
    .exit 2))))) (
  (.seq (
  (.block 3 (
  (.seq (
  .reg none [
    ⟨some 15, .as (.c (.int .i64 0)), none, true⟩] (some [2, 3, 4, 7, 8, 9, 13, 14, 15]) []) (
  (.block 4 (
  A13_L5) (some [2, 3, 4, 7, 8, 9, 13, 14]) [15, 16, 17])))) (some [2, 3, 4, 7, 8, 9, 13, 14]) [15, 16, 17])) (
  .reg none [
    ⟨some 87, .mv (.t 14), none, true⟩,
    ⟨some 88, .bin .add (.t 87) (.c (.int .i64 1)), none, true⟩,
    ⟨some 14, .as (.t 88), none, true⟩] (some [2, 3, 4, 7, 8, 9, 13, 14]) []))))
def A13_L6 : ACode := .loop A13_L6b (some [2, 3, 4, 7, 8, 9, 13, 14]) [15, 16, 17]
def A13_L7b : ACode := 
  (.seq (
  (.seq (
  .reg none [
    ⟨some 39, .mv (.t 10), none, true⟩,
    ⟨some 40, .bin .lss (.t 39) (.c (.int .i64 2)), none, true⟩] (some [2, 3, 4, 7, 8, 9, 10, 40]) []) (
  (.cond (.t 40) (
    .skip) (
    .exit 0))))) (
  (.seq (
  (.block 1 (
  (.seq (
  .reg none [
    ⟨some 44, .mv (.t 10), none, true⟩,
    ⟨some 45, .iaa 2 3 (.t 4) (.t 44), none, true⟩,
    ⟨some 46, .load true 3 (.t 45), none, true⟩,
    ⟨some 47, .call 39 [.t 46], none, true⟩,
    ⟨some 43, .mv (.t 47), none, true⟩,
    ⟨some 48, .ext (.t 43) 0, none, true⟩,
    ⟨some 49, .ext (.t 43) 1, none, true⟩,
    ⟨some 11, .alloc [.int .i64 0, .int .i64 0, .int .i64 0], none, true⟩,
    ⟨some 12, .alloc [.int .i64 0, .int .i64 0, .int .i64 0], none, true⟩,
    ⟨none, .store 3 (.t 11) (.t 48), none, true⟩,
    ⟨none, .store 3 (.t 12) (.t 49), none, true⟩] (some [2, 3, 4, 7, 8, 9, 10, 11, 12]) []) (
  (.seq (
  (.seq (
  .reg (some [.dr [54] [], .dr [54] [], .dr [54] [], .dr [54] [], .dr [53] [], .free, .free, .free, .dr [62] [], .dr [62] [], .dr [62] [], .dr [62] [], .dr [61] [], .free, .free, .free]) [
    ⟨some 50, .mv (.t 10), none, true⟩,
    ⟨some 51, .fad 0 (.t 3), none, true⟩,
    ⟨some 52, .iaa 2 12 (.t 51) (.t 50), none, true⟩,
    ⟨some 53, .load true 12 (.t 52), none, true⟩,
    ⟨some 54, .load true 3 (.t 11), none, true⟩,
    ⟨some 55, .call 17 [.t 53, .t 54], none, true⟩,
    ⟨some 56, .un .not (.t 55), none, true⟩,
    ⟨some 57, .mv (.t 56), none, true⟩,
    ⟨some 58, .mv (.t 10), some (57, false), true⟩,
    ⟨some 59, .fad 0 (.t 3), some (57, false), true⟩,
    ⟨some 60, .iaa 2 12 (.t 59) (.t 58), some (57, false), true⟩,
    ⟨some 61, .load true 12 (.t 60), some (57, false), true⟩,
    ⟨some 62, .load true 3 (.t 12), some (57, false), true⟩,
    ⟨some 63, .call 17 [.t 61, .t 62], some (57, false), true⟩,
    ⟨some 64, .un .not (.t 63), some (57, false), true⟩,
    ⟨some 65, .pick (.t 57) (.c (.bool true)) (.t 64), none, true⟩] (some [2, 3, 4, 7, 8, 9, 10, 11, 12, 65]) []) (
  (.cond (.t 65) (
    (.seq (
    .reg none [
      ⟨some 6, .as (.c (.bool false)), none, true⟩] (some [6]) []) (
    .ret))) (
    .skip))))) (
  .reg (some [.loc, .loc, .loc, .loc, .loc, .loc, .loc, .loc, .loc, .dr [73, 74, 75, 79, 80, 81, 82] [], .dr [69, 74, 79, 80] [], .dr [69, 73, 79, 80] [], .dr [69, 79, 80] [], .dr [69, 73, 74, 75, 80] [], .dr [69, 73, 74, 75, 79] [], .dr [69] [], .dr [69] [], .free, .free, .free]) [
    ⟨some 66, .mv (.t 10), none, true⟩,
    ⟨some 67, .mv (.t 10), none, true⟩,
    ⟨some 68, .iaa 2 1 (.t 9) (.t 67), none, true⟩,
    ⟨some 70, .mv (.t 10), none, true⟩,
    ⟨some 71, .fad 0 (.t 3), none, true⟩,
    ⟨some 72, .iaa 2 12 (.t 71) (.t 70), none, true⟩,
    ⟨some 76, .mv (.t 10), none, true⟩,
    ⟨some 77, .fad 0 (.t 3), none, true⟩,
    ⟨some 78, .iaa 2 12 (.t 77) (.t 76), none, true⟩,
    ⟨some 69, .load false 1 (.t 68), none, true⟩,
    ⟨some 73, .load true 12 (.t 72), none, true⟩,
    ⟨some 74, .load true 3 (.t 11), none, true⟩,
    ⟨some 75, .call 20 [.t 73, .t 74], none, true⟩,
    ⟨some 79, .load true 12 (.t 78), none, true⟩,
    ⟨some 80, .load true 3 (.t 12), none, true⟩,
    ⟨some 81, .call 20 [.t 79, .t 80], none, true⟩,
    ⟨some 82, .bsl 3 2 [.nils 2, .nils 2, .nils 2] [(0, .t 75), (1, .t 81)], none, true⟩,
    ⟨some 83, .app 3 (.t 69) (.t 82), none, true⟩,
    ⟨some 84, .iaa 2 1 (.t 9) (.t 66), none, true⟩,
    ⟨none, .store 1 (.t 84) (.t 83), none, true⟩] (some [2, 3, 4, 7, 8, 9, 10]) [11, 12]))))) (some [2, 3, 4, 7, 8, 9, 10]) [6, 11, 12, 47, 55, 63, 75, 81, 82, 83])) (
  .reg none [
    ⟨some 41, .mv (.t 10), none, true⟩,
    ⟨some 42, .bin .add (.t 41) (.c (.int .i64 1)), none, true⟩,
    ⟨some 10, .as (.t 42), none, true⟩] (some [2, 3, 4, 7, 8, 9, 10]) []))))
def A13_L7 : ACode := .loop A13_L7b (some [2, 3, 4, 7, 8, 9, 10]) [6, 11, 12, 47, 55, 63, 75, 81, 82, 83]
/-- ambidexter/ambidexterlaw27.MonitorDetectsContact -/
def A13 : AFn := .code [.t 6] (
(.seq (
.reg none [
  ⟨some 3, .box (.t 0), none, true⟩,
  ⟨some 4, .box (.t 1), none, true⟩,
  ⟨some 6, .as (.c (.bool false)), none, true⟩] (some [2, 3, 4]) []) (
(.seq (
.reg none [
  ⟨some 22, .call 38 [], none, true⟩,
  ⟨some 7, .as (.t 22), none, true⟩] (some [2, 3, 4, 7]) []) (
(.seq (
(.seq (
.reg none [
  ⟨some 23, .load true 44 (.t 3), none, true⟩,
  ⟨some 24, .load true 6 (.t 4), none, true⟩,
  ⟨some 25, .mv (.t 2), none, true⟩,
  ⟨some 26, .call 40 [.t 23, .t 24, .t 25], none, true⟩,
  ⟨some 27, .un .not (.t 26), none, true⟩] (some [2, 3, 4, 7, 27]) []) (
(.cond (.t 27) (
  (.seq (
  .reg none [
    ⟨some 28, .mv (.t 7), none, true⟩,
    ⟨some 6, .as (.t 28), none, true⟩] (some [6]) []) (
  .ret))) (
  .skip))))) (
(.seq (
.reg none [
  ⟨some 29, .fad 42 (.t 3), none, true⟩,
  ⟨some 30, .load false 1 (.t 29), none, true⟩,
  ⟨some 31, .mx [.c (.int .i64 1), .t 30], none, true⟩,
  ⟨some 32, .fad 42 (.t 3), none, true⟩,
  ⟨none, .store 1 (.t 32) (.t 31), none, true⟩] (some [2, 3, 4, 7]) []) (
(.seq (
.reg none [
  ⟨some 33, .load true 44 (.t 3), none, true⟩,
  ⟨some 34, .load true 6 (.t 4), none, true⟩,
  ⟨some 35, .load true 6 (.t 4), none, true⟩,
  ⟨some 36, .mv (.t 2), none, true⟩,
  ⟨some 37, .call 41 [.t 33, .t 34, .t 35, .t 36], none, true⟩,
  ⟨some 8, .as (.t 37), none, true⟩] (some [2, 3, 4, 7, 8]) []) (
(.seq (
.reg none [
  ⟨some 38, .build [.nils 3, .nils 3] [], none, true⟩,
  ⟨some 9, .alloc [.nils 3, .nils 3], none, true⟩,
  ⟨none, .store 2 (.t 9) (.t 38), none, true⟩] (some [2, 3, 4, 7, 8, 9]) []) (
(.seq (
(.seq (
.reg none [
  ⟨some 10, .as (.c (.int .i64 0)), none, true⟩] (some [2, 3, 4, 7, 8, 9, 10]) []) (
(.block 0 (
A13_L7) (some [2, 3, 4, 7, 8, 9]) [6, 10, 11, 12, 47, 55, 63, 75, 81, 82, 83])))) (
(.seq (
.reg none [
  ⟨some 13, .as (.c (.bool false)), none, true⟩] (some [2, 3, 4, 7, 8, 9, 13]) []) (
(.seq (
(.seq (
.reg none [
  ⟨some 14, .as (.c (.int .i64 0)), none, true⟩] (some [2, 3, 4, 7, 8, 9, 13, 14]) []) (
(.block 2 (
A13_L6) (some [2, 3, 4, 7, 8, 9, 13]) [14, 15, 16, 17])))) (
(.seq (
(.seq (
.reg none [
  ⟨some 18, .as (.c (.int .i64 0)), none, true⟩] (some [2, 3, 4, 7, 8, 9, 13, 18]) []) (
(.block 10 (
A13_L2) (some [3, 4, 7, 13]) [6, 18, 19, 20, 21, 157, 165])))) (
(.seq (
.reg none [
  ⟨some 167, .mv (.t 7), none, true⟩,
  ⟨some 168, .mv (.t 167), none, true⟩,
  ⟨some 169, .mv (.t 13), some (168, true), true⟩,
  ⟨some 170, .un .not (.t 169), some (168, true), true⟩,
  ⟨some 171, .mv (.t 170), some (168, true), true⟩,
  ⟨some 172, .load true 44 (.t 3), some (171, false), true⟩,
  ⟨some 173, .load true 6 (.t 4), some (171, false), true⟩,
  ⟨some 174, .call 44 [.t 172, .t 173], some (171, false), true⟩,
  ⟨some 175, .un .not (.t 174), some (171, false), true⟩,
  ⟨some 176, .pick (.t 171) (.c (.bool true)) (.t 175), some (168, true), true⟩,
  ⟨some 177, .pick (.t 168) (.t 176) (.c (.bool false)), none, true⟩,
  ⟨some 6, .as (.t 177), none, true⟩] (some [6]) [3, 4]) (
.ret)))))))))))))))))))))))
/-- ambidexter/ambidexterlaw07.head -/
def A14 : AFn := .code [.t 0] (
(.seq (
.reg none [
  ⟨some 0, .as (.c (.bool false)), none, true⟩] (some []) []) (
(.seq (
.reg none [
  ⟨some 13, .call 45 [], none, true⟩,
  ⟨some 1, .alloc [.int .i64 0, .int .i64 0, .int .i64 0, .int .i64 0, .int .i64 0, .int .i64 0, .int .i64 0, .int .i64 0, .int .i64 0, .int .i64 0, .int .i64 0, .int .i64 0], none, true⟩,
  ⟨none, .store 12 (.t 1) (.t 13), none, true⟩] (some [1]) []) (
(.seq (
.reg (some [.dr [17, 2, 3] [], .dr [14, 17, 2, 3] [], .dr [17, 2, 3] [], .dr [14, 16, 2, 3] [], .dr [14, 16, 17, 2, 3] [], .dr [2, 3] [], .dr [14, 16, 17, 19, 3] [], .dr [14, 16, 17, 19, 2] [], .free, .free]) [
  ⟨some 14, .load true 12 (.t 1), none, true⟩,
  ⟨some 15, .build [.int .i64 0, .int .i64 0, .int .i64 0] [], none, true⟩,
  ⟨some 16, .call 27 [.t 14, .t 15], none, true⟩,
  ⟨some 17, .load true 12 (.t 1), none, true⟩,
  ⟨some 18, .build [.int .i64 0, .int .i64 0, .int .i64 0] [(0, 1, .c (.int .i64 9)), (1, 1, .c (.int .i64 0)), (2, 1, .c (.int .i64 (-9)))], none, true⟩,
  ⟨some 19, .call 27 [.t 17, .t 18], none, true⟩,
  ⟨some 2, .alloc [.int .i64 0, .int .i64 0, .int .i64 0, .int .i64 0, .int .i64 0, .int .i64 0, .int .i64 0, .int .i64 0], none, true⟩,
  ⟨some 3, .alloc [.int .i64 0, .int .i64 0, .int .i64 0, .int .i64 0, .int .i64 0, .int .i64 0, .int .i64 0, .int .i64 0], none, true⟩,
  ⟨none, .store 8 (.t 2) (.t 16), none, true⟩,
  ⟨none, .store 8 (.t 3) (.t 19), none, true⟩] (some [1, 2, 3]) []) (
(.seq (
.reg none [
  ⟨some 20, .load true 12 (.t 1), none, true⟩,
  ⟨some 21, .build [.int .i64 0, .int .i64 0, .int .i64 0] [], none, true⟩,
  ⟨some 22, .call 20 [.t 20, .t 21], none, true⟩,
  ⟨some 4, .alloc [.nils 2, .nils 2, .nils 2], none, true⟩,
  ⟨none, .store 3 (.t 4) (.t 22), none, true⟩] (some [1, 2, 3, 4]) []) (
(.seq (
.reg none [
  ⟨some 24, .load true 12 (.t 1), none, true⟩,
  ⟨some 25, .build [.int .i64 0, .int .i64 0, .int .i64 0] [(0, 1, .c (.int .i64 18)), (1, 1, .c (.int .i64 0)), (2, 1, .c (.int .i64 (-17)))], none, true⟩,
  ⟨some 26, .call 23 [.t 24, .t 25, .c (.int .i64 1), .c (.int .i64 (-1))], none, true⟩,
  ⟨some 23, .mv (.t 26), none, true⟩,
  ⟨some 27, .ext (.t 23) 0, none, true⟩,
  ⟨some 28, .ext (.t 23) 1, none, true⟩,
  ⟨some 5, .alloc [.int .i64 0, .int .i64 0, .int .i64 0], none, true⟩,
  ⟨none, .store 3 (.t 5) (.t 27), none, true⟩,
  ⟨some 6, .as (.t 28), none, true⟩] (some [1, 2, 3, 4, 5, 6]) []) (
(.seq (
.reg none [
  ⟨some 30, .load true 12 (.t 1), none, true⟩,
  ⟨some 31, .build [.int .i64 0, .int .i64 0, .int .i64 0] [(0, 1, .c (.int .i64 18)), (1, 1, .c (.int .i64 0)), (2, 1, .c (.int .i64 (-17)))], none, true⟩,
  ⟨some 32, .call 23 [.t 30, .t 31, .c (.int .i64 0), .c (.int .i64 1)], none, true⟩,
  ⟨some 29, .mv (.t 32), none, true⟩,
  ⟨some 33, .ext (.t 29) 0, none, true⟩,
  ⟨some 34, .ext (.t 29) 1, none, true⟩,
  ⟨some 7, .alloc [.int .i64 0, .int .i64 0, .int .i64 0], none, true⟩,
  ⟨none, .store 3 (.t 7) (.t 33), none, true⟩,
  ⟨some 8, .as (.t 34), none, true⟩] (some [1, 2, 3, 4, 5, 6, 8]) [7]) (
(.seq (
.reg none [
  ⟨some 36, .load true 12 (.t 1), none, true⟩,
  ⟨some 37, .build [.int .i64 0, .int .i64 0, .int .i64 0] [(0, 1, .c (.int .i64 18)), (1, 1, .c (.int .i64 0)), (2, 1, .c (.int .i64 (-17)))], none, true⟩,
  ⟨some 38, .call 23 [.t 36, .t 37, .c (.int .i64 2), .c (.int .i64 (-1))], none, true⟩,
  ⟨some 35, .mv (.t 38), none, true⟩,
  ⟨some 39, .ext (.t 35) 0, none, true⟩,
  ⟨some 40, .ext (.t 35) 1, none, true⟩,
  ⟨some 9, .alloc [.int .i64 0, .int .i64 0, .int .i64 0], none, true⟩,
  ⟨none, .store 3 (.t 9) (.t 39), none, true⟩,
  ⟨some 10, .as (.t 40), none, true⟩] (some [1, 2, 3, 4, 5, 6, 8, 10]) [9]) (
(.seq (
.reg none [
  ⟨some 41, .load true 12 (.t 1), none, true⟩,
  ⟨some 11, .alloc [.int .i64 0, .int .i64 0, .int .i64 0, .int .i64 0, .int .i64 0, .int .i64 0, .int .i64 0, .int .i64 0, .int .i64 0, .int .i64 0, .int .i64 0, .int .i64 0], none, true⟩,
  ⟨none, .store 12 (.t 11) (.t 41), none, true⟩] (some [1, 2, 3, 4, 5, 6, 8, 10, 11]) []) (
(.seq (
.reg none [
  ⟨some 42, .fad 0 (.t 11), none, true⟩,
  ⟨some 43, .fad 0 (.t 42), none, true⟩,
  ⟨none, .store 1 (.t 43) (.c (.int .i64 8)), none, true⟩] (some [1, 2, 3, 4, 5, 6, 8, 10, 11]) []) (
(.seq (
.reg none [
  ⟨some 12, .as (.c (.int .i64 4394000)), none, true⟩] (some [1, 2, 3, 4, 5, 6, 8, 10, 11, 12]) []) (
(.seq (
.reg none [
  ⟨some 44, .load true 8 (.t 2), none, true⟩,
  ⟨some 45, .build [.int .i64 0, .int .i64 0] [], none, true⟩,
  ⟨some 46, .mv (.t 12), none, true⟩,
  ⟨some 47, .build [.int .i64 0, .int .i64 0] [(0, 1, .t 46)], none, true⟩,
  ⟨some 48, .mv (.t 12), none, true⟩,
  ⟨some 49, .bin .mul (.c (.int .i64 2)) (.t 48), none, true⟩,
  ⟨some 50, .build [.int .i64 0, .int .i64 0] [(0, 1, .t 49)], none, true⟩,
  ⟨some 51, .mv (.t 12), none, true⟩,
  ⟨some 52, .bin .mul (.c (.int .i64 3)) (.t 51), none, true⟩,
  ⟨some 53, .build [.int .i64 0, .int .i64 0] [(0, 1, .t 52)], none, true⟩,
  ⟨some 54, .build [.int .i64 0, .int .i64 0, .int .i64 0, .int .i64 0, .int .i64 0, .int .i64 0, .int .i64 0, .int .i64 0] [(0, 2, .t 45), (2, 2, .t 47), (4, 2, .t 50), (6, 2, .t 53)], none, true⟩,
  ⟨some 55, .eqa false [0, 0, 0, 0, 0, 0, 0, 0] (.t 44) (.t 54), none, true⟩,
  ⟨some 56, .mv (.t 55), none, true⟩,
  ⟨some 57, .load true 8 (.t 3), some (56, true), true⟩,
  ⟨some 58, .build [.int .i64 0, .int .i64 0] [], some (56, true), true⟩,
  ⟨some 59, .mv (.t 12), some (56, true), true⟩,
  ⟨some 60, .build [.int .i64 0, .int .i64 0] [(1, 1, .t 59)], some (56, true), true⟩,
  ⟨some 61, .mv (.t 12), some (56, true), true⟩,
  ⟨some 62, .bin .mul (.c (.int .i64 2)) (.t 61), some (56, true), true⟩,
  ⟨some 63, .build [.int .i64 0, .int .i64 0] [(1, 1, .t 62)], some (56, true), true⟩,
  ⟨some 64, .mv (.t 12), some (56, true), true⟩,
  ⟨some 65, .mv (.t 12), some (56, true), true⟩,
  ⟨some 66, .bin .mul (.c (.int .i64 2)) (.t 65), some (56, true), true⟩,
  ⟨some 67, .build [.int .i64 0, .int .i64 0] [(0, 1, .t 64), (1, 1, .t 66)], some (56, true), true⟩,
  ⟨some 68, .build [.int .i64 0, .int .i64 0, .int .i64 0, .int .i64 0, .int .i64 0, .int .i64 0, .int .i64 0, .int .i64 0] [(0, 2, .t 58), (2, 2, .t 60), (4, 2, .t 63), (6, 2, .t 67)], some (56, true), true⟩,
  ⟨some 69, .eqa false [0, 0, 0, 0, 0, 0, 0, 0] (.t 57) (.t 68), some (56, true), true⟩,
  ⟨some 70, .pick (.t 56) (.t 69) (.c (.bool false)), none, true⟩,
  ⟨some 71, .mv (.t 70), none, true⟩,
  ⟨some 72, .iaa 3 1 (.t 4) (.c (.int .i64 1)), some (71, true), true⟩,
  ⟨some 73, .load false 1 (.t 72), some (71, true), true⟩,
  ⟨some 74, .mv (.t 12), some (71, true), true⟩,
  ⟨some 75, .mv (.t 12), some (71, true), true⟩,
  ⟨some 76, .un .neg (.t 75), some (71, true), true⟩,
  ⟨some 77, .build [.int .i64 0, .int .i64 0] [(0, 1, .t 74), (1, 1, .t 76)], some (71, true), true⟩,
  ⟨some 78, .mv (.t 12), some (71, true), true⟩,
  ⟨some 79, .bin .mul (.c (.int .i64 2)) (.t 78), some (71, true), true⟩,
  ⟨some 80, .mv (.t 12), some (71, true), true⟩,
  ⟨some 81, .un .neg (.t 80), some (71, true), true⟩,
  ⟨some 82, .build [.int .i64 0, .int .i64 0] [(0, 1, .t 79), (1, 1, .t 81)], some (71, true), true⟩,
  ⟨some 83, .mv (.t 12), some (71, true), true⟩,
  ⟨some 84, .bin .mul (.c (.int .i64 2)) (.t 83), some (71, true), true⟩,
  ⟨some 85, .mv (.t 12), some (71, true), true⟩,
  ⟨some 86, .build [.int .i64 0, .int .i64 0] [(0, 1, .t 84), (1, 1, .t 85)], some (71, true), true⟩,
  ⟨some 87, .mv (.t 12), some (71, true), true⟩,
  ⟨some 88, .mv (.t 12), some (71, true), true⟩,
  ⟨some 89, .build [.int .i64 0, .int .i64 0] [(0, 1, .t 87), (1, 1, .t 88)], some (71, true), true⟩,
  ⟨some 90, .bsl 2 4 [.int .i64 0, .int .i64 0] [(0, .t 77), (1, .t 82), (2, .t 86), (3, .t 89)], some (71, true), true⟩,
  ⟨some 91, .call 22 [.t 73, .t 90], some (71, true), true⟩,
  ⟨some 92, .pick (.t 71) (.t 91) (.c (.bool false)), none, true⟩,
  ⟨some 93, .mv (.t 92), none, true⟩,
  ⟨some 94, .mv (.t 6), some (93, true), true⟩,
  ⟨some 95, .pick (.t 93) (.t 94) (.c (.bool false)), none, true⟩,
  ⟨some 96, .mv (.t 95), none, true⟩,
  ⟨some 97, .load true 3 (.t 5), some (96, true), true⟩,
  ⟨some 98, .build [.int .i64 0, .int .i64 0, .int .i64 0] [(0, 1, .c (.int .i64 18)), (1, 1, .c (.int .i64 (-1))), (2, 1, .c (.int .i64 (-17)))], some (96, true), true⟩,
  ⟨some 99, .eqa false [0, 0, 0] (.t 97) (.t 98), some (96, true), true⟩,
  ⟨some 100, .pick (.t 96) (.t 99) (.c (.bool false)), none, true⟩,
  ⟨some 101, .mv (.t 100), none, true⟩,
  ⟨some 102, .mv (.t 8), some (101, true), true⟩,
  ⟨some 103, .un .not (.t 102), some (101, true), true⟩,
  ⟨some 104, .pick (.t 101) (.t 103) (.c (.bool false)), none, true⟩,
  ⟨some 105, .mv (.t 104), none, true⟩,
  ⟨some 106, .mv (.t 10), some (105, true), true⟩,
  ⟨some 107, .un .not (.t 106), some (105, true), true⟩,
  ⟨some 108, .pick (.t 105) (.t 107) (.c (.bool false)), none, true⟩,
  ⟨some 109, .mv (.t 108), none, true⟩,
  ⟨some 110, .load true 12 (.t 1), some (109, true), true⟩,
  ⟨some 111, .call 15 [.t 110], some (109, true), true⟩,
  ⟨some 112, .pick (.t 109) (.t 111) (.c (.bool false)), none, true⟩,
  ⟨some 113, .mv (.t 112), none, true⟩,
  ⟨some 114, .load true 12 (.t 11), some (113, true), true⟩,
  ⟨some 115, .call 15 [.t 114], some (113, true), true⟩,
  ⟨some 116, .un .not (.t 115), some (113, true), true⟩,
  ⟨some 117, .pick (.t 113) (.t 116) (.c (.bool false)), none, true⟩,
  ⟨some 118, .mv (.t 117), none, true⟩,
  ⟨some 119, .load true 12 (.t 1), some (118, true), true⟩,
  ⟨some 120, .load true 3 (.t 5), some (118, true), true⟩,
  ⟨some 121, .call 17 [.t 119, .t 120], some (118, true), true⟩,
  ⟨some 122, .pick (.t 118) (.t 121) (.c (.bool false)), none, true⟩,
  ⟨some 123, .mv (.t 122), none, true⟩,
  ⟨some 124, .load true 12 (.t 1), some (123, true), true⟩,
  ⟨some 125, .build [.int .i64 0, .int .i64 0, .int .i64 0] [(0, 1, .c (.int .i64 0)), (1, 1, .c (.int .i64 19)), (2, 1, .c (.int .i64 0))], some (123, true), true⟩,
  ⟨some 126, .call 17 [.t 124, .t 125], some (123, true), true⟩,
  ⟨some 127, .un .not (.t 126), some (123, true), true⟩,
  ⟨some 128, .pick (.t 123) (.t 127) (.c (.bool false)), none, true⟩,
  ⟨some 129, .mv (.t 128), none, true⟩,
  ⟨some 130, .load true 12 (.t 1), some (129, true), true⟩,
  ⟨some 131, .build [.int .i64 0, .int .i64 0, .int .i64 0] [(0, 1, .c (.int .i64 1)), (1, 1, .c (.int .i64 0)), (2, 1, .c (.int .i64 0))], some (129, true), true⟩,
  ⟨some 132, .call 25 [.t 130, .t 131], some (129, true), true⟩,
  ⟨some 133, .ixa true 3 3 (.t 132) (.c (.int .i64 0)), some (129, true), true⟩,
  ⟨some 134, .build [.int .i64 0, .int .i64 0, .int .i64 0] [(0, 1, .c (.int .i64 63)), (1, 1, .c (.int .i64 16)), (2, 1, .c (.int .i64 1))], some (129, true), true⟩,
  ⟨some 135, .eqa false [0, 0, 0] (.t 133) (.t 134), some (129, true), true⟩,
  ⟨some 136, .pick (.t 129) (.t 135) (.c (.bool false)), none, true⟩,
  ⟨some 0, .as (.t 136), none, true⟩] (some [0]) [1, 2, 3, 4, 5, 11]) (
.ret)))))))))))))))))))))))
def A15_L0b : ACode := 
  (.seq (
  .reg none [
    ⟨some 12, .bin .lss (.t 11) (.c (.int .i64 3)), none, true⟩] (some [1, 3, 10, 11, 12]) []) (
  (.seq (
  (.cond (.t 12) (
    .skip) (
    .exit 0))) (
  (.seq (
  (.block 1 (
  (.seq (
  .reg none [
    ⟨some 13, .mv (.t 11), none, true⟩,
    ⟨some 14, .ixa false 3 1 (.t 10) (.t 11), none, true⟩,
    ⟨some 4, .as (.t 13), none, true⟩,
    ⟨some 5, .as (.t 14), none, true⟩] (some [1, 3, 4, 5, 10, 11]) []) (
  (.seq (
  (.seq (
  .reg (some [.free, .free, .free, .free, .free, .free, .free, .dr [] [], .dr [] [], .free, .free, .free, .free, .free, .dr [] [], .dr [] [], .free, .free, .free, .free, .free, .dr [43] [], .dr [43] [], .dr [43] [], .dr [43] [], .dr [39] [], .dr [39] [], .dr [39] [], .dr [39] [], .free, .free]) [
    ⟨some 15, .mv (.t 5), none, true⟩,
    ⟨some 16, .bin .lss (.t 15) (.c (.int .i64 1)), none, true⟩,
    ⟨some 17, .mv (.t 16), none, true⟩,
    ⟨some 18, .mv (.t 5), some (17, false), true⟩,
    ⟨some 19, .bin .gtr (.t 18) (.c (.int .i64 40)), some (17, false), true⟩,
    ⟨some 20, .pick (.t 17) (.c (.bool true)) (.t 19), none, true⟩,
    ⟨some 21, .mv (.t 20), none, true⟩,
    ⟨some 22, .mv (.t 4), some (21, false), true⟩,
    ⟨some 23, .fad 6 (.t 1), some (21, false), true⟩,
    ⟨some 24, .iaa 3 1 (.t 23) (.t 22), some (21, false), true⟩,
    ⟨some 25, .load false 1 (.t 24), some (21, false), true⟩,
    ⟨some 26, .bin .lss (.t 25) (.c (.int .i64 (-17))), some (21, false), true⟩,
    ⟨some 27, .pick (.t 21) (.c (.bool true)) (.t 26), none, true⟩,
    ⟨some 28, .mv (.t 27), none, true⟩,
    ⟨some 29, .mv (.t 4), some (28, false), true⟩,
    ⟨some 30, .fad 9 (.t 1), some (28, false), true⟩,
    ⟨some 31, .iaa 3 1 (.t 30) (.t 29), some (28, false), true⟩,
    ⟨some 32, .load false 1 (.t 31), some (28, false), true⟩,
    ⟨some 33, .bin .gtr (.t 32) (.c (.int .i64 18)), some (28, false), true⟩,
    ⟨some 34, .pick (.t 28) (.c (.bool true)) (.t 33), none, true⟩,
    ⟨some 35, .mv (.t 34), none, true⟩,
    ⟨some 36, .mv (.t 4), some (35, false), true⟩,
    ⟨some 37, .fad 6 (.t 1), some (35, false), true⟩,
    ⟨some 38, .iaa 3 1 (.t 37) (.t 36), some (35, false), true⟩,
    ⟨some 39, .load false 1 (.t 38), some (35, false), true⟩,
    ⟨some 40, .mv (.t 4), some (35, false), true⟩,
    ⟨some 41, .fad 9 (.t 1), some (35, false), true⟩,
    ⟨some 42, .iaa 3 1 (.t 41) (.t 40), some (35, false), true⟩,
    ⟨some 43, .load false 1 (.t 42), some (35, false), true⟩,
    ⟨some 44, .bin .gtr (.t 39) (.t 43), some (35, false), true⟩,
    ⟨some 45, .pick (.t 35) (.c (.bool true)) (.t 44), none, true⟩] (some [1, 3, 5, 10, 11, 45]) []) (
  (.cond (.t 45) (
    (.seq (
    .reg none [
      ⟨some 2, .as (.c (.bool false)), none, true⟩] (some [2]) []) (
    .ret))) (
    .skip))))) (
  .reg none [
    ⟨some 46, .mv (.t 3), none, true⟩,
    ⟨some 47, .mv (.t 5), none, true⟩,
    ⟨some 48, .bin .add (.t 46) (.t 47), none, true⟩,
    ⟨some 3, .as (.t 48), none, true⟩] (some [1, 3, 10, 11]) []))))) (some [1, 3, 10, 11]) [2, 4, 5])) (
  .reg none [
    ⟨some 49, .bin .add (.t 11) (.c (.int .i64 1)), none, true⟩,
    ⟨some 11, .mv (.t 49), none, true⟩] (some [1, 3, 10, 11]) []))))))
def A15_L0 : ACode := .loop A15_L0b (some [1, 3, 10, 11]) [2, 4, 5]
/-- ambidexter/arm.Valid -/
def A15 : AFn := .code [.t 2] (
(.seq (
.reg none [
  ⟨some 1, .box (.t 0), none, true⟩,
  ⟨some 2, .as (.c (.bool false)), none, true⟩] (some [1]) []) (
(.seq (
.reg none [
  ⟨some 7, .fad 5 (.t 1), none, true⟩,
  ⟨some 8, .load false 1 (.t 7), none, true⟩,
  ⟨some 3, .as (.t 8), none, true⟩] (some [1, 3]) []) (
(.seq (
(.seq (
.reg none [
  ⟨some 9, .fad 2 (.t 1), none, true⟩,
  ⟨some 10, .load true 3 (.t 9), none, true⟩,
  ⟨some 11, .mv (.c (.int .i64 0)), none, true⟩] (some [1, 3, 10, 11]) []) (
(.block 0 (
A15_L0) (some [1, 3]) [2, 4, 5])))) (
(.seq (
(.seq (
.reg none [
  ⟨some 50, .fad 5 (.t 1), none, true⟩,
  ⟨some 51, .load false 1 (.t 50), none, true⟩,
  ⟨some 52, .bin .lss (.t 51) (.c (.int .i64 1)), none, true⟩,
  ⟨some 53, .mv (.t 52), none, true⟩,
  ⟨some 54, .fad 5 (.t 1), some (53, false), true⟩,
  ⟨some 55, .load false 1 (.t 54), some (53, false), true⟩,
  ⟨some 56, .bin .gtr (.t 55) (.c (.int .i64 4)), some (53, false), true⟩,
  ⟨some 57, .pick (.t 53) (.c (.bool true)) (.t 56), none, true⟩,
  ⟨some 58, .mv (.t 57), none, true⟩,
  ⟨some 59, .fad 0 (.t 1), some (58, false), true⟩,
  ⟨some 60, .fad 0 (.t 59), some (58, false), true⟩,
  ⟨some 61, .load false 1 (.t 60), some (58, false), true⟩,
  ⟨some 62, .bin .rem (.t 61) (.c (.int .i64 16)), some (58, false), true⟩,
  ⟨some 63, .bin .neq (.t 62) (.c (.int .i64 0)), some (58, false), true⟩,
  ⟨some 64, .pick (.t 58) (.c (.bool true)) (.t 63), none, true⟩,
  ⟨some 65, .mv (.t 64), none, true⟩,
  ⟨some 66, .fad 0 (.t 1), some (65, false), true⟩,
  ⟨some 67, .fad 1 (.t 66), some (65, false), true⟩,
  ⟨some 68, .load false 1 (.t 67), some (65, false), true⟩,
  ⟨some 69, .bin .rem (.t 68) (.c (.int .i64 16)), some (65, false), true⟩,
  ⟨some 70, .bin .neq (.t 69) (.c (.int .i64 0)), some (65, false), true⟩,
  ⟨some 71, .pick (.t 65) (.c (.bool true)) (.t 70), none, true⟩] (some [1, 3, 71]) []) (
(.cond (.t 71) (
  (.seq (
  .reg none [
    ⟨some 2, .as (.c (.bool false)), none, true⟩] (some [2]) []) (
  .ret))) (
  .skip))))) (
(.seq (
.reg none [
  ⟨some 72, .mv (.t 3), none, true⟩,
  ⟨some 73, .bin .sub (.c (.int .i64 100)) (.t 72), none, true⟩,
  ⟨some 74, .bin .mul (.t 73) (.c (.int .i64 4394000)), none, true⟩,
  ⟨some 6, .as (.t 74), none, true⟩] (some [1, 6]) []) (
(.seq (
.reg none [
  ⟨some 75, .fad 0 (.t 1), none, true⟩,
  ⟨some 76, .fad 0 (.t 75), none, true⟩,
  ⟨some 77, .load false 1 (.t 76), none, true⟩,
  ⟨some 78, .fad 0 (.t 1), none, true⟩,
  ⟨some 79, .fad 1 (.t 78), none, true⟩,
  ⟨some 80, .load false 1 (.t 79), none, true⟩,
  ⟨some 81, .mn [.t 77, .t 80], none, true⟩,
  ⟨some 82, .mv (.t 6), none, true⟩,
  ⟨some 83, .un .neg (.t 82), none, true⟩,
  ⟨some 84, .bin .geq (.t 81) (.t 83), none, true⟩,
  ⟨some 85, .mv (.t 84), none, true⟩,
  ⟨some 86, .fad 0 (.t 1), some (85, true), true⟩,
  ⟨some 87, .fad 0 (.t 86), some (85, true), true⟩,
  ⟨some 88, .load false 1 (.t 87), some (85, true), true⟩,
  ⟨some 89, .fad 0 (.t 1), some (85, true), true⟩,
  ⟨some 90, .fad 1 (.t 89), some (85, true), true⟩,
  ⟨some 91, .load false 1 (.t 90), some (85, true), true⟩,
  ⟨some 92, .mx [.t 88, .t 91], some (85, true), true⟩,
  ⟨some 93, .mv (.t 6), some (85, true), true⟩,
  ⟨some 94, .bin .leq (.t 92) (.t 93), some (85, true), true⟩,
  ⟨some 95, .pick (.t 85) (.t 94) (.c (.bool false)), none, true⟩,
  ⟨some 2, .as (.t 95), none, true⟩] (some [2]) [1]) (
.ret)))))))))))))
def A16_L0b : ACode := 
  (.seq (
  (.seq (
  .reg none [
    ⟨some 33, .mv (.t 4), none, true⟩,
    ⟨some 34, .bin .lss (.t 33) (.c (.int .i64 3)), none, true⟩] (some [1, 3, 4, 34]) []) (
  (.cond (.t 34) (
    .skip) (
    .exit 0))))) (
  (.seq (
  (.block 1 (
  (.seq (
  (.seq (
  .reg (some [.dr [] [], .dr [] [], .free, .free, .free, .free, .dr [] [], .dr [] [], .free, .free, .free, .free, .free, .dr [] [], .dr [] [], .free, .free, .free, .free, .free, .dr [] [], .dr [] [], .free, .free, .free, .free, .free, .dr [] [], .dr [] [], .free, .free, .free, .free, .free, .dr [] [], .dr [] [], .free, .free, .free, .free, .free, .dr [85] [], .dr [85] [], .dr [85] [], .dr [85] [], .dr [81] [], .dr [81] [], .dr [81] [], .dr [81] [], .free, .free]) [
    ⟨some 37, .mv (.t 4), none, true⟩,
    ⟨some 38, .fad 2 (.t 1), none, true⟩,
    ⟨some 39, .iaa 3 1 (.t 38) (.t 37), none, true⟩,
    ⟨some 40, .load false 1 (.t 39), none, true⟩,
    ⟨some 41, .bin .lss (.t 40) (.c (.int .i64 1)), none, true⟩,
    ⟨some 42, .mv (.t 41), none, true⟩,
    ⟨some 43, .mv (.t 4), some (42, false), true⟩,
    ⟨some 44, .fad 2 (.t 1), some (42, false), true⟩,
    ⟨some 45, .iaa 3 1 (.t 44) (.t 43), some (42, false), true⟩,
    ⟨some 46, .load false 1 (.t 45), some (42, false), true⟩,
    ⟨some 47, .bin .gtr (.t 46) (.c (.int .i64 40)), some (42, false), true⟩,
    ⟨some 48, .pick (.t 42) (.c (.bool true)) (.t 47), none, true⟩,
    ⟨some 49, .mv (.t 48), none, true⟩,
    ⟨some 50, .mv (.t 4), some (49, false), true⟩,
    ⟨some 51, .fad 6 (.t 1), some (49, false), true⟩,
    ⟨some 52, .iaa 3 1 (.t 51) (.t 50), some (49, false), true⟩,
    ⟨some 53, .load false 1 (.t 52), some (49, false), true⟩,
    ⟨some 54, .bin .lss (.t 53) (.c (.int .i64 (-17))), some (49, false), true⟩,
    ⟨some 55, .pick (.t 49) (.c (.bool true)) (.t 54), none, true⟩,
    ⟨some 56, .mv (.t 55), none, true⟩,
    ⟨some 57, .mv (.t 4), some (56, false), true⟩,
    ⟨some 58, .fad 6 (.t 1), some (56, false), true⟩,
    ⟨some 59, .iaa 3 1 (.t 58) (.t 57), some (56, false), true⟩,
    ⟨some 60, .load false 1 (.t 59), some (56, false), true⟩,
    ⟨some 61, .bin .gtr (.t 60) (.c (.int .i64 18)), some (56, false), true⟩,
    ⟨some 62, .pick (.t 56) (.c (.bool true)) (.t 61), none, true⟩,
    ⟨some 63, .mv (.t 62), none, true⟩,
    ⟨some 64, .mv (.t 4), some (63, false), true⟩,
    ⟨some 65, .fad 9 (.t 1), some (63, false), true⟩,
    ⟨some 66, .iaa 3 1 (.t 65) (.t 64), some (63, false), true⟩,
    ⟨some 67, .load false 1 (.t 66), some (63, false), true⟩,
    ⟨some 68, .bin .lss (.t 67) (.c (.int .i64 (-17))), some (63, false), true⟩,
    ⟨some 69, .pick (.t 63) (.c (.bool true)) (.t 68), none, true⟩,
    ⟨some 70, .mv (.t 69), none, true⟩,
    ⟨some 71, .mv (.t 4), some (70, false), true⟩,
    ⟨some 72, .fad 9 (.t 1), some (70, false), true⟩,
    ⟨some 73, .iaa 3 1 (.t 72) (.t 71), some (70, false), true⟩,
    ⟨some 74, .load false 1 (.t 73), some (70, false), true⟩,
    ⟨some 75, .bin .gtr (.t 74) (.c (.int .i64 18)), some (70, false), true⟩,
    ⟨some 76, .pick (.t 70) (.c (.bool true)) (.t 75), none, true⟩,
    ⟨some 77, .mv (.t 76), none, true⟩,
    ⟨some 78, .mv (.t 4), some (77, false), true⟩,
    ⟨some 79, .fad 6 (.t 1), some (77, false), true⟩,
    ⟨some 80, .iaa 3 1 (.t 79) (.t 78), some (77, false), true⟩,
    ⟨some 81, .load false 1 (.t 80), some (77, false), true⟩,
    ⟨some 82, .mv (.t 4), some (77, false), true⟩,
    ⟨some 83, .fad 9 (.t 1), some (77, false), true⟩,
    ⟨some 84, .iaa 3 1 (.t 83) (.t 82), some (77, false), true⟩,
    ⟨some 85, .load false 1 (.t 84), some (77, false), true⟩,
    ⟨some 86, .bin .gtr (.t 81) (.t 85), some (77, false), true⟩,
    ⟨some 87, .pick (.t 77) (.c (.bool true)) (.t 86), none, true⟩] (some [1, 3, 4, 87]) []) (
  (.cond (.t 87) (
    (.seq (
    .reg none [
      ⟨some 2, .as (.c (.bool false)), none, true⟩] (some [2]) []) (
    .ret))) (
    .skip))))) (
  .reg none [
    ⟨some 88, .mv (.t 3), none, true⟩,
    ⟨some 89, .mv (.t 4), none, true⟩,
    ⟨some 90, .fad 2 (.t 1), none, true⟩,
    ⟨some 91, .iaa 3 1 (.t 90) (.t 89), none, true⟩,
    ⟨some 92, .load false 1 (.t 91), none, true⟩,
    ⟨some 93, .bin .add (.t 88) (.t 92), none, true⟩,
    ⟨some 3, .as (.t 93), none, true⟩] (some [1, 3, 4]) []))) (some [1, 3, 4]) [2])) (
  .reg none [
    ⟨some 35, .mv (.t 4), none, true⟩,
    ⟨some 36, .bin .add (.t 35) (.c (.int .i64 1)), none, true⟩,
    ⟨some 4, .as (.t 36), none, true⟩] (some [1, 3, 4]) []))))
def A16_L0 : ACode := .loop A16_L0b (some [1, 3, 4]) [2]
/-- ambidexter/ambidexterref07.Right -/
def A16 : AFn := .code [.t 2] (
(.seq (
.reg none [
  ⟨some 1, .box (.t 0), none, true⟩,
  ⟨some 2, .as (.c (.bool false)), none, true⟩] (some [1]) []) (
(.seq (
(.seq (
.reg none [
  ⟨some 5, .load true 12 (.t 1), none, true⟩,
  ⟨some 6, .call 46 [.t 5], none, true⟩,
  ⟨some 7, .mv (.t 6), none, true⟩,
  ⟨some 8, .fad 5 (.t 1), some (7, false), true⟩,
  ⟨some 9, .load false 1 (.t 8), some (7, false), true⟩,
  ⟨some 10, .bin .lss (.t 9) (.c (.int .i64 1)), some (7, false), true⟩,
  ⟨some 11, .pick (.t 7) (.c (.bool true)) (.t 10), none, true⟩,
  ⟨some 12, .mv (.t 11), none, true⟩,
  ⟨some 13, .fad 5 (.t 1), some (12, false), true⟩,
  ⟨some 14, .load false 1 (.t 13), some (12, false), true⟩,
  ⟨some 15, .bin .gtr (.t 14) (.c (.int .i64 4)), some (12, false), true⟩,
  ⟨some 16, .pick (.t 12) (.c (.bool true)) (.t 15), none, true⟩,
  ⟨some 17, .mv (.t 16), none, true⟩,
  ⟨some 18, .fad 0 (.t 1), some (17, false), true⟩,
  ⟨some 19, .fad 0 (.t 18), some (17, false), true⟩,
  ⟨some 20, .load false 1 (.t 19), some (17, false), true⟩,
  ⟨some 21, .bin .rem (.t 20) (.c (.int .i64 16)), some (17, false), true⟩,
  ⟨some 22, .bin .neq (.t 21) (.c (.int .i64 0)), some (17, false), true⟩,
  ⟨some 23, .pick (.t 17) (.c (.bool true)) (.t 22), none, true⟩,
  ⟨some 24, .mv (.t 23), none, true⟩,
  ⟨some 25, .fad 0 (.t 1), some (24, false), true⟩,
  ⟨some 26, .fad 1 (.t 25), some (24, false), true⟩,
  ⟨some 27, .load false 1 (.t 26), some (24, false), true⟩,
  ⟨some 28, .bin .rem (.t 27) (.c (.int .i64 16)), some (24, false), true⟩,
  ⟨some 29, .bin .neq (.t 28) (.c (.int .i64 0)), some (24, false), true⟩,
  ⟨some 30, .pick (.t 24) (.c (.bool true)) (.t 29), none, true⟩] (some [1, 30]) []) (
(.cond (.t 30) (
  (.seq (
  .reg none [
    ⟨some 2, .as (.c (.bool false)), none, true⟩] (some [2]) []) (
  .ret))) (
  .skip))))) (
(.seq (
.reg none [
  ⟨some 31, .fad 5 (.t 1), none, true⟩,
  ⟨some 32, .load false 1 (.t 31), none, true⟩,
  ⟨some 3, .as (.t 32), none, true⟩] (some [1, 3]) []) (
(.seq (
(.seq (
.reg none [
  ⟨some 4, .as (.c (.int .i64 0)), none, true⟩] (some [1, 3, 4]) []) (
(.block 0 (
A16_L0) (some [1, 3]) [2, 4])))) (
(.seq (
.reg none [
  ⟨some 94, .fad 0 (.t 1), none, true⟩,
  ⟨some 95, .fad 0 (.t 94), none, true⟩,
  ⟨some 96, .load false 1 (.t 95), none, true⟩,
  ⟨some 97, .call 47 [.t 96], none, true⟩,
  ⟨some 98, .mv (.t 3), none, true⟩,
  ⟨some 99, .bin .mul (.t 98) (.c (.int .i64 4394000)), none, true⟩,
  ⟨some 100, .bin .add (.t 97) (.t 99), none, true⟩,
  ⟨some 101, .bin .leq (.t 100) (.c (.int .i64 439400000)), none, true⟩,
  ⟨some 102, .mv (.t 101), none, true⟩,
  ⟨some 103, .fad 0 (.t 1), some (102, true), true⟩,
  ⟨some 104, .fad 1 (.t 103), some (102, true), true⟩,
  ⟨some 105, .load false 1 (.t 104), some (102, true), true⟩,
  ⟨some 106, .call 47 [.t 105], some (102, true), true⟩,
  ⟨some 107, .mv (.t 3), some (102, true), true⟩,
  ⟨some 108, .bin .mul (.t 107) (.c (.int .i64 4394000)), some (102, true), true⟩,
  ⟨some 109, .bin .add (.t 106) (.t 108), some (102, true), true⟩,
  ⟨some 110, .bin .leq (.t 109) (.c (.int .i64 439400000)), some (102, true), true⟩,
  ⟨some 111, .pick (.t 102) (.t 110) (.c (.bool false)), none, true⟩,
  ⟨some 2, .as (.t 111), none, true⟩] (some [2]) [1]) (
.ret)))))))))))
def A17_L0b : ACode := 
  (.seq (
  .reg none [
    ⟨some 9, .bin .lss (.t 8) (.c (.int .i64 3)), none, true⟩] (some [2, 7, 8, 9]) []) (
  (.seq (
  (.cond (.t 9) (
    .skip) (
    .exit 0))) (
  (.seq (
  (.block 1 (
  (.seq (
  .reg none [
    ⟨some 10, .mv (.t 8), none, true⟩,
    ⟨some 11, .ixa false 3 1 (.t 7) (.t 8), none, true⟩,
    ⟨some 5, .as (.t 10), none, true⟩,
    ⟨some 6, .as (.t 11), none, true⟩] (some [2, 5, 6, 7, 8]) []) (
  (.seq (
  .reg none [
    ⟨some 12, .mv (.t 6), none, true⟩,
    ⟨some 13, .mv (.t 5), none, true⟩,
    ⟨some 14, .fad 6 (.t 2), none, true⟩,
    ⟨some 15, .iaa 3 1 (.t 14) (.t 13), none, true⟩,
    ⟨some 16, .load false 1 (.t 15), none, true⟩,
    ⟨some 17, .bin .lss (.t 12) (.t 16), none, true⟩,
    ⟨some 18, .mv (.t 17), none, true⟩,
    ⟨some 19, .mv (.t 6), some (18, false), true⟩,
    ⟨some 20, .mv (.t 5), some (18, false), true⟩,
    ⟨some 21, .fad 9 (.t 2), some (18, false), true⟩,
    ⟨some 22, .iaa 3 1 (.t 21) (.t 20), some (18, false), true⟩,
    ⟨some 23, .load false 1 (.t 22), some (18, false), true⟩,
    ⟨some 24, .bin .gtr (.t 19) (.t 23), some (18, false), true⟩,
    ⟨some 25, .pick (.t 18) (.c (.bool true)) (.t 24), none, true⟩] (some [2, 7, 8, 25]) []) (
  (.cond (.t 25) (
    (.seq (
    .reg none [
      ⟨some 4, .as (.c (.bool false)), none, true⟩] (some [4]) []) (
    .ret))) (
    .skip))))))) (some [2, 7, 8]) [4, 5, 6])) (
  .reg none [
    ⟨some 26, .bin .add (.t 8) (.c (.int .i64 1)), none, true⟩,
    ⟨some 8, .mv (.t 26), none, true⟩] (some [2, 7, 8]) []))))))
def A17_L0 : ACode := .loop A17_L0b (some [2, 7, 8]) [4, 5, 6]
/-- ambidexter/arm.InLimits -/
def A17 : AFn := .code [.t 4] (
(.seq (
.reg none [
  ⟨some 2, .box (.t 0), none, true⟩,
  ⟨some 3, .box (.t 1), none, true⟩,
  ⟨some 4, .as (.c (.bool false)), none, true⟩] (some [2, 3]) []) (
(.seq (
(.seq (
.reg none [
  ⟨some 7, .load true 3 (.t 3), none, true⟩,
  ⟨some 8, .mv (.c (.int .i64 0)), none, true⟩] (some [2, 7, 8]) [3]) (
(.block 0 (
A17_L0) (some []) [4, 5, 6])))) (
(.seq (
.reg none [
  ⟨some 4, .as (.c (.bool true)), none, true⟩] (some [4]) []) (
.ret)))))))
def A18_L0b : ACode := 
  (.seq (
  (.seq (
  .reg none [
    ⟨some 6, .mv (.t 5), none, true⟩,
    ⟨some 7, .bin .lss (.t 6) (.c (.int .i64 3)), none, true⟩] (some [2, 3, 5, 7]) []) (
  (.cond (.t 7) (
    .skip) (
    .exit 0))))) (
  (.seq (
  (.block 1 (
  (.seq (
  .reg (some [.dr [16] [], .dr [16] [], .dr [16] [], .dr [12] [], .dr [12] [], .dr [12] [], .dr [12] [], .free, .free, .dr [25] [], .dr [25] [], .dr [25] [], .dr [21] [], .dr [21] [], .dr [21] [], .dr [21] [], .free, .free]) [
    ⟨some 10, .mv (.t 5), none, true⟩,
    ⟨some 11, .iaa 3 1 (.t 3) (.t 10), none, true⟩,
    ⟨some 12, .load false 1 (.t 11), none, true⟩,
    ⟨some 13, .mv (.t 5), none, true⟩,
    ⟨some 14, .fad 6 (.t 2), none, true⟩,
    ⟨some 15, .iaa 3 1 (.t 14) (.t 13), none, true⟩,
    ⟨some 16, .load false 1 (.t 15), none, true⟩,
    ⟨some 17, .bin .lss (.t 12) (.t 16), none, true⟩,
    ⟨some 18, .mv (.t 17), none, true⟩,
    ⟨some 19, .mv (.t 5), some (18, false), true⟩,
    ⟨some 20, .iaa 3 1 (.t 3) (.t 19), some (18, false), true⟩,
    ⟨some 21, .load false 1 (.t 20), some (18, false), true⟩,
    ⟨some 22, .mv (.t 5), some (18, false), true⟩,
    ⟨some 23, .fad 9 (.t 2), some (18, false), true⟩,
    ⟨some 24, .iaa 3 1 (.t 23) (.t 22), some (18, false), true⟩,
    ⟨some 25, .load false 1 (.t 24), some (18, false), true⟩,
    ⟨some 26, .bin .gtr (.t 21) (.t 25), some (18, false), true⟩,
    ⟨some 27, .pick (.t 18) (.c (.bool true)) (.t 26), none, true⟩] (some [2, 3, 5, 27]) []) (
  (.cond (.t 27) (
    (.seq (
    .reg none [
      ⟨some 4, .as (.c (.bool false)), none, true⟩] (some [4]) []) (
    .ret))) (
    .skip))))) (some [2, 3, 5]) [4])) (
  .reg none [
    ⟨some 8, .mv (.t 5), none, true⟩,
    ⟨some 9, .bin .add (.t 8) (.c (.int .i64 1)), none, true⟩,
    ⟨some 5, .as (.t 9), none, true⟩] (some [2, 3, 5]) []))))
def A18_L0 : ACode := .loop A18_L0b (some [2, 3, 5]) [4]
/-- ambidexter/ambidexterref07.Fits -/
def A18 : AFn := .code [.t 4] (
(.seq (
.reg none [
  ⟨some 2, .box (.t 0), none, true⟩,
  ⟨some 3, .box (.t 1), none, true⟩,
  ⟨some 4, .as (.c (.bool false)), none, true⟩] (some [2, 3]) []) (
(.seq (
(.seq (
.reg none [
  ⟨some 5, .as (.c (.int .i64 0)), none, true⟩] (some [2, 3, 5]) []) (
(.block 0 (
A18_L0) (some []) [4, 5])))) (
(.seq (
.reg none [
  ⟨some 4, .as (.c (.bool true)), none, true⟩] (some [4]) []) (
.ret)))))))
def A19_L0b : ACode := 
  (.seq (
  (.seq (
  .reg none [
    ⟨some 8, .mv (.t 6), none, true⟩,
    ⟨some 9, .bin .lss (.t 8) (.c (.int .i64 3)), none, true⟩] (some [2, 3, 4, 5, 6, 9]) []) (
  (.cond (.t 9) (
    .skip) (
    .exit 0))))) (
  (.seq (
  (.block 1 (
  .reg (some [.dr [16, 19, 24, 28] [], .dr [19, 24, 28] [], .dr [19, 24, 28] [], .dr [19, 24, 28] [], .dr [19, 24, 28] [], .dr [16, 24, 28] [], .dr [16, 24, 28] [], .dr [16, 24, 28] [], .dr [16, 24, 28] [], .dr [16, 19, 28] [], .dr [16, 19, 28] [], .dr [16, 19, 28] [], .dr [16, 19, 28] [], .dr [16, 19, 24] [], .dr [16, 19, 24] [], .dr [16, 19, 24] [], .dr [16, 19, 24] [], .dr [16, 19] [], .dr [16, 19] [], .dr [16] [], .dr [] [], .free, .free]) [
    ⟨some 12, .mv (.t 6), none, true⟩,
    ⟨some 13, .mv (.t 6), none, true⟩,
    ⟨some 14, .fad 6 (.t 2), none, true⟩,
    ⟨some 15, .iaa 3 1 (.t 14) (.t 13), none, true⟩,
    ⟨some 16, .load false 1 (.t 15), none, true⟩,
    ⟨some 17, .mv (.t 6), none, true⟩,
    ⟨some 18, .iaa 3 1 (.t 3) (.t 17), none, true⟩,
    ⟨some 19, .load false 1 (.t 18), none, true⟩,
    ⟨some 20, .conv .i64 (.t 19), none, true⟩,
    ⟨some 21, .mv (.t 6), none, true⟩,
    ⟨some 22, .fad 9 (.t 2), none, true⟩,
    ⟨some 23, .iaa 3 1 (.t 22) (.t 21), none, true⟩,
    ⟨some 24, .load false 1 (.t 23), none, true⟩,
    ⟨some 25, .mv (.t 6), none, true⟩,
    ⟨some 26, .fad 6 (.t 2), none, true⟩,
    ⟨some 27, .iaa 3 1 (.t 26) (.t 25), none, true⟩,
    ⟨some 28, .load false 1 (.t 27), none, true⟩,
    ⟨some 29, .bin .sub (.t 24) (.t 28), none, true⟩,
    ⟨some 30, .bin .add (.t 29) (.c (.int .i64 1)), none, true⟩,
    ⟨some 31, .bin .rem (.t 20) (.t 30), none, true⟩,
    ⟨some 32, .bin .add (.t 16) (.t 31), none, true⟩,
    ⟨some 33, .iaa 3 1 (.t 5) (.t 12), none, true⟩,
    ⟨none, .store 1 (.t 33) (.t 32), none, true⟩] (some [2, 3, 4, 5, 6]) []) (some [2, 3, 4, 5, 6]) [])) (
  .reg none [
    ⟨some 10, .mv (.t 6), none, true⟩,
    ⟨some 11, .bin .add (.t 10) (.c (.int .i64 1)), none, true⟩,
    ⟨some 6, .as (.t 11), none, true⟩] (some [2, 3, 4, 5, 6]) []))))
def A19_L0 : ACode := .loop A19_L0b (some [2, 3, 4, 5, 6]) []
/-- ambidexter/ambidexterref07.Joint -/
def A19 : AFn := .code [.cell true 3 4] (
(.seq (
.reg none [
  ⟨some 2, .box (.t 0), none, true⟩,
  ⟨some 3, .box (.t 1), none, true⟩,
  ⟨some 4, .alloc [.int .i64 0, .int .i64 0, .int .i64 0], none, true⟩] (some [2, 3, 4]) []) (
(.seq (
.reg none [
  ⟨some 7, .build [.int .i64 0, .int .i64 0, .int .i64 0] [], none, true⟩,
  ⟨some 5, .alloc [.int .i64 0, .int .i64 0, .int .i64 0], none, true⟩,
  ⟨none, .store 3 (.t 5) (.t 7), none, true⟩] (some [2, 3, 4, 5]) []) (
(.seq (
(.seq (
.reg none [
  ⟨some 6, .as (.c (.int .i64 0)), none, true⟩] (some [2, 3, 4, 5, 6]) []) (
(.block 0 (
A19_L0) (some [4, 5]) [6])))) (
(.seq (
.reg none [
  ⟨some 34, .load true 3 (.t 5), none, true⟩,
  ⟨none, .store 3 (.t 4) (.t 34), none, true⟩] (some [4]) [5]) (
.ret)))))))))
def A20_L0b : ACode := 
  (.seq (
  .reg none [
    ⟨some 24, .bin .lss (.t 23) (.c (.int .i64 3)), none, true⟩] (some [4, 5, 6, 7, 22, 23, 24]) []) (
  (.seq (
  (.cond (.t 24) (
    .skip) (
    .exit 0))) (
  (.seq (
  (.block 1 (
  (.seq (
  .reg none [
    ⟨some 25, .mv (.t 23), none, true⟩,
    ⟨some 26, .ixa true 3 3 (.t 22) (.t 23), none, true⟩,
    ⟨some 9, .alloc [.int .i64 0, .int .i64 0, .int .i64 0], none, true⟩,
    ⟨some 8, .as (.t 25), none, true⟩,
    ⟨none, .store 3 (.t 9) (.t 26), none, true⟩] (some [4, 5, 6, 7, 8, 9, 22, 23]) []) (
  .reg (some [.loc, .loc, .loc, .loc, .loc, .loc, .dr [29, 32, 36] [], .dr [28, 32, 36] [], .dr [28, 29, 36] [], .dr [28, 29, 32] [], .free, .free, .free]) [
    ⟨some 27, .mv (.t 8), none, true⟩,
    ⟨some 30, .mv (.t 8), none, true⟩,
    ⟨some 31, .iaa 4 2 (.t 7) (.t 30), none, true⟩,
    ⟨some 33, .mv (.t 8), none, true⟩,
    ⟨some 34, .bin .add (.t 33) (.c (.int .i64 1)), none, true⟩,
    ⟨some 35, .iaa 4 2 (.t 7) (.t 34), none, true⟩,
    ⟨some 28, .load true 15 (.t 6), none, true⟩,
    ⟨some 29, .load true 3 (.t 9), none, true⟩,
    ⟨some 32, .load true 2 (.t 31), none, true⟩,
    ⟨some 36, .load true 2 (.t 35), none, true⟩,
    ⟨some 37, .call 48 [.t 28, .t 29, .t 32, .t 36], none, true⟩,
    ⟨some 38, .iaa 3 1 (.t 5) (.t 27), none, true⟩,
    ⟨none, .store 1 (.t 38) (.t 37), none, true⟩] (some [4, 5, 6, 7, 22, 23]) [9]))) (some [4, 5, 6, 7, 22, 23]) [8, 9, 37])) (
  .reg none [
    ⟨some 39, .bin .add (.t 23) (.c (.int .i64 1)), none, true⟩,
    ⟨some 23, .mv (.t 39), none, true⟩] (some [4, 5, 6, 7, 22, 23]) []))))))
def A20_L0 : ACode := .loop A20_L0b (some [4, 5, 6, 7, 22, 23]) [8, 9, 37]
/-- ambidexter/arm.LinkPolygons -/
def A20 : AFn := .code [.cell true 3 4] (
(.seq (
.reg none [
  ⟨some 2, .box (.t 0), none, true⟩,
  ⟨some 3, .box (.t 1), none, true⟩,
  ⟨some 4, .alloc [.nils 2, .nils 2, .nils 2], none, true⟩] (some [2, 3, 4]) []) (
(.seq (
.reg none [
  ⟨some 5, .alloc [.nils 2, .nils 2, .nils 2], none, true⟩] (some [2, 3, 4, 5]) []) (
(.seq (
.reg none [
  ⟨some 10, .load true 12 (.t 2), none, true⟩,
  ⟨some 11, .load true 3 (.t 3), none, true⟩,
  ⟨some 12, .build [.int .i64 0, .int .i64 0, .int .i64 0, .int .i64 0, .int .i64 0, .int .i64 0, .int .i64 0, .int .i64 0, .int .i64 0, .int .i64 0, .int .i64 0, .int .i64 0, .int .i64 0, .int .i64 0, .int .i64 0] [(0, 12, .t 10), (12, 3, .t 11)], none, true⟩,
  ⟨some 6, .alloc [.int .i64 0, .int .i64 0, .int .i64 0, .int .i64 0, .int .i64 0, .int .i64 0, .int .i64 0, .int .i64 0, .int .i64 0, .int .i64 0, .int .i64 0, .int .i64 0, .int .i64 0, .int .i64 0, .int .i64 0], none, true⟩,
  ⟨none, .store 15 (.t 6) (.t 12), none, true⟩] (some [4, 5, 6]) [2, 3]) (
(.seq (
.reg none [
  ⟨some 13, .fad 0 (.t 6), none, true⟩,
  ⟨some 14, .load true 12 (.t 13), none, true⟩,
  ⟨some 15, .fad 12 (.t 6), none, true⟩,
  ⟨some 16, .load true 3 (.t 15), none, true⟩,
  ⟨some 17, .call 27 [.t 14, .t 16], none, true⟩,
  ⟨some 7, .alloc [.int .i64 0, .int .i64 0, .int .i64 0, .int .i64 0, .int .i64 0, .int .i64 0, .int .i64 0, .int .i64 0], none, true⟩,
  ⟨none, .store 8 (.t 7) (.t 17), none, true⟩] (some [4, 5, 6, 7]) []) (
(.seq (
(.seq (
.reg none [
  ⟨some 18, .fad 0 (.t 6), none, true⟩,
  ⟨some 19, .load true 12 (.t 18), none, true⟩,
  ⟨some 20, .fad 12 (.t 6), none, true⟩,
  ⟨some 21, .load true 3 (.t 20), none, true⟩,
  ⟨some 22, .call 25 [.t 19, .t 21], none, true⟩,
  ⟨some 23, .mv (.c (.int .i64 0)), none, true⟩] (some [4, 5, 6, 7, 22, 23]) []) (
(.block 0 (
A20_L0) (some [4, 5]) [8, 9, 37])))) (
(.seq (
.reg none [
  ⟨some 40, .load true 3 (.t 5), none, true⟩,
  ⟨none, .store 3 (.t 4) (.t 40), none, true⟩] (some [4]) [5]) (
.ret)))))))))))))
def A21_L0b : ACode := 
  (.seq (
  (.seq (
  .reg none [
    ⟨some 19, .mv (.t 8), none, true⟩,
    ⟨some 20, .bin .lss (.t 19) (.c (.int .i64 3)), none, true⟩] (some [2, 4, 5, 6, 7, 8, 20]) []) (
  (.cond (.t 20) (
    .skip) (
    .exit 0))))) (
  (.seq (
  (.block 1 (
  (.seq (
  .reg (some [.dr [27, 9] [], .dr [27, 9] [], .dr [27, 9] [], .dr [25, 9] [], .dr [25, 9] [], .dr [9] [], .dr [25, 27, 28] [], .free]) [
    ⟨some 23, .mv (.t 8), none, true⟩,
    ⟨some 24, .iaa 3 3 (.t 5) (.t 23), none, true⟩,
    ⟨some 25, .load true 3 (.t 24), none, true⟩,
    ⟨some 26, .fad 5 (.t 2), none, true⟩,
    ⟨some 27, .load false 1 (.t 26), none, true⟩,
    ⟨some 28, .call 49 [.t 25, .t 27], none, true⟩,
    ⟨some 9, .alloc [.int .i64 0, .int .i64 0], none, true⟩,
    ⟨none, .store 2 (.t 9) (.t 28), none, true⟩] (some [2, 4, 5, 6, 7, 8, 9]) []) (
  (.seq (
  .reg none [
    ⟨some 29, .fad 1 (.t 9), none, true⟩,
    ⟨some 30, .load false 1 (.t 29), none, true⟩,
    ⟨some 31, .un .neg (.t 30), none, true⟩,
    ⟨some 32, .fad 0 (.t 9), none, true⟩,
    ⟨some 33, .load false 1 (.t 32), none, true⟩,
    ⟨some 34, .build [.int .i64 0, .int .i64 0] [(0, 1, .t 31), (1, 1, .t 33)], none, true⟩,
    ⟨some 10, .alloc [.int .i64 0, .int .i64 0], none, true⟩,
    ⟨none, .store 2 (.t 10) (.t 34), none, true⟩] (some [2, 4, 5, 6, 7, 8, 9, 10]) []) (
  (.seq (
  .reg none [
    ⟨some 35, .fad 1 (.t 9), none, true⟩,
    ⟨some 36, .load false 1 (.t 35), none, true⟩,
    ⟨some 37, .fad 0 (.t 9), none, true⟩,
    ⟨some 38, .load false 1 (.t 37), none, true⟩,
    ⟨some 39, .un .neg (.t 38), none, true⟩,
    ⟨some 40, .build [.int .i64 0, .int .i64 0] [(0, 1, .t 36), (1, 1, .t 39)], none, true⟩,
    ⟨some 11, .alloc [.int .i64 0, .int .i64 0], none, true⟩,
    ⟨none, .store 2 (.t 11) (.t 40), none, true⟩] (some [2, 4, 5, 6, 7, 8, 10, 11]) [9]) (
  .reg (some [.loc, .loc, .loc, .loc, .loc, .loc, .loc, .loc, .loc, .loc, .loc, .dr [45, 50, 51, 56, 57, 61, 62] [], .dr [44, 50, 51, 56, 57, 61, 62] [], .dr [50, 51, 56, 57, 61, 62] [], .dr [44, 45, 46, 51, 56, 57, 61, 62] [], .dr [44, 45, 46, 50, 56, 57, 61, 62] [], .dr [56, 57, 61, 62] [], .dr [44, 45, 46, 50, 51, 52, 57, 61, 62] [], .dr [44, 45, 46, 50, 51, 52, 56, 61, 62] [], .dr [61, 62] [], .dr [44, 45, 46, 50, 51, 52, 56, 57, 58, 62] [], .dr [44, 45, 46, 50, 51, 52, 56, 57, 58, 61] [], .free, .free, .free, .free]) [
    ⟨some 41, .mv (.t 8), none, true⟩,
    ⟨some 42, .mv (.t 8), none, true⟩,
    ⟨some 43, .iaa 4 2 (.t 6) (.t 42), none, true⟩,
    ⟨some 47, .mv (.t 8), none, true⟩,
    ⟨some 48, .bin .add (.t 47) (.c (.int .i64 1)), none, true⟩,
    ⟨some 49, .iaa 4 2 (.t 6) (.t 48), none, true⟩,
    ⟨some 53, .mv (.t 8), none, true⟩,
    ⟨some 54, .bin .add (.t 53) (.c (.int .i64 1)), none, true⟩,
    ⟨some 55, .iaa 4 2 (.t 6) (.t 54), none, true⟩,
    ⟨some 59, .mv (.t 8), none, true⟩,
    ⟨some 60, .iaa 4 2 (.t 6) (.t 59), none, true⟩,
    ⟨some 44, .load true 2 (.t 43), none, true⟩,
    ⟨some 45, .load true 2 (.t 11), none, true⟩,
    ⟨some 46, .call 50 [.t 44, .t 45], none, true⟩,
    ⟨some 50, .load true 2 (.t 49), none, true⟩,
    ⟨some 51, .load true 2 (.t 11), none, true⟩,
    ⟨some 52, .call 50 [.t 50, .t 51], none, true⟩,
    ⟨some 56, .load true 2 (.t 55), none, true⟩,
    ⟨some 57, .load true 2 (.t 10), none, true⟩,
    ⟨some 58, .call 50 [.t 56, .t 57], none, true⟩,
    ⟨some 61, .load true 2 (.t 60), none, true⟩,
    ⟨some 62, .load true 2 (.t 10), none, true⟩,
    ⟨some 63, .call 50 [.t 61, .t 62], none, true⟩,
    ⟨some 64, .bsl 2 4 [.int .i64 0, .int .i64 0] [(0, .t 46), (1, .t 52), (2, .t 58), (3, .t 63)], none, true⟩,
    ⟨some 65, .iaa 3 1 (.t 7) (.t 41), none, true⟩,
    ⟨none, .store 1 (.t 65) (.t 64), none, true⟩] (some [2, 4, 5, 6, 7, 8]) [10, 11]))))))) (some [2, 4, 5, 6, 7, 8]) [9, 10, 11, 28, 46, 52, 58, 63, 64])) (
  .reg none [
    ⟨some 21, .mv (.t 8), none, true⟩,
    ⟨some 22, .bin .add (.t 21) (.c (.int .i64 1)), none, true⟩,
    ⟨some 8, .as (.t 22), none, true⟩] (some [2, 4, 5, 6, 7, 8]) []))))
def A21_L0 : ACode := .loop A21_L0b (some [2, 4, 5, 6, 7, 8]) [9, 10, 11, 28, 46, 52, 58, 63, 64]
/-- ambidexter/ambidexterref07.Links -/
def A21 : AFn := .code [.cell true 3 4] (
(.seq (
.reg none [
  ⟨some 2, .box (.t 0), none, true⟩,
  ⟨some 3, .box (.t 1), none, true⟩,
  ⟨some 4, .alloc [.nils 2, .nils 2, .nils 2], none, true⟩] (some [2, 3, 4]) []) (
(.seq (
.reg none [
  ⟨some 12, .load true 12 (.t 2), none, true⟩,
  ⟨some 13, .load true 3 (.t 3), none, true⟩,
  ⟨some 14, .call 26 [.t 12, .t 13], none, true⟩,
  ⟨some 5, .alloc [.int .i64 0, .int .i64 0, .int .i64 0, .int .i64 0, .int .i64 0, .int .i64 0, .int .i64 0, .int .i64 0, .int .i64 0], none, true⟩,
  ⟨none, .store 9 (.t 5) (.t 14), none, true⟩] (some [2, 3, 4, 5]) []) (
(.seq (
.reg none [
  ⟨some 15, .load true 12 (.t 2), none, true⟩,
  ⟨some 16, .load true 3 (.t 3), none, true⟩,
  ⟨some 17, .call 28 [.t 15, .t 16], none, true⟩,
  ⟨some 6, .alloc [.int .i64 0, .int .i64 0, .int .i64 0, .int .i64 0, .int .i64 0, .int .i64 0, .int .i64 0, .int .i64 0], none, true⟩,
  ⟨none, .store 8 (.t 6) (.t 17), none, true⟩] (some [2, 4, 5, 6]) [3]) (
(.seq (
.reg none [
  ⟨some 18, .build [.nils 2, .nils 2, .nils 2] [], none, true⟩,
  ⟨some 7, .alloc [.nils 2, .nils 2, .nils 2], none, true⟩,
  ⟨none, .store 3 (.t 7) (.t 18), none, true⟩] (some [2, 4, 5, 6, 7]) []) (
(.seq (
(.seq (
.reg none [
  ⟨some 8, .as (.c (.int .i64 0)), none, true⟩] (some [2, 4, 5, 6, 7, 8]) []) (
(.block 0 (
A21_L0) (some [4, 7]) [8, 9, 10, 11, 28, 46, 52, 58, 63, 64])))) (
(.seq (
.reg none [
  ⟨some 66, .load true 3 (.t 7), none, true⟩,
  ⟨none, .store 3 (.t 4) (.t 66), none, true⟩] (some [4]) [7]) (
.ret)))))))))))))
def A22_L0b : ACode := 
  (.seq (
  (.seq (
  .reg none [
    ⟨some 11, .mv (.t 5), none, true⟩,
    ⟨some 12, .mv (.t 0), none, true⟩,
    ⟨some 13, .len 0 (.t 12), none, true⟩,
    ⟨some 14, .bin .lss (.t 11) (.t 13), none, true⟩] (some [0, 1, 5, 14]) []) (
  (.cond (.t 14) (
    .skip) (
    .exit 0))))) (
  (.seq (
  (.block 1 (
  (.seq (
  .reg (some [.dr [23, 24] [], .dr [23, 24] [], .dr [23, 24] [], .dr [23, 24] [], .dr [19, 20] [], .dr [19, 20] [], .dr [19, 20] [], .dr [19, 20] [], .free]) [
    ⟨some 17, .mv (.t 0), none, true⟩,
    ⟨some 18, .mv (.t 5), none, true⟩,
    ⟨some 19, .ias 2 (.t 17) (.t 18), none, true⟩,
    ⟨some 20, .load true 2 (.t 19), none, true⟩,
    ⟨some 21, .mv (.t 1), none, true⟩,
    ⟨some 22, .mv (.t 5), none, true⟩,
    ⟨some 23, .ias 2 (.t 21) (.t 22), none, true⟩,
    ⟨some 24, .load true 2 (.t 23), none, true⟩,
    ⟨some 25, .eqa true [0, 0] (.t 20) (.t 24), none, true⟩] (some [0, 1, 5, 25]) []) (
  (.cond (.t 25) (
    (.seq (
    .reg none [
      ⟨some 4, .as (.c (.bool false)), none, true⟩] (some [4]) []) (
    .ret))) (
    .skip))))) (some [0, 1, 5]) [4])) (
  .reg none [
    ⟨some 15, .mv (.t 5), none, true⟩,
    ⟨some 16, .bin .add (.t 15) (.c (.int .i64 1)), none, true⟩,
    ⟨some 5, .as (.t 16), none, true⟩] (some [0, 1, 5]) []))))
def A22_L0 : ACode := .loop A22_L0b (some [0, 1, 5]) [4]
/-- ambidexter/ambidexterref03.Same -/
def A22 : AFn := .code [.t 4] (
(.seq (
.reg none [
  ⟨some 4, .as (.c (.bool false)), none, true⟩] (some [0, 1]) []) (
(.seq (
(.seq (
.reg none [
  ⟨some 6, .mv (.t 0), none, true⟩,
  ⟨some 7, .len 0 (.t 6), none, true⟩,
  ⟨some 8, .mv (.t 1), none, true⟩,
  ⟨some 9, .len 0 (.t 8), none, true⟩,
  ⟨some 10, .bin .neq (.t 7) (.t 9), none, true⟩] (some [0, 1, 10]) []) (
(.cond (.t 10) (
  (.seq (
  .reg none [
    ⟨some 4, .as (.c (.bool false)), none, true⟩] (some [4]) []) (
  .ret))) (
  .skip))))) (
(.seq (
(.seq (
.reg none [
  ⟨some 5, .as (.c (.int .i64 0)), none, true⟩] (some [0, 1, 5]) []) (
(.block 0 (
A22_L0) (some []) [4, 5])))) (
(.seq (
.reg none [
  ⟨some 4, .as (.c (.bool true)), none, true⟩] (some [4]) []) (
.ret)))))))))
/-- ambidexter/arm.StepJoint -/
def A23 : AFn := .code [.cell true 3 8, .t 9] (
(.seq (
.reg none [
  ⟨some 4, .box (.t 0), none, true⟩,
  ⟨some 5, .box (.t 1), none, true⟩,
  ⟨some 8, .alloc [.int .i64 0, .int .i64 0, .int .i64 0], none, true⟩,
  ⟨some 9, .as (.c (.bool false)), none, true⟩] (some [2, 3, 4, 5, 8]) []) (
(.seq (
(.seq (
.reg none [
  ⟨some 10, .mv (.t 2), none, true⟩,
  ⟨some 11, .bin .lss (.t 10) (.c (.int .i64 0)), none, true⟩,
  ⟨some 12, .mv (.t 11), none, true⟩,
  ⟨some 13, .mv (.t 2), some (12, false), true⟩,
  ⟨some 14, .bin .geq (.t 13) (.c (.int .i64 3)), some (12, false), true⟩,
  ⟨some 15, .pick (.t 12) (.c (.bool true)) (.t 14), none, true⟩,
  ⟨some 16, .mv (.t 15), none, true⟩,
  ⟨some 17, .mv (.t 3), some (16, false), true⟩,
  ⟨some 18, .bin .neq (.t 17) (.c (.int .i64 1)), some (16, false), true⟩,
  ⟨some 19, .mv (.t 18), some (16, false), true⟩,
  ⟨some 20, .mv (.t 3), some (19, true), true⟩,
  ⟨some 21, .bin .neq (.t 20) (.c (.int .i64 (-1))), some (19, true), true⟩,
  ⟨some 22, .pick (.t 19) (.t 21) (.c (.bool false)), some (16, false), true⟩,
  ⟨some 23, .pick (.t 16) (.c (.bool true)) (.t 22), none, true⟩] (some [2, 3, 4, 5, 8, 23]) []) (
(.cond (.t 23) (
  (.seq (
  .reg none [
    ⟨some 24, .build [.int .i64 0, .int .i64 0, .int .i64 0] [], none, true⟩,
    ⟨none, .store 3 (.t 8) (.t 24), none, true⟩,
    ⟨some 9, .as (.c (.bool false)), none, true⟩] (some [8, 9]) []) (
  .ret))) (
  .skip))))) (
(.seq (
.reg none [
  ⟨some 25, .mv (.t 2), none, true⟩,
  ⟨some 26, .iaa 3 1 (.t 5) (.t 25), none, true⟩,
  ⟨some 27, .load false 1 (.t 26), none, true⟩,
  ⟨some 28, .mv (.t 3), none, true⟩,
  ⟨some 29, .bin .add (.t 27) (.t 28), none, true⟩,
  ⟨some 30, .iaa 3 1 (.t 5) (.t 25), none, true⟩,
  ⟨none, .store 1 (.t 30) (.t 29), none, true⟩] (some [4, 5, 8]) []) (
(.seq (
(.seq (
.reg none [
  ⟨some 31, .load true 12 (.t 4), none, true⟩,
  ⟨some 32, .load true 3 (.t 5), none, true⟩,
  ⟨some 33, .call 17 [.t 31, .t 32], none, true⟩,
  ⟨some 34, .un .not (.t 33), none, true⟩] (some [5, 8, 34]) [4]) (
(.cond (.t 34) (
  (.seq (
  .reg none [
    ⟨some 35, .build [.int .i64 0, .int .i64 0, .int .i64 0] [], none, true⟩,
    ⟨none, .store 3 (.t 8) (.t 35), none, true⟩,
    ⟨some 9, .as (.c (.bool false)), none, true⟩] (some [8, 9]) []) (
  .ret))) (
  .skip))))) (
(.seq (
.reg none [
  ⟨some 36, .load true 3 (.t 5), none, true⟩,
  ⟨none, .store 3 (.t 8) (.t 36), none, true⟩,
  ⟨some 9, .as (.c (.bool true)), none, true⟩] (some [8, 9]) [5]) (
.ret)))))))))))
/-- ambidexter/ambidexterref07.Step -/
def A24 : AFn := .code [.cell true 3 8, .t 9] (
(.seq (
.reg none [
  ⟨some 4, .box (.t 0), none, true⟩,
  ⟨some 5, .box (.t 1), none, true⟩,
  ⟨some 8, .alloc [.int .i64 0, .int .i64 0, .int .i64 0], none, true⟩,
  ⟨some 9, .as (.c (.bool false)), none, true⟩] (some [2, 3, 4, 5, 8]) []) (
(.seq (
(.seq (
.reg none [
  ⟨some 10, .mv (.t 2), none, true⟩,
  ⟨some 11, .bin .lss (.t 10) (.c (.int .i64 0)), none, true⟩,
  ⟨some 12, .mv (.t 11), none, true⟩,
  ⟨some 13, .mv (.t 2), some (12, false), true⟩,
  ⟨some 14, .bin .gtr (.t 13) (.c (.int .i64 2)), some (12, false), true⟩,
  ⟨some 15, .pick (.t 12) (.c (.bool true)) (.t 14), none, true⟩,
  ⟨some 16, .mv (.t 15), none, true⟩,
  ⟨some 17, .mv (.t 3), some (16, false), true⟩,
  ⟨some 18, .bin .neq (.t 17) (.c (.int .i64 1)), some (16, false), true⟩,
  ⟨some 19, .mv (.t 18), some (16, false), true⟩,
  ⟨some 20, .mv (.t 3), some (19, true), true⟩,
  ⟨some 21, .bin .neq (.t 20) (.c (.int .i64 (-1))), some (19, true), true⟩,
  ⟨some 22, .pick (.t 19) (.t 21) (.c (.bool false)), some (16, false), true⟩,
  ⟨some 23, .pick (.t 16) (.c (.bool true)) (.t 22), none, true⟩] (some [2, 3, 4, 5, 8, 23]) []) (
(.cond (.t 23) (
  (.seq (
  .reg none [
    ⟨some 24, .build [.int .i64 0, .int .i64 0, .int .i64 0] [], none, true⟩,
    ⟨none, .store 3 (.t 8) (.t 24), none, true⟩,
    ⟨some 9, .as (.c (.bool false)), none, true⟩] (some [8, 9]) []) (
  .ret))) (
  .skip))))) (
(.seq (
.reg none [
  ⟨some 25, .mv (.t 2), none, true⟩,
  ⟨some 26, .mv (.t 2), none, true⟩,
  ⟨some 27, .iaa 3 1 (.t 5) (.t 26), none, true⟩,
  ⟨some 28, .load false 1 (.t 27), none, true⟩,
  ⟨some 29, .mv (.t 3), none, true⟩,
  ⟨some 30, .bin .add (.t 28) (.t 29), none, true⟩,
  ⟨some 31, .iaa 3 1 (.t 5) (.t 25), none, true⟩,
  ⟨none, .store 1 (.t 31) (.t 30), none, true⟩] (some [4, 5, 8]) []) (
(.seq (
(.seq (
.reg none [
  ⟨some 32, .load true 12 (.t 4), none, true⟩,
  ⟨some 33, .load true 3 (.t 5), none, true⟩,
  ⟨some 34, .call 18 [.t 32, .t 33], none, true⟩,
  ⟨some 35, .un .not (.t 34), none, true⟩] (some [5, 8, 35]) [4]) (
(.cond (.t 35) (
  (.seq (
  .reg none [
    ⟨some 36, .build [.int .i64 0, .int .i64 0, .int .i64 0] [], none, true⟩,
    ⟨none, .store 3 (.t 8) (.t 36), none, true⟩,
    ⟨some 9, .as (.c (.bool false)), none, true⟩] (some [8, 9]) []) (
  .ret))) (
  .skip))))) (
(.seq (
.reg none [
  ⟨some 37, .load true 3 (.t 5), none, true⟩,
  ⟨none, .store 3 (.t 8) (.t 37), none, true⟩,
  ⟨some 9, .as (.c (.bool true)), none, true⟩] (some [8, 9]) [5]) (
.ret)))))))))))
def A25_L0b : ACode := 
  (.seq (
  .reg none [
    ⟨some 12, .bin .lss (.t 11) (.c (.int .i64 3)), none, true⟩] (some [4, 5, 6, 10, 11, 12]) []) (
  (.seq (
  (.cond (.t 12) (
    .skip) (
    .exit 0))) (
  (.seq (
  (.block 1 (
  (.seq (
  .reg none [
    ⟨some 13, .mv (.t 11), none, true⟩,
    ⟨some 14, .ixa false 3 1 (.t 10) (.t 11), none, true⟩,
    ⟨some 7, .as (.t 13), none, true⟩,
    ⟨some 8, .as (.t 14), none, true⟩] (some [4, 5, 6, 7, 8, 10, 11]) []) (
  (.seq (
  .reg none [
    ⟨some 15, .load true 3 (.t 6), none, true⟩,
    ⟨some 16, .mv (.t 8), none, true⟩,
    ⟨some 17, .call 51 [.t 15, .t 16], none, true⟩,
    ⟨none, .store 3 (.t 6) (.t 17), none, true⟩] (some [4, 5, 6, 7, 10, 11]) []) (
  .reg none [
    ⟨some 18, .mv (.t 7), none, true⟩,
    ⟨some 19, .load true 3 (.t 6), none, true⟩,
    ⟨some 20, .iaa 3 3 (.t 5) (.t 18), none, true⟩,
    ⟨none, .store 3 (.t 20) (.t 19), none, true⟩] (some [4, 5, 6, 10, 11]) []))))) (some [4, 5, 6, 10, 11]) [7, 8])) (
  .reg none [
    ⟨some 21, .bin .add (.t 11) (.c (.int .i64 1)), none, true⟩,
    ⟨some 11, .mv (.t 21), none, true⟩] (some [4, 5, 6, 10, 11]) []))))))
def A25_L0 : ACode := .loop A25_L0b (some [4, 5, 6, 10, 11]) [7, 8]
/-- ambidexter/arm.LinkDirections -/
def A25 : AFn := .code [.cell true 9 4] (
(.seq (
.reg none [
  ⟨some 2, .box (.t 0), none, true⟩,
  ⟨some 3, .box (.t 1), none, true⟩,
  ⟨some 4, .alloc [.int .i64 0, .int .i64 0, .int .i64 0, .int .i64 0, .int .i64 0, .int .i64 0, .int .i64 0, .int .i64 0, .int .i64 0], none, true⟩] (some [3, 4]) [2]) (
(.seq (
.reg none [
  ⟨some 5, .alloc [.int .i64 0, .int .i64 0, .int .i64 0, .int .i64 0, .int .i64 0, .int .i64 0, .int .i64 0, .int .i64 0, .int .i64 0], none, true⟩] (some [3, 4, 5]) []) (
(.seq (
.reg none [
  ⟨some 9, .build [.int .i64 0, .int .i64 0, .int .i64 0] [(0, 1, .c (.int .i64 1))], none, true⟩,
  ⟨some 6, .alloc [.int .i64 0, .int .i64 0, .int .i64 0], none, true⟩,
  ⟨none, .store 3 (.t 6) (.t 9), none, true⟩] (some [3, 4, 5, 6]) []) (
(.seq (
(.seq (
.reg none [
  ⟨some 10, .load true 3 (.t 3), none, true⟩,
  ⟨some 11, .mv (.c (.int .i64 0)), none, true⟩] (some [4, 5, 6, 10, 11]) [3]) (
(.block 0 (
A25_L0) (some [4, 5]) [7, 8, 17])))) (
(.seq (
.reg none [
  ⟨some 22, .load true 9 (.t 5), none, true⟩,
  ⟨none, .store 9 (.t 4) (.t 22), none, true⟩] (some [4]) [5]) (
.ret)))))))))))
/-- ambidexter/ambidexterref07.Dirs -/
def A26 : AFn := .code [.cell true 9 4] (
(.seq (
.reg none [
  ⟨some 2, .box (.t 0), none, true⟩,
  ⟨some 3, .box (.t 1), none, true⟩,
  ⟨some 4, .alloc [.int .i64 0, .int .i64 0, .int .i64 0, .int .i64 0, .int .i64 0, .int .i64 0, .int .i64 0, .int .i64 0, .int .i64 0], none, true⟩] (some [3, 4]) [2]) (
(.seq (
.reg none [
  ⟨some 7, .build [.int .i64 0, .int .i64 0, .int .i64 0] [(0, 1, .c (.int .i64 1))], none, true⟩,
  ⟨some 8, .iaa 3 1 (.t 3) (.c (.int .i64 0)), none, true⟩,
  ⟨some 9, .load false 1 (.t 8), none, true⟩,
  ⟨some 10, .call 52 [.t 7, .t 9], none, true⟩,
  ⟨some 5, .alloc [.int .i64 0, .int .i64 0, .int .i64 0], none, true⟩,
  ⟨none, .store 3 (.t 5) (.t 10), none, true⟩] (some [3, 4, 5]) []) (
(.seq (
.reg none [
  ⟨some 11, .load true 3 (.t 5), none, true⟩,
  ⟨some 12, .iaa 3 1 (.t 3) (.c (.int .i64 1)), none, true⟩,
  ⟨some 13, .load false 1 (.t 12), none, true⟩,
  ⟨some 14, .call 52 [.t 11, .t 13], none, true⟩,
  ⟨some 6, .alloc [.int .i64 0, .int .i64 0, .int .i64 0], none, true⟩,
  ⟨none, .store 3 (.t 6) (.t 14), none, true⟩] (some [3, 4, 5, 6]) []) (
(.seq (
.reg (some [.dr [16, 17, 19, 20] [], .dr [15, 17, 19, 20] [], .dr [15, 16, 19] [], .dr [15, 16, 17] [], .dr [15, 16, 17] [], .dr [15, 16] [], .free, .free]) [
  ⟨some 15, .load true 3 (.t 5), none, true⟩,
  ⟨some 16, .load true 3 (.t 6), none, true⟩,
  ⟨some 17, .load true 3 (.t 6), none, true⟩,
  ⟨some 18, .iaa 3 1 (.t 3) (.c (.int .i64 2)), none, true⟩,
  ⟨some 19, .load false 1 (.t 18), none, true⟩,
  ⟨some 20, .call 52 [.t 17, .t 19], none, true⟩,
  ⟨some 21, .build [.int .i64 0, .int .i64 0, .int .i64 0, .int .i64 0, .int .i64 0, .int .i64 0, .int .i64 0, .int .i64 0, .int .i64 0] [(0, 3, .t 15), (3, 3, .t 16), (6, 3, .t 20)], none, true⟩,
  ⟨none, .store 9 (.t 4) (.t 21), none, true⟩] (some [4]) [3, 5, 6]) (
.ret)))))))))
def A27_L0b : ACode := 
  (.seq (
  .reg none [
    ⟨some 20, .bin .lss (.t 19) (.c (.int .i64 3)), none, true⟩] (some [2, 4, 5, 7, 18, 19, 20]) []) (
  (.seq (
  (.cond (.t 20) (
    .skip) (
    .exit 0))) (
  (.seq (
  (.block 1 (
  (.seq (
  .reg none [
    ⟨some 21, .mv (.t 19), none, true⟩,
    ⟨some 22, .ixa true 3 3 (.t 18) (.t 19), none, true⟩,
    ⟨some 9, .alloc [.int .i64 0, .int .i64 0, .int .i64 0], none, true⟩,
    ⟨some 8, .as (.t 21), none, true⟩,
    ⟨none, .store 3 (.t 9) (.t 22), none, true⟩] (some [2, 4, 5, 7, 8, 9, 18, 19]) []) (
  .reg (some [.loc, .loc, .loc, .loc, .loc, .loc, .dr [30] [], .dr [26] [], .free, .free, .free, .free]) [
    ⟨some 23, .mv (.t 8), none, true⟩,
    ⟨some 24, .bin .add (.t 23) (.c (.int .i64 1)), none, true⟩,
    ⟨some 25, .mv (.t 7), none, true⟩,
    ⟨some 27, .mv (.t 8), none, true⟩,
    ⟨some 28, .fad 2 (.t 2), none, true⟩,
    ⟨some 29, .iaa 3 1 (.t 28) (.t 27), none, true⟩,
    ⟨some 26, .load true 3 (.t 9), none, true⟩,
    ⟨some 30, .load false 1 (.t 29), none, true⟩,
    ⟨some 31, .call 55 [.t 26, .t 30], none, true⟩,
    ⟨some 32, .cal (.t 25) [.t 31], none, true⟩,
    ⟨some 33, .iaa 4 2 (.t 5) (.t 24), none, true⟩,
    ⟨none, .store 2 (.t 33) (.t 32), none, true⟩] (some [2, 4, 5, 7, 18, 19]) [9]))) (some [2, 4, 5, 7, 18, 19]) [8, 9, 31, 32])) (
  .reg none [
    ⟨some 34, .bin .add (.t 19) (.c (.int .i64 1)), none, true⟩,
    ⟨some 19, .mv (.t 34), none, true⟩] (some [2, 4, 5, 7, 18, 19]) []))))))
def A27_L0 : ACode := .loop A27_L0b (some [2, 4, 5, 7, 18, 19]) [8, 9, 31, 32]
/-- ambidexter/arm.JointPoints -/
def A27 : AFn := .code [.cell true 8 4] (
(.seq (
.reg none [
  ⟨some 2, .box (.t 0), none, true⟩,
  ⟨some 3, .box (.t 1), none, true⟩,
  ⟨some 4, .alloc [.int .i64 0, .int .i64 0, .int .i64 0, .int .i64 0, .int .i64 0, .int .i64 0, .int .i64 0, .int .i64 0], none, true⟩] (some [2, 3, 4]) []) (
(.seq (
.reg none [
  ⟨some 10, .fad 0 (.t 2), none, true⟩,
  ⟨some 11, .load true 2 (.t 10), none, true⟩,
  ⟨some 12, .build [.int .i64 0, .int .i64 0, .int .i64 0, .int .i64 0, .int .i64 0, .int .i64 0, .int .i64 0, .int .i64 0] [(0, 2, .t 11)], none, true⟩,
  ⟨some 5, .alloc [.int .i64 0, .int .i64 0, .int .i64 0, .int .i64 0, .int .i64 0, .int .i64 0, .int .i64 0, .int .i64 0], none, true⟩,
  ⟨none, .store 8 (.t 5) (.t 12), none, true⟩] (some [2, 3, 4, 5]) []) (
(.seq (
.reg none [
  ⟨some 13, .fad 0 (.t 2), none, true⟩,
  ⟨some 14, .load true 2 (.t 13), none, true⟩,
  ⟨some 6, .alloc [.int .i64 0, .int .i64 0], none, true⟩,
  ⟨none, .store 2 (.t 6) (.t 14), none, true⟩] (some [2, 3, 4, 5, 6]) []) (
(.seq (
.reg none [
  ⟨some 15, .mkf (.func 53) [] [.t 6], none, true⟩,
  ⟨some 7, .as (.t 15), none, true⟩] (some [2, 3, 4, 5, 7]) []) (
(.seq (
(.seq (
.reg none [
  ⟨some 16, .load true 12 (.t 2), none, true⟩,
  ⟨some 17, .load true 3 (.t 3), none, true⟩,
  ⟨some 18, .call 25 [.t 16, .t 17], none, true⟩,
  ⟨some 19, .mv (.c (.int .i64 0)), none, true⟩] (some [2, 4, 5, 7, 18, 19]) [3]) (
(.block 0 (
A27_L0) (some [4, 5]) [8, 9, 31, 32])))) (
(.seq (
.reg none [
  ⟨some 35, .load true 8 (.t 5), none, true⟩,
  ⟨none, .store 8 (.t 4) (.t 35), none, true⟩] (some [4]) [5]) (
.ret)))))))))))))
def A28_L0b : ACode := 
  (.seq (
  (.seq (
  .reg none [
    ⟨some 14, .mv (.t 7), none, true⟩,
    ⟨some 15, .bin .lss (.t 14) (.c (.int .i64 3)), none, true⟩] (some [2, 4, 5, 6, 7, 15]) []) (
  (.cond (.t 15) (
    .skip) (
    .exit 0))))) (
  (.seq (
  (.block 1 (
  .reg (some [.loc, .loc, .loc, .loc, .loc, .loc, .loc, .loc, .loc, .dr [25, 29, 30] [], .dr [22, 29] [], .dr [22, 25] [], .dr [22] [], .free, .free, .free]) [
    ⟨some 18, .mv (.t 7), none, true⟩,
    ⟨some 19, .bin .add (.t 18) (.c (.int .i64 1)), none, true⟩,
    ⟨some 20, .mv (.t 7), none, true⟩,
    ⟨some 21, .iaa 4 2 (.t 6) (.t 20), none, true⟩,
    ⟨some 23, .mv (.t 7), none, true⟩,
    ⟨some 24, .iaa 3 3 (.t 5) (.t 23), none, true⟩,
    ⟨some 26, .mv (.t 7), none, true⟩,
    ⟨some 27, .fad 2 (.t 2), none, true⟩,
    ⟨some 28, .iaa 3 1 (.t 27) (.t 26), none, true⟩,
    ⟨some 22, .load true 2 (.t 21), none, true⟩,
    ⟨some 25, .load true 3 (.t 24), none, true⟩,
    ⟨some 29, .load false 1 (.t 28), none, true⟩,
    ⟨some 30, .call 49 [.t 25, .t 29], none, true⟩,
    ⟨some 31, .call 50 [.t 22, .t 30], none, true⟩,
    ⟨some 32, .iaa 4 2 (.t 6) (.t 19), none, true⟩,
    ⟨none, .store 2 (.t 32) (.t 31), none, true⟩] (some [2, 4, 5, 6, 7]) []) (some [2, 4, 5, 6, 7]) [30, 31])) (
  .reg none [
    ⟨some 16, .mv (.t 7), none, true⟩,
    ⟨some 17, .bin .add (.t 16) (.c (.int .i64 1)), none, true⟩,
    ⟨some 7, .as (.t 17), none, true⟩] (some [2, 4, 5, 6, 7]) []))))
def A28_L0 : ACode := .loop A28_L0b (some [2, 4, 5, 6, 7]) [30, 31]
/-- ambidexter/ambidexterref07.Points -/
def A28 : AFn := .code [.cell true 8 4] (
(.seq (
.reg none [
  ⟨some 2, .box (.t 0), none, true⟩,
  ⟨some 3, .box (.t 1), none, true⟩,
  ⟨some 4, .alloc [.int .i64 0, .int .i64 0, .int .i64 0, .int .i64 0, .int .i64 0, .int .i64 0, .int .i64 0, .int .i64 0], none, true⟩] (some [2, 3, 4]) []) (
(.seq (
.reg none [
  ⟨some 8, .load true 12 (.t 2), none, true⟩,
  ⟨some 9, .load true 3 (.t 3), none, true⟩,
  ⟨some 10, .call 26 [.t 8, .t 9], none, true⟩,
  ⟨some 5, .alloc [.int .i64 0, .int .i64 0, .int .i64 0, .int .i64 0, .int .i64 0, .int .i64 0, .int .i64 0, .int .i64 0, .int .i64 0], none, true⟩,
  ⟨none, .store 9 (.t 5) (.t 10), none, true⟩] (some [2, 4, 5]) [3]) (
(.seq (
.reg none [
  ⟨some 11, .fad 0 (.t 2), none, true⟩,
  ⟨some 12, .load true 2 (.t 11), none, true⟩,
  ⟨some 13, .build [.int .i64 0, .int .i64 0, .int .i64 0, .int .i64 0, .int .i64 0, .int .i64 0, .int .i64 0, .int .i64 0] [(0, 2, .t 12)], none, true⟩,
  ⟨some 6, .alloc [.int .i64 0, .int .i64 0, .int .i64 0, .int .i64 0, .int .i64 0, .int .i64 0, .int .i64 0, .int .i64 0], none, true⟩,
  ⟨none, .store 8 (.t 6) (.t 13), none, true⟩] (some [2, 4, 5, 6]) []) (
(.seq (
(.seq (
.reg none [
  ⟨some 7, .as (.c (.int .i64 0)), none, true⟩] (some [2, 4, 5, 6, 7]) []) (
(.block 0 (
A28_L0) (some [4, 6]) [7, 30, 31])))) (
(.seq (
.reg none [
  ⟨some 33, .load true 8 (.t 6), none, true⟩,
  ⟨none, .store 8 (.t 4) (.t 33), none, true⟩] (some [4]) [6]) (
.ret)))))))))))
/-- ambidexter/ambidexterlaw07.far -/
def A29 : AFn := .code [.t 4] (
(.seq (
.reg none [
  ⟨some 2, .box (.t 0), none, true⟩,
  ⟨some 3, .box (.t 1), none, true⟩,
  ⟨some 4, .as (.c (.int .i64 0)), none, true⟩] (some [2, 3]) []) (
(.seq (
.reg (some [.dr [10, 14, 16] [], .dr [10, 14, 16] [], .dr [8, 14, 16] [], .dr [8, 14, 16] [], .dr [14, 16] [], .dr [14, 16] [], .dr [8, 10, 16] [], .dr [8, 10, 16] [], .dr [8, 10, 14] [], .dr [8, 10, 14] [], .dr [8, 10] [], .dr [8, 10] [], .dr [14, 16] [], .free]) [
  ⟨some 7, .fad 0 (.t 2), none, true⟩,
  ⟨some 8, .load false 1 (.t 7), none, true⟩,
  ⟨some 9, .fad 0 (.t 3), none, true⟩,
  ⟨some 10, .load false 1 (.t 9), none, true⟩,
  ⟨some 11, .bin .sub (.t 8) (.t 10), none, true⟩,
  ⟨some 12, .bin .quo (.t 11) (.c (.int .i64 16)), none, true⟩,
  ⟨some 13, .fad 1 (.t 2), none, true⟩,
  ⟨some 14, .load false 1 (.t 13), none, true⟩,
  ⟨some 15, .fad 1 (.t 3), none, true⟩,
  ⟨some 16, .load false 1 (.t 15), none, true⟩,
  ⟨some 17, .bin .sub (.t 14) (.t 16), none, true⟩,
  ⟨some 18, .bin .quo (.t 17) (.c (.int .i64 16)), none, true⟩,
  ⟨some 5, .as (.t 12), none, true⟩,
  ⟨some 6, .as (.t 18), none, true⟩] (some [5, 6]) [2, 3]) (
(.seq (
.reg none [
  ⟨some 19, .mv (.t 5), none, true⟩,
  ⟨some 20, .mv (.t 5), none, true⟩,
  ⟨some 21, .bin .mul (.t 19) (.t 20), none, true⟩,
  ⟨some 22, .mv (.t 6), none, true⟩,
  ⟨some 23, .mv (.t 6), none, true⟩,
  ⟨some 24, .bin .mul (.t 22) (.t 23), none, true⟩,
  ⟨some 25, .bin .add (.t 21) (.t 24), none, true⟩,
  ⟨some 4, .as (.t 25), none, true⟩] (some [4]) []) (
.ret)))))))
/-- ambidexter/ambidexterref03.May -/
def A30 : AFn := .code [.t 2] (
(.seq (
.reg none [
  ⟨some 1, .box (.t 0), none, true⟩,
  ⟨some 2, .as (.c (.bool false)), none, true⟩] (some [1]) []) (
(.seq (
.reg none [
  ⟨some 3, .as (.c (.int .i64 439400000)), none, true⟩] (some [1, 3]) []) (
(.seq (
.reg none [
  ⟨some 4, .fad 0 (.t 1), none, true⟩,
  ⟨some 5, .load false 1 (.t 4), none, true⟩,
  ⟨some 6, .mv (.t 3), none, true⟩,
  ⟨some 7, .un .neg (.t 6), none, true⟩,
  ⟨some 8, .bin .geq (.t 5) (.t 7), none, true⟩,
  ⟨some 9, .mv (.t 8), none, true⟩,
  ⟨some 10, .fad 0 (.t 1), some (9, true), true⟩,
  ⟨some 11, .load false 1 (.t 10), some (9, true), true⟩,
  ⟨some 12, .mv (.t 3), some (9, true), true⟩,
  ⟨some 13, .bin .leq (.t 11) (.t 12), some (9, true), true⟩,
  ⟨some 14, .pick (.t 9) (.t 13) (.c (.bool false)), none, true⟩,
  ⟨some 15, .mv (.t 14), none, true⟩,
  ⟨some 16, .fad 1 (.t 1), some (15, true), true⟩,
  ⟨some 17, .load false 1 (.t 16), some (15, true), true⟩,
  ⟨some 18, .mv (.t 3), some (15, true), true⟩,
  ⟨some 19, .un .neg (.t 18), some (15, true), true⟩,
  ⟨some 20, .bin .geq (.t 17) (.t 19), some (15, true), true⟩,
  ⟨some 21, .pick (.t 15) (.t 20) (.c (.bool false)), none, true⟩,
  ⟨some 22, .mv (.t 21), none, true⟩,
  ⟨some 23, .fad 1 (.t 1), some (22, true), true⟩,
  ⟨some 24, .load false 1 (.t 23), some (22, true), true⟩,
  ⟨some 25, .mv (.t 3), some (22, true), true⟩,
  ⟨some 26, .bin .leq (.t 24) (.t 25), some (22, true), true⟩,
  ⟨some 27, .pick (.t 22) (.t 26) (.c (.bool false)), none, true⟩,
  ⟨some 2, .as (.t 27), none, true⟩] (some [2]) [1]) (
.ret)))))))
/-- ambidexter/polygon.Valid -/
def A31 : AFn := .code [.t 2] (
(.seq (
.reg none [
  ⟨some 2, .as (.c (.bool false)), none, true⟩] (some [0]) []) (
(.seq (
(.seq (
.reg none [
  ⟨some 3, .mv (.t 0), none, true⟩,
  ⟨some 4, .len 0 (.t 3), none, true⟩,
  ⟨some 5, .bin .lss (.t 4) (.c (.int .i64 3)), none, true⟩,
  ⟨some 6, .mv (.t 5), none, true⟩,
  ⟨some 7, .mv (.t 0), some (6, false), true⟩,
  ⟨some 8, .len 0 (.t 7), some (6, false), true⟩,
  ⟨some 9, .bin .gtr (.t 8) (.c (.int .i64 12)), some (6, false), true⟩,
  ⟨some 10, .pick (.t 6) (.c (.bool true)) (.t 9), none, true⟩,
  ⟨some 11, .mv (.t 10), none, true⟩,
  ⟨some 12, .mv (.t 0), some (11, false), true⟩,
  ⟨some 13, .call 56 [.t 12, .fu 57], some (11, false), true⟩,
  ⟨some 14, .pick (.t 11) (.c (.bool true)) (.t 13), none, true⟩] (some [0, 14]) []) (
(.cond (.t 14) (
  (.seq (
  .reg none [
    ⟨some 2, .as (.c (.bool false)), none, true⟩] (some [2]) []) (
  .ret))) (
  .skip))))) (
(.seq (
.reg none [
  ⟨some 15, .mv (.t 0), none, true⟩,
  ⟨some 16, .call 59 [.t 15], none, true⟩,
  ⟨some 17, .mv (.t 16), none, true⟩,
  ⟨some 18, .mv (.t 0), some (17, true), true⟩,
  ⟨some 19, .call 32 [.t 18], some (17, true), true⟩,
  ⟨some 20, .bin .gtr (.t 19) (.c (.int .i64 0)), some (17, true), true⟩,
  ⟨some 21, .pick (.t 17) (.t 20) (.c (.bool false)), none, true⟩,
  ⟨some 2, .as (.t 21), none, true⟩] (some [2]) []) (
.ret)))))))
def A32_R0a : ACode := 
  .reg none [
    ⟨some 5, .alloc [.int .i64 0, .int .i64 0, .int .i64 0, .int .i64 0], none, true⟩,
    ⟨none, .store 4 (.t 5) (.t 9), none, true⟩] (some [3, 5]) []
def A32_R0b : ACode := 
  (.block 1 (
  .reg none [
    ⟨some 10, .load false 1 (.t 3), none, true⟩,
    ⟨some 11, .iaa 2 2 (.t 5) (.c (.int .i64 0)), none, true⟩,
    ⟨some 12, .fad 0 (.t 11), none, true⟩,
    ⟨some 13, .load false 1 (.t 12), none, true⟩,
    ⟨some 14, .iaa 2 2 (.t 5) (.c (.int .i64 1)), none, true⟩,
    ⟨some 15, .fad 1 (.t 14), none, true⟩,
    ⟨some 16, .load false 1 (.t 15), none, true⟩,
    ⟨some 17, .bin .mul (.t 13) (.t 16), none, true⟩,
    ⟨some 18, .iaa 2 2 (.t 5) (.c (.int .i64 0)), none, true⟩,
    ⟨some 19, .fad 1 (.t 18), none, true⟩,
    ⟨some 20, .load false 1 (.t 19), none, true⟩,
    ⟨some 21, .iaa 2 2 (.t 5) (.c (.int .i64 1)), none, true⟩,
    ⟨some 22, .fad 0 (.t 21), none, true⟩,
    ⟨some 23, .load false 1 (.t 22), none, true⟩,
    ⟨some 24, .bin .mul (.t 20) (.t 23), none, true⟩,
    ⟨some 25, .bin .sub (.t 17) (.t 24), none, true⟩,
    ⟨some 26, .bin .add (.t 10) (.t 25), none, true⟩,
    ⟨none, .store 1 (.t 3) (.t 26), none, true⟩] (some []) [3, 5]) (some []) [])
def A32_R0 : ACode := .rf 0 (.t 7) [8, 9]  A32_R0a A32_R0b
/-- ambidexter/polygon.DoubleArea -/
def A32 : AFn := .code [.t 2] (
(.seq (
.reg none [
  ⟨some 2, .as (.c (.int .i64 0)), none, true⟩] (some [0, 2]) []) (
(.seq (
.reg none [
  ⟨some 3, .alloc [.int .i64 0], none, true⟩,
  ⟨none, .store 1 (.t 3) (.c (.int .i64 0)), none, true⟩] (some [0, 2, 3]) []) (
(.seq (
(.seq (
.reg none [
  ⟨some 6, .mv (.t 0), none, true⟩,
  ⟨some 7, .call 60 [.t 6], none, true⟩] (some [2, 3, 7]) []) (
(.block 0 (
A32_R0) (some [3]) [5])))) (
(.seq (
.reg none [
  ⟨some 27, .load false 1 (.t 3), none, true⟩,
  ⟨some 2, .as (.t 27), none, true⟩] (some [2]) [3]) (
.ret)))))))))
def A33_R0a : ACode := 
  .reg none [
    ⟨some 7, .alloc [.int .i64 0, .int .i64 0, .int .i64 0, .int .i64 0], none, true⟩,
    ⟨none, .store 4 (.t 7) (.t 13), none, true⟩] (some [3, 4, 5, 7]) []
def A33_R0b : ACode := 
  (.block 1 (
  (.seq (
  .reg (some [.dr [17, 8, 9] [], .dr [17, 8, 9] [], .dr [15, 8, 9] [], .dr [15, 8, 9] [], .dr [15, 17, 9] [], .dr [15, 17, 8] [], .dr [17] [8], .free]) [
    ⟨some 14, .iaa 2 2 (.t 7) (.c (.int .i64 0)), none, true⟩,
    ⟨some 15, .load true 2 (.t 14), none, true⟩,
    ⟨some 16, .iaa 2 2 (.t 7) (.c (.int .i64 1)), none, true⟩,
    ⟨some 17, .load true 2 (.t 16), none, true⟩,
    ⟨some 8, .alloc [.int .i64 0, .int .i64 0], none, true⟩,
    ⟨some 9, .alloc [.int .i64 0, .int .i64 0], none, true⟩,
    ⟨none, .store 2 (.t 8) (.t 15), none, true⟩,
    ⟨none, .store 2 (.t 9) (.t 17), none, true⟩] (some [3, 4, 5, 8, 9]) [7]) (
  (.seq (
  (.seq (
  .reg none [
    ⟨some 18, .load true 2 (.t 8), none, true⟩,
    ⟨some 19, .load true 2 (.t 9), none, true⟩,
    ⟨some 20, .load true 2 (.t 3), none, true⟩,
    ⟨some 21, .call 61 [.t 18, .t 19, .t 20], none, true⟩] (some [3, 4, 5, 8, 9, 21]) []) (
  (.cond (.t 21) (
    (.seq (
    .reg none [
      ⟨none, .store 1 (.t 4) (.c (.int .i64 0)), none, true⟩] (some []) []) (
    .ret))) (
    .skip))))) (
  (.seq (
  (.seq (
  .reg none [
    ⟨some 22, .fad 1 (.t 8), none, true⟩,
    ⟨some 23, .load false 1 (.t 22), none, true⟩,
    ⟨some 24, .fad 1 (.t 3), none, true⟩,
    ⟨some 25, .load false 1 (.t 24), none, true⟩,
    ⟨some 26, .bin .gtr (.t 23) (.t 25), none, true⟩,
    ⟨some 27, .fad 1 (.t 9), none, true⟩,
    ⟨some 28, .load false 1 (.t 27), none, true⟩,
    ⟨some 29, .fad 1 (.t 3), none, true⟩,
    ⟨some 30, .load false 1 (.t 29), none, true⟩,
    ⟨some 31, .bin .gtr (.t 28) (.t 30), none, true⟩,
    ⟨some 32, .bib false (.t 26) (.t 31), none, true⟩] (some [3, 5, 8, 9, 32]) []) (
  (.cond (.t 32) (
    .exit 1) (
    .skip))))) (
  (.seq (
  .reg (some [.dr [34, 35, 39, 41] [], .dr [33, 35, 39, 41] [], .dr [33, 34, 39, 41] [], .dr [39, 41] [], .dr [39, 41] [], .dr [33, 34, 35, 36, 41] [], .dr [33, 34, 35, 36, 41] [], .dr [33, 34, 35, 36, 39] [], .dr [33, 34, 35, 36, 39] [], .dr [33, 34, 35, 36] [], .free]) [
    ⟨some 33, .load true 2 (.t 8), none, true⟩,
    ⟨some 34, .load true 2 (.t 9), none, true⟩,
    ⟨some 35, .load true 2 (.t 3), none, true⟩,
    ⟨some 36, .call 62 [.t 33, .t 34, .t 35], none, true⟩,
    ⟨some 37, .bin .gtr (.t 36) (.c (.int .i64 0)), none, true⟩,
    ⟨some 38, .fad 1 (.t 9), none, true⟩,
    ⟨some 39, .load false 1 (.t 38), none, true⟩,
    ⟨some 40, .fad 1 (.t 8), none, true⟩,
    ⟨some 41, .load false 1 (.t 40), none, true⟩,
    ⟨some 42, .bin .gtr (.t 39) (.t 41), none, true⟩,
    ⟨some 43, .bib false (.t 37) (.t 42), none, true⟩] (some [5, 43]) [3, 8, 9]) (
  (.cond (.t 43) (
    .reg none [
      ⟨some 44, .load false 1 (.t 5), none, true⟩,
      ⟨some 45, .un .not (.t 44), none, true⟩,
      ⟨none, .store 1 (.t 5) (.t 45), none, true⟩] (some []) [5]) (
    .skip))))))))))) (some []) [8, 9, 21, 36])
def A33_R0 : ACode := .rf 0 (.t 11) [12, 13]  A33_R0a A33_R0b
/-- ambidexter/polygon.Locate -/
def A33 : AFn := .code [.cell false 1 4] (
(.seq (
.reg none [
  ⟨some 3, .box (.t 1), none, true⟩,
  ⟨some 4, .alloc [.int .i64 0], none, true⟩] (some [0, 3, 4]) []) (
(.seq (
.reg none [
  ⟨some 5, .alloc [.bool false], none, true⟩,
  ⟨none, .store 1 (.t 5) (.c (.bool false)), none, true⟩] (some [0, 3, 4, 5]) []) (
(.seq (
(.seq (
.reg none [
  ⟨some 10, .mv (.t 0), none, true⟩,
  ⟨some 11, .call 60 [.t 10], none, true⟩] (some [3, 4, 5, 11]) []) (
(.block 0 (
A33_R0) (some [4, 5]) [7, 8, 9, 21, 36])))) (
(.seq (
(.seq (
.reg none [
  ⟨some 46, .load false 1 (.t 5), none, true⟩] (some [4, 46]) [5]) (
(.cond (.t 46) (
  (.seq (
  .reg none [
    ⟨none, .store 1 (.t 4) (.c (.int .i64 1)), none, true⟩] (some [4]) []) (
  .ret))) (
  .skip))))) (
(.seq (
.reg none [
  ⟨none, .store 1 (.t 4) (.c (.int .i64 (-1))), none, true⟩] (some [4]) []) (
.ret)))))))))))

end Go.Proofs.Ytnecdcaaknhgpaa
