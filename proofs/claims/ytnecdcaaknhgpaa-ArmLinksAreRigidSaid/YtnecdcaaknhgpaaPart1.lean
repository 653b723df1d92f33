/- Part of the proof: the evaluation of the program's code and its tie to the machine, or what functions of the program compute over it. -/
import Derived.Test.YtnecdcaaknhgpaaEng6
namespace Go.Proofs.Ytnecdcaaknhgpaa
open Go Go.Zv
set_option maxRecDepth 100000
def A3_L0b : ACode := 
  (.seq (
  (.seq (
  .reg none [
    ⟨some 48, .mv (.t 15), none, true⟩,
    ⟨some 49, .bin .lss (.t 48) (.c (.int .i64 3)), none, true⟩] (some [3, 4, 5, 11, 12, 13, 14, 15, 49]) []) (
  (.cond (.t 49) (
    .skip) (
    .exit 0))))) (
  (.seq (
  (.block 1 (
  (.seq (
  .reg (some [.dr [57] [], .dr [57] [], .dr [57] [], .dr [54] [], .dr [54] [], .dr [54] [], .free, .free]) [
    ⟨some 52, .mv (.t 15), none, true⟩,
    ⟨some 53, .iaa 3 1 (.t 13) (.t 52), none, true⟩,
    ⟨some 54, .load false 1 (.t 53), none, true⟩,
    ⟨some 55, .mv (.t 15), none, true⟩,
    ⟨some 56, .iaa 3 1 (.t 14) (.t 55), none, true⟩,
    ⟨some 57, .load false 1 (.t 56), none, true⟩,
    ⟨some 58, .call 22 [.t 54, .t 57], none, true⟩,
    ⟨some 59, .un .not (.t 58), none, true⟩] (some [3, 4, 5, 11, 12, 13, 14, 15, 59]) []) (
  (.cond (.t 59) (
    (.seq (
    .reg none [
      ⟨some 10, .as (.c (.bool false)), none, true⟩] (some [10]) []) (
    .ret))) (
    .skip))))) (some [3, 4, 5, 11, 12, 13, 14, 15]) [10, 58])) (
  .reg none [
    ⟨some 50, .mv (.t 15), none, true⟩,
    ⟨some 51, .bin .add (.t 50) (.c (.int .i64 1)), none, true⟩,
    ⟨some 15, .as (.t 51), none, true⟩] (some [3, 4, 5, 11, 12, 13, 14, 15]) []))))
def A3_L0 : ACode := .loop A3_L0b (some [3, 4, 5, 11, 12, 13, 14, 15]) [10, 58]
/-- ambidexter/ambidexterlaw07.ArmMatchesReference -/
def A3 : AFn := .code [.t 10] (
(.seq (
.reg none [
  ⟨some 5, .box (.t 0), none, true⟩,
  ⟨some 6, .box (.t 1), none, true⟩,
  ⟨some 7, .box (.t 2), none, true⟩,
  ⟨some 10, .as (.c (.bool false)), none, true⟩] (some [3, 4, 5, 6, 7]) []) (
(.seq (
.reg none [
  ⟨some 20, .call 14 [], none, true⟩,
  ⟨some 11, .as (.t 20), none, true⟩] (some [3, 4, 5, 6, 7, 11]) []) (
(.seq (
(.seq (
.reg (some [.dr [23] [], .dr [23] [], .dr [21, 22] [], .free, .free, .free, .dr [28, 30, 31] [], .dr [27, 30, 31] [], .dr [30, 31] [], .dr [27, 28, 29, 31] [], .dr [27, 28, 29, 30] [], .free, .free, .free]) [
  ⟨some 21, .load true 12 (.t 5), none, true⟩,
  ⟨some 22, .call 15 [.t 21], none, true⟩,
  ⟨some 23, .load true 12 (.t 5), none, true⟩,
  ⟨some 24, .call 16 [.t 23], none, true⟩,
  ⟨some 25, .bib true (.t 22) (.t 24), none, true⟩,
  ⟨some 26, .mv (.t 25), none, true⟩,
  ⟨some 27, .load true 12 (.t 5), some (26, false), true⟩,
  ⟨some 28, .load true 3 (.t 6), some (26, false), true⟩,
  ⟨some 29, .call 17 [.t 27, .t 28], some (26, false), true⟩,
  ⟨some 30, .load true 12 (.t 5), some (26, false), true⟩,
  ⟨some 31, .load true 3 (.t 6), some (26, false), true⟩,
  ⟨some 32, .call 18 [.t 30, .t 31], some (26, false), true⟩,
  ⟨some 33, .bib true (.t 29) (.t 32), some (26, false), true⟩,
  ⟨some 34, .pick (.t 26) (.c (.bool true)) (.t 33), none, true⟩] (some [3, 4, 5, 7, 11, 34]) [6]) (
(.cond (.t 34) (
  (.seq (
  .reg none [
    ⟨some 10, .as (.c (.bool false)), none, true⟩] (some [10]) []) (
  .ret))) (
  .skip))))) (
(.seq (
(.seq (
.reg none [
  ⟨some 35, .load true 12 (.t 5), none, true⟩,
  ⟨some 36, .call 16 [.t 35], none, true⟩,
  ⟨some 37, .un .not (.t 36), none, true⟩] (some [3, 4, 5, 7, 11, 37]) []) (
(.cond (.t 37) (
  (.seq (
  .reg none [
    ⟨some 38, .mv (.t 11), none, true⟩,
    ⟨some 10, .as (.t 38), none, true⟩] (some [10]) []) (
  .ret))) (
  .skip))))) (
(.seq (
.reg none [
  ⟨some 39, .load true 12 (.t 5), none, true⟩,
  ⟨some 40, .load true 3 (.t 7), none, true⟩,
  ⟨some 41, .call 19 [.t 39, .t 40], none, true⟩,
  ⟨some 12, .alloc [.int .i64 0, .int .i64 0, .int .i64 0], none, true⟩,
  ⟨none, .store 3 (.t 12) (.t 41), none, true⟩] (some [3, 4, 5, 11, 12]) [7]) (
(.seq (
.reg (some [.dr [43, 45, 46, 13, 14] [], .dr [42, 45, 46, 13, 14] [], .dr [45, 46, 13, 14] [], .dr [42, 43, 44, 46, 13, 14] [], .dr [42, 43, 44, 45, 13, 14] [], .dr [13, 14] [], .dr [42, 43, 44, 45, 46, 47, 14] [], .dr [42, 43, 44, 45, 46, 47, 13] [], .free, .free]) [
  ⟨some 42, .load true 12 (.t 5), none, true⟩,
  ⟨some 43, .load true 3 (.t 12), none, true⟩,
  ⟨some 44, .call 20 [.t 42, .t 43], none, true⟩,
  ⟨some 45, .load true 12 (.t 5), none, true⟩,
  ⟨some 46, .load true 3 (.t 12), none, true⟩,
  ⟨some 47, .call 21 [.t 45, .t 46], none, true⟩,
  ⟨some 13, .alloc [.nils 2, .nils 2, .nils 2], none, true⟩,
  ⟨some 14, .alloc [.nils 2, .nils 2, .nils 2], none, true⟩,
  ⟨none, .store 3 (.t 13) (.t 44), none, true⟩,
  ⟨none, .store 3 (.t 14) (.t 47), none, true⟩] (some [3, 4, 5, 11, 12, 13, 14]) []) (
(.seq (
(.seq (
.reg none [
  ⟨some 15, .as (.c (.int .i64 0)), none, true⟩] (some [3, 4, 5, 11, 12, 13, 14, 15]) []) (
(.block 0 (
A3_L0) (some [3, 4, 5, 11, 12]) [10, 15, 58])))) (
(.seq (
.reg none [
  ⟨some 61, .load true 12 (.t 5), none, true⟩,
  ⟨some 62, .load true 3 (.t 12), none, true⟩,
  ⟨some 63, .mv (.t 3), none, true⟩,
  ⟨some 64, .mv (.t 4), none, true⟩,
  ⟨some 65, .call 23 [.t 61, .t 62, .t 63, .t 64], none, true⟩,
  ⟨some 60, .mv (.t 65), none, true⟩,
  ⟨some 66, .ext (.t 60) 0, none, true⟩,
  ⟨some 67, .ext (.t 60) 1, none, true⟩,
  ⟨some 16, .alloc [.int .i64 0, .int .i64 0, .int .i64 0], none, true⟩,
  ⟨none, .store 3 (.t 16) (.t 66), none, true⟩,
  ⟨some 17, .as (.t 67), none, true⟩] (some [3, 4, 5, 11, 12, 16, 17]) []) (
(.seq (
.reg none [
  ⟨some 69, .load true 12 (.t 5), none, true⟩,
  ⟨some 70, .load true 3 (.t 12), none, true⟩,
  ⟨some 71, .mv (.t 3), none, true⟩,
  ⟨some 72, .mv (.t 4), none, true⟩,
  ⟨some 73, .call 24 [.t 69, .t 70, .t 71, .t 72], none, true⟩,
  ⟨some 68, .mv (.t 73), none, true⟩,
  ⟨some 74, .ext (.t 68) 0, none, true⟩,
  ⟨some 75, .ext (.t 68) 1, none, true⟩,
  ⟨some 18, .alloc [.int .i64 0, .int .i64 0, .int .i64 0], none, true⟩,
  ⟨none, .store 3 (.t 18) (.t 74), none, true⟩,
  ⟨some 19, .as (.t 75), none, true⟩] (some [5, 11, 12, 16, 17, 18, 19]) []) (
(.seq (
.reg (some [.free, .free, .dr [79, 81, 82] [], .dr [78, 81, 82] [], .dr [81, 82] [], .dr [78, 79, 80, 82] [], .dr [78, 79, 80, 81] [], .free, .free, .free, .free, .dr [88, 90, 91] [], .dr [87, 90, 91] [], .dr [90, 91] [], .dr [87, 88, 89, 91] [], .dr [87, 88, 89, 90] [], .free, .free, .free, .free, .dr [97] [], .dr [96] [], .free, .free, .free, .dr [] [], .dr [] [], .free, .free, .free]) [
  ⟨some 76, .mv (.t 11), none, true⟩,
  ⟨some 77, .mv (.t 76), none, true⟩,
  ⟨some 78, .load true 12 (.t 5), some (77, true), true⟩,
  ⟨some 79, .load true 3 (.t 12), some (77, true), true⟩,
  ⟨some 80, .call 25 [.t 78, .t 79], some (77, true), true⟩,
  ⟨some 81, .load true 12 (.t 5), some (77, true), true⟩,
  ⟨some 82, .load true 3 (.t 12), some (77, true), true⟩,
  ⟨some 83, .call 26 [.t 81, .t 82], some (77, true), true⟩,
  ⟨some 84, .eqa false [0, 0, 0, 0, 0, 0, 0, 0, 0] (.t 80) (.t 83), some (77, true), true⟩,
  ⟨some 85, .pick (.t 77) (.t 84) (.c (.bool false)), none, true⟩,
  ⟨some 86, .mv (.t 85), none, true⟩,
  ⟨some 87, .load true 12 (.t 5), some (86, true), true⟩,
  ⟨some 88, .load true 3 (.t 12), some (86, true), true⟩,
  ⟨some 89, .call 27 [.t 87, .t 88], some (86, true), true⟩,
  ⟨some 90, .load true 12 (.t 5), some (86, true), true⟩,
  ⟨some 91, .load true 3 (.t 12), some (86, true), true⟩,
  ⟨some 92, .call 28 [.t 90, .t 91], some (86, true), true⟩,
  ⟨some 93, .eqa false [0, 0, 0, 0, 0, 0, 0, 0] (.t 89) (.t 92), some (86, true), true⟩,
  ⟨some 94, .pick (.t 86) (.t 93) (.c (.bool false)), none, true⟩,
  ⟨some 95, .mv (.t 94), none, true⟩,
  ⟨some 96, .load true 3 (.t 16), some (95, true), true⟩,
  ⟨some 97, .load true 3 (.t 18), some (95, true), true⟩,
  ⟨some 98, .eqa false [0, 0, 0] (.t 96) (.t 97), some (95, true), true⟩,
  ⟨some 99, .pick (.t 95) (.t 98) (.c (.bool false)), none, true⟩,
  ⟨some 100, .mv (.t 99), none, true⟩,
  ⟨some 101, .mv (.t 17), some (100, true), true⟩,
  ⟨some 102, .mv (.t 19), some (100, true), true⟩,
  ⟨some 103, .bib false (.t 101) (.t 102), some (100, true), true⟩,
  ⟨some 104, .pick (.t 100) (.t 103) (.c (.bool false)), none, true⟩,
  ⟨some 10, .as (.t 104), none, true⟩] (some [10]) [5, 12, 16, 18]) (
.ret)))))))))))))))))))))
def A4_L0b : ACode := 
  (.seq (
  (.seq (
  .reg none [
    ⟨some 113, .mv (.t 20), none, true⟩,
    ⟨some 114, .bin .lss (.t 113) (.c (.int .i64 4)), none, true⟩] (some [9, 11, 13, 14, 15, 16, 20, 114]) []) (
  (.cond (.t 114) (
    .skip) (
    .exit 6))))) (
  (.seq (
  (.block 7 (
  (.seq (
  .reg (some [.dr [124, 127, 129, 130, 133] [], .dr [124, 127, 129, 130, 133] [], .dr [118, 124, 127, 129, 130, 133] [], .dr [124, 127, 129, 130, 133] [], .dr [124, 127, 129, 130, 133] [], .dr [118, 120, 121, 127, 129, 130, 133] [], .dr [118, 120, 121, 127, 129, 130, 133] [], .dr [118, 120, 121, 127, 129, 130, 133] [], .dr [127, 129, 130, 133] [], .dr [118, 120, 121, 124, 125, 133] [], .dr [118, 120, 121, 124, 125, 133] [], .dr [118, 120, 121, 124, 125, 127, 133] [], .dr [118, 120, 121, 124, 125, 133] [], .dr [118, 120, 121, 124, 125, 133] [], .dr [118, 120, 121, 124, 125, 127, 129, 130] [], .dr [118, 120, 121, 124, 125, 127, 129, 130] [], .dr [118, 120, 121, 124, 125, 127, 129, 130] [], .free, .free]) [
    ⟨some 117, .iaa 3 1 (.t 15) (.c (.int .i64 2)), none, true⟩,
    ⟨some 118, .load false 1 (.t 117), none, true⟩,
    ⟨some 119, .mv (.t 20), none, true⟩,
    ⟨some 120, .ias 2 (.t 118) (.t 119), none, true⟩,
    ⟨some 121, .load true 2 (.t 120), none, true⟩,
    ⟨some 122, .mv (.t 11), none, true⟩,
    ⟨some 123, .iaa 4 2 (.t 13) (.t 122), none, true⟩,
    ⟨some 124, .load true 2 (.t 123), none, true⟩,
    ⟨some 125, .call 29 [.t 121, .t 124], none, true⟩,
    ⟨some 126, .iaa 3 1 (.t 16) (.c (.int .i64 2)), none, true⟩,
    ⟨some 127, .load false 1 (.t 126), none, true⟩,
    ⟨some 128, .mv (.t 20), none, true⟩,
    ⟨some 129, .ias 2 (.t 127) (.t 128), none, true⟩,
    ⟨some 130, .load true 2 (.t 129), none, true⟩,
    ⟨some 131, .mv (.t 11), none, true⟩,
    ⟨some 132, .iaa 4 2 (.t 14) (.t 131), none, true⟩,
    ⟨some 133, .load true 2 (.t 132), none, true⟩,
    ⟨some 134, .call 29 [.t 130, .t 133], none, true⟩,
    ⟨some 135, .bin .neq (.t 125) (.t 134), none, true⟩] (some [9, 11, 13, 14, 15, 16, 20, 135]) []) (
  (.cond (.t 135) (
    (.seq (
    .reg none [
      ⟨some 8, .as (.c (.bool false)), none, true⟩] (some [8]) []) (
    .ret))) (
    .skip))))) (some [9, 11, 13, 14, 15, 16, 20]) [8, 125, 134])) (
  .reg none [
    ⟨some 115, .mv (.t 20), none, true⟩,
    ⟨some 116, .bin .add (.t 115) (.c (.int .i64 1)), none, true⟩,
    ⟨some 20, .as (.t 116), none, true⟩] (some [9, 11, 13, 14, 15, 16, 20]) []))))
def A4_L0 : ACode := .loop A4_L0b (some [9, 11, 13, 14, 15, 16, 20]) [8, 125, 134]
def A4_L1b : ACode := 
    (.seq (
    (.seq (
    .reg none [
      ⟨some 93, .mv (.t 19), none, true⟩,
      ⟨some 94, .mv (.t 18), none, true⟩,
      ⟨some 95, .bin .lss (.t 93) (.t 94), none, true⟩] (some [9, 11, 13, 14, 15, 16, 18, 19, 95]) []) (
    (.cond (.t 95) (
      .skip) (
      .exit 4))))) (
    (.seq (
    (.block 5 (
    (.seq (
    .reg (some [.dr [103, 107, 110] [], .dr [103, 107, 110] [], .dr [103, 107, 110] [], .dr [100, 107, 110] [], .dr [100, 107, 110] [], .dr [100, 107, 110] [], .dr [107, 110] [], .dr [100, 103, 104, 110] [], .dr [100, 103, 104, 110] [], .dr [100, 103, 104, 110] [], .dr [100, 103, 104, 107] [], .dr [100, 103, 104, 107] [], .dr [100, 103, 104, 107] [], .free, .free]) [
      ⟨some 98, .mv (.t 18), none, true⟩,
      ⟨some 99, .iaa 4 2 (.t 13) (.t 98), none, true⟩,
      ⟨some 100, .load true 2 (.t 99), none, true⟩,
      ⟨some 101, .mv (.t 19), none, true⟩,
      ⟨some 102, .iaa 4 2 (.t 13) (.t 101), none, true⟩,
      ⟨some 103, .load true 2 (.t 102), none, true⟩,
      ⟨some 104, .call 29 [.t 100, .t 103], none, true⟩,
      ⟨some 105, .mv (.t 18), none, true⟩,
      ⟨some 106, .iaa 4 2 (.t 14) (.t 105), none, true⟩,
      ⟨some 107, .load true 2 (.t 106), none, true⟩,
      ⟨some 108, .mv (.t 19), none, true⟩,
      ⟨some 109, .iaa 4 2 (.t 14) (.t 108), none, true⟩,
      ⟨some 110, .load true 2 (.t 109), none, true⟩,
      ⟨some 111, .call 29 [.t 107, .t 110], none, true⟩,
      ⟨some 112, .bin .neq (.t 104) (.t 111), none, true⟩] (some [9, 11, 13, 14, 15, 16, 18, 19, 112]) []) (
    (.cond (.t 112) (
      (.seq (
      .reg none [
        ⟨some 8, .as (.c (.bool false)), none, true⟩] (some [8]) []) (
      .ret))) (
      .skip))))) (some [9, 11, 13, 14, 15, 16, 18, 19]) [8, 104, 111])) (
    .reg none [
      ⟨some 96, .mv (.t 19), none, true⟩,
      ⟨some 97, .bin .add (.t 96) (.c (.int .i64 1)), none, true⟩,
      ⟨some 19, .as (.t 97), none, true⟩] (some [9, 11, 13, 14, 15, 16, 18, 19]) []))))
def A4_L1 : ACode := .loop A4_L1b (some [9, 11, 13, 14, 15, 16, 18, 19]) [8, 104, 111]
def A4_L2b : ACode := 
  (.seq (
  (.seq (
  .reg none [
    ⟨some 88, .mv (.t 18), none, true⟩,
    ⟨some 89, .bin .lss (.t 88) (.c (.int .i64 4)), none, true⟩] (some [9, 11, 13, 14, 15, 16, 18, 89]) []) (
  (.cond (.t 89) (
    .skip) (
    .exit 2))))) (
  (.seq (
  (.block 3 (
  (.seq (
  .reg none [
    ⟨some 92, .mv (.t 11), none, true⟩,
    ⟨some 19, .as (.t 92), none, true⟩] (some [9, 11, 13, 14, 15, 16, 18, 19]) []) (
  (.block 4 (
  A4_L1) (some [9, 11, 13, 14, 15, 16, 18]) [8, 19, 104, 111])))) (some [9, 11, 13, 14, 15, 16, 18]) [8, 19, 104, 111])) (
  .reg none [
    ⟨some 90, .mv (.t 18), none, true⟩,
    ⟨some 91, .bin .add (.t 90) (.c (.int .i64 1)), none, true⟩,
    ⟨some 18, .as (.t 91), none, true⟩] (some [9, 11, 13, 14, 15, 16, 18]) []))))
def A4_L2 : ACode := .loop A4_L2b (some [9, 11, 13, 14, 15, 16, 18]) [8, 19, 104, 111]
def A4_L3b : ACode := 
  (.seq (
  (.seq (
  .reg none [
    ⟨some 75, .mv (.t 17), none, true⟩,
    ⟨some 76, .mv (.t 11), none, true⟩,
    ⟨some 77, .bin .leq (.t 75) (.t 76), none, true⟩] (some [9, 11, 13, 14, 15, 16, 17, 77]) []) (
  (.cond (.t 77) (
    .skip) (
    .exit 0))))) (
  (.seq (
  (.block 1 (
  (.seq (
  .reg (some [.dr [85] [], .dr [85] [], .dr [85] [], .dr [82] [], .dr [82] [], .dr [82] [], .free]) [
    ⟨some 80, .mv (.t 17), none, true⟩,
    ⟨some 81, .iaa 4 2 (.t 13) (.t 80), none, true⟩,
    ⟨some 82, .load true 2 (.t 81), none, true⟩,
    ⟨some 83, .mv (.t 17), none, true⟩,
    ⟨some 84, .iaa 4 2 (.t 14) (.t 83), none, true⟩,
    ⟨some 85, .load true 2 (.t 84), none, true⟩,
    ⟨some 86, .eqa true [0, 0] (.t 82) (.t 85), none, true⟩] (some [9, 11, 13, 14, 15, 16, 17, 86]) []) (
  (.cond (.t 86) (
    (.seq (
    .reg none [
      ⟨some 8, .as (.c (.bool false)), none, true⟩] (some [8]) []) (
    .ret))) (
    .skip))))) (some [9, 11, 13, 14, 15, 16, 17]) [8])) (
  .reg none [
    ⟨some 78, .mv (.t 17), none, true⟩,
    ⟨some 79, .bin .add (.t 78) (.c (.int .i64 1)), none, true⟩,
    ⟨some 17, .as (.t 79), none, true⟩] (some [9, 11, 13, 14, 15, 16, 17]) []))))
def A4_L3 : ACode := .loop A4_L3b (some [9, 11, 13, 14, 15, 16, 17]) [8]
/-- ambidexter/ambidexterlaw07.ArmMovesAsChain -/
def A4 : AFn := .code [.t 8] (
(.seq (
.reg none [
  ⟨some 4, .box (.t 0), none, true⟩,
  ⟨some 5, .box (.t 1), none, true⟩,
  ⟨some 8, .as (.c (.bool false)), none, true⟩] (some [2, 3, 4, 5]) []) (
(.seq (
.reg none [
  ⟨some 21, .call 14 [], none, true⟩,
  ⟨some 9, .as (.t 21), none, true⟩] (some [2, 3, 4, 5, 9]) []) (
(.seq (
(.seq (
.reg none [
  ⟨some 22, .load true 12 (.t 4), none, true⟩,
  ⟨some 23, .call 15 [.t 22], none, true⟩,
  ⟨some 24, .un .not (.t 23), none, true⟩] (some [2, 3, 4, 5, 9, 24]) []) (
(.cond (.t 24) (
  (.seq (
  .reg none [
    ⟨some 25, .mv (.t 9), none, true⟩,
    ⟨some 8, .as (.t 25), none, true⟩] (some [8]) []) (
  .ret))) (
  .skip))))) (
(.seq (
.reg none [
  ⟨some 26, .load true 12 (.t 4), none, true⟩,
  ⟨some 27, .load true 3 (.t 5), none, true⟩,
  ⟨some 28, .call 19 [.t 26, .t 27], none, true⟩,
  ⟨some 10, .alloc [.int .i64 0, .int .i64 0, .int .i64 0], none, true⟩,
  ⟨none, .store 3 (.t 10) (.t 28), none, true⟩] (some [2, 3, 4, 9, 10]) [5]) (
(.seq (
.reg none [
  ⟨some 29, .mv (.t 2), none, true⟩,
  ⟨some 30, .conv .i64 (.t 29), none, true⟩,
  ⟨some 31, .bin .rem (.t 30) (.c (.int .i64 3)), none, true⟩,
  ⟨some 11, .as (.t 31), none, true⟩] (some [3, 4, 9, 10, 11]) []) (
(.seq (
.reg none [
  ⟨some 32, .load true 3 (.t 10), none, true⟩,
  ⟨some 12, .alloc [.int .i64 0, .int .i64 0, .int .i64 0], none, true⟩,
  ⟨none, .store 3 (.t 12) (.t 32), none, true⟩] (some [3, 4, 9, 10, 11, 12]) []) (
(.seq (
.reg (some [.dr [37, 43, 47] [], .dr [43, 47] [], .dr [43, 47] [], .dr [43, 47] [], .dr [43, 47] [], .dr [37, 43, 47] [], .dr [37, 43, 47] [], .dr [37, 47] [], .dr [37, 47] [], .dr [37, 47] [], .dr [37, 47] [], .dr [37, 43] [], .dr [37, 43] [], .dr [37, 43] [], .dr [37, 43] [], .dr [37] [], .dr [37] [], .dr [37] [], .dr [] [], .free, .free]) [
  ⟨some 33, .mv (.t 11), none, true⟩,
  ⟨some 34, .mv (.t 11), none, true⟩,
  ⟨some 35, .fad 6 (.t 4), none, true⟩,
  ⟨some 36, .iaa 3 1 (.t 35) (.t 34), none, true⟩,
  ⟨some 37, .load false 1 (.t 36), none, true⟩,
  ⟨some 38, .mv (.t 3), none, true⟩,
  ⟨some 39, .conv .i64 (.t 38), none, true⟩,
  ⟨some 40, .mv (.t 11), none, true⟩,
  ⟨some 41, .fad 9 (.t 4), none, true⟩,
  ⟨some 42, .iaa 3 1 (.t 41) (.t 40), none, true⟩,
  ⟨some 43, .load false 1 (.t 42), none, true⟩,
  ⟨some 44, .mv (.t 11), none, true⟩,
  ⟨some 45, .fad 6 (.t 4), none, true⟩,
  ⟨some 46, .iaa 3 1 (.t 45) (.t 44), none, true⟩,
  ⟨some 47, .load false 1 (.t 46), none, true⟩,
  ⟨some 48, .bin .sub (.t 43) (.t 47), none, true⟩,
  ⟨some 49, .bin .add (.t 48) (.c (.int .i64 1)), none, true⟩,
  ⟨some 50, .bin .rem (.t 39) (.t 49), none, true⟩,
  ⟨some 51, .bin .add (.t 37) (.t 50), none, true⟩,
  ⟨some 52, .iaa 3 1 (.t 12) (.t 33), none, true⟩,
  ⟨none, .store 1 (.t 52) (.t 51), none, true⟩] (some [4, 9, 10, 11, 12]) []) (
(.seq (
.reg (some [.dr [54, 56, 57, 13, 14] [], .dr [53, 56, 57, 13, 14] [], .dr [56, 57, 13, 14] [], .dr [53, 54, 55, 57, 13, 14] [], .dr [53, 54, 55, 56, 13, 14] [], .dr [13, 14] [], .dr [53, 54, 55, 56, 57, 58, 14] [], .dr [53, 54, 55, 56, 57, 58, 13] [], .free, .free]) [
  ⟨some 53, .load true 12 (.t 4), none, true⟩,
  ⟨some 54, .load true 3 (.t 10), none, true⟩,
  ⟨some 55, .call 27 [.t 53, .t 54], none, true⟩,
  ⟨some 56, .load true 12 (.t 4), none, true⟩,
  ⟨some 57, .load true 3 (.t 12), none, true⟩,
  ⟨some 58, .call 27 [.t 56, .t 57], none, true⟩,
  ⟨some 13, .alloc [.int .i64 0, .int .i64 0, .int .i64 0, .int .i64 0, .int .i64 0, .int .i64 0, .int .i64 0, .int .i64 0], none, true⟩,
  ⟨some 14, .alloc [.int .i64 0, .int .i64 0, .int .i64 0, .int .i64 0, .int .i64 0, .int .i64 0, .int .i64 0, .int .i64 0], none, true⟩,
  ⟨none, .store 8 (.t 13) (.t 55), none, true⟩,
  ⟨none, .store 8 (.t 14) (.t 58), none, true⟩] (some [4, 9, 10, 11, 12, 13, 14]) []) (
(.seq (
.reg (some [.dr [60, 62, 63, 15, 16] [], .dr [59, 62, 63, 15, 16] [], .dr [62, 63, 15, 16] [], .dr [59, 60, 61, 63, 15, 16] [], .dr [59, 60, 61, 62, 15, 16] [], .dr [15, 16] [], .dr [59, 60, 61, 62, 63, 64, 16] [], .dr [59, 60, 61, 62, 63, 64, 15] [], .free, .free]) [
  ⟨some 59, .load true 12 (.t 4), none, true⟩,
  ⟨some 60, .load true 3 (.t 10), none, true⟩,
  ⟨some 61, .call 20 [.t 59, .t 60], none, true⟩,
  ⟨some 62, .load true 12 (.t 4), none, true⟩,
  ⟨some 63, .load true 3 (.t 12), none, true⟩,
  ⟨some 64, .call 20 [.t 62, .t 63], none, true⟩,
  ⟨some 15, .alloc [.nils 2, .nils 2, .nils 2], none, true⟩,
  ⟨some 16, .alloc [.nils 2, .nils 2, .nils 2], none, true⟩,
  ⟨none, .store 3 (.t 15) (.t 61), none, true⟩,
  ⟨none, .store 3 (.t 16) (.t 64), none, true⟩] (some [9, 11, 13, 14, 15, 16]) [4, 10, 12]) (
(.seq (
(.seq (
.reg none [
  ⟨some 65, .iaa 3 1 (.t 15) (.c (.int .i64 2)), none, true⟩,
  ⟨some 66, .load false 1 (.t 65), none, true⟩,
  ⟨some 67, .len 0 (.t 66), none, true⟩,
  ⟨some 68, .bin .neq (.t 67) (.c (.int .i64 4)), none, true⟩,
  ⟨some 69, .mv (.t 68), none, true⟩,
  ⟨some 70, .iaa 3 1 (.t 16) (.c (.int .i64 2)), some (69, false), true⟩,
  ⟨some 71, .load false 1 (.t 70), some (69, false), true⟩,
  ⟨some 72, .len 0 (.t 71), some (69, false), true⟩,
  ⟨some 73, .bin .neq (.t 72) (.c (.int .i64 4)), some (69, false), true⟩,
  ⟨some 74, .pick (.t 69) (.c (.bool true)) (.t 73), none, true⟩] (some [9, 11, 13, 14, 15, 16, 74]) []) (
(.cond (.t 74) (
  (.seq (
  .reg none [
    ⟨some 8, .as (.c (.bool false)), none, true⟩] (some [8]) []) (
  .ret))) (
  .skip))))) (
(.seq (
(.seq (
.reg none [
  ⟨some 17, .as (.c (.int .i64 0)), none, true⟩] (some [9, 11, 13, 14, 15, 16, 17]) []) (
(.block 0 (
A4_L3) (some [9, 11, 13, 14, 15, 16]) [8, 17])))) (
(.seq (
(.seq (
.reg none [
  ⟨some 87, .mv (.t 11), none, true⟩,
  ⟨some 18, .as (.t 87), none, true⟩] (some [9, 11, 13, 14, 15, 16, 18]) []) (
(.block 2 (
A4_L2) (some [9, 11, 13, 14, 15, 16]) [8, 18, 19, 104, 111])))) (
(.seq (
(.seq (
.reg none [
  ⟨some 20, .as (.c (.int .i64 0)), none, true⟩] (some [9, 11, 13, 14, 15, 16, 20]) []) (
(.block 6 (
A4_L0) (some [9]) [8, 20, 125, 134])))) (
(.seq (
.reg none [
  ⟨some 136, .mv (.t 9), none, true⟩,
  ⟨some 8, .as (.t 136), none, true⟩] (some [8]) []) (
.ret)))))))))))))))))))))))))))))
def A5_L0b : ACode := 
  (.seq (
  (.seq (
  .reg none [
    ⟨some 143, .mv (.t 21), none, true⟩,
    ⟨some 144, .bin .lss (.t 143) (.c (.int .i64 3)), none, true⟩] (some [11, 13, 19, 20, 21, 144]) []) (
  (.cond (.t 144) (
    .skip) (
    .exit 2))))) (
  (.seq (
  (.block 3 (
  (.seq (
  .reg (some [.dr [] [], .dr [] [], .free, .free, .dr [158] [], .dr [158] [], .dr [158] [], .dr [158] [], .dr [154] [], .dr [154] [], .dr [154] [], .dr [154] [], .free, .free, .dr [168] [], .dr [168] [], .dr [168] [], .dr [168] [], .dr [164] [], .dr [164] [], .dr [164] [], .dr [164] [], .free, .free, .free, .dr [] [], .dr [] [], .dr [] [], .dr [] [], .dr [175] [], .dr [175] [], .free, .free, .free]) [
    ⟨some 147, .mv (.t 21), none, true⟩,
    ⟨some 148, .mv (.t 13), none, true⟩,
    ⟨some 149, .bin .neq (.t 147) (.t 148), none, true⟩,
    ⟨some 150, .mv (.t 149), none, true⟩,
    ⟨some 151, .mv (.t 21), some (150, true), true⟩,
    ⟨some 152, .iaa 3 3 (.t 19) (.t 151), some (150, true), true⟩,
    ⟨some 153, .fad 0 (.t 152), some (150, true), true⟩,
    ⟨some 154, .load false 1 (.t 153), some (150, true), true⟩,
    ⟨some 155, .mv (.t 21), some (150, true), true⟩,
    ⟨some 156, .iaa 3 3 (.t 20) (.t 155), some (150, true), true⟩,
    ⟨some 157, .fad 0 (.t 156), some (150, true), true⟩,
    ⟨some 158, .load false 1 (.t 157), some (150, true), true⟩,
    ⟨some 159, .bin .neq (.t 154) (.t 158), some (150, true), true⟩,
    ⟨some 160, .mv (.t 159), some (150, true), true⟩,
    ⟨some 161, .mv (.t 21), some (160, false), true⟩,
    ⟨some 162, .iaa 3 3 (.t 19) (.t 161), some (160, false), true⟩,
    ⟨some 163, .fad 1 (.t 162), some (160, false), true⟩,
    ⟨some 164, .load false 1 (.t 163), some (160, false), true⟩,
    ⟨some 165, .mv (.t 21), some (160, false), true⟩,
    ⟨some 166, .iaa 3 3 (.t 20) (.t 165), some (160, false), true⟩,
    ⟨some 167, .fad 1 (.t 166), some (160, false), true⟩,
    ⟨some 168, .load false 1 (.t 167), some (160, false), true⟩,
    ⟨some 169, .bin .neq (.t 164) (.t 168), some (160, false), true⟩,
    ⟨some 170, .pick (.t 160) (.c (.bool true)) (.t 169), some (150, true), true⟩,
    ⟨some 171, .mv (.t 170), some (150, true), true⟩,
    ⟨some 172, .mv (.t 21), some (171, false), true⟩,
    ⟨some 173, .iaa 3 3 (.t 19) (.t 172), some (171, false), true⟩,
    ⟨some 174, .fad 2 (.t 173), some (171, false), true⟩,
    ⟨some 175, .load false 1 (.t 174), some (171, false), true⟩,
    ⟨some 176, .mv (.t 21), some (171, false), true⟩,
    ⟨some 177, .bin .add (.t 176) (.c (.int .i64 1)), some (171, false), true⟩,
    ⟨some 178, .bin .neq (.t 175) (.t 177), some (171, false), true⟩,
    ⟨some 179, .pick (.t 171) (.c (.bool true)) (.t 178), some (150, true), true⟩,
    ⟨some 180, .pick (.t 150) (.t 179) (.c (.bool false)), none, true⟩] (some [11, 13, 19, 20, 21, 180]) []) (
  (.cond (.t 180) (
    (.seq (
    .reg none [
      ⟨some 10, .as (.c (.bool false)), none, true⟩] (some [10]) []) (
    .ret))) (
    .skip))))) (some [11, 13, 19, 20, 21]) [10])) (
  .reg none [
    ⟨some 145, .mv (.t 21), none, true⟩,
    ⟨some 146, .bin .add (.t 145) (.c (.int .i64 1)), none, true⟩,
    ⟨some 21, .as (.t 146), none, true⟩] (some [11, 13, 19, 20, 21]) []))))
def A5_L0 : ACode := .loop A5_L0b (some [11, 13, 19, 20, 21]) [10]
def A5_L1b : ACode := 
    (.seq (
    (.seq (
    .reg none [
      ⟨some 98, .mv (.t 18), none, true⟩,
      ⟨some 99, .bin .lss (.t 98) (.c (.int .i64 4)), none, true⟩] (some [5, 9, 11, 12, 13, 14, 16, 17, 18, 99]) []) (
    (.cond (.t 99) (
      .skip) (
      .exit 0))))) (
    (.seq (
    (.block 1 (
    (.seq (
    .reg (some [.dr [109, 112] [], .dr [109, 112] [], .dr [109, 112] [], .dr [109, 112] [], .dr [105, 112] [], .dr [105, 112] [], .dr [105, 112] [], .dr [105, 112] [], .dr [112] [], .dr [105, 109] [], .dr [105, 109] [], .dr [105, 109] [], .dr [105, 109] [], .free, .free, .dr [124, 127] [], .dr [124, 127] [], .dr [124, 127] [], .dr [124, 127] [], .dr [120, 127] [], .dr [120, 127] [], .dr [120, 127] [], .dr [120, 127] [], .dr [127] [], .dr [120, 124] [], .dr [120, 124] [], .dr [120, 124] [], .dr [120, 124] [], .free, .free]) [
      ⟨some 102, .mv (.t 18), none, true⟩,
      ⟨some 103, .iaa 4 2 (.t 17) (.t 102), none, true⟩,
      ⟨some 104, .fad 0 (.t 103), none, true⟩,
      ⟨some 105, .load false 1 (.t 104), none, true⟩,
      ⟨some 106, .mv (.t 18), none, true⟩,
      ⟨some 107, .iaa 4 2 (.t 16) (.t 106), none, true⟩,
      ⟨some 108, .fad 0 (.t 107), none, true⟩,
      ⟨some 109, .load false 1 (.t 108), none, true⟩,
      ⟨some 110, .bin .sub (.t 105) (.t 109), none, true⟩,
      ⟨some 111, .iaa 2 1 (.t 9) (.c (.int .i64 0)), none, true⟩,
      ⟨some 112, .load false 1 (.t 111), none, true⟩,
      ⟨some 113, .conv .i64 (.t 112), none, true⟩,
      ⟨some 114, .bin .mul (.c (.int .i64 16)) (.t 113), none, true⟩,
      ⟨some 115, .bin .neq (.t 110) (.t 114), none, true⟩,
      ⟨some 116, .mv (.t 115), none, true⟩,
      ⟨some 117, .mv (.t 18), some (116, false), true⟩,
      ⟨some 118, .iaa 4 2 (.t 17) (.t 117), some (116, false), true⟩,
      ⟨some 119, .fad 1 (.t 118), some (116, false), true⟩,
      ⟨some 120, .load false 1 (.t 119), some (116, false), true⟩,
      ⟨some 121, .mv (.t 18), some (116, false), true⟩,
      ⟨some 122, .iaa 4 2 (.t 16) (.t 121), some (116, false), true⟩,
      ⟨some 123, .fad 1 (.t 122), some (116, false), true⟩,
      ⟨some 124, .load false 1 (.t 123), some (116, false), true⟩,
      ⟨some 125, .bin .sub (.t 120) (.t 124), some (116, false), true⟩,
      ⟨some 126, .iaa 2 1 (.t 9) (.c (.int .i64 1)), some (116, false), true⟩,
      ⟨some 127, .load false 1 (.t 126), some (116, false), true⟩,
      ⟨some 128, .conv .i64 (.t 127), some (116, false), true⟩,
      ⟨some 129, .bin .mul (.c (.int .i64 16)) (.t 128), some (116, false), true⟩,
      ⟨some 130, .bin .neq (.t 125) (.t 129), some (116, false), true⟩,
      ⟨some 131, .pick (.t 116) (.c (.bool true)) (.t 130), none, true⟩] (some [5, 9, 11, 12, 13, 14, 16, 17, 18, 131]) []) (
    (.cond (.t 131) (
      (.seq (
      .reg none [
        ⟨some 10, .as (.c (.bool false)), none, true⟩] (some [10]) []) (
      .ret))) (
      .skip))))) (some [5, 9, 11, 12, 13, 14, 16, 17, 18]) [10])) (
    .reg none [
      ⟨some 100, .mv (.t 18), none, true⟩,
      ⟨some 101, .bin .add (.t 100) (.c (.int .i64 1)), none, true⟩,
      ⟨some 18, .as (.t 101), none, true⟩] (some [5, 9, 11, 12, 13, 14, 16, 17, 18]) []))))
def A5_L1 : ACode := .loop A5_L1b (some [5, 9, 11, 12, 13, 14, 16, 17, 18]) [10]
/-- ambidexter/ambidexterlaw07.ArmComposesRotations -/
def A5 : AFn := .code [.t 10] (
(.seq (
.reg none [
  ⟨some 5, .box (.t 0), none, true⟩,
  ⟨some 6, .box (.t 1), none, true⟩,
  ⟨some 9, .box (.t 4), none, true⟩,
  ⟨some 10, .as (.c (.bool false)), none, true⟩] (some [2, 3, 5, 6, 9]) []) (
(.seq (
.reg none [
  ⟨some 22, .call 14 [], none, true⟩,
  ⟨some 11, .as (.t 22), none, true⟩] (some [2, 3, 5, 6, 9, 11]) []) (
(.seq (
(.seq (
.reg none [
  ⟨some 23, .load true 12 (.t 5), none, true⟩,
  ⟨some 24, .call 15 [.t 23], none, true⟩,
  ⟨some 25, .un .not (.t 24), none, true⟩] (some [2, 3, 5, 6, 9, 11, 25]) []) (
(.cond (.t 25) (
  (.seq (
  .reg none [
    ⟨some 26, .mv (.t 11), none, true⟩,
    ⟨some 10, .as (.t 26), none, true⟩] (some [10]) []) (
  .ret))) (
  .skip))))) (
(.seq (
.reg none [
  ⟨some 27, .load true 12 (.t 5), none, true⟩,
  ⟨some 28, .load true 3 (.t 6), none, true⟩,
  ⟨some 29, .call 19 [.t 27, .t 28], none, true⟩,
  ⟨some 12, .alloc [.int .i64 0, .int .i64 0, .int .i64 0], none, true⟩,
  ⟨none, .store 3 (.t 12) (.t 29), none, true⟩] (some [2, 3, 5, 9, 11, 12]) [6]) (
(.seq (
.reg none [
  ⟨some 30, .mv (.t 2), none, true⟩,
  ⟨some 31, .conv .i64 (.t 30), none, true⟩,
  ⟨some 32, .bin .rem (.t 31) (.c (.int .i64 2)), none, true⟩,
  ⟨some 13, .as (.t 32), none, true⟩] (some [3, 5, 9, 11, 12, 13]) []) (
(.seq (
.reg none [
  ⟨some 33, .load true 3 (.t 12), none, true⟩,
  ⟨some 14, .alloc [.int .i64 0, .int .i64 0, .int .i64 0], none, true⟩,
  ⟨none, .store 3 (.t 14) (.t 33), none, true⟩] (some [3, 5, 9, 11, 12, 13, 14]) []) (
(.seq (
(.seq (
.reg none [
  ⟨some 34, .mv (.t 3), none, true⟩,
  ⟨some 35, .bin .rem (.t 34) (.c (.int .u8 5)), none, true⟩,
  ⟨some 36, .bin .eql (.t 35) (.c (.int .u8 4)), none, true⟩] (some [3, 5, 9, 11, 12, 13, 14, 36]) []) (
(.cond (.t 36) (
  (.seq (
  .reg none [
    ⟨some 37, .mv (.t 13), none, true⟩,
    ⟨some 38, .mv (.t 13), none, true⟩,
    ⟨some 39, .bin .add (.t 38) (.c (.int .i64 1)), none, true⟩,
    ⟨some 40, .iaa 3 1 (.t 12) (.t 39), none, true⟩,
    ⟨some 41, .load false 1 (.t 40), none, true⟩,
    ⟨some 42, .iaa 3 1 (.t 14) (.t 37), none, true⟩,
    ⟨none, .store 1 (.t 42) (.t 41), none, true⟩] (some [5, 9, 11, 12, 13, 14]) []) (
  .reg none [
    ⟨some 43, .mv (.t 13), none, true⟩,
    ⟨some 44, .bin .add (.t 43) (.c (.int .i64 1)), none, true⟩,
    ⟨some 45, .mv (.t 13), none, true⟩,
    ⟨some 46, .iaa 3 1 (.t 12) (.t 45), none, true⟩,
    ⟨some 47, .load false 1 (.t 46), none, true⟩,
    ⟨some 48, .iaa 3 1 (.t 14) (.t 44), none, true⟩,
    ⟨none, .store 1 (.t 48) (.t 47), none, true⟩] (some [5, 9, 11, 12, 13, 14]) []))) (
  (.seq (
  .reg none [
    ⟨some 49, .mv (.t 13), none, true⟩,
    ⟨some 50, .mv (.t 13), none, true⟩,
    ⟨some 51, .iaa 3 1 (.t 14) (.t 50), none, true⟩,
    ⟨some 52, .load false 1 (.t 51), none, true⟩,
    ⟨some 53, .mv (.t 3), none, true⟩,
    ⟨some 54, .bin .rem (.t 53) (.c (.int .u8 5)), none, true⟩,
    ⟨some 55, .conv .i64 (.t 54), none, true⟩,
    ⟨some 56, .bin .mul (.c (.int .i64 9)) (.t 55), none, true⟩,
    ⟨some 57, .bin .add (.t 52) (.t 56), none, true⟩,
    ⟨some 58, .iaa 3 1 (.t 14) (.t 49), none, true⟩,
    ⟨none, .store 1 (.t 58) (.t 57), none, true⟩] (some [3, 5, 9, 11, 12, 13, 14]) []) (
  .reg none [
    ⟨some 59, .mv (.t 13), none, true⟩,
    ⟨some 60, .bin .add (.t 59) (.c (.int .i64 1)), none, true⟩,
    ⟨some 61, .mv (.t 13), none, true⟩,
    ⟨some 62, .bin .add (.t 61) (.c (.int .i64 1)), none, true⟩,
    ⟨some 63, .iaa 3 1 (.t 14) (.t 62), none, true⟩,
    ⟨some 64, .load false 1 (.t 63), none, true⟩,
    ⟨some 65, .mv (.t 3), none, true⟩,
    ⟨some 66, .bin .rem (.t 65) (.c (.int .u8 5)), none, true⟩,
    ⟨some 67, .conv .i64 (.t 66), none, true⟩,
    ⟨some 68, .bin .mul (.c (.int .i64 9)) (.t 67), none, true⟩,
    ⟨some 69, .bin .sub (.t 64) (.t 68), none, true⟩,
    ⟨some 70, .iaa 3 1 (.t 14) (.t 60), none, true⟩,
    ⟨none, .store 1 (.t 70) (.t 69), none, true⟩] (some [5, 9, 11, 12, 13, 14]) []))))))) (
(.seq (
.reg none [
  ⟨some 71, .load true 12 (.t 5), none, true⟩,
  ⟨some 15, .alloc [.int .i64 0, .int .i64 0, .int .i64 0, .int .i64 0, .int .i64 0, .int .i64 0, .int .i64 0, .int .i64 0, .int .i64 0, .int .i64 0, .int .i64 0, .int .i64 0], none, true⟩,
  ⟨none, .store 12 (.t 15) (.t 71), none, true⟩] (some [5, 9, 11, 12, 13, 14, 15]) []) (
(.seq (
.reg none [
  ⟨some 72, .fad 0 (.t 5), none, true⟩,
  ⟨some 73, .fad 0 (.t 72), none, true⟩,
  ⟨some 74, .load false 1 (.t 73), none, true⟩,
  ⟨some 75, .iaa 2 1 (.t 9) (.c (.int .i64 0)), none, true⟩,
  ⟨some 76, .load false 1 (.t 75), none, true⟩,
  ⟨some 77, .conv .i64 (.t 76), none, true⟩,
  ⟨some 78, .bin .mul (.c (.int .i64 16)) (.t 77), none, true⟩,
  ⟨some 79, .bin .add (.t 74) (.t 78), none, true⟩,
  ⟨some 80, .fad 0 (.t 5), none, true⟩,
  ⟨some 81, .fad 1 (.t 80), none, true⟩,
  ⟨some 82, .load false 1 (.t 81), none, true⟩,
  ⟨some 83, .iaa 2 1 (.t 9) (.c (.int .i64 1)), none, true⟩,
  ⟨some 84, .load false 1 (.t 83), none, true⟩,
  ⟨some 85, .conv .i64 (.t 84), none, true⟩,
  ⟨some 86, .bin .mul (.c (.int .i64 16)) (.t 85), none, true⟩,
  ⟨some 87, .bin .add (.t 82) (.t 86), none, true⟩,
  ⟨some 88, .build [.int .i64 0, .int .i64 0] [(0, 1, .t 79), (1, 1, .t 87)], none, true⟩,
  ⟨some 89, .fad 0 (.t 15), none, true⟩,
  ⟨none, .store 2 (.t 89) (.t 88), none, true⟩] (some [5, 9, 11, 12, 13, 14, 15]) []) (
(.seq (
(.seq (
.reg none [
  ⟨some 90, .load true 12 (.t 15), none, true⟩,
  ⟨some 91, .call 15 [.t 90], none, true⟩] (some [5, 9, 11, 12, 13, 14, 15, 91]) []) (
(.cond (.t 91) (
  (.seq (
  .reg (some [.dr [93, 95, 96, 16, 17] [], .dr [92, 95, 96, 16, 17] [], .dr [95, 96, 16, 17] [], .dr [92, 93, 94, 96, 16, 17] [], .dr [92, 93, 94, 95, 16, 17] [], .dr [16, 17] [], .dr [92, 93, 94, 95, 96, 97, 17] [], .dr [92, 93, 94, 95, 96, 97, 16] [], .free, .free]) [
    ⟨some 92, .load true 12 (.t 5), none, true⟩,
    ⟨some 93, .load true 3 (.t 12), none, true⟩,
    ⟨some 94, .call 27 [.t 92, .t 93], none, true⟩,
    ⟨some 95, .load true 12 (.t 15), none, true⟩,
    ⟨some 96, .load true 3 (.t 12), none, true⟩,
    ⟨some 97, .call 27 [.t 95, .t 96], none, true⟩,
    ⟨some 16, .alloc [.int .i64 0, .int .i64 0, .int .i64 0, .int .i64 0, .int .i64 0, .int .i64 0, .int .i64 0, .int .i64 0], none, true⟩,
    ⟨some 17, .alloc [.int .i64 0, .int .i64 0, .int .i64 0, .int .i64 0, .int .i64 0, .int .i64 0, .int .i64 0, .int .i64 0], none, true⟩,
    ⟨none, .store 8 (.t 16) (.t 94), none, true⟩,
    ⟨none, .store 8 (.t 17) (.t 97), none, true⟩] (some [5, 9, 11, 12, 13, 14, 16, 17]) [15]) (
  (.seq (
  .reg none [
    ⟨some 18, .as (.c (.int .i64 0)), none, true⟩] (some [5, 9, 11, 12, 13, 14, 16, 17, 18]) []) (
  (.block 0 (
  A5_L1) (some [5, 11, 12, 13, 14]) [10, 18])))))) (
  .skip))))) (
(.seq (
(.seq (
.reg none [
  ⟨some 132, .load true 12 (.t 5), none, true⟩,
  ⟨some 133, .load true 3 (.t 14), none, true⟩,
  ⟨some 134, .call 17 [.t 132, .t 133], none, true⟩,
  ⟨some 135, .un .not (.t 134), none, true⟩] (some [5, 11, 12, 13, 14, 135]) []) (
(.cond (.t 135) (
  (.seq (
  .reg none [
    ⟨some 136, .mv (.t 11), none, true⟩,
    ⟨some 10, .as (.t 136), none, true⟩] (some [10]) []) (
  .ret))) (
  .skip))))) (
(.seq (
.reg (some [.dr [138, 140, 141, 19, 20] [], .dr [137, 140, 141, 19, 20] [], .dr [140, 141, 19, 20] [], .dr [137, 138, 139, 141, 19, 20] [], .dr [137, 138, 139, 140, 19, 20] [], .dr [19, 20] [], .dr [137, 138, 139, 140, 141, 142, 20] [], .dr [137, 138, 139, 140, 141, 142, 19] [], .free, .free]) [
  ⟨some 137, .load true 12 (.t 5), none, true⟩,
  ⟨some 138, .load true 3 (.t 12), none, true⟩,
  ⟨some 139, .call 25 [.t 137, .t 138], none, true⟩,
  ⟨some 140, .load true 12 (.t 5), none, true⟩,
  ⟨some 141, .load true 3 (.t 14), none, true⟩,
  ⟨some 142, .call 25 [.t 140, .t 141], none, true⟩,
  ⟨some 19, .alloc [.int .i64 0, .int .i64 0, .int .i64 0, .int .i64 0, .int .i64 0, .int .i64 0, .int .i64 0, .int .i64 0, .int .i64 0], none, true⟩,
  ⟨some 20, .alloc [.int .i64 0, .int .i64 0, .int .i64 0, .int .i64 0, .int .i64 0, .int .i64 0, .int .i64 0, .int .i64 0, .int .i64 0], none, true⟩,
  ⟨none, .store 9 (.t 19) (.t 139), none, true⟩,
  ⟨none, .store 9 (.t 20) (.t 142), none, true⟩] (some [11, 13, 19, 20]) [5, 12, 14]) (
(.seq (
(.seq (
.reg none [
  ⟨some 21, .as (.c (.int .i64 0)), none, true⟩] (some [11, 13, 19, 20, 21]) []) (
(.block 2 (
A5_L0) (some [11]) [10, 21])))) (
(.seq (
.reg none [
  ⟨some 181, .mv (.t 11), none, true⟩,
  ⟨some 10, .as (.t 181), none, true⟩] (some [10]) []) (
.ret)))))))))))))))))))))))))))))
def A6_L0b : ACode := 
  (.seq (
  (.seq (
  .reg none [
    ⟨some 30, .mv (.t 9), none, true⟩,
    ⟨some 31, .mv (.t 2), none, true⟩,
    ⟨some 32, .len 0 (.t 31), none, true⟩,
    ⟨some 33, .bin .lss (.t 30) (.t 32), none, true⟩] (some [2, 3, 7, 8, 9, 33]) []) (
  (.cond (.t 33) (
    .skip) (
    .exit 0))))) (
  (.seq (
  (.block 1 (
  (.seq (
  .reg none [
    ⟨some 36, .mv (.t 2), none, true⟩,
    ⟨some 37, .mv (.t 9), none, true⟩,
    ⟨some 38, .ias 1 (.t 36) (.t 37), none, true⟩,
    ⟨some 39, .load false 1 (.t 38), none, true⟩,
    ⟨some 40, .conv .i64 (.t 39), none, true⟩,
    ⟨some 41, .bin .rem (.t 40) (.c (.int .i64 3)), none, true⟩,
    ⟨some 10, .as (.t 41), none, true⟩] (some [2, 3, 7, 8, 9, 10]) []) (
  (.seq (
  .reg none [
    ⟨some 42, .mv (.t 2), none, true⟩,
    ⟨some 43, .mv (.t 9), none, true⟩,
    ⟨some 44, .ias 1 (.t 42) (.t 43), none, true⟩,
    ⟨some 45, .load false 1 (.t 44), none, true⟩,
    ⟨some 46, .conv .i64 (.t 45), none, true⟩,
    ⟨some 47, .bin .quo (.t 46) (.c (.int .i64 3)), none, true⟩,
    ⟨some 48, .bin .rem (.t 47) (.c (.int .i64 2)), none, true⟩,
    ⟨some 49, .bin .mul (.c (.int .i64 2)) (.t 48), none, true⟩,
    ⟨some 50, .bin .sub (.c (.int .i64 1)) (.t 49), none, true⟩,
    ⟨some 11, .as (.t 50), none, true⟩] (some [2, 3, 7, 8, 9, 10, 11]) []) (
  (.seq (
  .reg none [
    ⟨some 52, .load true 12 (.t 3), none, true⟩,
    ⟨some 53, .load true 3 (.t 8), none, true⟩,
    ⟨some 54, .mv (.t 10), none, true⟩,
    ⟨some 55, .mv (.t 11), none, true⟩,
    ⟨some 56, .call 23 [.t 52, .t 53, .t 54, .t 55], none, true⟩,
    ⟨some 51, .mv (.t 56), none, true⟩,
    ⟨some 57, .ext (.t 51) 0, none, true⟩,
    ⟨some 58, .ext (.t 51) 1, none, true⟩,
    ⟨some 12, .alloc [.int .i64 0, .int .i64 0, .int .i64 0], none, true⟩,
    ⟨none, .store 3 (.t 12) (.t 57), none, true⟩,
    ⟨some 13, .as (.t 58), none, true⟩] (some [2, 3, 7, 8, 9, 10, 11, 12, 13]) []) (
  (.seq (
  .reg (some [.free, .free, .free, .dr [68] [], .dr [68] [], .dr [68] [], .dr [64] [], .dr [64] [], .dr [64] [], .dr [64] [], .free, .free, .free, .free, .free, .free, .dr [81] [], .dr [81] [], .dr [81] [], .dr [77] [], .dr [77] [], .dr [77] [], .dr [77] [], .free, .free, .free, .free]) [
    ⟨some 59, .mv (.t 11), none, true⟩,
    ⟨some 60, .bin .eql (.t 59) (.c (.int .i64 1)), none, true⟩,
    ⟨some 61, .mv (.t 60), none, true⟩,
    ⟨some 62, .mv (.t 10), some (61, true), true⟩,
    ⟨some 63, .iaa 3 1 (.t 8) (.t 62), some (61, true), true⟩,
    ⟨some 64, .load false 1 (.t 63), some (61, true), true⟩,
    ⟨some 65, .mv (.t 10), some (61, true), true⟩,
    ⟨some 66, .fad 9 (.t 3), some (61, true), true⟩,
    ⟨some 67, .iaa 3 1 (.t 66) (.t 65), some (61, true), true⟩,
    ⟨some 68, .load false 1 (.t 67), some (61, true), true⟩,
    ⟨some 69, .bin .eql (.t 64) (.t 68), some (61, true), true⟩,
    ⟨some 70, .pick (.t 61) (.t 69) (.c (.bool false)), none, true⟩,
    ⟨some 71, .mv (.t 70), none, true⟩,
    ⟨some 72, .mv (.t 11), some (71, false), true⟩,
    ⟨some 73, .bin .eql (.t 72) (.c (.int .i64 (-1))), some (71, false), true⟩,
    ⟨some 74, .mv (.t 73), some (71, false), true⟩,
    ⟨some 75, .mv (.t 10), some (74, true), true⟩,
    ⟨some 76, .iaa 3 1 (.t 8) (.t 75), some (74, true), true⟩,
    ⟨some 77, .load false 1 (.t 76), some (74, true), true⟩,
    ⟨some 78, .mv (.t 10), some (74, true), true⟩,
    ⟨some 79, .fad 6 (.t 3), some (74, true), true⟩,
    ⟨some 80, .iaa 3 1 (.t 79) (.t 78), some (74, true), true⟩,
    ⟨some 81, .load false 1 (.t 80), some (74, true), true⟩,
    ⟨some 82, .bin .eql (.t 77) (.t 81), some (74, true), true⟩,
    ⟨some 83, .pick (.t 74) (.t 82) (.c (.bool false)), some (71, false), true⟩,
    ⟨some 84, .pick (.t 71) (.c (.bool true)) (.t 83), none, true⟩,
    ⟨some 14, .as (.t 84), none, true⟩] (some [2, 3, 7, 8, 9, 10, 11, 12, 13, 14]) []) (
  (.seq (
  (.seq (
  .reg none [
    ⟨some 85, .mv (.t 13), none, true⟩,
    ⟨some 86, .mv (.t 14), none, true⟩,
    ⟨some 87, .bib false (.t 85) (.t 86), none, true⟩] (some [2, 3, 7, 8, 9, 10, 11, 12, 13, 87]) []) (
  (.cond (.t 87) (
    (.seq (
    .reg none [
      ⟨some 6, .as (.c (.bool false)), none, true⟩] (some [6]) []) (
    .ret))) (
    .skip))))) (
  (.seq (
  (.seq (
  .reg none [
    ⟨some 88, .mv (.t 13), none, true⟩,
    ⟨some 89, .un .not (.t 88), none, true⟩] (some [2, 3, 7, 8, 9, 10, 11, 12, 89]) []) (
  (.cond (.t 89) (
    .exit 1) (
    .skip))))) (
  (.seq (
  .reg none [
    ⟨some 91, .load true 12 (.t 3), none, true⟩,
    ⟨some 92, .load true 3 (.t 12), none, true⟩,
    ⟨some 93, .mv (.t 10), none, true⟩,
    ⟨some 94, .mv (.t 11), none, true⟩,
    ⟨some 95, .un .neg (.t 94), none, true⟩,
    ⟨some 96, .call 23 [.t 91, .t 92, .t 93, .t 95], none, true⟩,
    ⟨some 90, .mv (.t 96), none, true⟩,
    ⟨some 97, .ext (.t 90) 0, none, true⟩,
    ⟨some 98, .ext (.t 90) 1, none, true⟩,
    ⟨some 15, .alloc [.int .i64 0, .int .i64 0, .int .i64 0], none, true⟩,
    ⟨none, .store 3 (.t 15) (.t 97), none, true⟩,
    ⟨some 16, .as (.t 98), none, true⟩] (some [2, 3, 7, 8, 9, 10, 11, 12, 15, 16]) []) (
  (.seq (
  (.seq (
  .reg (some [.free, .free, .free, .dr [103] [], .dr [102] [], .free, .free, .free, .dr [108] [], .dr [107] [], .free, .free, .free, .free, .dr [118] [], .dr [118] [], .dr [118] [], .dr [115] [], .dr [115] [], .dr [115] [], .dr [115, 118] [], .dr [115] [], .free, .free]) [
    ⟨some 99, .mv (.t 16), none, true⟩,
    ⟨some 100, .un .not (.t 99), none, true⟩,
    ⟨some 101, .mv (.t 100), none, true⟩,
    ⟨some 102, .load true 3 (.t 15), some (101, false), true⟩,
    ⟨some 103, .load true 3 (.t 8), some (101, false), true⟩,
    ⟨some 104, .eqa true [0, 0, 0] (.t 102) (.t 103), some (101, false), true⟩,
    ⟨some 105, .pick (.t 101) (.c (.bool true)) (.t 104), none, true⟩,
    ⟨some 106, .mv (.t 105), none, true⟩,
    ⟨some 107, .load true 12 (.t 3), some (106, false), true⟩,
    ⟨some 108, .load true 3 (.t 12), some (106, false), true⟩,
    ⟨some 109, .call 17 [.t 107, .t 108], some (106, false), true⟩,
    ⟨some 110, .un .not (.t 109), some (106, false), true⟩,
    ⟨some 111, .pick (.t 106) (.c (.bool true)) (.t 110), none, true⟩,
    ⟨some 112, .mv (.t 111), none, true⟩,
    ⟨some 113, .mv (.t 10), some (112, false), true⟩,
    ⟨some 114, .iaa 3 1 (.t 12) (.t 113), some (112, false), true⟩,
    ⟨some 115, .load false 1 (.t 114), some (112, false), true⟩,
    ⟨some 116, .mv (.t 10), some (112, false), true⟩,
    ⟨some 117, .iaa 3 1 (.t 8) (.t 116), some (112, false), true⟩,
    ⟨some 118, .load false 1 (.t 117), some (112, false), true⟩,
    ⟨some 119, .mv (.t 11), some (112, false), true⟩,
    ⟨some 120, .bin .add (.t 118) (.t 119), some (112, false), true⟩,
    ⟨some 121, .bin .neq (.t 115) (.t 120), some (112, false), true⟩,
    ⟨some 122, .pick (.t 112) (.c (.bool true)) (.t 121), none, true⟩] (some [2, 3, 7, 8, 9, 12, 122]) [15]) (
  (.cond (.t 122) (
    (.seq (
    .reg none [
      ⟨some 6, .as (.c (.bool false)), none, true⟩] (some [6]) []) (
    .ret))) (
    .skip))))) (
  .reg none [
    ⟨some 123, .load true 3 (.t 12), none, true⟩,
    ⟨none, .store 3 (.t 8) (.t 123), none, true⟩] (some [2, 3, 7, 8, 9]) [12]))))))))))))))))) (some [2, 3, 7, 8, 9]) [6, 10, 11, 12, 13, 14, 15, 16, 56, 96, 109])) (
  .reg none [
    ⟨some 34, .mv (.t 9), none, true⟩,
    ⟨some 35, .bin .add (.t 34) (.c (.int .i64 1)), none, true⟩,
    ⟨some 9, .as (.t 35), none, true⟩] (some [2, 3, 7, 8, 9]) []))))
def A6_L0 : ACode := .loop A6_L0b (some [2, 3, 7, 8, 9]) [6, 10, 11, 12, 13, 14, 15, 16, 56, 96, 109]
/-- ambidexter/ambidexterlaw07.ArmStepsAreReversible -/
def A6 : AFn := .code [.t 6] (
(.seq (
.reg none [
  ⟨some 3, .box (.t 0), none, true⟩,
  ⟨some 4, .box (.t 1), none, true⟩,
  ⟨some 6, .as (.c (.bool false)), none, true⟩] (some [2, 3, 4]) []) (
(.seq (
.reg none [
  ⟨some 17, .call 14 [], none, true⟩,
  ⟨some 7, .as (.t 17), none, true⟩] (some [2, 3, 4, 7]) []) (
(.seq (
(.seq (
.reg none [
  ⟨some 18, .load true 12 (.t 3), none, true⟩,
  ⟨some 19, .call 15 [.t 18], none, true⟩,
  ⟨some 20, .un .not (.t 19), none, true⟩,
  ⟨some 21, .mv (.t 20), none, true⟩,
  ⟨some 22, .mv (.t 2), some (21, false), true⟩,
  ⟨some 23, .len 0 (.t 22), some (21, false), true⟩,
  ⟨some 24, .bin .gtr (.t 23) (.c (.int .i64 100)), some (21, false), true⟩,
  ⟨some 25, .pick (.t 21) (.c (.bool true)) (.t 24), none, true⟩] (some [2, 3, 4, 7, 25]) []) (
(.cond (.t 25) (
  (.seq (
  .reg none [
    ⟨some 26, .mv (.t 7), none, true⟩,
    ⟨some 6, .as (.t 26), none, true⟩] (some [6]) []) (
  .ret))) (
  .skip))))) (
(.seq (
.reg none [
  ⟨some 27, .load true 12 (.t 3), none, true⟩,
  ⟨some 28, .load true 3 (.t 4), none, true⟩,
  ⟨some 29, .call 19 [.t 27, .t 28], none, true⟩,
  ⟨some 8, .alloc [.int .i64 0, .int .i64 0, .int .i64 0], none, true⟩,
  ⟨none, .store 3 (.t 8) (.t 29), none, true⟩] (some [2, 3, 7, 8]) [4]) (
(.seq (
(.seq (
.reg none [
  ⟨some 9, .as (.c (.int .i64 0)), none, true⟩] (some [2, 3, 7, 8, 9]) []) (
(.block 0 (
A6_L0) (some [3, 7, 8]) [6, 9, 10, 11, 12, 13, 14, 15, 16, 56, 96, 109])))) (
(.seq (
.reg none [
  ⟨some 124, .mv (.t 7), none, true⟩,
  ⟨some 125, .mv (.t 124), none, true⟩,
  ⟨some 126, .load true 12 (.t 3), some (125, true), true⟩,
  ⟨some 127, .load true 3 (.t 8), some (125, true), true⟩,
  ⟨some 128, .call 17 [.t 126, .t 127], some (125, true), true⟩,
  ⟨some 129, .pick (.t 125) (.t 128) (.c (.bool false)), none, true⟩,
  ⟨some 6, .as (.t 129), none, true⟩] (some [6]) [3, 8]) (
.ret)))))))))))))
/-- ambidexter/ambidexterlaw07.ArmReachIsBounded -/
def A7 : AFn := .code [.t 4] (
(.seq (
.reg none [
  ⟨some 2, .box (.t 0), none, true⟩,
  ⟨some 3, .box (.t 1), none, true⟩,
  ⟨some 4, .as (.c (.bool false)), none, true⟩] (some [2, 3]) []) (
(.seq (
.reg none [
  ⟨some 12, .call 14 [], none, true⟩,
  ⟨some 5, .as (.t 12), none, true⟩] (some [2, 3, 5]) []) (
(.seq (
(.seq (
.reg none [
  ⟨some 13, .load true 12 (.t 2), none, true⟩,
  ⟨some 14, .call 15 [.t 13], none, true⟩,
  ⟨some 15, .un .not (.t 14), none, true⟩] (some [2, 3, 5, 15]) []) (
(.cond (.t 15) (
  (.seq (
  .reg none [
    ⟨some 16, .mv (.t 5), none, true⟩,
    ⟨some 4, .as (.t 16), none, true⟩] (some [4]) []) (
  .ret))) (
  .skip))))) (
(.seq (
.reg (some [.dr [18, 19, 20, 6] [], .dr [17, 19, 6] [], .dr [17, 18, 6] [], .dr [17, 6] [], .dr [6] [], .dr [17, 18, 19, 20, 21] [], .free]) [
  ⟨some 17, .load true 12 (.t 2), none, true⟩,
  ⟨some 18, .load true 12 (.t 2), none, true⟩,
  ⟨some 19, .load true 3 (.t 3), none, true⟩,
  ⟨some 20, .call 19 [.t 18, .t 19], none, true⟩,
  ⟨some 21, .call 27 [.t 17, .t 20], none, true⟩,
  ⟨some 6, .alloc [.int .i64 0, .int .i64 0, .int .i64 0, .int .i64 0, .int .i64 0, .int .i64 0, .int .i64 0, .int .i64 0], none, true⟩,
  ⟨none, .store 8 (.t 6) (.t 21), none, true⟩] (some [2, 5, 6]) [3]) (
(.seq (
.reg none [
  ⟨some 22, .fad 2 (.t 2), none, true⟩,
  ⟨some 23, .iaa 3 1 (.t 22) (.c (.int .i64 0)), none, true⟩,
  ⟨some 24, .load false 1 (.t 23), none, true⟩,
  ⟨some 25, .fad 2 (.t 2), none, true⟩,
  ⟨some 26, .iaa 3 1 (.t 25) (.c (.int .i64 1)), none, true⟩,
  ⟨some 27, .load false 1 (.t 26), none, true⟩,
  ⟨some 28, .bin .add (.t 24) (.t 27), none, true⟩,
  ⟨some 29, .fad 2 (.t 2), none, true⟩,
  ⟨some 30, .iaa 3 1 (.t 29) (.c (.int .i64 2)), none, true⟩,
  ⟨some 31, .load false 1 (.t 30), none, true⟩,
  ⟨some 32, .bin .add (.t 28) (.t 31), none, true⟩,
  ⟨some 7, .as (.t 32), none, true⟩] (some [2, 5, 6, 7]) []) (
(.seq (
.reg none [
  ⟨some 33, .fad 2 (.t 2), none, true⟩,
  ⟨some 34, .iaa 3 1 (.t 33) (.c (.int .i64 0)), none, true⟩,
  ⟨some 35, .load false 1 (.t 34), none, true⟩,
  ⟨some 36, .fad 2 (.t 2), none, true⟩,
  ⟨some 37, .iaa 3 1 (.t 36) (.c (.int .i64 1)), none, true⟩,
  ⟨some 38, .load false 1 (.t 37), none, true⟩,
  ⟨some 39, .fad 2 (.t 2), none, true⟩,
  ⟨some 40, .iaa 3 1 (.t 39) (.c (.int .i64 2)), none, true⟩,
  ⟨some 41, .load false 1 (.t 40), none, true⟩,
  ⟨some 42, .mx [.t 35, .t 38, .t 41], none, true⟩,
  ⟨some 43, .bin .mul (.c (.int .i64 2)) (.t 42), none, true⟩,
  ⟨some 44, .mv (.t 7), none, true⟩,
  ⟨some 45, .bin .sub (.t 43) (.t 44), none, true⟩,
  ⟨some 46, .mx [.c (.int .i64 0), .t 45], none, true⟩,
  ⟨some 8, .as (.t 46), none, true⟩] (some [2, 5, 6, 7, 8]) []) (
(.seq (
.reg none [
  ⟨some 47, .mv (.t 7), none, true⟩,
  ⟨some 48, .bin .mul (.t 47) (.c (.int .i64 4394000)), none, true⟩,
  ⟨some 49, .bin .quo (.t 48) (.c (.int .i64 16)), none, true⟩,
  ⟨some 50, .mv (.t 8), none, true⟩,
  ⟨some 51, .bin .mul (.t 50) (.c (.int .i64 4394000)), none, true⟩,
  ⟨some 52, .bin .quo (.t 51) (.c (.int .i64 16)), none, true⟩,
  ⟨some 9, .as (.t 49), none, true⟩,
  ⟨some 10, .as (.t 52), none, true⟩] (some [2, 5, 6, 9, 10]) []) (
(.seq (
.reg none [
  ⟨some 53, .iaa 4 2 (.t 6) (.c (.int .i64 3)), none, true⟩,
  ⟨some 54, .load true 2 (.t 53), none, true⟩,
  ⟨some 55, .fad 0 (.t 2), none, true⟩,
  ⟨some 56, .load true 2 (.t 55), none, true⟩,
  ⟨some 57, .call 29 [.t 54, .t 56], none, true⟩,
  ⟨some 11, .as (.t 57), none, true⟩] (some [2, 5, 6, 9, 10, 11]) []) (
(.seq (
.reg none [
  ⟨some 58, .mv (.t 5), none, true⟩,
  ⟨some 59, .mv (.t 58), none, true⟩,
  ⟨some 60, .iaa 4 2 (.t 6) (.c (.int .i64 0)), some (59, true), true⟩,
  ⟨some 61, .load true 2 (.t 60), some (59, true), true⟩,
  ⟨some 62, .fad 0 (.t 2), some (59, true), true⟩,
  ⟨some 63, .load true 2 (.t 62), some (59, true), true⟩,
  ⟨some 64, .eqa false [0, 0] (.t 61) (.t 63), some (59, true), true⟩,
  ⟨some 65, .pick (.t 59) (.t 64) (.c (.bool false)), none, true⟩,
  ⟨some 66, .mv (.t 65), none, true⟩,
  ⟨some 67, .mv (.t 11), some (66, true), true⟩,
  ⟨some 68, .mv (.t 9), some (66, true), true⟩,
  ⟨some 69, .mv (.t 9), some (66, true), true⟩,
  ⟨some 70, .bin .mul (.t 68) (.t 69), some (66, true), true⟩,
  ⟨some 71, .bin .leq (.t 67) (.t 70), some (66, true), true⟩,
  ⟨some 72, .pick (.t 66) (.t 71) (.c (.bool false)), none, true⟩,
  ⟨some 73, .mv (.t 72), none, true⟩,
  ⟨some 74, .mv (.t 11), some (73, true), true⟩,
  ⟨some 75, .mv (.t 10), some (73, true), true⟩,
  ⟨some 76, .mv (.t 10), some (73, true), true⟩,
  ⟨some 77, .bin .mul (.t 75) (.t 76), some (73, true), true⟩,
  ⟨some 78, .bin .geq (.t 74) (.t 77), some (73, true), true⟩,
  ⟨some 79, .pick (.t 73) (.t 78) (.c (.bool false)), none, true⟩,
  ⟨some 4, .as (.t 79), none, true⟩] (some [4]) [2, 6]) (
.ret)))))))))))))))))))
def A8_L0b : ACode := 
    (.seq (
    (.seq (
    .reg none [
      ⟨some 56, .mv (.t 11), none, true⟩,
      ⟨some 57, .bin .lss (.t 56) (.c (.int .i64 4)), none, true⟩] (some [2, 5, 7, 8, 9, 11, 57]) []) (
    (.cond (.t 57) (
      .skip) (
      .exit 2))))) (
    (.seq (
    (.block 3 (
    (.seq (
    .reg none [
      ⟨some 60, .mv (.t 9), none, true⟩,
      ⟨some 61, .iaa 3 1 (.t 8) (.t 60), none, true⟩,
      ⟨some 62, .load false 1 (.t 61), none, true⟩,
      ⟨some 63, .mv (.t 11), none, true⟩,
      ⟨some 64, .ias 2 (.t 62) (.t 63), none, true⟩,
      ⟨some 65, .load true 2 (.t 64), none, true⟩,
      ⟨some 12, .alloc [.int .i64 0, .int .i64 0], none, true⟩,
      ⟨none, .store 2 (.t 12) (.t 65), none, true⟩] (some [2, 5, 7, 8, 9, 11, 12]) []) (
    (.seq (
    .reg none [
      ⟨some 66, .load true 2 (.t 12), none, true⟩,
      ⟨some 67, .call 30 [.t 66], none, true⟩,
      ⟨some 68, .un .not (.t 67), none, true⟩,
      ⟨some 69, .mv (.t 68), none, true⟩,
      ⟨some 70, .fad 0 (.t 12), some (69, false), true⟩,
      ⟨some 71, .load false 1 (.t 70), some (69, false), true⟩,
      ⟨some 72, .bin .rem (.t 71) (.c (.int .i64 16)), some (69, false), true⟩,
      ⟨some 73, .bin .neq (.t 72) (.c (.int .i64 0)), some (69, false), true⟩,
      ⟨some 74, .pick (.t 69) (.c (.bool true)) (.t 73), none, true⟩,
      ⟨some 75, .mv (.t 74), none, true⟩,
      ⟨some 76, .fad 1 (.t 12), some (75, false), true⟩,
      ⟨some 77, .load false 1 (.t 76), some (75, false), true⟩,
      ⟨some 78, .bin .rem (.t 77) (.c (.int .i64 16)), some (75, false), true⟩,
      ⟨some 79, .bin .neq (.t 78) (.c (.int .i64 0)), some (75, false), true⟩,
      ⟨some 80, .pick (.t 75) (.c (.bool true)) (.t 79), none, true⟩] (some [2, 5, 7, 8, 9, 11, 80]) [12]) (
    (.cond (.t 80) (
      (.seq (
      .reg none [
        ⟨some 4, .as (.c (.bool false)), none, true⟩] (some [4]) []) (
      .ret))) (
      .skip))))))) (some [2, 5, 7, 8, 9, 11]) [4, 12, 67])) (
    .reg none [
      ⟨some 58, .mv (.t 11), none, true⟩,
      ⟨some 59, .bin .add (.t 58) (.c (.int .i64 1)), none, true⟩,
      ⟨some 11, .as (.t 59), none, true⟩] (some [2, 5, 7, 8, 9, 11]) []))))
def A8_L0 : ACode := .loop A8_L0b (some [2, 5, 7, 8, 9, 11]) [4, 12, 67]
def A8_L1b : ACode := 
  (.seq (
  (.seq (
  .reg none [
    ⟨some 27, .mv (.t 9), none, true⟩,
    ⟨some 28, .bin .lss (.t 27) (.c (.int .i64 3)), none, true⟩] (some [2, 5, 7, 8, 9, 28]) []) (
  (.cond (.t 28) (
    .skip) (
    .exit 0))))) (
  (.seq (
  (.block 1 (
  (.seq (
  .reg none [
    ⟨some 31, .mv (.t 9), none, true⟩,
    ⟨some 32, .fad 2 (.t 2), none, true⟩,
    ⟨some 33, .iaa 3 1 (.t 32) (.t 31), none, true⟩,
    ⟨some 34, .load false 1 (.t 33), none, true⟩,
    ⟨some 35, .bin .mul (.t 34) (.c (.int .i64 4394000)), none, true⟩,
    ⟨some 36, .bin .quo (.t 35) (.c (.int .i64 16)), none, true⟩,
    ⟨some 10, .as (.t 36), none, true⟩] (some [2, 5, 7, 8, 9, 10]) []) (
  (.seq (
  (.seq (
  .reg (some [.loc, .loc, .loc, .loc, .loc, .loc, .loc, .loc, .dr [43] [], .dr [39] [], .free, .free, .free, .free, .free, .free, .free, .free, .free]) [
    ⟨some 37, .mv (.t 9), none, true⟩,
    ⟨some 38, .iaa 4 2 (.t 7) (.t 37), none, true⟩,
    ⟨some 40, .mv (.t 9), none, true⟩,
    ⟨some 41, .bin .add (.t 40) (.c (.int .i64 1)), none, true⟩,
    ⟨some 42, .iaa 4 2 (.t 7) (.t 41), none, true⟩,
    ⟨some 45, .mv (.t 10), none, true⟩,
    ⟨some 46, .mv (.t 10), none, true⟩,
    ⟨some 47, .bin .mul (.t 45) (.t 46), none, true⟩,
    ⟨some 39, .load true 2 (.t 38), none, true⟩,
    ⟨some 43, .load true 2 (.t 42), none, true⟩,
    ⟨some 44, .call 29 [.t 39, .t 43], none, true⟩,
    ⟨some 48, .bin .neq (.t 44) (.t 47), none, true⟩,
    ⟨some 49, .mv (.t 48), none, true⟩,
    ⟨some 50, .mv (.t 9), some (49, false), true⟩,
    ⟨some 51, .iaa 3 1 (.t 8) (.t 50), some (49, false), true⟩,
    ⟨some 52, .load false 1 (.t 51), some (49, false), true⟩,
    ⟨some 53, .len 0 (.t 52), some (49, false), true⟩,
    ⟨some 54, .bin .neq (.t 53) (.c (.int .i64 4)), some (49, false), true⟩,
    ⟨some 55, .pick (.t 49) (.c (.bool true)) (.t 54), none, true⟩] (some [2, 5, 7, 8, 9, 55]) []) (
  (.cond (.t 55) (
    (.seq (
    .reg none [
      ⟨some 4, .as (.c (.bool false)), none, true⟩] (some [4]) []) (
    .ret))) (
    .skip))))) (
  (.seq (
  (.seq (
  .reg none [
    ⟨some 11, .as (.c (.int .i64 0)), none, true⟩] (some [2, 5, 7, 8, 9, 11]) []) (
  (.block 2 (
  A8_L0) (some [2, 5, 7, 8, 9]) [4, 11, 12, 67])))) (
  (.seq (
  (.seq (
  .reg none [
    ⟨some 81, .mv (.t 9), none, true⟩,
    ⟨some 82, .bin .add (.t 81) (.c (.int .i64 1)), none, true⟩,
    ⟨some 83, .iaa 4 2 (.t 7) (.t 82), none, true⟩,
    ⟨some 84, .load true 2 (.t 83), none, true⟩,
    ⟨some 85, .call 30 [.t 84], none, true⟩,
    ⟨some 86, .un .not (.t 85), none, true⟩,
    ⟨some 87, .mv (.t 86), none, true⟩,
    ⟨some 88, .mv (.t 9), some (87, false), true⟩,
    ⟨some 89, .bin .add (.t 88) (.c (.int .i64 1)), some (87, false), true⟩,
    ⟨some 90, .iaa 4 2 (.t 7) (.t 89), some (87, false), true⟩,
    ⟨some 91, .fad 0 (.t 90), some (87, false), true⟩,
    ⟨some 92, .load false 1 (.t 91), some (87, false), true⟩,
    ⟨some 93, .bin .rem (.t 92) (.c (.int .i64 16)), some (87, false), true⟩,
    ⟨some 94, .bin .neq (.t 93) (.c (.int .i64 0)), some (87, false), true⟩,
    ⟨some 95, .pick (.t 87) (.c (.bool true)) (.t 94), none, true⟩,
    ⟨some 96, .mv (.t 95), none, true⟩,
    ⟨some 97, .mv (.t 9), some (96, false), true⟩,
    ⟨some 98, .bin .add (.t 97) (.c (.int .i64 1)), some (96, false), true⟩,
    ⟨some 99, .iaa 4 2 (.t 7) (.t 98), some (96, false), true⟩,
    ⟨some 100, .fad 1 (.t 99), some (96, false), true⟩,
    ⟨some 101, .load false 1 (.t 100), some (96, false), true⟩,
    ⟨some 102, .bin .rem (.t 101) (.c (.int .i64 16)), some (96, false), true⟩,
    ⟨some 103, .bin .neq (.t 102) (.c (.int .i64 0)), some (96, false), true⟩,
    ⟨some 104, .pick (.t 96) (.c (.bool true)) (.t 103), none, true⟩] (some [2, 5, 7, 8, 9, 104]) []) (
  (.cond (.t 104) (
    (.seq (
    .reg none [
      ⟨some 4, .as (.c (.bool false)), none, true⟩] (some [4]) []) (
    .ret))) (
    .skip))))) (
  (.seq (
  .reg (some [.free, .free, .free, .free, .free, .free, .dr [118, 121] [], .dr [118, 121] [], .dr [118, 121] [], .dr [118, 121] [], .dr [113, 114, 121] [], .dr [113, 114, 121] [], .dr [113, 114, 121] [], .dr [113, 114, 121] [], .dr [113, 114, 121] [], .dr [113, 114, 118] [], .dr [113, 114, 118] [], .dr [113, 114] [], .dr [113, 114] [], .dr [113, 114] [], .free, .free, .free, .dr [133] [], .dr [133] [], .dr [133] [], .dr [130] [], .dr [130] [], .dr [130] [], .free, .free, .free, .free, .dr [144] [], .dr [144] [], .dr [144] [], .dr [140] [], .dr [140] [], .dr [140] [], .dr [140] [], .free, .free, .free]) [
    ⟨some 105, .mv (.t 9), none, true⟩,
    ⟨some 106, .iaa 3 1 (.t 8) (.t 105), none, true⟩,
    ⟨some 107, .load false 1 (.t 106), none, true⟩,
    ⟨some 108, .call 31 [.t 107], none, true⟩,
    ⟨some 109, .un .not (.t 108), none, true⟩,
    ⟨some 110, .mv (.t 109), none, true⟩,
    ⟨some 111, .mv (.t 9), some (110, false), true⟩,
    ⟨some 112, .iaa 3 1 (.t 8) (.t 111), some (110, false), true⟩,
    ⟨some 113, .load false 1 (.t 112), some (110, false), true⟩,
    ⟨some 114, .call 32 [.t 113], some (110, false), true⟩,
    ⟨some 115, .mv (.t 9), some (110, false), true⟩,
    ⟨some 116, .fad 2 (.t 2), some (110, false), true⟩,
    ⟨some 117, .iaa 3 1 (.t 116) (.t 115), some (110, false), true⟩,
    ⟨some 118, .load false 1 (.t 117), some (110, false), true⟩,
    ⟨some 119, .bin .mul (.c (.int .i64 4)) (.t 118), some (110, false), true⟩,
    ⟨some 120, .fad 5 (.t 2), some (110, false), true⟩,
    ⟨some 121, .load false 1 (.t 120), some (110, false), true⟩,
    ⟨some 122, .bin .mul (.t 119) (.t 121), some (110, false), true⟩,
    ⟨some 123, .bin .mul (.t 122) (.c (.int .i64 4394000)), some (110, false), true⟩,
    ⟨some 124, .bin .mul (.t 123) (.c (.int .i64 4394000)), some (110, false), true⟩,
    ⟨some 125, .bin .neq (.t 114) (.t 124), some (110, false), true⟩,
    ⟨some 126, .pick (.t 110) (.c (.bool true)) (.t 125), none, true⟩,
    ⟨some 127, .mv (.t 126), none, true⟩,
    ⟨some 128, .mv (.t 9), some (127, false), true⟩,
    ⟨some 129, .iaa 3 1 (.t 8) (.t 128), some (127, false), true⟩,
    ⟨some 130, .load false 1 (.t 129), some (127, false), true⟩,
    ⟨some 131, .mv (.t 9), some (127, false), true⟩,
    ⟨some 132, .iaa 4 2 (.t 7) (.t 131), some (127, false), true⟩,
    ⟨some 133, .load true 2 (.t 132), some (127, false), true⟩,
    ⟨some 134, .call 33 [.t 130, .t 133], some (127, false), true⟩,
    ⟨some 135, .bin .neq (.t 134) (.c (.int .i64 0)), some (127, false), true⟩,
    ⟨some 136, .pick (.t 127) (.c (.bool true)) (.t 135), none, true⟩,
    ⟨some 137, .mv (.t 136), none, true⟩,
    ⟨some 138, .mv (.t 9), some (137, false), true⟩,
    ⟨some 139, .iaa 3 1 (.t 8) (.t 138), some (137, false), true⟩,
    ⟨some 140, .load false 1 (.t 139), some (137, false), true⟩,
    ⟨some 141, .mv (.t 9), some (137, false), true⟩,
    ⟨some 142, .bin .add (.t 141) (.c (.int .i64 1)), some (137, false), true⟩,
    ⟨some 143, .iaa 4 2 (.t 7) (.t 142), some (137, false), true⟩,
    ⟨some 144, .load true 2 (.t 143), some (137, false), true⟩,
    ⟨some 145, .call 33 [.t 140, .t 144], some (137, false), true⟩,
    ⟨some 146, .bin .neq (.t 145) (.c (.int .i64 0)), some (137, false), true⟩,
    ⟨some 147, .pick (.t 137) (.c (.bool true)) (.t 146), none, true⟩] (some [2, 5, 7, 8, 9, 147]) []) (
  (.cond (.t 147) (
    (.seq (
    .reg none [
      ⟨some 4, .as (.c (.bool false)), none, true⟩] (some [4]) []) (
    .ret))) (
    .skip))))))))))))) (some [2, 5, 7, 8, 9]) [4, 10, 11, 12, 44, 67, 85, 108, 114, 134, 145])) (
  .reg none [
    ⟨some 29, .mv (.t 9), none, true⟩,
    ⟨some 30, .bin .add (.t 29) (.c (.int .i64 1)), none, true⟩,
    ⟨some 9, .as (.t 30), none, true⟩] (some [2, 5, 7, 8, 9]) []))))
def A8_L1 : ACode := .loop A8_L1b (some [2, 5, 7, 8, 9]) [4, 10, 11, 12, 44, 67, 85, 108, 114, 134, 145]
/-- ambidexter/ambidexterlaw07.ArmLinksAreRigid -/
def A8 : AFn := .code [.t 4] (
(.seq (
.reg none [
  ⟨some 2, .box (.t 0), none, true⟩,
  ⟨some 3, .box (.t 1), none, true⟩,
  ⟨some 4, .as (.c (.bool false)), none, true⟩] (some [2, 3]) []) (
(.seq (
.reg none [
  ⟨some 13, .call 14 [], none, true⟩,
  ⟨some 5, .as (.t 13), none, true⟩] (some [2, 3, 5]) []) (
(.seq (
(.seq (
.reg none [
  ⟨some 14, .load true 12 (.t 2), none, true⟩,
  ⟨some 15, .call 15 [.t 14], none, true⟩,
  ⟨some 16, .un .not (.t 15), none, true⟩] (some [2, 3, 5, 16]) []) (
(.cond (.t 16) (
  (.seq (
  .reg none [
    ⟨some 17, .mv (.t 5), none, true⟩,
    ⟨some 4, .as (.t 17), none, true⟩] (some [4]) []) (
  .ret))) (
  .skip))))) (
(.seq (
.reg none [
  ⟨some 18, .load true 12 (.t 2), none, true⟩,
  ⟨some 19, .load true 3 (.t 3), none, true⟩,
  ⟨some 20, .call 19 [.t 18, .t 19], none, true⟩,
  ⟨some 6, .alloc [.int .i64 0, .int .i64 0, .int .i64 0], none, true⟩,
  ⟨none, .store 3 (.t 6) (.t 20), none, true⟩] (some [2, 5, 6]) [3]) (
(.seq (
.reg (some [.dr [22, 24, 25, 7, 8] [], .dr [21, 24, 25, 7, 8] [], .dr [24, 25, 7, 8] [], .dr [21, 22, 23, 25, 7, 8] [], .dr [21, 22, 23, 24, 7, 8] [], .dr [7, 8] [], .dr [21, 22, 23, 24, 25, 26, 8] [], .dr [21, 22, 23, 24, 25, 26, 7] [], .free, .free]) [
  ⟨some 21, .load true 12 (.t 2), none, true⟩,
  ⟨some 22, .load true 3 (.t 6), none, true⟩,
  ⟨some 23, .call 27 [.t 21, .t 22], none, true⟩,
  ⟨some 24, .load true 12 (.t 2), none, true⟩,
  ⟨some 25, .load true 3 (.t 6), none, true⟩,
  ⟨some 26, .call 20 [.t 24, .t 25], none, true⟩,
  ⟨some 7, .alloc [.int .i64 0, .int .i64 0, .int .i64 0, .int .i64 0, .int .i64 0, .int .i64 0, .int .i64 0, .int .i64 0], none, true⟩,
  ⟨some 8, .alloc [.nils 2, .nils 2, .nils 2], none, true⟩,
  ⟨none, .store 8 (.t 7) (.t 23), none, true⟩,
  ⟨none, .store 3 (.t 8) (.t 26), none, true⟩] (some [2, 5, 7, 8]) [6]) (
(.seq (
(.seq (
.reg none [
  ⟨some 9, .as (.c (.int .i64 0)), none, true⟩] (some [2, 5, 7, 8, 9]) []) (
(.block 0 (
A8_L1) (some [5]) [4, 9, 10, 11, 12, 44, 67, 85, 108, 114, 134, 145])))) (
(.seq (
.reg none [
  ⟨some 148, .mv (.t 5), none, true⟩,
  ⟨some 4, .as (.t 148), none, true⟩] (some [4]) []) (
.ret)))))))))))))))
/-- ambidexter/ambidexterlaw07.head -/
def A14 : AFn := .code [.t 0] (
(.seq (
.reg none [
  ⟨some 0, .as (.c (.bool false)), none, true⟩] (some []) []) (
(.seq (
.reg none [
  ⟨some 13, .call 45 [], none, true⟩,
  ⟨some 1, .alloc [.int .i64 0, .int .i64 0, .int .i64 0, .int .i64 0, .int .i64 0, .int .i64 0, .int .i64 0, .int .i64 0, .int .i64 0, .int .i64 0, .int .i64 0, .int .i64 0], none, true⟩,
  ⟨none, .store 12 (.t 1) (.t 13), none, true⟩] (some [1]) []) (
(.seq (
.reg (some [.dr [17, 2, 3] [], .dr [14, 17, 2, 3] [], .dr [17, 2, 3] [], .dr [14, 16, 2, 3] [], .dr [14, 16, 17, 2, 3] [], .dr [2, 3] [], .dr [14, 16, 17, 19, 3] [], .dr [14, 16, 17, 19, 2] [], .free, .free]) [
  ⟨some 14, .load true 12 (.t 1), none, true⟩,
  ⟨some 15, .build [.int .i64 0, .int .i64 0, .int .i64 0] [], none, true⟩,
  ⟨some 16, .call 27 [.t 14, .t 15], none, true⟩,
  ⟨some 17, .load true 12 (.t 1), none, true⟩,
  ⟨some 18, .build [.int .i64 0, .int .i64 0, .int .i64 0] [(0, 1, .c (.int .i64 9)), (1, 1, .c (.int .i64 0)), (2, 1, .c (.int .i64 (-9)))], none, true⟩,
  ⟨some 19, .call 27 [.t 17, .t 18], none, true⟩,
  ⟨some 2, .alloc [.int .i64 0, .int .i64 0, .int .i64 0, .int .i64 0, .int .i64 0, .int .i64 0, .int .i64 0, .int .i64 0], none, true⟩,
  ⟨some 3, .alloc [.int .i64 0, .int .i64 0, .int .i64 0, .int .i64 0, .int .i64 0, .int .i64 0, .int .i64 0, .int .i64 0], none, true⟩,
  ⟨none, .store 8 (.t 2) (.t 16), none, true⟩,
  ⟨none, .store 8 (.t 3) (.t 19), none, true⟩] (some [1, 2, 3]) []) (
(.seq (
.reg none [
  ⟨some 20, .load true 12 (.t 1), none, true⟩,
  ⟨some 21, .build [.int .i64 0, .int .i64 0, .int .i64 0] [], none, true⟩,
  ⟨some 22, .call 20 [.t 20, .t 21], none, true⟩,
  ⟨some 4, .alloc [.nils 2, .nils 2, .nils 2], none, true⟩,
  ⟨none, .store 3 (.t 4) (.t 22), none, true⟩] (some [1, 2, 3, 4]) []) (
(.seq (
.reg none [
  ⟨some 24, .load true 12 (.t 1), none, true⟩,
  ⟨some 25, .build [.int .i64 0, .int .i64 0, .int .i64 0] [(0, 1, .c (.int .i64 18)), (1, 1, .c (.int .i64 0)), (2, 1, .c (.int .i64 (-17)))], none, true⟩,
  ⟨some 26, .call 23 [.t 24, .t 25, .c (.int .i64 1), .c (.int .i64 (-1))], none, true⟩,
  ⟨some 23, .mv (.t 26), none, true⟩,
  ⟨some 27, .ext (.t 23) 0, none, true⟩,
  ⟨some 28, .ext (.t 23) 1, none, true⟩,
  ⟨some 5, .alloc [.int .i64 0, .int .i64 0, .int .i64 0], none, true⟩,
  ⟨none, .store 3 (.t 5) (.t 27), none, true⟩,
  ⟨some 6, .as (.t 28), none, true⟩] (some [1, 2, 3, 4, 5, 6]) []) (
(.seq (
.reg none [
  ⟨some 30, .load true 12 (.t 1), none, true⟩,
  ⟨some 31, .build [.int .i64 0, .int .i64 0, .int .i64 0] [(0, 1, .c (.int .i64 18)), (1, 1, .c (.int .i64 0)), (2, 1, .c (.int .i64 (-17)))], none, true⟩,
  ⟨some 32, .call 23 [.t 30, .t 31, .c (.int .i64 0), .c (.int .i64 1)], none, true⟩,
  ⟨some 29, .mv (.t 32), none, true⟩,
  ⟨some 33, .ext (.t 29) 0, none, true⟩,
  ⟨some 34, .ext (.t 29) 1, none, true⟩,
  ⟨some 7, .alloc [.int .i64 0, .int .i64 0, .int .i64 0], none, true⟩,
  ⟨none, .store 3 (.t 7) (.t 33), none, true⟩,
  ⟨some 8, .as (.t 34), none, true⟩] (some [1, 2, 3, 4, 5, 6, 8]) [7]) (
(.seq (
.reg none [
  ⟨some 36, .load true 12 (.t 1), none, true⟩,
  ⟨some 37, .build [.int .i64 0, .int .i64 0, .int .i64 0] [(0, 1, .c (.int .i64 18)), (1, 1, .c (.int .i64 0)), (2, 1, .c (.int .i64 (-17)))], none, true⟩,
  ⟨some 38, .call 23 [.t 36, .t 37, .c (.int .i64 2), .c (.int .i64 (-1))], none, true⟩,
  ⟨some 35, .mv (.t 38), none, true⟩,
  ⟨some 39, .ext (.t 35) 0, none, true⟩,
  ⟨some 40, .ext (.t 35) 1, none, true⟩,
  ⟨some 9, .alloc [.int .i64 0, .int .i64 0, .int .i64 0], none, true⟩,
  ⟨none, .store 3 (.t 9) (.t 39), none, true⟩,
  ⟨some 10, .as (.t 40), none, true⟩] (some [1, 2, 3, 4, 5, 6, 8, 10]) [9]) (
(.seq (
.reg none [
  ⟨some 41, .load true 12 (.t 1), none, true⟩,
  ⟨some 11, .alloc [.int .i64 0, .int .i64 0, .int .i64 0, .int .i64 0, .int .i64 0, .int .i64 0, .int .i64 0, .int .i64 0, .int .i64 0, .int .i64 0, .int .i64 0, .int .i64 0], none, true⟩,
  ⟨none, .store 12 (.t 11) (.t 41), none, true⟩] (some [1, 2, 3, 4, 5, 6, 8, 10, 11]) []) (
(.seq (
.reg none [
  ⟨some 42, .fad 0 (.t 11), none, true⟩,
  ⟨some 43, .fad 0 (.t 42), none, true⟩,
  ⟨none, .store 1 (.t 43) (.c (.int .i64 8)), none, true⟩] (some [1, 2, 3, 4, 5, 6, 8, 10, 11]) []) (
(.seq (
.reg none [
  ⟨some 12, .as (.c (.int .i64 4394000)), none, true⟩] (some [1, 2, 3, 4, 5, 6, 8, 10, 11, 12]) []) (
(.seq (
.reg none [
  ⟨some 44, .load true 8 (.t 2), none, true⟩,
  ⟨some 45, .build [.int .i64 0, .int .i64 0] [], none, true⟩,
  ⟨some 46, .mv (.t 12), none, true⟩,
  ⟨some 47, .build [.int .i64 0, .int .i64 0] [(0, 1, .t 46)], none, true⟩,
  ⟨some 48, .mv (.t 12), none, true⟩,
  ⟨some 49, .bin .mul (.c (.int .i64 2)) (.t 48), none, true⟩,
  ⟨some 50, .build [.int .i64 0, .int .i64 0] [(0, 1, .t 49)], none, true⟩,
  ⟨some 51, .mv (.t 12), none, true⟩,
  ⟨some 52, .bin .mul (.c (.int .i64 3)) (.t 51), none, true⟩,
  ⟨some 53, .build [.int .i64 0, .int .i64 0] [(0, 1, .t 52)], none, true⟩,
  ⟨some 54, .build [.int .i64 0, .int .i64 0, .int .i64 0, .int .i64 0, .int .i64 0, .int .i64 0, .int .i64 0, .int .i64 0] [(0, 2, .t 45), (2, 2, .t 47), (4, 2, .t 50), (6, 2, .t 53)], none, true⟩,
  ⟨some 55, .eqa false [0, 0, 0, 0, 0, 0, 0, 0] (.t 44) (.t 54), none, true⟩,
  ⟨some 56, .mv (.t 55), none, true⟩,
  ⟨some 57, .load true 8 (.t 3), some (56, true), true⟩,
  ⟨some 58, .build [.int .i64 0, .int .i64 0] [], some (56, true), true⟩,
  ⟨some 59, .mv (.t 12), some (56, true), true⟩,
  ⟨some 60, .build [.int .i64 0, .int .i64 0] [(1, 1, .t 59)], some (56, true), true⟩,
  ⟨some 61, .mv (.t 12), some (56, true), true⟩,
  ⟨some 62, .bin .mul (.c (.int .i64 2)) (.t 61), some (56, true), true⟩,
  ⟨some 63, .build [.int .i64 0, .int .i64 0] [(1, 1, .t 62)], some (56, true), true⟩,
  ⟨some 64, .mv (.t 12), some (56, true), true⟩,
  ⟨some 65, .mv (.t 12), some (56, true), true⟩,
  ⟨some 66, .bin .mul (.c (.int .i64 2)) (.t 65), some (56, true), true⟩,
  ⟨some 67, .build [.int .i64 0, .int .i64 0] [(0, 1, .t 64), (1, 1, .t 66)], some (56, true), true⟩,
  ⟨some 68, .build [.int .i64 0, .int .i64 0, .int .i64 0, .int .i64 0, .int .i64 0, .int .i64 0, .int .i64 0, .int .i64 0] [(0, 2, .t 58), (2, 2, .t 60), (4, 2, .t 63), (6, 2, .t 67)], some (56, true), true⟩,
  ⟨some 69, .eqa false [0, 0, 0, 0, 0, 0, 0, 0] (.t 57) (.t 68), some (56, true), true⟩,
  ⟨some 70, .pick (.t 56) (.t 69) (.c (.bool false)), none, true⟩,
  ⟨some 71, .mv (.t 70), none, true⟩,
  ⟨some 72, .iaa 3 1 (.t 4) (.c (.int .i64 1)), some (71, true), true⟩,
  ⟨some 73, .load false 1 (.t 72), some (71, true), true⟩,
  ⟨some 74, .mv (.t 12), some (71, true), true⟩,
  ⟨some 75, .mv (.t 12), some (71, true), true⟩,
  ⟨some 76, .un .neg (.t 75), some (71, true), true⟩,
  ⟨some 77, .build [.int .i64 0, .int .i64 0] [(0, 1, .t 74), (1, 1, .t 76)], some (71, true), true⟩,
  ⟨some 78, .mv (.t 12), some (71, true), true⟩,
  ⟨some 79, .bin .mul (.c (.int .i64 2)) (.t 78), some (71, true), true⟩,
  ⟨some 80, .mv (.t 12), some (71, true), true⟩,
  ⟨some 81, .un .neg (.t 80), some (71, true), true⟩,
  ⟨some 82, .build [.int .i64 0, .int .i64 0] [(0, 1, .t 79), (1, 1, .t 81)], some (71, true), true⟩,
  ⟨some 83, .mv (.t 12), some (71, true), true⟩,
  ⟨some 84, .bin .mul (.c (.int .i64 2)) (.t 83), some (71, true), true⟩,
  ⟨some 85, .mv (.t 12), some (71, true), true⟩,
  ⟨some 86, .build [.int .i64 0, .int .i64 0] [(0, 1, .t 84), (1, 1, .t 85)], some (71, true), true⟩,
  ⟨some 87, .mv (.t 12), some (71, true), true⟩,
  ⟨some 88, .mv (.t 12), some (71, true), true⟩,
  ⟨some 89, .build [.int .i64 0, .int .i64 0] [(0, 1, .t 87), (1, 1, .t 88)], some (71, true), true⟩,
  ⟨some 90, .bsl 2 4 [.int .i64 0, .int .i64 0] [(0, .t 77), (1, .t 82), (2, .t 86), (3, .t 89)], some (71, true), true⟩,
  ⟨some 91, .call 22 [.t 73, .t 90], some (71, true), true⟩,
  ⟨some 92, .pick (.t 71) (.t 91) (.c (.bool false)), none, true⟩,
  ⟨some 93, .mv (.t 92), none, true⟩,
  ⟨some 94, .mv (.t 6), some (93, true), true⟩,
  ⟨some 95, .pick (.t 93) (.t 94) (.c (.bool false)), none, true⟩,
  ⟨some 96, .mv (.t 95), none, true⟩,
  ⟨some 97, .load true 3 (.t 5), some (96, true), true⟩,
  ⟨some 98, .build [.int .i64 0, .int .i64 0, .int .i64 0] [(0, 1, .c (.int .i64 18)), (1, 1, .c (.int .i64 (-1))), (2, 1, .c (.int .i64 (-17)))], some (96, true), true⟩,
  ⟨some 99, .eqa false [0, 0, 0] (.t 97) (.t 98), some (96, true), true⟩,
  ⟨some 100, .pick (.t 96) (.t 99) (.c (.bool false)), none, true⟩,
  ⟨some 101, .mv (.t 100), none, true⟩,
  ⟨some 102, .mv (.t 8), some (101, true), true⟩,
  ⟨some 103, .un .not (.t 102), some (101, true), true⟩,
  ⟨some 104, .pick (.t 101) (.t 103) (.c (.bool false)), none, true⟩,
  ⟨some 105, .mv (.t 104), none, true⟩,
  ⟨some 106, .mv (.t 10), some (105, true), true⟩,
  ⟨some 107, .un .not (.t 106), some (105, true), true⟩,
  ⟨some 108, .pick (.t 105) (.t 107) (.c (.bool false)), none, true⟩,
  ⟨some 109, .mv (.t 108), none, true⟩,
  ⟨some 110, .load true 12 (.t 1), some (109, true), true⟩,
  ⟨some 111, .call 15 [.t 110], some (109, true), true⟩,
  ⟨some 112, .pick (.t 109) (.t 111) (.c (.bool false)), none, true⟩,
  ⟨some 113, .mv (.t 112), none, true⟩,
  ⟨some 114, .load true 12 (.t 11), some (113, true), true⟩,
  ⟨some 115, .call 15 [.t 114], some (113, true), true⟩,
  ⟨some 116, .un .not (.t 115), some (113, true), true⟩,
  ⟨some 117, .pick (.t 113) (.t 116) (.c (.bool false)), none, true⟩,
  ⟨some 118, .mv (.t 117), none, true⟩,
  ⟨some 119, .load true 12 (.t 1), some (118, true), true⟩,
  ⟨some 120, .load true 3 (.t 5), some (118, true), true⟩,
  ⟨some 121, .call 17 [.t 119, .t 120], some (118, true), true⟩,
  ⟨some 122, .pick (.t 118) (.t 121) (.c (.bool false)), none, true⟩,
  ⟨some 123, .mv (.t 122), none, true⟩,
  ⟨some 124, .load true 12 (.t 1), some (123, true), true⟩,
  ⟨some 125, .build [.int .i64 0, .int .i64 0, .int .i64 0] [(0, 1, .c (.int .i64 0)), (1, 1, .c (.int .i64 19)), (2, 1, .c (.int .i64 0))], some (123, true), true⟩,
  ⟨some 126, .call 17 [.t 124, .t 125], some (123, true), true⟩,
  ⟨some 127, .un .not (.t 126), some (123, true), true⟩,
  ⟨some 128, .pick (.t 123) (.t 127) (.c (.bool false)), none, true⟩,
  ⟨some 129, .mv (.t 128), none, true⟩,
  ⟨some 130, .load true 12 (.t 1), some (129, true), true⟩,
  ⟨some 131, .build [.int .i64 0, .int .i64 0, .int .i64 0] [(0, 1, .c (.int .i64 1)), (1, 1, .c (.int .i64 0)), (2, 1, .c (.int .i64 0))], some (129, true), true⟩,
  ⟨some 132, .call 25 [.t 130, .t 131], some (129, true), true⟩,
  ⟨some 133, .ixa true 3 3 (.t 132) (.c (.int .i64 0)), some (129, true), true⟩,
  ⟨some 134, .build [.int .i64 0, .int .i64 0, .int .i64 0] [(0, 1, .c (.int .i64 63)), (1, 1, .c (.int .i64 16)), (2, 1, .c (.int .i64 1))], some (129, true), true⟩,
  ⟨some 135, .eqa false [0, 0, 0] (.t 133) (.t 134), some (129, true), true⟩,
  ⟨some 136, .pick (.t 129) (.t 135) (.c (.bool false)), none, true⟩,
  ⟨some 0, .as (.t 136), none, true⟩] (some [0]) [1, 2, 3, 4, 5, 11]) (
.ret)))))))))))))))))))))))
def A15_L0b : ACode := 
  (.seq (
  .reg none [
    ⟨some 12, .bin .lss (.t 11) (.c (.int .i64 3)), none, true⟩] (some [1, 3, 10, 11, 12]) []) (
  (.seq (
  (.cond (.t 12) (
    .skip) (
    .exit 0))) (
  (.seq (
  (.block 1 (
  (.seq (
  .reg none [
    ⟨some 13, .mv (.t 11), none, true⟩,
    ⟨some 14, .ixa false 3 1 (.t 10) (.t 11), none, true⟩,
    ⟨some 4, .as (.t 13), none, true⟩,
    ⟨some 5, .as (.t 14), none, true⟩] (some [1, 3, 4, 5, 10, 11]) []) (
  (.seq (
  (.seq (
  .reg (some [.free, .free, .free, .free, .free, .free, .free, .dr [] [], .dr [] [], .free, .free, .free, .free, .free, .dr [] [], .dr [] [], .free, .free, .free, .free, .free, .dr [43] [], .dr [43] [], .dr [43] [], .dr [43] [], .dr [39] [], .dr [39] [], .dr [39] [], .dr [39] [], .free, .free]) [
    ⟨some 15, .mv (.t 5), none, true⟩,
    ⟨some 16, .bin .lss (.t 15) (.c (.int .i64 1)), none, true⟩,
    ⟨some 17, .mv (.t 16), none, true⟩,
    ⟨some 18, .mv (.t 5), some (17, false), true⟩,
    ⟨some 19, .bin .gtr (.t 18) (.c (.int .i64 40)), some (17, false), true⟩,
    ⟨some 20, .pick (.t 17) (.c (.bool true)) (.t 19), none, true⟩,
    ⟨some 21, .mv (.t 20), none, true⟩,
    ⟨some 22, .mv (.t 4), some (21, false), true⟩,
    ⟨some 23, .fad 6 (.t 1), some (21, false), true⟩,
    ⟨some 24, .iaa 3 1 (.t 23) (.t 22), some (21, false), true⟩,
    ⟨some 25, .load false 1 (.t 24), some (21, false), true⟩,
    ⟨some 26, .bin .lss (.t 25) (.c (.int .i64 (-17))), some (21, false), true⟩,
    ⟨some 27, .pick (.t 21) (.c (.bool true)) (.t 26), none, true⟩,
    ⟨some 28, .mv (.t 27), none, true⟩,
    ⟨some 29, .mv (.t 4), some (28, false), true⟩,
    ⟨some 30, .fad 9 (.t 1), some (28, false), true⟩,
    ⟨some 31, .iaa 3 1 (.t 30) (.t 29), some (28, false), true⟩,
    ⟨some 32, .load false 1 (.t 31), some (28, false), true⟩,
    ⟨some 33, .bin .gtr (.t 32) (.c (.int .i64 18)), some (28, false), true⟩,
    ⟨some 34, .pick (.t 28) (.c (.bool true)) (.t 33), none, true⟩,
    ⟨some 35, .mv (.t 34), none, true⟩,
    ⟨some 36, .mv (.t 4), some (35, false), true⟩,
    ⟨some 37, .fad 6 (.t 1), some (35, false), true⟩,
    ⟨some 38, .iaa 3 1 (.t 37) (.t 36), some (35, false), true⟩,
    ⟨some 39, .load false 1 (.t 38), some (35, false), true⟩,
    ⟨some 40, .mv (.t 4), some (35, false), true⟩,
    ⟨some 41, .fad 9 (.t 1), some (35, false), true⟩,
    ⟨some 42, .iaa 3 1 (.t 41) (.t 40), some (35, false), true⟩,
    ⟨some 43, .load false 1 (.t 42), some (35, false), true⟩,
    ⟨some 44, .bin .gtr (.t 39) (.t 43), some (35, false), true⟩,
    ⟨some 45, .pick (.t 35) (.c (.bool true)) (.t 44), none, true⟩] (some [1, 3, 5, 10, 11, 45]) []) (
  (.cond (.t 45) (
    (.seq (
    .reg none [
      ⟨some 2, .as (.c (.bool false)), none, true⟩] (some [2]) []) (
    .ret))) (
    .skip))))) (
  .reg none [
    ⟨some 46, .mv (.t 3), none, true⟩,
    ⟨some 47, .mv (.t 5), none, true⟩,
    ⟨some 48, .bin .add (.t 46) (.t 47), none, true⟩,
    ⟨some 3, .as (.t 48), none, true⟩] (some [1, 3, 10, 11]) []))))) (some [1, 3, 10, 11]) [2, 4, 5])) (
  .reg none [
    ⟨some 49, .bin .add (.t 11) (.c (.int .i64 1)), none, true⟩,
    ⟨some 11, .mv (.t 49), none, true⟩] (some [1, 3, 10, 11]) []))))))
def A15_L0 : ACode := .loop A15_L0b (some [1, 3, 10, 11]) [2, 4, 5]
/-- ambidexter/arm.Valid -/
def A15 : AFn := .code [.t 2] (
(.seq (
.reg none [
  ⟨some 1, .box (.t 0), none, true⟩,
  ⟨some 2, .as (.c (.bool false)), none, true⟩] (some [1]) []) (
(.seq (
.reg none [
  ⟨some 7, .fad 5 (.t 1), none, true⟩,
  ⟨some 8, .load false 1 (.t 7), none, true⟩,
  ⟨some 3, .as (.t 8), none, true⟩] (some [1, 3]) []) (
(.seq (
(.seq (
.reg none [
  ⟨some 9, .fad 2 (.t 1), none, true⟩,
  ⟨some 10, .load true 3 (.t 9), none, true⟩,
  ⟨some 11, .mv (.c (.int .i64 0)), none, true⟩] (some [1, 3, 10, 11]) []) (
(.block 0 (
A15_L0) (some [1, 3]) [2, 4, 5])))) (
(.seq (
(.seq (
.reg none [
  ⟨some 50, .fad 5 (.t 1), none, true⟩,
  ⟨some 51, .load false 1 (.t 50), none, true⟩,
  ⟨some 52, .bin .lss (.t 51) (.c (.int .i64 1)), none, true⟩,
  ⟨some 53, .mv (.t 52), none, true⟩,
  ⟨some 54, .fad 5 (.t 1), some (53, false), true⟩,
  ⟨some 55, .load false 1 (.t 54), some (53, false), true⟩,
  ⟨some 56, .bin .gtr (.t 55) (.c (.int .i64 4)), some (53, false), true⟩,
  ⟨some 57, .pick (.t 53) (.c (.bool true)) (.t 56), none, true⟩,
  ⟨some 58, .mv (.t 57), none, true⟩,
  ⟨some 59, .fad 0 (.t 1), some (58, false), true⟩,
  ⟨some 60, .fad 0 (.t 59), some (58, false), true⟩,
  ⟨some 61, .load false 1 (.t 60), some (58, false), true⟩,
  ⟨some 62, .bin .rem (.t 61) (.c (.int .i64 16)), some (58, false), true⟩,
  ⟨some 63, .bin .neq (.t 62) (.c (.int .i64 0)), some (58, false), true⟩,
  ⟨some 64, .pick (.t 58) (.c (.bool true)) (.t 63), none, true⟩,
  ⟨some 65, .mv (.t 64), none, true⟩,
  ⟨some 66, .fad 0 (.t 1), some (65, false), true⟩,
  ⟨some 67, .fad 1 (.t 66), some (65, false), true⟩,
  ⟨some 68, .load false 1 (.t 67), some (65, false), true⟩,
  ⟨some 69, .bin .rem (.t 68) (.c (.int .i64 16)), some (65, false), true⟩,
  ⟨some 70, .bin .neq (.t 69) (.c (.int .i64 0)), some (65, false), true⟩,
  ⟨some 71, .pick (.t 65) (.c (.bool true)) (.t 70), none, true⟩] (some [1, 3, 71]) []) (
(.cond (.t 71) (
  (.seq (
  .reg none [
    ⟨some 2, .as (.c (.bool false)), none, true⟩] (some [2]) []) (
  .ret))) (
  .skip))))) (
(.seq (
.reg none [
  ⟨some 72, .mv (.t 3), none, true⟩,
  ⟨some 73, .bin .sub (.c (.int .i64 100)) (.t 72), none, true⟩,
  ⟨some 74, .bin .mul (.t 73) (.c (.int .i64 4394000)), none, true⟩,
  ⟨some 6, .as (.t 74), none, true⟩] (some [1, 6]) []) (
(.seq (
.reg none [
  ⟨some 75, .fad 0 (.t 1), none, true⟩,
  ⟨some 76, .fad 0 (.t 75), none, true⟩,
  ⟨some 77, .load false 1 (.t 76), none, true⟩,
  ⟨some 78, .fad 0 (.t 1), none, true⟩,
  ⟨some 79, .fad 1 (.t 78), none, true⟩,
  ⟨some 80, .load false 1 (.t 79), none, true⟩,
  ⟨some 81, .mn [.t 77, .t 80], none, true⟩,
  ⟨some 82, .mv (.t 6), none, true⟩,
  ⟨some 83, .un .neg (.t 82), none, true⟩,
  ⟨some 84, .bin .geq (.t 81) (.t 83), none, true⟩,
  ⟨some 85, .mv (.t 84), none, true⟩,
  ⟨some 86, .fad 0 (.t 1), some (85, true), true⟩,
  ⟨some 87, .fad 0 (.t 86), some (85, true), true⟩,
  ⟨some 88, .load false 1 (.t 87), some (85, true), true⟩,
  ⟨some 89, .fad 0 (.t 1), some (85, true), true⟩,
  ⟨some 90, .fad 1 (.t 89), some (85, true), true⟩,
  ⟨some 91, .load false 1 (.t 90), some (85, true), true⟩,
  ⟨some 92, .mx [.t 88, .t 91], some (85, true), true⟩,
  ⟨some 93, .mv (.t 6), some (85, true), true⟩,
  ⟨some 94, .bin .leq (.t 92) (.t 93), some (85, true), true⟩,
  ⟨some 95, .pick (.t 85) (.t 94) (.c (.bool false)), none, true⟩,
  ⟨some 2, .as (.t 95), none, true⟩] (some [2]) [1]) (
.ret)))))))))))))
def A16_L0b : ACode := 
  (.seq (
  (.seq (
  .reg none [
    ⟨some 33, .mv (.t 4), none, true⟩,
    ⟨some 34, .bin .lss (.t 33) (.c (.int .i64 3)), none, true⟩] (some [1, 3, 4, 34]) []) (
  (.cond (.t 34) (
    .skip) (
    .exit 0))))) (
  (.seq (
  (.block 1 (
  (.seq (
  (.seq (
  .reg (some [.dr [] [], .dr [] [], .free, .free, .free, .free, .dr [] [], .dr [] [], .free, .free, .free, .free, .free, .dr [] [], .dr [] [], .free, .free, .free, .free, .free, .dr [] [], .dr [] [], .free, .free, .free, .free, .free, .dr [] [], .dr [] [], .free, .free, .free, .free, .free, .dr [] [], .dr [] [], .free, .free, .free, .free, .free, .dr [85] [], .dr [85] [], .dr [85] [], .dr [85] [], .dr [81] [], .dr [81] [], .dr [81] [], .dr [81] [], .free, .free]) [
    ⟨some 37, .mv (.t 4), none, true⟩,
    ⟨some 38, .fad 2 (.t 1), none, true⟩,
    ⟨some 39, .iaa 3 1 (.t 38) (.t 37), none, true⟩,
    ⟨some 40, .load false 1 (.t 39), none, true⟩,
    ⟨some 41, .bin .lss (.t 40) (.c (.int .i64 1)), none, true⟩,
    ⟨some 42, .mv (.t 41), none, true⟩,
    ⟨some 43, .mv (.t 4), some (42, false), true⟩,
    ⟨some 44, .fad 2 (.t 1), some (42, false), true⟩,
    ⟨some 45, .iaa 3 1 (.t 44) (.t 43), some (42, false), true⟩,
    ⟨some 46, .load false 1 (.t 45), some (42, false), true⟩,
    ⟨some 47, .bin .gtr (.t 46) (.c (.int .i64 40)), some (42, false), true⟩,
    ⟨some 48, .pick (.t 42) (.c (.bool true)) (.t 47), none, true⟩,
    ⟨some 49, .mv (.t 48), none, true⟩,
    ⟨some 50, .mv (.t 4), some (49, false), true⟩,
    ⟨some 51, .fad 6 (.t 1), some (49, false), true⟩,
    ⟨some 52, .iaa 3 1 (.t 51) (.t 50), some (49, false), true⟩,
    ⟨some 53, .load false 1 (.t 52), some (49, false), true⟩,
    ⟨some 54, .bin .lss (.t 53) (.c (.int .i64 (-17))), some (49, false), true⟩,
    ⟨some 55, .pick (.t 49) (.c (.bool true)) (.t 54), none, true⟩,
    ⟨some 56, .mv (.t 55), none, true⟩,
    ⟨some 57, .mv (.t 4), some (56, false), true⟩,
    ⟨some 58, .fad 6 (.t 1), some (56, false), true⟩,
    ⟨some 59, .iaa 3 1 (.t 58) (.t 57), some (56, false), true⟩,
    ⟨some 60, .load false 1 (.t 59), some (56, false), true⟩,
    ⟨some 61, .bin .gtr (.t 60) (.c (.int .i64 18)), some (56, false), true⟩,
    ⟨some 62, .pick (.t 56) (.c (.bool true)) (.t 61), none, true⟩,
    ⟨some 63, .mv (.t 62), none, true⟩,
    ⟨some 64, .mv (.t 4), some (63, false), true⟩,
    ⟨some 65, .fad 9 (.t 1), some (63, false), true⟩,
    ⟨some 66, .iaa 3 1 (.t 65) (.t 64), some (63, false), true⟩,
    ⟨some 67, .load false 1 (.t 66), some (63, false), true⟩,
    ⟨some 68, .bin .lss (.t 67) (.c (.int .i64 (-17))), some (63, false), true⟩,
    ⟨some 69, .pick (.t 63) (.c (.bool true)) (.t 68), none, true⟩,
    ⟨some 70, .mv (.t 69), none, true⟩,
    ⟨some 71, .mv (.t 4), some (70, false), true⟩,
    ⟨some 72, .fad 9 (.t 1), some (70, false), true⟩,
    ⟨some 73, .iaa 3 1 (.t 72) (.t 71), some (70, false), true⟩,
    ⟨some 74, .load false 1 (.t 73), some (70, false), true⟩,
    ⟨some 75, .bin .gtr (.t 74) (.c (.int .i64 18)), some (70, false), true⟩,
    ⟨some 76, .pick (.t 70) (.c (.bool true)) (.t 75), none, true⟩,
    ⟨some 77, .mv (.t 76), none, true⟩,
    ⟨some 78, .mv (.t 4), some (77, false), true⟩,
    ⟨some 79, .fad 6 (.t 1), some (77, false), true⟩,
    ⟨some 80, .iaa 3 1 (.t 79) (.t 78), some (77, false), true⟩,
    ⟨some 81, .load false 1 (.t 80), some (77, false), true⟩,
    ⟨some 82, .mv (.t 4), some (77, false), true⟩,
    ⟨some 83, .fad 9 (.t 1), some (77, false), true⟩,
    ⟨some 84, .iaa 3 1 (.t 83) (.t 82), some (77, false), true⟩,
    ⟨some 85, .load false 1 (.t 84), some (77, false), true⟩,
    ⟨some 86, .bin .gtr (.t 81) (.t 85), some (77, false), true⟩,
    ⟨some 87, .pick (.t 77) (.c (.bool true)) (.t 86), none, true⟩] (some [1, 3, 4, 87]) []) (
  (.cond (.t 87) (
    (.seq (
    .reg none [
      ⟨some 2, .as (.c (.bool false)), none, true⟩] (some [2]) []) (
    .ret))) (
    .skip))))) (
  .reg none [
    ⟨some 88, .mv (.t 3), none, true⟩,
    ⟨some 89, .mv (.t 4), none, true⟩,
    ⟨some 90, .fad 2 (.t 1), none, true⟩,
    ⟨some 91, .iaa 3 1 (.t 90) (.t 89), none, true⟩,
    ⟨some 92, .load false 1 (.t 91), none, true⟩,
    ⟨some 93, .bin .add (.t 88) (.t 92), none, true⟩,
    ⟨some 3, .as (.t 93), none, true⟩] (some [1, 3, 4]) []))) (some [1, 3, 4]) [2])) (
  .reg none [
    ⟨some 35, .mv (.t 4), none, true⟩,
    ⟨some 36, .bin .add (.t 35) (.c (.int .i64 1)), none, true⟩,
    ⟨some 4, .as (.t 36), none, true⟩] (some [1, 3, 4]) []))))
def A16_L0 : ACode := .loop A16_L0b (some [1, 3, 4]) [2]
/-- ambidexter/ambidexterref07.Right -/
def A16 : AFn := .code [.t 2] (
(.seq (
.reg none [
  ⟨some 1, .box (.t 0), none, true⟩,
  ⟨some 2, .as (.c (.bool false)), none, true⟩] (some [1]) []) (
(.seq (
(.seq (
.reg none [
  ⟨some 5, .load true 12 (.t 1), none, true⟩,
  ⟨some 6, .call 46 [.t 5], none, true⟩,
  ⟨some 7, .mv (.t 6), none, true⟩,
  ⟨some 8, .fad 5 (.t 1), some (7, false), true⟩,
  ⟨some 9, .load false 1 (.t 8), some (7, false), true⟩,
  ⟨some 10, .bin .lss (.t 9) (.c (.int .i64 1)), some (7, false), true⟩,
  ⟨some 11, .pick (.t 7) (.c (.bool true)) (.t 10), none, true⟩,
  ⟨some 12, .mv (.t 11), none, true⟩,
  ⟨some 13, .fad 5 (.t 1), some (12, false), true⟩,
  ⟨some 14, .load false 1 (.t 13), some (12, false), true⟩,
  ⟨some 15, .bin .gtr (.t 14) (.c (.int .i64 4)), some (12, false), true⟩,
  ⟨some 16, .pick (.t 12) (.c (.bool true)) (.t 15), none, true⟩,
  ⟨some 17, .mv (.t 16), none, true⟩,
  ⟨some 18, .fad 0 (.t 1), some (17, false), true⟩,
  ⟨some 19, .fad 0 (.t 18), some (17, false), true⟩,
  ⟨some 20, .load false 1 (.t 19), some (17, false), true⟩,
  ⟨some 21, .bin .rem (.t 20) (.c (.int .i64 16)), some (17, false), true⟩,
  ⟨some 22, .bin .neq (.t 21) (.c (.int .i64 0)), some (17, false), true⟩,
  ⟨some 23, .pick (.t 17) (.c (.bool true)) (.t 22), none, true⟩,
  ⟨some 24, .mv (.t 23), none, true⟩,
  ⟨some 25, .fad 0 (.t 1), some (24, false), true⟩,
  ⟨some 26, .fad 1 (.t 25), some (24, false), true⟩,
  ⟨some 27, .load false 1 (.t 26), some (24, false), true⟩,
  ⟨some 28, .bin .rem (.t 27) (.c (.int .i64 16)), some (24, false), true⟩,
  ⟨some 29, .bin .neq (.t 28) (.c (.int .i64 0)), some (24, false), true⟩,
  ⟨some 30, .pick (.t 24) (.c (.bool true)) (.t 29), none, true⟩] (some [1, 30]) []) (
(.cond (.t 30) (
  (.seq (
  .reg none [
    ⟨some 2, .as (.c (.bool false)), none, true⟩] (some [2]) []) (
  .ret))) (
  .skip))))) (
(.seq (
.reg none [
  ⟨some 31, .fad 5 (.t 1), none, true⟩,
  ⟨some 32, .load false 1 (.t 31), none, true⟩,
  ⟨some 3, .as (.t 32), none, true⟩] (some [1, 3]) []) (
(.seq (
(.seq (
.reg none [
  ⟨some 4, .as (.c (.int .i64 0)), none, true⟩] (some [1, 3, 4]) []) (
(.block 0 (
A16_L0) (some [1, 3]) [2, 4])))) (
(.seq (
.reg none [
  ⟨some 94, .fad 0 (.t 1), none, true⟩,
  ⟨some 95, .fad 0 (.t 94), none, true⟩,
  ⟨some 96, .load false 1 (.t 95), none, true⟩,
  ⟨some 97, .call 47 [.t 96], none, true⟩,
  ⟨some 98, .mv (.t 3), none, true⟩,
  ⟨some 99, .bin .mul (.t 98) (.c (.int .i64 4394000)), none, true⟩,
  ⟨some 100, .bin .add (.t 97) (.t 99), none, true⟩,
  ⟨some 101, .bin .leq (.t 100) (.c (.int .i64 439400000)), none, true⟩,
  ⟨some 102, .mv (.t 101), none, true⟩,
  ⟨some 103, .fad 0 (.t 1), some (102, true), true⟩,
  ⟨some 104, .fad 1 (.t 103), some (102, true), true⟩,
  ⟨some 105, .load false 1 (.t 104), some (102, true), true⟩,
  ⟨some 106, .call 47 [.t 105], some (102, true), true⟩,
  ⟨some 107, .mv (.t 3), some (102, true), true⟩,
  ⟨some 108, .bin .mul (.t 107) (.c (.int .i64 4394000)), some (102, true), true⟩,
  ⟨some 109, .bin .add (.t 106) (.t 108), some (102, true), true⟩,
  ⟨some 110, .bin .leq (.t 109) (.c (.int .i64 439400000)), some (102, true), true⟩,
  ⟨some 111, .pick (.t 102) (.t 110) (.c (.bool false)), none, true⟩,
  ⟨some 2, .as (.t 111), none, true⟩] (some [2]) [1]) (
.ret)))))))))))
def A17_L0b : ACode := 
  (.seq (
  .reg none [
    ⟨some 9, .bin .lss (.t 8) (.c (.int .i64 3)), none, true⟩] (some [2, 7, 8, 9]) []) (
  (.seq (
  (.cond (.t 9) (
    .skip) (
    .exit 0))) (
  (.seq (
  (.block 1 (
  (.seq (
  .reg none [
    ⟨some 10, .mv (.t 8), none, true⟩,
    ⟨some 11, .ixa false 3 1 (.t 7) (.t 8), none, true⟩,
    ⟨some 5, .as (.t 10), none, true⟩,
    ⟨some 6, .as (.t 11), none, true⟩] (some [2, 5, 6, 7, 8]) []) (
  (.seq (
  .reg none [
    ⟨some 12, .mv (.t 6), none, true⟩,
    ⟨some 13, .mv (.t 5), none, true⟩,
    ⟨some 14, .fad 6 (.t 2), none, true⟩,
    ⟨some 15, .iaa 3 1 (.t 14) (.t 13), none, true⟩,
    ⟨some 16, .load false 1 (.t 15), none, true⟩,
    ⟨some 17, .bin .lss (.t 12) (.t 16), none, true⟩,
    ⟨some 18, .mv (.t 17), none, true⟩,
    ⟨some 19, .mv (.t 6), some (18, false), true⟩,
    ⟨some 20, .mv (.t 5), some (18, false), true⟩,
    ⟨some 21, .fad 9 (.t 2), some (18, false), true⟩,
    ⟨some 22, .iaa 3 1 (.t 21) (.t 20), some (18, false), true⟩,
    ⟨some 23, .load false 1 (.t 22), some (18, false), true⟩,
    ⟨some 24, .bin .gtr (.t 19) (.t 23), some (18, false), true⟩,
    ⟨some 25, .pick (.t 18) (.c (.bool true)) (.t 24), none, true⟩] (some [2, 7, 8, 25]) []) (
  (.cond (.t 25) (
    (.seq (
    .reg none [
      ⟨some 4, .as (.c (.bool false)), none, true⟩] (some [4]) []) (
    .ret))) (
    .skip))))))) (some [2, 7, 8]) [4, 5, 6])) (
  .reg none [
    ⟨some 26, .bin .add (.t 8) (.c (.int .i64 1)), none, true⟩,
    ⟨some 8, .mv (.t 26), none, true⟩] (some [2, 7, 8]) []))))))
def A17_L0 : ACode := .loop A17_L0b (some [2, 7, 8]) [4, 5, 6]
/-- ambidexter/arm.InLimits -/
def A17 : AFn := .code [.t 4] (
(.seq (
.reg none [
  ⟨some 2, .box (.t 0), none, true⟩,
  ⟨some 3, .box (.t 1), none, true⟩,
  ⟨some 4, .as (.c (.bool false)), none, true⟩] (some [2, 3]) []) (
(.seq (
(.seq (
.reg none [
  ⟨some 7, .load true 3 (.t 3), none, true⟩,
  ⟨some 8, .mv (.c (.int .i64 0)), none, true⟩] (some [2, 7, 8]) [3]) (
(.block 0 (
A17_L0) (some []) [4, 5, 6])))) (
(.seq (
.reg none [
  ⟨some 4, .as (.c (.bool true)), none, true⟩] (some [4]) []) (
.ret)))))))
def A18_L0b : ACode := 
  (.seq (
  (.seq (
  .reg none [
    ⟨some 6, .mv (.t 5), none, true⟩,
    ⟨some 7, .bin .lss (.t 6) (.c (.int .i64 3)), none, true⟩] (some [2, 3, 5, 7]) []) (
  (.cond (.t 7) (
    .skip) (
    .exit 0))))) (
  (.seq (
  (.block 1 (
  (.seq (
  .reg (some [.dr [16] [], .dr [16] [], .dr [16] [], .dr [12] [], .dr [12] [], .dr [12] [], .dr [12] [], .free, .free, .dr [25] [], .dr [25] [], .dr [25] [], .dr [21] [], .dr [21] [], .dr [21] [], .dr [21] [], .free, .free]) [
    ⟨some 10, .mv (.t 5), none, true⟩,
    ⟨some 11, .iaa 3 1 (.t 3) (.t 10), none, true⟩,
    ⟨some 12, .load false 1 (.t 11), none, true⟩,
    ⟨some 13, .mv (.t 5), none, true⟩,
    ⟨some 14, .fad 6 (.t 2), none, true⟩,
    ⟨some 15, .iaa 3 1 (.t 14) (.t 13), none, true⟩,
    ⟨some 16, .load false 1 (.t 15), none, true⟩,
    ⟨some 17, .bin .lss (.t 12) (.t 16), none, true⟩,
    ⟨some 18, .mv (.t 17), none, true⟩,
    ⟨some 19, .mv (.t 5), some (18, false), true⟩,
    ⟨some 20, .iaa 3 1 (.t 3) (.t 19), some (18, false), true⟩,
    ⟨some 21, .load false 1 (.t 20), some (18, false), true⟩,
    ⟨some 22, .mv (.t 5), some (18, false), true⟩,
    ⟨some 23, .fad 9 (.t 2), some (18, false), true⟩,
    ⟨some 24, .iaa 3 1 (.t 23) (.t 22), some (18, false), true⟩,
    ⟨some 25, .load false 1 (.t 24), some (18, false), true⟩,
    ⟨some 26, .bin .gtr (.t 21) (.t 25), some (18, false), true⟩,
    ⟨some 27, .pick (.t 18) (.c (.bool true)) (.t 26), none, true⟩] (some [2, 3, 5, 27]) []) (
  (.cond (.t 27) (
    (.seq (
    .reg none [
      ⟨some 4, .as (.c (.bool false)), none, true⟩] (some [4]) []) (
    .ret))) (
    .skip))))) (some [2, 3, 5]) [4])) (
  .reg none [
    ⟨some 8, .mv (.t 5), none, true⟩,
    ⟨some 9, .bin .add (.t 8) (.c (.int .i64 1)), none, true⟩,
    ⟨some 5, .as (.t 9), none, true⟩] (some [2, 3, 5]) []))))
def A18_L0 : ACode := .loop A18_L0b (some [2, 3, 5]) [4]
/-- ambidexter/ambidexterref07.Fits -/
def A18 : AFn := .code [.t 4] (
(.seq (
.reg none [
  ⟨some 2, .box (.t 0), none, true⟩,
  ⟨some 3, .box (.t 1), none, true⟩,
  ⟨some 4, .as (.c (.bool false)), none, true⟩] (some [2, 3]) []) (
(.seq (
(.seq (
.reg none [
  ⟨some 5, .as (.c (.int .i64 0)), none, true⟩] (some [2, 3, 5]) []) (
(.block 0 (
A18_L0) (some []) [4, 5])))) (
(.seq (
.reg none [
  ⟨some 4, .as (.c (.bool true)), none, true⟩] (some [4]) []) (
.ret)))))))
def A19_L0b : ACode := 
  (.seq (
  (.seq (
  .reg none [
    ⟨some 8, .mv (.t 6), none, true⟩,
    ⟨some 9, .bin .lss (.t 8) (.c (.int .i64 3)), none, true⟩] (some [2, 3, 4, 5, 6, 9]) []) (
  (.cond (.t 9) (
    .skip) (
    .exit 0))))) (
  (.seq (
  (.block 1 (
  .reg (some [.dr [16, 19, 24, 28] [], .dr [19, 24, 28] [], .dr [19, 24, 28] [], .dr [19, 24, 28] [], .dr [19, 24, 28] [], .dr [16, 24, 28] [], .dr [16, 24, 28] [], .dr [16, 24, 28] [], .dr [16, 24, 28] [], .dr [16, 19, 28] [], .dr [16, 19, 28] [], .dr [16, 19, 28] [], .dr [16, 19, 28] [], .dr [16, 19, 24] [], .dr [16, 19, 24] [], .dr [16, 19, 24] [], .dr [16, 19, 24] [], .dr [16, 19] [], .dr [16, 19] [], .dr [16] [], .dr [] [], .free, .free]) [
    ⟨some 12, .mv (.t 6), none, true⟩,
    ⟨some 13, .mv (.t 6), none, true⟩,
    ⟨some 14, .fad 6 (.t 2), none, true⟩,
    ⟨some 15, .iaa 3 1 (.t 14) (.t 13), none, true⟩,
    ⟨some 16, .load false 1 (.t 15), none, true⟩,
    ⟨some 17, .mv (.t 6), none, true⟩,
    ⟨some 18, .iaa 3 1 (.t 3) (.t 17), none, true⟩,
    ⟨some 19, .load false 1 (.t 18), none, true⟩,
    ⟨some 20, .conv .i64 (.t 19), none, true⟩,
    ⟨some 21, .mv (.t 6), none, true⟩,
    ⟨some 22, .fad 9 (.t 2), none, true⟩,
    ⟨some 23, .iaa 3 1 (.t 22) (.t 21), none, true⟩,
    ⟨some 24, .load false 1 (.t 23), none, true⟩,
    ⟨some 25, .mv (.t 6), none, true⟩,
    ⟨some 26, .fad 6 (.t 2), none, true⟩,
    ⟨some 27, .iaa 3 1 (.t 26) (.t 25), none, true⟩,
    ⟨some 28, .load false 1 (.t 27), none, true⟩,
    ⟨some 29, .bin .sub (.t 24) (.t 28), none, true⟩,
    ⟨some 30, .bin .add (.t 29) (.c (.int .i64 1)), none, true⟩,
    ⟨some 31, .bin .rem (.t 20) (.t 30), none, true⟩,
    ⟨some 32, .bin .add (.t 16) (.t 31), none, true⟩,
    ⟨some 33, .iaa 3 1 (.t 5) (.t 12), none, true⟩,
    ⟨none, .store 1 (.t 33) (.t 32), none, true⟩] (some [2, 3, 4, 5, 6]) []) (some [2, 3, 4, 5, 6]) [])) (
  .reg none [
    ⟨some 10, .mv (.t 6), none, true⟩,
    ⟨some 11, .bin .add (.t 10) (.c (.int .i64 1)), none, true⟩,
    ⟨some 6, .as (.t 11), none, true⟩] (some [2, 3, 4, 5, 6]) []))))
def A19_L0 : ACode := .loop A19_L0b (some [2, 3, 4, 5, 6]) []
/-- ambidexter/ambidexterref07.Joint -/
def A19 : AFn := .code [.cell true 3 4] (
(.seq (
.reg none [
  ⟨some 2, .box (.t 0), none, true⟩,
  ⟨some 3, .box (.t 1), none, true⟩,
  ⟨some 4, .alloc [.int .i64 0, .int .i64 0, .int .i64 0], none, true⟩] (some [2, 3, 4]) []) (
(.seq (
.reg none [
  ⟨some 7, .build [.int .i64 0, .int .i64 0, .int .i64 0] [], none, true⟩,
  ⟨some 5, .alloc [.int .i64 0, .int .i64 0, .int .i64 0], none, true⟩,
  ⟨none, .store 3 (.t 5) (.t 7), none, true⟩] (some [2, 3, 4, 5]) []) (
(.seq (
(.seq (
.reg none [
  ⟨some 6, .as (.c (.int .i64 0)), none, true⟩] (some [2, 3, 4, 5, 6]) []) (
(.block 0 (
A19_L0) (some [4, 5]) [6])))) (
(.seq (
.reg none [
  ⟨some 34, .load true 3 (.t 5), none, true⟩,
  ⟨none, .store 3 (.t 4) (.t 34), none, true⟩] (some [4]) [5]) (
.ret)))))))))
def A20_L0b : ACode := 
  (.seq (
  .reg none [
    ⟨some 24, .bin .lss (.t 23) (.c (.int .i64 3)), none, true⟩] (some [4, 5, 6, 7, 22, 23, 24]) []) (
  (.seq (
  (.cond (.t 24) (
    .skip) (
    .exit 0))) (
  (.seq (
  (.block 1 (
  (.seq (
  .reg none [
    ⟨some 25, .mv (.t 23), none, true⟩,
    ⟨some 26, .ixa true 3 3 (.t 22) (.t 23), none, true⟩,
    ⟨some 9, .alloc [.int .i64 0, .int .i64 0, .int .i64 0], none, true⟩,
    ⟨some 8, .as (.t 25), none, true⟩,
    ⟨none, .store 3 (.t 9) (.t 26), none, true⟩] (some [4, 5, 6, 7, 8, 9, 22, 23]) []) (
  .reg (some [.loc, .loc, .loc, .loc, .loc, .loc, .dr [29, 32, 36] [], .dr [28, 32, 36] [], .dr [28, 29, 36] [], .dr [28, 29, 32] [], .free, .free, .free]) [
    ⟨some 27, .mv (.t 8), none, true⟩,
    ⟨some 30, .mv (.t 8), none, true⟩,
    ⟨some 31, .iaa 4 2 (.t 7) (.t 30), none, true⟩,
    ⟨some 33, .mv (.t 8), none, true⟩,
    ⟨some 34, .bin .add (.t 33) (.c (.int .i64 1)), none, true⟩,
    ⟨some 35, .iaa 4 2 (.t 7) (.t 34), none, true⟩,
    ⟨some 28, .load true 15 (.t 6), none, true⟩,
    ⟨some 29, .load true 3 (.t 9), none, true⟩,
    ⟨some 32, .load true 2 (.t 31), none, true⟩,
    ⟨some 36, .load true 2 (.t 35), none, true⟩,
    ⟨some 37, .call 48 [.t 28, .t 29, .t 32, .t 36], none, true⟩,
    ⟨some 38, .iaa 3 1 (.t 5) (.t 27), none, true⟩,
    ⟨none, .store 1 (.t 38) (.t 37), none, true⟩] (some [4, 5, 6, 7, 22, 23]) [9]))) (some [4, 5, 6, 7, 22, 23]) [8, 9, 37])) (
  .reg none [
    ⟨some 39, .bin .add (.t 23) (.c (.int .i64 1)), none, true⟩,
    ⟨some 23, .mv (.t 39), none, true⟩] (some [4, 5, 6, 7, 22, 23]) []))))))
def A20_L0 : ACode := .loop A20_L0b (some [4, 5, 6, 7, 22, 23]) [8, 9, 37]
/-- ambidexter/arm.LinkPolygons -/
def A20 : AFn := .code [.cell true 3 4] (
(.seq (
.reg none [
  ⟨some 2, .box (.t 0), none, true⟩,
  ⟨some 3, .box (.t 1), none, true⟩,
  ⟨some 4, .alloc [.nils 2, .nils 2, .nils 2], none, true⟩] (some [2, 3, 4]) []) (
(.seq (
.reg none [
  ⟨some 5, .alloc [.nils 2, .nils 2, .nils 2], none, true⟩] (some [2, 3, 4, 5]) []) (
(.seq (
.reg none [
  ⟨some 10, .load true 12 (.t 2), none, true⟩,
  ⟨some 11, .load true 3 (.t 3), none, true⟩,
  ⟨some 12, .build [.int .i64 0, .int .i64 0, .int .i64 0, .int .i64 0, .int .i64 0, .int .i64 0, .int .i64 0, .int .i64 0, .int .i64 0, .int .i64 0, .int .i64 0, .int .i64 0, .int .i64 0, .int .i64 0, .int .i64 0] [(0, 12, .t 10), (12, 3, .t 11)], none, true⟩,
  ⟨some 6, .alloc [.int .i64 0, .int .i64 0, .int .i64 0, .int .i64 0, .int .i64 0, .int .i64 0, .int .i64 0, .int .i64 0, .int .i64 0, .int .i64 0, .int .i64 0, .int .i64 0, .int .i64 0, .int .i64 0, .int .i64 0], none, true⟩,
  ⟨none, .store 15 (.t 6) (.t 12), none, true⟩] (some [4, 5, 6]) [2, 3]) (
(.seq (
.reg none [
  ⟨some 13, .fad 0 (.t 6), none, true⟩,
  ⟨some 14, .load true 12 (.t 13), none, true⟩,
  ⟨some 15, .fad 12 (.t 6), none, true⟩,
  ⟨some 16, .load true 3 (.t 15), none, true⟩,
  ⟨some 17, .call 27 [.t 14, .t 16], none, true⟩,
  ⟨some 7, .alloc [.int .i64 0, .int .i64 0, .int .i64 0, .int .i64 0, .int .i64 0, .int .i64 0, .int .i64 0, .int .i64 0], none, true⟩,
  ⟨none, .store 8 (.t 7) (.t 17), none, true⟩] (some [4, 5, 6, 7]) []) (
(.seq (
(.seq (
.reg none [
  ⟨some 18, .fad 0 (.t 6), none, true⟩,
  ⟨some 19, .load true 12 (.t 18), none, true⟩,
  ⟨some 20, .fad 12 (.t 6), none, true⟩,
  ⟨some 21, .load true 3 (.t 20), none, true⟩,
  ⟨some 22, .call 25 [.t 19, .t 21], none, true⟩,
  ⟨some 23, .mv (.c (.int .i64 0)), none, true⟩] (some [4, 5, 6, 7, 22, 23]) []) (
(.block 0 (
A20_L0) (some [4, 5]) [8, 9, 37])))) (
(.seq (
.reg none [
  ⟨some 40, .load true 3 (.t 5), none, true⟩,
  ⟨none, .store 3 (.t 4) (.t 40), none, true⟩] (some [4]) [5]) (
.ret)))))))))))))
def A21_L0b : ACode := 
  (.seq (
  (.seq (
  .reg none [
    ⟨some 19, .mv (.t 8), none, true⟩,
    ⟨some 20, .bin .lss (.t 19) (.c (.int .i64 3)), none, true⟩] (some [2, 4, 5, 6, 7, 8, 20]) []) (
  (.cond (.t 20) (
    .skip) (
    .exit 0))))) (
  (.seq (
  (.block 1 (
  (.seq (
  .reg (some [.dr [27, 9] [], .dr [27, 9] [], .dr [27, 9] [], .dr [25, 9] [], .dr [25, 9] [], .dr [9] [], .dr [25, 27, 28] [], .free]) [
    ⟨some 23, .mv (.t 8), none, true⟩,
    ⟨some 24, .iaa 3 3 (.t 5) (.t 23), none, true⟩,
    ⟨some 25, .load true 3 (.t 24), none, true⟩,
    ⟨some 26, .fad 5 (.t 2), none, true⟩,
    ⟨some 27, .load false 1 (.t 26), none, true⟩,
    ⟨some 28, .call 49 [.t 25, .t 27], none, true⟩,
    ⟨some 9, .alloc [.int .i64 0, .int .i64 0], none, true⟩,
    ⟨none, .store 2 (.t 9) (.t 28), none, true⟩] (some [2, 4, 5, 6, 7, 8, 9]) []) (
  (.seq (
  .reg none [
    ⟨some 29, .fad 1 (.t 9), none, true⟩,
    ⟨some 30, .load false 1 (.t 29), none, true⟩,
    ⟨some 31, .un .neg (.t 30), none, true⟩,
    ⟨some 32, .fad 0 (.t 9), none, true⟩,
    ⟨some 33, .load false 1 (.t 32), none, true⟩,
    ⟨some 34, .build [.int .i64 0, .int .i64 0] [(0, 1, .t 31), (1, 1, .t 33)], none, true⟩,
    ⟨some 10, .alloc [.int .i64 0, .int .i64 0], none, true⟩,
    ⟨none, .store 2 (.t 10) (.t 34), none, true⟩] (some [2, 4, 5, 6, 7, 8, 9, 10]) []) (
  (.seq (
  .reg none [
    ⟨some 35, .fad 1 (.t 9), none, true⟩,
    ⟨some 36, .load false 1 (.t 35), none, true⟩,
    ⟨some 37, .fad 0 (.t 9), none, true⟩,
    ⟨some 38, .load false 1 (.t 37), none, true⟩,
    ⟨some 39, .un .neg (.t 38), none, true⟩,
    ⟨some 40, .build [.int .i64 0, .int .i64 0] [(0, 1, .t 36), (1, 1, .t 39)], none, true⟩,
    ⟨some 11, .alloc [.int .i64 0, .int .i64 0], none, true⟩,
    ⟨none, .store 2 (.t 11) (.t 40), none, true⟩] (some [2, 4, 5, 6, 7, 8, 10, 11]) [9]) (
  .reg (some [.loc, .loc, .loc, .loc, .loc, .loc, .loc, .loc, .loc, .loc, .loc, .dr [45, 50, 51, 56, 57, 61, 62] [], .dr [44, 50, 51, 56, 57, 61, 62] [], .dr [50, 51, 56, 57, 61, 62] [], .dr [44, 45, 46, 51, 56, 57, 61, 62] [], .dr [44, 45, 46, 50, 56, 57, 61, 62] [], .dr [56, 57, 61, 62] [], .dr [44, 45, 46, 50, 51, 52, 57, 61, 62] [], .dr [44, 45, 46, 50, 51, 52, 56, 61, 62] [], .dr [61, 62] [], .dr [44, 45, 46, 50, 51, 52, 56, 57, 58, 62] [], .dr [44, 45, 46, 50, 51, 52, 56, 57, 58, 61] [], .free, .free, .free, .free]) [
    ⟨some 41, .mv (.t 8), none, true⟩,
    ⟨some 42, .mv (.t 8), none, true⟩,
    ⟨some 43, .iaa 4 2 (.t 6) (.t 42), none, true⟩,
    ⟨some 47, .mv (.t 8), none, true⟩,
    ⟨some 48, .bin .add (.t 47) (.c (.int .i64 1)), none, true⟩,
    ⟨some 49, .iaa 4 2 (.t 6) (.t 48), none, true⟩,
    ⟨some 53, .mv (.t 8), none, true⟩,
    ⟨some 54, .bin .add (.t 53) (.c (.int .i64 1)), none, true⟩,
    ⟨some 55, .iaa 4 2 (.t 6) (.t 54), none, true⟩,
    ⟨some 59, .mv (.t 8), none, true⟩,
    ⟨some 60, .iaa 4 2 (.t 6) (.t 59), none, true⟩,
    ⟨some 44, .load true 2 (.t 43), none, true⟩,
    ⟨some 45, .load true 2 (.t 11), none, true⟩,
    ⟨some 46, .call 50 [.t 44, .t 45], none, true⟩,
    ⟨some 50, .load true 2 (.t 49), none, true⟩,
    ⟨some 51, .load true 2 (.t 11), none, true⟩,
    ⟨some 52, .call 50 [.t 50, .t 51], none, true⟩,
    ⟨some 56, .load true 2 (.t 55), none, true⟩,
    ⟨some 57, .load true 2 (.t 10), none, true⟩,
    ⟨some 58, .call 50 [.t 56, .t 57], none, true⟩,
    ⟨some 61, .load true 2 (.t 60), none, true⟩,
    ⟨some 62, .load true 2 (.t 10), none, true⟩,
    ⟨some 63, .call 50 [.t 61, .t 62], none, true⟩,
    ⟨some 64, .bsl 2 4 [.int .i64 0, .int .i64 0] [(0, .t 46), (1, .t 52), (2, .t 58), (3, .t 63)], none, true⟩,
    ⟨some 65, .iaa 3 1 (.t 7) (.t 41), none, true⟩,
    ⟨none, .store 1 (.t 65) (.t 64), none, true⟩] (some [2, 4, 5, 6, 7, 8]) [10, 11]))))))) (some [2, 4, 5, 6, 7, 8]) [9, 10, 11, 28, 46, 52, 58, 63, 64])) (
  .reg none [
    ⟨some 21, .mv (.t 8), none, true⟩,
    ⟨some 22, .bin .add (.t 21) (.c (.int .i64 1)), none, true⟩,
    ⟨some 8, .as (.t 22), none, true⟩] (some [2, 4, 5, 6, 7, 8]) []))))
def A21_L0 : ACode := .loop A21_L0b (some [2, 4, 5, 6, 7, 8]) [9, 10, 11, 28, 46, 52, 58, 63, 64]
/-- ambidexter/ambidexterref07.Links -/
def A21 : AFn := .code [.cell true 3 4] (
(.seq (
.reg none [
  ⟨some 2, .box (.t 0), none, true⟩,
  ⟨some 3, .box (.t 1), none, true⟩,
  ⟨some 4, .alloc [.nils 2, .nils 2, .nils 2], none, true⟩] (some [2, 3, 4]) []) (
(.seq (
.reg none [
  ⟨some 12, .load true 12 (.t 2), none, true⟩,
  ⟨some 13, .load true 3 (.t 3), none, true⟩,
  ⟨some 14, .call 26 [.t 12, .t 13], none, true⟩,
  ⟨some 5, .alloc [.int .i64 0, .int .i64 0, .int .i64 0, .int .i64 0, .int .i64 0, .int .i64 0, .int .i64 0, .int .i64 0, .int .i64 0], none, true⟩,
  ⟨none, .store 9 (.t 5) (.t 14), none, true⟩] (some [2, 3, 4, 5]) []) (
(.seq (
.reg none [
  ⟨some 15, .load true 12 (.t 2), none, true⟩,
  ⟨some 16, .load true 3 (.t 3), none, true⟩,
  ⟨some 17, .call 28 [.t 15, .t 16], none, true⟩,
  ⟨some 6, .alloc [.int .i64 0, .int .i64 0, .int .i64 0, .int .i64 0, .int .i64 0, .int .i64 0, .int .i64 0, .int .i64 0], none, true⟩,
  ⟨none, .store 8 (.t 6) (.t 17), none, true⟩] (some [2, 4, 5, 6]) [3]) (
(.seq (
.reg none [
  ⟨some 18, .build [.nils 2, .nils 2, .nils 2] [], none, true⟩,
  ⟨some 7, .alloc [.nils 2, .nils 2, .nils 2], none, true⟩,
  ⟨none, .store 3 (.t 7) (.t 18), none, true⟩] (some [2, 4, 5, 6, 7]) []) (
(.seq (
(.seq (
.reg none [
  ⟨some 8, .as (.c (.int .i64 0)), none, true⟩] (some [2, 4, 5, 6, 7, 8]) []) (
(.block 0 (
A21_L0) (some [4, 7]) [8, 9, 10, 11, 28, 46, 52, 58, 63, 64])))) (
(.seq (
.reg none [
  ⟨some 66, .load true 3 (.t 7), none, true⟩,
  ⟨none, .store 3 (.t 4) (.t 66), none, true⟩] (some [4]) [7]) (
.ret)))))))))))))
def A22_L0b : ACode := 
  (.seq (
  (.seq (
  .reg none [
    ⟨some 11, .mv (.t 5), none, true⟩,
    ⟨some 12, .mv (.t 0), none, true⟩,
    ⟨some 13, .len 0 (.t 12), none, true⟩,
    ⟨some 14, .bin .lss (.t 11) (.t 13), none, true⟩] (some [0, 1, 5, 14]) []) (
  (.cond (.t 14) (
    .skip) (
    .exit 0))))) (
  (.seq (
  (.block 1 (
  (.seq (
  .reg (some [.dr [23, 24] [], .dr [23, 24] [], .dr [23, 24] [], .dr [23, 24] [], .dr [19, 20] [], .dr [19, 20] [], .dr [19, 20] [], .dr [19, 20] [], .free]) [
    ⟨some 17, .mv (.t 0), none, true⟩,
    ⟨some 18, .mv (.t 5), none, true⟩,
    ⟨some 19, .ias 2 (.t 17) (.t 18), none, true⟩,
    ⟨some 20, .load true 2 (.t 19), none, true⟩,
    ⟨some 21, .mv (.t 1), none, true⟩,
    ⟨some 22, .mv (.t 5), none, true⟩,
    ⟨some 23, .ias 2 (.t 21) (.t 22), none, true⟩,
    ⟨some 24, .load true 2 (.t 23), none, true⟩,
    ⟨some 25, .eqa true [0, 0] (.t 20) (.t 24), none, true⟩] (some [0, 1, 5, 25]) []) (
  (.cond (.t 25) (
    (.seq (
    .reg none [
      ⟨some 4, .as (.c (.bool false)), none, true⟩] (some [4]) []) (
    .ret))) (
    .skip))))) (some [0, 1, 5]) [4])) (
  .reg none [
    ⟨some 15, .mv (.t 5), none, true⟩,
    ⟨some 16, .bin .add (.t 15) (.c (.int .i64 1)), none, true⟩,
    ⟨some 5, .as (.t 16), none, true⟩] (some [0, 1, 5]) []))))
def A22_L0 : ACode := .loop A22_L0b (some [0, 1, 5]) [4]
/-- ambidexter/ambidexterref03.Same -/
def A22 : AFn := .code [.t 4] (
(.seq (
.reg none [
  ⟨some 4, .as (.c (.bool false)), none, true⟩] (some [0, 1]) []) (
(.seq (
(.seq (
.reg none [
  ⟨some 6, .mv (.t 0), none, true⟩,
  ⟨some 7, .len 0 (.t 6), none, true⟩,
  ⟨some 8, .mv (.t 1), none, true⟩,
  ⟨some 9, .len 0 (.t 8), none, true⟩,
  ⟨some 10, .bin .neq (.t 7) (.t 9), none, true⟩] (some [0, 1, 10]) []) (
(.cond (.t 10) (
  (.seq (
  .reg none [
    ⟨some 4, .as (.c (.bool false)), none, true⟩] (some [4]) []) (
  .ret))) (
  .skip))))) (
(.seq (
(.seq (
.reg none [
  ⟨some 5, .as (.c (.int .i64 0)), none, true⟩] (some [0, 1, 5]) []) (
(.block 0 (
A22_L0) (some []) [4, 5])))) (
(.seq (
.reg none [
  ⟨some 4, .as (.c (.bool true)), none, true⟩] (some [4]) []) (
.ret)))))))))
/-- ambidexter/arm.StepJoint -/
def A23 : AFn := .code [.cell true 3 8, .t 9] (
(.seq (
.reg none [
  ⟨some 4, .box (.t 0), none, true⟩,
  ⟨some 5, .box (.t 1), none, true⟩,
  ⟨some 8, .alloc [.int .i64 0, .int .i64 0, .int .i64 0], none, true⟩,
  ⟨some 9, .as (.c (.bool false)), none, true⟩] (some [2, 3, 4, 5, 8]) []) (
(.seq (
(.seq (
.reg none [
  ⟨some 10, .mv (.t 2), none, true⟩,
  ⟨some 11, .bin .lss (.t 10) (.c (.int .i64 0)), none, true⟩,
  ⟨some 12, .mv (.t 11), none, true⟩,
  ⟨some 13, .mv (.t 2), some (12, false), true⟩,
  ⟨some 14, .bin .geq (.t 13) (.c (.int .i64 3)), some (12, false), true⟩,
  ⟨some 15, .pick (.t 12) (.c (.bool true)) (.t 14), none, true⟩,
  ⟨some 16, .mv (.t 15), none, true⟩,
  ⟨some 17, .mv (.t 3), some (16, false), true⟩,
  ⟨some 18, .bin .neq (.t 17) (.c (.int .i64 1)), some (16, false), true⟩,
  ⟨some 19, .mv (.t 18), some (16, false), true⟩,
  ⟨some 20, .mv (.t 3), some (19, true), true⟩,
  ⟨some 21, .bin .neq (.t 20) (.c (.int .i64 (-1))), some (19, true), true⟩,
  ⟨some 22, .pick (.t 19) (.t 21) (.c (.bool false)), some (16, false), true⟩,
  ⟨some 23, .pick (.t 16) (.c (.bool true)) (.t 22), none, true⟩] (some [2, 3, 4, 5, 8, 23]) []) (
(.cond (.t 23) (
  (.seq (
  .reg none [
    ⟨some 24, .build [.int .i64 0, .int .i64 0, .int .i64 0] [], none, true⟩,
    ⟨none, .store 3 (.t 8) (.t 24), none, true⟩,
    ⟨some 9, .as (.c (.bool false)), none, true⟩] (some [8, 9]) []) (
  .ret))) (
  .skip))))) (
(.seq (
.reg none [
  ⟨some 25, .mv (.t 2), none, true⟩,
  ⟨some 26, .iaa 3 1 (.t 5) (.t 25), none, true⟩,
  ⟨some 27, .load false 1 (.t 26), none, true⟩,
  ⟨some 28, .mv (.t 3), none, true⟩,
  ⟨some 29, .bin .add (.t 27) (.t 28), none, true⟩,
  ⟨some 30, .iaa 3 1 (.t 5) (.t 25), none, true⟩,
  ⟨none, .store 1 (.t 30) (.t 29), none, true⟩] (some [4, 5, 8]) []) (
(.seq (
(.seq (
.reg none [
  ⟨some 31, .load true 12 (.t 4), none, true⟩,
  ⟨some 32, .load true 3 (.t 5), none, true⟩,
  ⟨some 33, .call 17 [.t 31, .t 32], none, true⟩,
  ⟨some 34, .un .not (.t 33), none, true⟩] (some [5, 8, 34]) [4]) (
(.cond (.t 34) (
  (.seq (
  .reg none [
    ⟨some 35, .build [.int .i64 0, .int .i64 0, .int .i64 0] [], none, true⟩,
    ⟨none, .store 3 (.t 8) (.t 35), none, true⟩,
    ⟨some 9, .as (.c (.bool false)), none, true⟩] (some [8, 9]) []) (
  .ret))) (
  .skip))))) (
(.seq (
.reg none [
  ⟨some 36, .load true 3 (.t 5), none, true⟩,
  ⟨none, .store 3 (.t 8) (.t 36), none, true⟩,
  ⟨some 9, .as (.c (.bool true)), none, true⟩] (some [8, 9]) [5]) (
.ret)))))))))))
/-- ambidexter/ambidexterref07.Step -/
def A24 : AFn := .code [.cell true 3 8, .t 9] (
(.seq (
.reg none [
  ⟨some 4, .box (.t 0), none, true⟩,
  ⟨some 5, .box (.t 1), none, true⟩,
  ⟨some 8, .alloc [.int .i64 0, .int .i64 0, .int .i64 0], none, true⟩,
  ⟨some 9, .as (.c (.bool false)), none, true⟩] (some [2, 3, 4, 5, 8]) []) (
(.seq (
(.seq (
.reg none [
  ⟨some 10, .mv (.t 2), none, true⟩,
  ⟨some 11, .bin .lss (.t 10) (.c (.int .i64 0)), none, true⟩,
  ⟨some 12, .mv (.t 11), none, true⟩,
  ⟨some 13, .mv (.t 2), some (12, false), true⟩,
  ⟨some 14, .bin .gtr (.t 13) (.c (.int .i64 2)), some (12, false), true⟩,
  ⟨some 15, .pick (.t 12) (.c (.bool true)) (.t 14), none, true⟩,
  ⟨some 16, .mv (.t 15), none, true⟩,
  ⟨some 17, .mv (.t 3), some (16, false), true⟩,
  ⟨some 18, .bin .neq (.t 17) (.c (.int .i64 1)), some (16, false), true⟩,
  ⟨some 19, .mv (.t 18), some (16, false), true⟩,
  ⟨some 20, .mv (.t 3), some (19, true), true⟩,
  ⟨some 21, .bin .neq (.t 20) (.c (.int .i64 (-1))), some (19, true), true⟩,
  ⟨some 22, .pick (.t 19) (.t 21) (.c (.bool false)), some (16, false), true⟩,
  ⟨some 23, .pick (.t 16) (.c (.bool true)) (.t 22), none, true⟩] (some [2, 3, 4, 5, 8, 23]) []) (
(.cond (.t 23) (
  (.seq (
  .reg none [
    ⟨some 24, .build [.int .i64 0, .int .i64 0, .int .i64 0] [], none, true⟩,
    ⟨none, .store 3 (.t 8) (.t 24), none, true⟩,
    ⟨some 9, .as (.c (.bool false)), none, true⟩] (some [8, 9]) []) (
  .ret))) (
  .skip))))) (
(.seq (
.reg none [
  ⟨some 25, .mv (.t 2), none, true⟩,
  ⟨some 26, .mv (.t 2), none, true⟩,
  ⟨some 27, .iaa 3 1 (.t 5) (.t 26), none, true⟩,
  ⟨some 28, .load false 1 (.t 27), none, true⟩,
  ⟨some 29, .mv (.t 3), none, true⟩,
  ⟨some 30, .bin .add (.t 28) (.t 29), none, true⟩,
  ⟨some 31, .iaa 3 1 (.t 5) (.t 25), none, true⟩,
  ⟨none, .store 1 (.t 31) (.t 30), none, true⟩] (some [4, 5, 8]) []) (
(.seq (
(.seq (
.reg none [
  ⟨some 32, .load true 12 (.t 4), none, true⟩,
  ⟨some 33, .load true 3 (.t 5), none, true⟩,
  ⟨some 34, .call 18 [.t 32, .t 33], none, true⟩,
  ⟨some 35, .un .not (.t 34), none, true⟩] (some [5, 8, 35]) [4]) (
(.cond (.t 35) (
  (.seq (
  .reg none [
    ⟨some 36, .build [.int .i64 0, .int .i64 0, .int .i64 0] [], none, true⟩,
    ⟨none, .store 3 (.t 8) (.t 36), none, true⟩,
    ⟨some 9, .as (.c (.bool false)), none, true⟩] (some [8, 9]) []) (
  .ret))) (
  .skip))))) (
(.seq (
.reg none [
  ⟨some 37, .load true 3 (.t 5), none, true⟩,
  ⟨none, .store 3 (.t 8) (.t 37), none, true⟩,
  ⟨some 9, .as (.c (.bool true)), none, true⟩] (some [8, 9]) [5]) (
.ret)))))))))))
def A25_L0b : ACode := 
  (.seq (
  .reg none [
    ⟨some 12, .bin .lss (.t 11) (.c (.int .i64 3)), none, true⟩] (some [4, 5, 6, 10, 11, 12]) []) (
  (.seq (
  (.cond (.t 12) (
    .skip) (
    .exit 0))) (
  (.seq (
  (.block 1 (
  (.seq (
  .reg none [
    ⟨some 13, .mv (.t 11), none, true⟩,
    ⟨some 14, .ixa false 3 1 (.t 10) (.t 11), none, true⟩,
    ⟨some 7, .as (.t 13), none, true⟩,
    ⟨some 8, .as (.t 14), none, true⟩] (some [4, 5, 6, 7, 8, 10, 11]) []) (
  (.seq (
  .reg none [
    ⟨some 15, .load true 3 (.t 6), none, true⟩,
    ⟨some 16, .mv (.t 8), none, true⟩,
    ⟨some 17, .call 51 [.t 15, .t 16], none, true⟩,
    ⟨none, .store 3 (.t 6) (.t 17), none, true⟩] (some [4, 5, 6, 7, 10, 11]) []) (
  .reg none [
    ⟨some 18, .mv (.t 7), none, true⟩,
    ⟨some 19, .load true 3 (.t 6), none, true⟩,
    ⟨some 20, .iaa 3 3 (.t 5) (.t 18), none, true⟩,
    ⟨none, .store 3 (.t 20) (.t 19), none, true⟩] (some [4, 5, 6, 10, 11]) []))))) (some [4, 5, 6, 10, 11]) [7, 8])) (
  .reg none [
    ⟨some 21, .bin .add (.t 11) (.c (.int .i64 1)), none, true⟩,
    ⟨some 11, .mv (.t 21), none, true⟩] (some [4, 5, 6, 10, 11]) []))))))
def A25_L0 : ACode := .loop A25_L0b (some [4, 5, 6, 10, 11]) [7, 8]
/-- ambidexter/arm.LinkDirections -/
def A25 : AFn := .code [.cell true 9 4] (
(.seq (
.reg none [
  ⟨some 2, .box (.t 0), none, true⟩,
  ⟨some 3, .box (.t 1), none, true⟩,
  ⟨some 4, .alloc [.int .i64 0, .int .i64 0, .int .i64 0, .int .i64 0, .int .i64 0, .int .i64 0, .int .i64 0, .int .i64 0, .int .i64 0], none, true⟩] (some [3, 4]) [2]) (
(.seq (
.reg none [
  ⟨some 5, .alloc [.int .i64 0, .int .i64 0, .int .i64 0, .int .i64 0, .int .i64 0, .int .i64 0, .int .i64 0, .int .i64 0, .int .i64 0], none, true⟩] (some [3, 4, 5]) []) (
(.seq (
.reg none [
  ⟨some 9, .build [.int .i64 0, .int .i64 0, .int .i64 0] [(0, 1, .c (.int .i64 1))], none, true⟩,
  ⟨some 6, .alloc [.int .i64 0, .int .i64 0, .int .i64 0], none, true⟩,
  ⟨none, .store 3 (.t 6) (.t 9), none, true⟩] (some [3, 4, 5, 6]) []) (
(.seq (
(.seq (
.reg none [
  ⟨some 10, .load true 3 (.t 3), none, true⟩,
  ⟨some 11, .mv (.c (.int .i64 0)), none, true⟩] (some [4, 5, 6, 10, 11]) [3]) (
(.block 0 (
A25_L0) (some [4, 5]) [7, 8, 17])))) (
(.seq (
.reg none [
  ⟨some 22, .load true 9 (.t 5), none, true⟩,
  ⟨none, .store 9 (.t 4) (.t 22), none, true⟩] (some [4]) [5]) (
.ret)))))))))))
/-- ambidexter/ambidexterref07.Dirs -/
def A26 : AFn := .code [.cell true 9 4] (
(.seq (
.reg none [
  ⟨some 2, .box (.t 0), none, true⟩,
  ⟨some 3, .box (.t 1), none, true⟩,
  ⟨some 4, .alloc [.int .i64 0, .int .i64 0, .int .i64 0, .int .i64 0, .int .i64 0, .int .i64 0, .int .i64 0, .int .i64 0, .int .i64 0], none, true⟩] (some [3, 4]) [2]) (
(.seq (
.reg none [
  ⟨some 7, .build [.int .i64 0, .int .i64 0, .int .i64 0] [(0, 1, .c (.int .i64 1))], none, true⟩,
  ⟨some 8, .iaa 3 1 (.t 3) (.c (.int .i64 0)), none, true⟩,
  ⟨some 9, .load false 1 (.t 8), none, true⟩,
  ⟨some 10, .call 52 [.t 7, .t 9], none, true⟩,
  ⟨some 5, .alloc [.int .i64 0, .int .i64 0, .int .i64 0], none, true⟩,
  ⟨none, .store 3 (.t 5) (.t 10), none, true⟩] (some [3, 4, 5]) []) (
(.seq (
.reg none [
  ⟨some 11, .load true 3 (.t 5), none, true⟩,
  ⟨some 12, .iaa 3 1 (.t 3) (.c (.int .i64 1)), none, true⟩,
  ⟨some 13, .load false 1 (.t 12), none, true⟩,
  ⟨some 14, .call 52 [.t 11, .t 13], none, true⟩,
  ⟨some 6, .alloc [.int .i64 0, .int .i64 0, .int .i64 0], none, true⟩,
  ⟨none, .store 3 (.t 6) (.t 14), none, true⟩] (some [3, 4, 5, 6]) []) (
(.seq (
.reg (some [.dr [16, 17, 19, 20] [], .dr [15, 17, 19, 20] [], .dr [15, 16, 19] [], .dr [15, 16, 17] [], .dr [15, 16, 17] [], .dr [15, 16] [], .free, .free]) [
  ⟨some 15, .load true 3 (.t 5), none, true⟩,
  ⟨some 16, .load true 3 (.t 6), none, true⟩,
  ⟨some 17, .load true 3 (.t 6), none, true⟩,
  ⟨some 18, .iaa 3 1 (.t 3) (.c (.int .i64 2)), none, true⟩,
  ⟨some 19, .load false 1 (.t 18), none, true⟩,
  ⟨some 20, .call 52 [.t 17, .t 19], none, true⟩,
  ⟨some 21, .build [.int .i64 0, .int .i64 0, .int .i64 0, .int .i64 0, .int .i64 0, .int .i64 0, .int .i64 0, .int .i64 0, .int .i64 0] [(0, 3, .t 15), (3, 3, .t 16), (6, 3, .t 20)], none, true⟩,
  ⟨none, .store 9 (.t 4) (.t 21), none, true⟩] (some [4]) [3, 5, 6]) (
.ret)))))))))
def A27_L0b : ACode := 
  (.seq (
  .reg none [
    ⟨some 20, .bin .lss (.t 19) (.c (.int .i64 3)), none, true⟩] (some [2, 4, 5, 7, 18, 19, 20]) []) (
  (.seq (
  (.cond (.t 20) (
    .skip) (
    .exit 0))) (
  (.seq (
  (.block 1 (
  (.seq (
  .reg none [
    ⟨some 21, .mv (.t 19), none, true⟩,
    ⟨some 22, .ixa true 3 3 (.t 18) (.t 19), none, true⟩,
    ⟨some 9, .alloc [.int .i64 0, .int .i64 0, .int .i64 0], none, true⟩,
    ⟨some 8, .as (.t 21), none, true⟩,
    ⟨none, .store 3 (.t 9) (.t 22), none, true⟩] (some [2, 4, 5, 7, 8, 9, 18, 19]) []) (
  .reg (some [.loc, .loc, .loc, .loc, .loc, .loc, .dr [30] [], .dr [26] [], .free, .free, .free, .free]) [
    ⟨some 23, .mv (.t 8), none, true⟩,
    ⟨some 24, .bin .add (.t 23) (.c (.int .i64 1)), none, true⟩,
    ⟨some 25, .mv (.t 7), none, true⟩,
    ⟨some 27, .mv (.t 8), none, true⟩,
    ⟨some 28, .fad 2 (.t 2), none, true⟩,
    ⟨some 29, .iaa 3 1 (.t 28) (.t 27), none, true⟩,
    ⟨some 26, .load true 3 (.t 9), none, true⟩,
    ⟨some 30, .load false 1 (.t 29), none, true⟩,
    ⟨some 31, .call 55 [.t 26, .t 30], none, true⟩,
    ⟨some 32, .cal (.t 25) [.t 31], none, true⟩,
    ⟨some 33, .iaa 4 2 (.t 5) (.t 24), none, true⟩,
    ⟨none, .store 2 (.t 33) (.t 32), none, true⟩] (some [2, 4, 5, 7, 18, 19]) [9]))) (some [2, 4, 5, 7, 18, 19]) [8, 9, 31, 32])) (
  .reg none [
    ⟨some 34, .bin .add (.t 19) (.c (.int .i64 1)), none, true⟩,
    ⟨some 19, .mv (.t 34), none, true⟩] (some [2, 4, 5, 7, 18, 19]) []))))))
def A27_L0 : ACode := .loop A27_L0b (some [2, 4, 5, 7, 18, 19]) [8, 9, 31, 32]
/-- ambidexter/arm.JointPoints -/
def A27 : AFn := .code [.cell true 8 4] (
(.seq (
.reg none [
  ⟨some 2, .box (.t 0), none, true⟩,
  ⟨some 3, .box (.t 1), none, true⟩,
  ⟨some 4, .alloc [.int .i64 0, .int .i64 0, .int .i64 0, .int .i64 0, .int .i64 0, .int .i64 0, .int .i64 0, .int .i64 0], none, true⟩] (some [2, 3, 4]) []) (
(.seq (
.reg none [
  ⟨some 10, .fad 0 (.t 2), none, true⟩,
  ⟨some 11, .load true 2 (.t 10), none, true⟩,
  ⟨some 12, .build [.int .i64 0, .int .i64 0, .int .i64 0, .int .i64 0, .int .i64 0, .int .i64 0, .int .i64 0, .int .i64 0] [(0, 2, .t 11)], none, true⟩,
  ⟨some 5, .alloc [.int .i64 0, .int .i64 0, .int .i64 0, .int .i64 0, .int .i64 0, .int .i64 0, .int .i64 0, .int .i64 0], none, true⟩,
  ⟨none, .store 8 (.t 5) (.t 12), none, true⟩] (some [2, 3, 4, 5]) []) (
(.seq (
.reg none [
  ⟨some 13, .fad 0 (.t 2), none, true⟩,
  ⟨some 14, .load true 2 (.t 13), none, true⟩,
  ⟨some 6, .alloc [.int .i64 0, .int .i64 0], none, true⟩,
  ⟨none, .store 2 (.t 6) (.t 14), none, true⟩] (some [2, 3, 4, 5, 6]) []) (
(.seq (
.reg none [
  ⟨some 15, .mkf (.func 53) [] [.t 6], none, true⟩,
  ⟨some 7, .as (.t 15), none, true⟩] (some [2, 3, 4, 5, 7]) []) (
(.seq (
(.seq (
.reg none [
  ⟨some 16, .load true 12 (.t 2), none, true⟩,
  ⟨some 17, .load true 3 (.t 3), none, true⟩,
  ⟨some 18, .call 25 [.t 16, .t 17], none, true⟩,
  ⟨some 19, .mv (.c (.int .i64 0)), none, true⟩] (some [2, 4, 5, 7, 18, 19]) [3]) (
(.block 0 (
A27_L0) (some [4, 5]) [8, 9, 31, 32])))) (
(.seq (
.reg none [
  ⟨some 35, .load true 8 (.t 5), none, true⟩,
  ⟨none, .store 8 (.t 4) (.t 35), none, true⟩] (some [4]) [5]) (
.ret)))))))))))))
def A28_L0b : ACode := 
  (.seq (
  (.seq (
  .reg none [
    ⟨some 14, .mv (.t 7), none, true⟩,
    ⟨some 15, .bin .lss (.t 14) (.c (.int .i64 3)), none, true⟩] (some [2, 4, 5, 6, 7, 15]) []) (
  (.cond (.t 15) (
    .skip) (
    .exit 0))))) (
  (.seq (
  (.block 1 (
  .reg (some [.loc, .loc, .loc, .loc, .loc, .loc, .loc, .loc, .loc, .dr [25, 29, 30] [], .dr [22, 29] [], .dr [22, 25] [], .dr [22] [], .free, .free, .free]) [
    ⟨some 18, .mv (.t 7), none, true⟩,
    ⟨some 19, .bin .add (.t 18) (.c (.int .i64 1)), none, true⟩,
    ⟨some 20, .mv (.t 7), none, true⟩,
    ⟨some 21, .iaa 4 2 (.t 6) (.t 20), none, true⟩,
    ⟨some 23, .mv (.t 7), none, true⟩,
    ⟨some 24, .iaa 3 3 (.t 5) (.t 23), none, true⟩,
    ⟨some 26, .mv (.t 7), none, true⟩,
    ⟨some 27, .fad 2 (.t 2), none, true⟩,
    ⟨some 28, .iaa 3 1 (.t 27) (.t 26), none, true⟩,
    ⟨some 22, .load true 2 (.t 21), none, true⟩,
    ⟨some 25, .load true 3 (.t 24), none, true⟩,
    ⟨some 29, .load false 1 (.t 28), none, true⟩,
    ⟨some 30, .call 49 [.t 25, .t 29], none, true⟩,
    ⟨some 31, .call 50 [.t 22, .t 30], none, true⟩,
    ⟨some 32, .iaa 4 2 (.t 6) (.t 19), none, true⟩,
    ⟨none, .store 2 (.t 32) (.t 31), none, true⟩] (some [2, 4, 5, 6, 7]) []) (some [2, 4, 5, 6, 7]) [30, 31])) (
  .reg none [
    ⟨some 16, .mv (.t 7), none, true⟩,
    ⟨some 17, .bin .add (.t 16) (.c (.int .i64 1)), none, true⟩,
    ⟨some 7, .as (.t 17), none, true⟩] (some [2, 4, 5, 6, 7]) []))))
def A28_L0 : ACode := .loop A28_L0b (some [2, 4, 5, 6, 7]) [30, 31]
/-- ambidexter/ambidexterref07.Points -/
def A28 : AFn := .code [.cell true 8 4] (
(.seq (
.reg none [
  ⟨some 2, .box (.t 0), none, true⟩,
  ⟨some 3, .box (.t 1), none, true⟩,
  ⟨some 4, .alloc [.int .i64 0, .int .i64 0, .int .i64 0, .int .i64 0, .int .i64 0, .int .i64 0, .int .i64 0, .int .i64 0], none, true⟩] (some [2, 3, 4]) []) (
(.seq (
.reg none [
  ⟨some 8, .load true 12 (.t 2), none, true⟩,
  ⟨some 9, .load true 3 (.t 3), none, true⟩,
  ⟨some 10, .call 26 [.t 8, .t 9], none, true⟩,
  ⟨some 5, .alloc [.int .i64 0, .int .i64 0, .int .i64 0, .int .i64 0, .int .i64 0, .int .i64 0, .int .i64 0, .int .i64 0, .int .i64 0], none, true⟩,
  ⟨none, .store 9 (.t 5) (.t 10), none, true⟩] (some [2, 4, 5]) [3]) (
(.seq (
.reg none [
  ⟨some 11, .fad 0 (.t 2), none, true⟩,
  ⟨some 12, .load true 2 (.t 11), none, true⟩,
  ⟨some 13, .build [.int .i64 0, .int .i64 0, .int .i64 0, .int .i64 0, .int .i64 0, .int .i64 0, .int .i64 0, .int .i64 0] [(0, 2, .t 12)], none, true⟩,
  ⟨some 6, .alloc [.int .i64 0, .int .i64 0, .int .i64 0, .int .i64 0, .int .i64 0, .int .i64 0, .int .i64 0, .int .i64 0], none, true⟩,
  ⟨none, .store 8 (.t 6) (.t 13), none, true⟩] (some [2, 4, 5, 6]) []) (
(.seq (
(.seq (
.reg none [
  ⟨some 7, .as (.c (.int .i64 0)), none, true⟩] (some [2, 4, 5, 6, 7]) []) (
(.block 0 (
A28_L0) (some [4, 6]) [7, 30, 31])))) (
(.seq (
.reg none [
  ⟨some 33, .load true 8 (.t 6), none, true⟩,
  ⟨none, .store 8 (.t 4) (.t 33), none, true⟩] (some [4]) [6]) (
.ret)))))))))))
/-- ambidexter/ambidexterlaw07.far -/
def A29 : AFn := .code [.t 4] (
(.seq (
.reg none [
  ⟨some 2, .box (.t 0), none, true⟩,
  ⟨some 3, .box (.t 1), none, true⟩,
  ⟨some 4, .as (.c (.int .i64 0)), none, true⟩] (some [2, 3]) []) (
(.seq (
.reg (some [.dr [10, 14, 16] [], .dr [10, 14, 16] [], .dr [8, 14, 16] [], .dr [8, 14, 16] [], .dr [14, 16] [], .dr [14, 16] [], .dr [8, 10, 16] [], .dr [8, 10, 16] [], .dr [8, 10, 14] [], .dr [8, 10, 14] [], .dr [8, 10] [], .dr [8, 10] [], .dr [14, 16] [], .free]) [
  ⟨some 7, .fad 0 (.t 2), none, true⟩,
  ⟨some 8, .load false 1 (.t 7), none, true⟩,
  ⟨some 9, .fad 0 (.t 3), none, true⟩,
  ⟨some 10, .load false 1 (.t 9), none, true⟩,
  ⟨some 11, .bin .sub (.t 8) (.t 10), none, true⟩,
  ⟨some 12, .bin .quo (.t 11) (.c (.int .i64 16)), none, true⟩,
  ⟨some 13, .fad 1 (.t 2), none, true⟩,
  ⟨some 14, .load false 1 (.t 13), none, true⟩,
  ⟨some 15, .fad 1 (.t 3), none, true⟩,
  ⟨some 16, .load false 1 (.t 15), none, true⟩,
  ⟨some 17, .bin .sub (.t 14) (.t 16), none, true⟩,
  ⟨some 18, .bin .quo (.t 17) (.c (.int .i64 16)), none, true⟩,
  ⟨some 5, .as (.t 12), none, true⟩,
  ⟨some 6, .as (.t 18), none, true⟩] (some [5, 6]) [2, 3]) (
(.seq (
.reg none [
  ⟨some 19, .mv (.t 5), none, true⟩,
  ⟨some 20, .mv (.t 5), none, true⟩,
  ⟨some 21, .bin .mul (.t 19) (.t 20), none, true⟩,
  ⟨some 22, .mv (.t 6), none, true⟩,
  ⟨some 23, .mv (.t 6), none, true⟩,
  ⟨some 24, .bin .mul (.t 22) (.t 23), none, true⟩,
  ⟨some 25, .bin .add (.t 21) (.t 24), none, true⟩,
  ⟨some 4, .as (.t 25), none, true⟩] (some [4]) []) (
.ret)))))))
/-- ambidexter/ambidexterref03.May -/
def A30 : AFn := .code [.t 2] (
(.seq (
.reg none [
  ⟨some 1, .box (.t 0), none, true⟩,
  ⟨some 2, .as (.c (.bool false)), none, true⟩] (some [1]) []) (
(.seq (
.reg none [
  ⟨some 3, .as (.c (.int .i64 439400000)), none, true⟩] (some [1, 3]) []) (
(.seq (
.reg none [
  ⟨some 4, .fad 0 (.t 1), none, true⟩,
  ⟨some 5, .load false 1 (.t 4), none, true⟩,
  ⟨some 6, .mv (.t 3), none, true⟩,
  ⟨some 7, .un .neg (.t 6), none, true⟩,
  ⟨some 8, .bin .geq (.t 5) (.t 7), none, true⟩,
  ⟨some 9, .mv (.t 8), none, true⟩,
  ⟨some 10, .fad 0 (.t 1), some (9, true), true⟩,
  ⟨some 11, .load false 1 (.t 10), some (9, true), true⟩,
  ⟨some 12, .mv (.t 3), some (9, true), true⟩,
  ⟨some 13, .bin .leq (.t 11) (.t 12), some (9, true), true⟩,
  ⟨some 14, .pick (.t 9) (.t 13) (.c (.bool false)), none, true⟩,
  ⟨some 15, .mv (.t 14), none, true⟩,
  ⟨some 16, .fad 1 (.t 1), some (15, true), true⟩,
  ⟨some 17, .load false 1 (.t 16), some (15, true), true⟩,
  ⟨some 18, .mv (.t 3), some (15, true), true⟩,
  ⟨some 19, .un .neg (.t 18), some (15, true), true⟩,
  ⟨some 20, .bin .geq (.t 17) (.t 19), some (15, true), true⟩,
  ⟨some 21, .pick (.t 15) (.t 20) (.c (.bool false)), none, true⟩,
  ⟨some 22, .mv (.t 21), none, true⟩,
  ⟨some 23, .fad 1 (.t 1), some (22, true), true⟩,
  ⟨some 24, .load false 1 (.t 23), some (22, true), true⟩,
  ⟨some 25, .mv (.t 3), some (22, true), true⟩,
  ⟨some 26, .bin .leq (.t 24) (.t 25), some (22, true), true⟩,
  ⟨some 27, .pick (.t 22) (.t 26) (.c (.bool false)), none, true⟩,
  ⟨some 2, .as (.t 27), none, true⟩] (some [2]) [1]) (
.ret)))))))
/-- ambidexter/polygon.Valid -/
def A31 : AFn := .code [.t 2] (
(.seq (
.reg none [
  ⟨some 2, .as (.c (.bool false)), none, true⟩] (some [0]) []) (
(.seq (
(.seq (
.reg none [
  ⟨some 3, .mv (.t 0), none, true⟩,
  ⟨some 4, .len 0 (.t 3), none, true⟩,
  ⟨some 5, .bin .lss (.t 4) (.c (.int .i64 3)), none, true⟩,
  ⟨some 6, .mv (.t 5), none, true⟩,
  ⟨some 7, .mv (.t 0), some (6, false), true⟩,
  ⟨some 8, .len 0 (.t 7), some (6, false), true⟩,
  ⟨some 9, .bin .gtr (.t 8) (.c (.int .i64 12)), some (6, false), true⟩,
  ⟨some 10, .pick (.t 6) (.c (.bool true)) (.t 9), none, true⟩,
  ⟨some 11, .mv (.t 10), none, true⟩,
  ⟨some 12, .mv (.t 0), some (11, false), true⟩,
  ⟨some 13, .call 56 [.t 12, .fu 57], some (11, false), true⟩,
  ⟨some 14, .pick (.t 11) (.c (.bool true)) (.t 13), none, true⟩] (some [0, 14]) []) (
(.cond (.t 14) (
  (.seq (
  .reg none [
    ⟨some 2, .as (.c (.bool false)), none, true⟩] (some [2]) []) (
  .ret))) (
  .skip))))) (
(.seq (
.reg none [
  ⟨some 15, .mv (.t 0), none, true⟩,
  ⟨some 16, .call 59 [.t 15], none, true⟩,
  ⟨some 17, .mv (.t 16), none, true⟩,
  ⟨some 18, .mv (.t 0), some (17, true), true⟩,
  ⟨some 19, .call 32 [.t 18], some (17, true), true⟩,
  ⟨some 20, .bin .gtr (.t 19) (.c (.int .i64 0)), some (17, true), true⟩,
  ⟨some 21, .pick (.t 17) (.t 20) (.c (.bool false)), none, true⟩,
  ⟨some 2, .as (.t 21), none, true⟩] (some [2]) []) (
.ret)))))))
def A32_R0a : ACode := 
  .reg none [
    ⟨some 5, .alloc [.int .i64 0, .int .i64 0, .int .i64 0, .int .i64 0], none, true⟩,
    ⟨none, .store 4 (.t 5) (.t 9), none, true⟩] (some [3, 5]) []
def A32_R0b : ACode := 
  (.block 1 (
  .reg none [
    ⟨some 10, .load false 1 (.t 3), none, true⟩,
    ⟨some 11, .iaa 2 2 (.t 5) (.c (.int .i64 0)), none, true⟩,
    ⟨some 12, .fad 0 (.t 11), none, true⟩,
    ⟨some 13, .load false 1 (.t 12), none, true⟩,
    ⟨some 14, .iaa 2 2 (.t 5) (.c (.int .i64 1)), none, true⟩,
    ⟨some 15, .fad 1 (.t 14), none, true⟩,
    ⟨some 16, .load false 1 (.t 15), none, true⟩,
    ⟨some 17, .bin .mul (.t 13) (.t 16), none, true⟩,
    ⟨some 18, .iaa 2 2 (.t 5) (.c (.int .i64 0)), none, true⟩,
    ⟨some 19, .fad 1 (.t 18), none, true⟩,
    ⟨some 20, .load false 1 (.t 19), none, true⟩,
    ⟨some 21, .iaa 2 2 (.t 5) (.c (.int .i64 1)), none, true⟩,
    ⟨some 22, .fad 0 (.t 21), none, true⟩,
    ⟨some 23, .load false 1 (.t 22), none, true⟩,
    ⟨some 24, .bin .mul (.t 20) (.t 23), none, true⟩,
    ⟨some 25, .bin .sub (.t 17) (.t 24), none, true⟩,
    ⟨some 26, .bin .add (.t 10) (.t 25), none, true⟩,
    ⟨none, .store 1 (.t 3) (.t 26), none, true⟩] (some []) [3, 5]) (some []) [])
def A32_R0 : ACode := .rf 0 (.t 7) [8, 9]  A32_R0a A32_R0b
/-- ambidexter/polygon.DoubleArea -/
def A32 : AFn := .code [.t 2] (
(.seq (
.reg none [
  ⟨some 2, .as (.c (.int .i64 0)), none, true⟩] (some [0, 2]) []) (
(.seq (
.reg none [
  ⟨some 3, .alloc [.int .i64 0], none, true⟩,
  ⟨none, .store 1 (.t 3) (.c (.int .i64 0)), none, true⟩] (some [0, 2, 3]) []) (
(.seq (
(.seq (
.reg none [
  ⟨some 6, .mv (.t 0), none, true⟩,
  ⟨some 7, .call 60 [.t 6], none, true⟩] (some [2, 3, 7]) []) (
(.block 0 (
A32_R0) (some [3]) [5])))) (
(.seq (
.reg none [
  ⟨some 27, .load false 1 (.t 3), none, true⟩,
  ⟨some 2, .as (.t 27), none, true⟩] (some [2]) [3]) (
.ret)))))))))
def A33_R0a : ACode := 
  .reg none [
    ⟨some 7, .alloc [.int .i64 0, .int .i64 0, .int .i64 0, .int .i64 0], none, true⟩,
    ⟨none, .store 4 (.t 7) (.t 13), none, true⟩] (some [3, 4, 5, 7]) []
def A33_R0b : ACode := 
  (.block 1 (
  (.seq (
  .reg (some [.dr [17, 8, 9] [], .dr [17, 8, 9] [], .dr [15, 8, 9] [], .dr [15, 8, 9] [], .dr [15, 17, 9] [], .dr [15, 17, 8] [], .dr [17] [8], .free]) [
    ⟨some 14, .iaa 2 2 (.t 7) (.c (.int .i64 0)), none, true⟩,
    ⟨some 15, .load true 2 (.t 14), none, true⟩,
    ⟨some 16, .iaa 2 2 (.t 7) (.c (.int .i64 1)), none, true⟩,
    ⟨some 17, .load true 2 (.t 16), none, true⟩,
    ⟨some 8, .alloc [.int .i64 0, .int .i64 0], none, true⟩,
    ⟨some 9, .alloc [.int .i64 0, .int .i64 0], none, true⟩,
    ⟨none, .store 2 (.t 8) (.t 15), none, true⟩,
    ⟨none, .store 2 (.t 9) (.t 17), none, true⟩] (some [3, 4, 5, 8, 9]) [7]) (
  (.seq (
  (.seq (
  .reg none [
    ⟨some 18, .load true 2 (.t 8), none, true⟩,
    ⟨some 19, .load true 2 (.t 9), none, true⟩,
    ⟨some 20, .load true 2 (.t 3), none, true⟩,
    ⟨some 21, .call 61 [.t 18, .t 19, .t 20], none, true⟩] (some [3, 4, 5, 8, 9, 21]) []) (
  (.cond (.t 21) (
    (.seq (
    .reg none [
      ⟨none, .store 1 (.t 4) (.c (.int .i64 0)), none, true⟩] (some []) []) (
    .ret))) (
    .skip))))) (
  (.seq (
  (.seq (
  .reg none [
    ⟨some 22, .fad 1 (.t 8), none, true⟩,
    ⟨some 23, .load false 1 (.t 22), none, true⟩,
    ⟨some 24, .fad 1 (.t 3), none, true⟩,
    ⟨some 25, .load false 1 (.t 24), none, true⟩,
    ⟨some 26, .bin .gtr (.t 23) (.t 25), none, true⟩,
    ⟨some 27, .fad 1 (.t 9), none, true⟩,
    ⟨some 28, .load false 1 (.t 27), none, true⟩,
    ⟨some 29, .fad 1 (.t 3), none, true⟩,
    ⟨some 30, .load false 1 (.t 29), none, true⟩,
    ⟨some 31, .bin .gtr (.t 28) (.t 30), none, true⟩,
    ⟨some 32, .bib false (.t 26) (.t 31), none, true⟩] (some [3, 5, 8, 9, 32]) []) (
  (.cond (.t 32) (
    .exit 1) (
    .skip))))) (
  (.seq (
  .reg (some [.dr [34, 35, 39, 41] [], .dr [33, 35, 39, 41] [], .dr [33, 34, 39, 41] [], .dr [39, 41] [], .dr [39, 41] [], .dr [33, 34, 35, 36, 41] [], .dr [33, 34, 35, 36, 41] [], .dr [33, 34, 35, 36, 39] [], .dr [33, 34, 35, 36, 39] [], .dr [33, 34, 35, 36] [], .free]) [
    ⟨some 33, .load true 2 (.t 8), none, true⟩,
    ⟨some 34, .load true 2 (.t 9), none, true⟩,
    ⟨some 35, .load true 2 (.t 3), none, true⟩,
    ⟨some 36, .call 62 [.t 33, .t 34, .t 35], none, true⟩,
    ⟨some 37, .bin .gtr (.t 36) (.c (.int .i64 0)), none, true⟩,
    ⟨some 38, .fad 1 (.t 9), none, true⟩,
    ⟨some 39, .load false 1 (.t 38), none, true⟩,
    ⟨some 40, .fad 1 (.t 8), none, true⟩,
    ⟨some 41, .load false 1 (.t 40), none, true⟩,
    ⟨some 42, .bin .gtr (.t 39) (.t 41), none, true⟩,
    ⟨some 43, .bib false (.t 37) (.t 42), none, true⟩] (some [5, 43]) [3, 8, 9]) (
  (.cond (.t 43) (
    .reg none [
      ⟨some 44, .load false 1 (.t 5), none, true⟩,
      ⟨some 45, .un .not (.t 44), none, true⟩,
      ⟨none, .store 1 (.t 5) (.t 45), none, true⟩] (some []) [5]) (
    .skip))))))))))) (some []) [8, 9, 21, 36])
def A33_R0 : ACode := .rf 0 (.t 11) [12, 13]  A33_R0a A33_R0b
/-- ambidexter/polygon.Locate -/
def A33 : AFn := .code [.cell false 1 4] (
(.seq (
.reg none [
  ⟨some 3, .box (.t 1), none, true⟩,
  ⟨some 4, .alloc [.int .i64 0], none, true⟩] (some [0, 3, 4]) []) (
(.seq (
.reg none [
  ⟨some 5, .alloc [.bool false], none, true⟩,
  ⟨none, .store 1 (.t 5) (.c (.bool false)), none, true⟩] (some [0, 3, 4, 5]) []) (
(.seq (
(.seq (
.reg none [
  ⟨some 10, .mv (.t 0), none, true⟩,
  ⟨some 11, .call 60 [.t 10], none, true⟩] (some [3, 4, 5, 11]) []) (
(.block 0 (
A33_R0) (some [4, 5]) [7, 8, 9, 21, 36])))) (
(.seq (
(.seq (
.reg none [
  ⟨some 46, .load false 1 (.t 5), none, true⟩] (some [4, 46]) [5]) (
(.cond (.t 46) (
  (.seq (
  .reg none [
    ⟨none, .store 1 (.t 4) (.c (.int .i64 1)), none, true⟩] (some [4]) []) (
  .ret))) (
  .skip))))) (
(.seq (
.reg none [
  ⟨none, .store 1 (.t 4) (.c (.int .i64 (-1))), none, true⟩] (some [4]) []) (
.ret)))))))))))
/-- ambidexter/ambidexterlaw07.One -/
def A45 : AFn := .code [.cell true 12 0] (
(.seq (
.reg none [
  ⟨some 0, .alloc [.int .i64 0, .int .i64 0, .int .i64 0, .int .i64 0, .int .i64 0, .int .i64 0, .int .i64 0, .int .i64 0, .int .i64 0, .int .i64 0, .int .i64 0, .int .i64 0], none, true⟩] (some [0]) []) (
(.seq (
.reg none [
  ⟨some 1, .build [.int .i64 0, .int .i64 0, .int .i64 0] [(0, 1, .c (.int .i64 1)), (1, 1, .c (.int .i64 1)), (2, 1, .c (.int .i64 1))], none, true⟩,
  ⟨some 2, .build [.int .i64 0, .int .i64 0, .int .i64 0] [(0, 1, .c (.int .i64 (-17))), (1, 1, .c (.int .i64 (-17))), (2, 1, .c (.int .i64 (-17)))], none, true⟩,
  ⟨some 3, .build [.int .i64 0, .int .i64 0, .int .i64 0] [(0, 1, .c (.int .i64 18)), (1, 1, .c (.int .i64 18)), (2, 1, .c (.int .i64 18))], none, true⟩,
  ⟨some 4, .build [.int .i64 0, .int .i64 0, .int .i64 0, .int .i64 0, .int .i64 0, .int .i64 0, .int .i64 0, .int .i64 0, .int .i64 0, .int .i64 0, .int .i64 0, .int .i64 0] [(2, 3, .t 1), (5, 1, .c (.int .i64 1)), (6, 3, .t 2), (9, 3, .t 3)], none, true⟩,
  ⟨none, .store 12 (.t 0) (.t 4), none, true⟩] (some [0]) []) (
.ret)))))
/-- ambidexter/ambidexterref07.far -/
def A46 : AFn := .code [.t 2] (
(.seq (
.reg none [
  ⟨some 1, .box (.t 0), none, true⟩,
  ⟨some 2, .as (.c (.bool false)), none, true⟩] (some [1]) []) (
(.seq (
.reg none [
  ⟨some 3, .fad 0 (.t 1), none, true⟩,
  ⟨some 4, .fad 0 (.t 3), none, true⟩,
  ⟨some 5, .load false 1 (.t 4), none, true⟩,
  ⟨some 6, .bin .gtr (.t 5) (.c (.int .i64 1000000000)), none, true⟩,
  ⟨some 7, .mv (.t 6), none, true⟩,
  ⟨some 8, .fad 0 (.t 1), some (7, false), true⟩,
  ⟨some 9, .fad 0 (.t 8), some (7, false), true⟩,
  ⟨some 10, .load false 1 (.t 9), some (7, false), true⟩,
  ⟨some 11, .bin .lss (.t 10) (.c (.int .i64 (-1000000000))), some (7, false), true⟩,
  ⟨some 12, .pick (.t 7) (.c (.bool true)) (.t 11), none, true⟩,
  ⟨some 13, .mv (.t 12), none, true⟩,
  ⟨some 14, .fad 0 (.t 1), some (13, false), true⟩,
  ⟨some 15, .fad 1 (.t 14), some (13, false), true⟩,
  ⟨some 16, .load false 1 (.t 15), some (13, false), true⟩,
  ⟨some 17, .bin .gtr (.t 16) (.c (.int .i64 1000000000)), some (13, false), true⟩,
  ⟨some 18, .pick (.t 13) (.c (.bool true)) (.t 17), none, true⟩,
  ⟨some 19, .mv (.t 18), none, true⟩,
  ⟨some 20, .fad 0 (.t 1), some (19, false), true⟩,
  ⟨some 21, .fad 1 (.t 20), some (19, false), true⟩,
  ⟨some 22, .load false 1 (.t 21), some (19, false), true⟩,
  ⟨some 23, .bin .lss (.t 22) (.c (.int .i64 (-1000000000))), some (19, false), true⟩,
  ⟨some 24, .pick (.t 19) (.c (.bool true)) (.t 23), none, true⟩,
  ⟨some 2, .as (.t 24), none, true⟩] (some [2]) [1]) (
.ret)))))
/-- ambidexter/ambidexterref07.size -/
def A47 : AFn := .code [.t 2] (
(.seq (
.reg none [
  ⟨some 2, .as (.c (.int .i64 0)), none, true⟩] (some [0]) []) (
(.seq (
(.seq (
.reg none [
  ⟨some 3, .mv (.t 0), none, true⟩,
  ⟨some 4, .bin .lss (.t 3) (.c (.int .i64 0)), none, true⟩] (some [0, 4]) []) (
(.cond (.t 4) (
  (.seq (
  .reg none [
    ⟨some 5, .mv (.t 0), none, true⟩,
    ⟨some 6, .un .neg (.t 5), none, true⟩,
    ⟨some 2, .as (.t 6), none, true⟩] (some [2]) []) (
  .ret))) (
  .skip))))) (
(.seq (
.reg none [
  ⟨some 7, .mv (.t 0), none, true⟩,
  ⟨some 2, .as (.t 7), none, true⟩] (some [2]) []) (
.ret)))))))
/-- (ambidexter/arm.posed).link -/
def A48 : AFn := .code [.t 8] (
(.seq (
.reg none [
  ⟨some 4, .box (.t 0), none, true⟩,
  ⟨some 5, .box (.t 1), none, true⟩,
  ⟨some 6, .box (.t 2), none, true⟩,
  ⟨some 7, .box (.t 3), none, true⟩,
  ⟨some 8, .as (.c (.nils 2)), none, true⟩] (some [4, 5, 6, 7]) []) (
(.seq (
.reg none [
  ⟨some 10, .load true 3 (.t 5), none, true⟩,
  ⟨some 11, .fad 0 (.t 4), none, true⟩,
  ⟨some 12, .fad 5 (.t 11), none, true⟩,
  ⟨some 13, .load false 1 (.t 12), none, true⟩,
  ⟨some 14, .call 55 [.t 10, .t 13], none, true⟩,
  ⟨some 15, .call 64 [.t 14], none, true⟩,
  ⟨some 9, .alloc [.int .i64 0, .int .i64 0], none, true⟩,
  ⟨none, .store 2 (.t 9) (.t 15), none, true⟩] (some [6, 7, 9]) [4, 5]) (
(.seq (
.reg (some [.dr [17, 19, 20, 22, 23, 25, 26] [], .dr [16, 19, 20, 22, 23, 25, 26] [], .dr [19, 20, 22, 23, 25, 26] [], .dr [16, 17, 18, 20, 22, 23, 25, 26] [], .dr [16, 17, 18, 19, 22, 23, 25, 26] [], .dr [22, 23, 25, 26] [], .dr [16, 17, 18, 19, 20, 21, 23, 25, 26] [], .dr [16, 17, 18, 19, 20, 21, 22, 25, 26] [], .dr [25, 26] [], .dr [16, 17, 18, 19, 20, 21, 22, 23, 24, 26] [], .dr [16, 17, 18, 19, 20, 21, 22, 23, 24, 25] [], .free, .free, .free]) [
  ⟨some 16, .load true 2 (.t 6), none, true⟩,
  ⟨some 17, .load true 2 (.t 9), none, true⟩,
  ⟨some 18, .call 67 [.t 16, .t 17], none, true⟩,
  ⟨some 19, .load true 2 (.t 7), none, true⟩,
  ⟨some 20, .load true 2 (.t 9), none, true⟩,
  ⟨some 21, .call 67 [.t 19, .t 20], none, true⟩,
  ⟨some 22, .load true 2 (.t 7), none, true⟩,
  ⟨some 23, .load true 2 (.t 9), none, true⟩,
  ⟨some 24, .call 54 [.t 22, .t 23], none, true⟩,
  ⟨some 25, .load true 2 (.t 6), none, true⟩,
  ⟨some 26, .load true 2 (.t 9), none, true⟩,
  ⟨some 27, .call 54 [.t 25, .t 26], none, true⟩,
  ⟨some 28, .bsl 2 4 [.int .i64 0, .int .i64 0] [(0, .t 18), (1, .t 21), (2, .t 24), (3, .t 27)], none, true⟩,
  ⟨some 8, .as (.t 28), none, true⟩] (some [8]) [6, 7, 9]) (
.ret)))))))
/-- ambidexter/ambidexterref01.Fine -/
def A49 : AFn := .code [.cell true 2 4] (
(.seq (
.reg none [
  ⟨some 2, .box (.t 0), none, true⟩,
  ⟨some 4, .alloc [.int .i64 0, .int .i64 0], none, true⟩] (some [1, 2, 4]) []) (
(.seq (
.reg none [
  ⟨some 6, .fad 2 (.t 2), none, true⟩,
  ⟨some 7, .load false 1 (.t 6), none, true⟩,
  ⟨some 8, .call 81 [.t 7], none, true⟩,
  ⟨some 5, .as (.t 8), none, true⟩] (some [1, 2, 4, 5]) []) (
(.seq (
.reg (some [.dr [14, 21] [], .dr [14, 21] [], .dr [14, 21] [], .dr [14, 21] [], .dr [21] [], .dr [21] [], .dr [21] [], .dr [14, 21] [], .dr [14, 21] [], .dr [14, 21] [], .dr [14, 21] [], .dr [14] [], .dr [14] [], .dr [14] [], .free, .free]) [
  ⟨some 9, .mv (.t 1), none, true⟩,
  ⟨some 10, .mv (.t 5), none, true⟩,
  ⟨some 11, .bin .quo (.c (.int .i64 4394000)) (.t 10), none, true⟩,
  ⟨some 12, .bin .mul (.t 9) (.t 11), none, true⟩,
  ⟨some 13, .fad 0 (.t 2), none, true⟩,
  ⟨some 14, .load false 1 (.t 13), none, true⟩,
  ⟨some 15, .bin .mul (.t 12) (.t 14), none, true⟩,
  ⟨some 16, .mv (.t 1), none, true⟩,
  ⟨some 17, .mv (.t 5), none, true⟩,
  ⟨some 18, .bin .quo (.c (.int .i64 4394000)) (.t 17), none, true⟩,
  ⟨some 19, .bin .mul (.t 16) (.t 18), none, true⟩,
  ⟨some 20, .fad 1 (.t 2), none, true⟩,
  ⟨some 21, .load false 1 (.t 20), none, true⟩,
  ⟨some 22, .bin .mul (.t 19) (.t 21), none, true⟩,
  ⟨some 23, .build [.int .i64 0, .int .i64 0] [(0, 1, .t 15), (1, 1, .t 22)], none, true⟩,
  ⟨none, .store 2 (.t 4) (.t 23), none, true⟩] (some [4]) [2]) (
.ret)))))))
/-- ambidexter/ambidexterref07.plus -/
def A50 : AFn := .code [.cell true 2 4] (
(.seq (
.reg none [
  ⟨some 2, .box (.t 0), none, true⟩,
  ⟨some 3, .box (.t 1), none, true⟩,
  ⟨some 4, .alloc [.int .i64 0, .int .i64 0], none, true⟩] (some [2, 3, 4]) []) (
(.seq (
.reg none [
  ⟨some 5, .fad 0 (.t 2), none, true⟩,
  ⟨some 6, .load false 1 (.t 5), none, true⟩,
  ⟨some 7, .fad 0 (.t 3), none, true⟩,
  ⟨some 8, .load false 1 (.t 7), none, true⟩,
  ⟨some 9, .bin .add (.t 6) (.t 8), none, true⟩,
  ⟨some 10, .fad 1 (.t 2), none, true⟩,
  ⟨some 11, .load false 1 (.t 10), none, true⟩,
  ⟨some 12, .fad 1 (.t 3), none, true⟩,
  ⟨some 13, .load false 1 (.t 12), none, true⟩,
  ⟨some 14, .bin .add (.t 11) (.t 13), none, true⟩,
  ⟨some 15, .build [.int .i64 0, .int .i64 0] [(0, 1, .t 9), (1, 1, .t 14)], none, true⟩,
  ⟨none, .store 2 (.t 4) (.t 15), none, true⟩] (some [4]) [2, 3]) (
.ret)))))
/-- ambidexter/rotation.Compose -/
def A51 : AFn := .code [.cell true 3 4] (
(.seq (
.reg none [
  ⟨some 2, .box (.t 0), none, true⟩,
  ⟨some 4, .alloc [.int .i64 0, .int .i64 0, .int .i64 0], none, true⟩] (some [1, 2, 4]) []) (
(.seq (
(.seq (
.reg none [
  ⟨some 6, .load true 3 (.t 2), none, true⟩,
  ⟨some 7, .call 82 [.t 6], none, true⟩,
  ⟨some 8, .un .not (.t 7), none, true⟩,
  ⟨some 9, .mv (.t 8), none, true⟩,
  ⟨some 10, .fad 2 (.t 2), some (9, false), true⟩,
  ⟨some 11, .load false 1 (.t 10), some (9, false), true⟩,
  ⟨some 12, .bin .eql (.t 11) (.c (.int .i64 3)), some (9, false), true⟩,
  ⟨some 13, .pick (.t 9) (.c (.bool true)) (.t 12), none, true⟩] (some [1, 2, 4, 13]) []) (
(.cond (.t 13) (
  (.seq (
  .reg none [
    ⟨some 14, .build [.int .i64 0, .int .i64 0, .int .i64 0] [], none, true⟩,
    ⟨none, .store 3 (.t 4) (.t 14), none, true⟩] (some [4]) []) (
  .ret))) (
  .skip))))) (
(.seq (
.reg none [
  ⟨some 15, .fad 0 (.t 2), none, true⟩,
  ⟨some 16, .load false 1 (.t 15), none, true⟩,
  ⟨some 17, .fad 1 (.t 2), none, true⟩,
  ⟨some 18, .load false 1 (.t 17), none, true⟩,
  ⟨some 19, .build [.int .i64 0, .int .i64 0] [(0, 1, .t 16), (1, 1, .t 18)], none, true⟩,
  ⟨some 20, .mv (.t 1), none, true⟩,
  ⟨some 21, .call 83 [.t 19, .t 20], none, true⟩,
  ⟨some 5, .alloc [.int .i64 0, .int .i64 0], none, true⟩,
  ⟨none, .store 2 (.t 5) (.t 21), none, true⟩] (some [2, 4, 5]) []) (
(.seq (
.reg none [
  ⟨some 22, .fad 0 (.t 5), none, true⟩,
  ⟨some 23, .load false 1 (.t 22), none, true⟩,
  ⟨some 24, .fad 1 (.t 5), none, true⟩,
  ⟨some 25, .load false 1 (.t 24), none, true⟩,
  ⟨some 26, .fad 2 (.t 2), none, true⟩,
  ⟨some 27, .load false 1 (.t 26), none, true⟩,
  ⟨some 28, .bin .add (.t 27) (.c (.int .i64 1)), none, true⟩,
  ⟨some 29, .build [.int .i64 0, .int .i64 0, .int .i64 0] [(0, 1, .t 23), (1, 1, .t 25), (2, 1, .t 28)], none, true⟩,
  ⟨none, .store 3 (.t 4) (.t 29), none, true⟩] (some [4]) [2, 5]) (
.ret)))))))))
/-- ambidexter/ambidexterref01.Add -/
def A52 : AFn := .code [.cell true 3 4] (
(.seq (
.reg none [
  ⟨some 2, .box (.t 0), none, true⟩,
  ⟨some 4, .alloc [.int .i64 0, .int .i64 0, .int .i64 0], none, true⟩] (some [1, 2, 4]) []) (
(.seq (
(.seq (
.reg none [
  ⟨some 7, .load true 3 (.t 2), none, true⟩,
  ⟨some 8, .call 84 [.t 7], none, true⟩,
  ⟨some 9, .un .not (.t 8), none, true⟩,
  ⟨some 10, .mv (.t 9), none, true⟩,
  ⟨some 11, .fad 2 (.t 2), some (10, false), true⟩,
  ⟨some 12, .load false 1 (.t 11), some (10, false), true⟩,
  ⟨some 13, .bin .eql (.t 12) (.c (.int .i64 3)), some (10, false), true⟩,
  ⟨some 14, .pick (.t 10) (.c (.bool true)) (.t 13), none, true⟩] (some [1, 2, 4, 14]) []) (
(.cond (.t 14) (
  (.seq (
  .reg none [
    ⟨some 15, .build [.int .i64 0, .int .i64 0, .int .i64 0] [], none, true⟩,
    ⟨none, .store 3 (.t 4) (.t 15), none, true⟩] (some [4]) []) (
  .ret))) (
  .skip))))) (
(.seq (
.reg none [
  ⟨some 17, .mv (.t 1), none, true⟩,
  ⟨some 18, .call 85 [.t 17], none, true⟩,
  ⟨some 16, .mv (.t 18), none, true⟩,
  ⟨some 19, .ext (.t 16) 0, none, true⟩,
  ⟨some 20, .ext (.t 16) 1, none, true⟩,
  ⟨some 5, .as (.t 19), none, true⟩,
  ⟨some 6, .as (.t 20), none, true⟩] (some [2, 4, 5, 6]) []) (
(.seq (
.reg none [
  ⟨some 21, .fad 0 (.t 2), none, true⟩,
  ⟨some 22, .load false 1 (.t 21), none, true⟩,
  ⟨some 23, .mv (.t 5), none, true⟩,
  ⟨some 24, .bin .mul (.t 22) (.t 23), none, true⟩,
  ⟨some 25, .fad 1 (.t 2), none, true⟩,
  ⟨some 26, .load false 1 (.t 25), none, true⟩,
  ⟨some 27, .mv (.t 6), none, true⟩,
  ⟨some 28, .bin .mul (.t 26) (.t 27), none, true⟩,
  ⟨some 29, .bin .sub (.t 24) (.t 28), none, true⟩,
  ⟨some 30, .fad 0 (.t 2), none, true⟩,
  ⟨some 31, .load false 1 (.t 30), none, true⟩,
  ⟨some 32, .mv (.t 6), none, true⟩,
  ⟨some 33, .bin .mul (.t 31) (.t 32), none, true⟩,
  ⟨some 34, .fad 1 (.t 2), none, true⟩,
  ⟨some 35, .load false 1 (.t 34), none, true⟩,
  ⟨some 36, .mv (.t 5), none, true⟩,
  ⟨some 37, .bin .mul (.t 35) (.t 36), none, true⟩,
  ⟨some 38, .bin .add (.t 33) (.t 37), none, true⟩,
  ⟨some 39, .fad 2 (.t 2), none, true⟩,
  ⟨some 40, .load false 1 (.t 39), none, true⟩,
  ⟨some 41, .bin .add (.t 40) (.c (.int .i64 1)), none, true⟩,
  ⟨some 42, .build [.int .i64 0, .int .i64 0, .int .i64 0] [(0, 1, .t 29), (1, 1, .t 38), (2, 1, .t 41)], none, true⟩,
  ⟨none, .store 3 (.t 4) (.t 42), none, true⟩] (some [4]) [2]) (
.ret)))))))))
/-- ambidexter/arm.JointPoints$1 -/
def A53 : AFn := .code [.cell true 2 3] (
(.seq (
.reg none [
  ⟨some 2, .box (.t 0), none, true⟩,
  ⟨some 3, .alloc [.int .i64 0, .int .i64 0], none, true⟩] (some [1, 2, 3]) []) (
(.seq (
.reg none [
  ⟨some 4, .load true 2 (.t 1), none, true⟩,
  ⟨some 5, .load true 2 (.t 2), none, true⟩,
  ⟨some 6, .call 54 [.t 4, .t 5], none, true⟩,
  ⟨none, .store 2 (.t 1) (.t 6), none, true⟩] (some [1, 3]) [2]) (
(.seq (
.reg none [
  ⟨some 7, .load true 2 (.t 1), none, true⟩,
  ⟨none, .store 2 (.t 3) (.t 7), none, true⟩] (some [3]) []) (
.ret)))))))
/-- ambidexter/geom.Add -/
def A54 : AFn := .code [.cell true 2 4] (
(.seq (
.reg none [
  ⟨some 2, .box (.t 0), none, true⟩,
  ⟨some 3, .box (.t 1), none, true⟩,
  ⟨some 4, .alloc [.int .i64 0, .int .i64 0], none, true⟩] (some [2, 3, 4]) []) (
(.seq (
.reg none [
  ⟨some 5, .fad 0 (.t 2), none, true⟩,
  ⟨some 6, .load false 1 (.t 5), none, true⟩,
  ⟨some 7, .fad 0 (.t 3), none, true⟩,
  ⟨some 8, .load false 1 (.t 7), none, true⟩,
  ⟨some 9, .bin .add (.t 6) (.t 8), none, true⟩,
  ⟨some 10, .fad 1 (.t 2), none, true⟩,
  ⟨some 11, .load false 1 (.t 10), none, true⟩,
  ⟨some 12, .fad 1 (.t 3), none, true⟩,
  ⟨some 13, .load false 1 (.t 12), none, true⟩,
  ⟨some 14, .bin .add (.t 11) (.t 13), none, true⟩,
  ⟨some 15, .build [.int .i64 0, .int .i64 0] [(0, 1, .t 9), (1, 1, .t 14)], none, true⟩,
  ⟨none, .store 2 (.t 4) (.t 15), none, true⟩] (some [4]) [2, 3]) (
.ret)))))
/-- ambidexter/rotation.Offset -/
def A55 : AFn := .code [.cell true 2 4] (
(.seq (
.reg none [
  ⟨some 2, .box (.t 0), none, true⟩,
  ⟨some 4, .alloc [.int .i64 0, .int .i64 0], none, true⟩] (some [1, 2, 4]) []) (
(.seq (
.reg none [
  ⟨some 6, .mv (.t 1), none, true⟩,
  ⟨some 7, .fad 2 (.t 2), none, true⟩,
  ⟨some 8, .load false 1 (.t 7), none, true⟩,
  ⟨some 9, .call 86 [.t 8], none, true⟩,
  ⟨some 10, .bin .quo (.c (.int .i64 4394000)) (.t 9), none, true⟩,
  ⟨some 11, .bin .mul (.t 6) (.t 10), none, true⟩,
  ⟨some 5, .as (.t 11), none, true⟩] (some [2, 4, 5]) []) (
(.seq (
.reg none [
  ⟨some 12, .mv (.t 5), none, true⟩,
  ⟨some 13, .fad 0 (.t 2), none, true⟩,
  ⟨some 14, .load false 1 (.t 13), none, true⟩,
  ⟨some 15, .bin .mul (.t 12) (.t 14), none, true⟩,
  ⟨some 16, .mv (.t 5), none, true⟩,
  ⟨some 17, .fad 1 (.t 2), none, true⟩,
  ⟨some 18, .load false 1 (.t 17), none, true⟩,
  ⟨some 19, .bin .mul (.t 16) (.t 18), none, true⟩,
  ⟨some 20, .build [.int .i64 0, .int .i64 0] [(0, 1, .t 15), (1, 1, .t 19)], none, true⟩,
  ⟨none, .store 2 (.t 4) (.t 20), none, true⟩] (some [4]) [2]) (
.ret)))))))
/-- slices.ContainsFunc[ambidexter/api.Polygon,ambidexter/api.Point] -/
def A56 : AFn := .code [.t 4] (
(.seq (
.reg none [
  ⟨some 4, .as (.c (.bool false)), none, true⟩] (some [0, 1]) []) (
(.seq (
.reg none [
  ⟨some 5, .mv (.t 0), none, true⟩,
  ⟨some 6, .mv (.t 1), none, true⟩,
  ⟨some 7, .call 87 [.t 5, .t 6], none, true⟩,
  ⟨some 8, .bin .geq (.t 7) (.c (.int .i64 0)), none, true⟩,
  ⟨some 4, .as (.t 8), none, true⟩] (some [4]) []) (
.ret)))))
/-- ambidexter/polygon.Valid$1 -/
def A57 : AFn := .code [.t 2] (
(.seq (
.reg none [
  ⟨some 1, .box (.t 0), none, true⟩,
  ⟨some 2, .as (.c (.bool false)), none, true⟩] (some [1]) []) (
(.seq (
.reg none [
  ⟨some 3, .load true 2 (.t 1), none, true⟩,
  ⟨some 4, .call 58 [.t 3], none, true⟩,
  ⟨some 5, .un .not (.t 4), none, true⟩,
  ⟨some 2, .as (.t 5), none, true⟩] (some [2]) [1]) (
.ret)))))
/-- ambidexter/polygon.may -/
def A58 : AFn := .code [.t 2] (
(.seq (
.reg none [
  ⟨some 1, .box (.t 0), none, true⟩,
  ⟨some 2, .as (.c (.bool false)), none, true⟩] (some [1]) []) (
(.seq (
.reg none [
  ⟨some 3, .fad 0 (.t 1), none, true⟩,
  ⟨some 4, .load false 1 (.t 3), none, true⟩,
  ⟨some 5, .fad 1 (.t 1), none, true⟩,
  ⟨some 6, .load false 1 (.t 5), none, true⟩,
  ⟨some 7, .mx [.t 4, .t 6], none, true⟩,
  ⟨some 8, .bin .leq (.t 7) (.c (.int .i64 439400000)), none, true⟩,
  ⟨some 9, .mv (.t 8), none, true⟩,
  ⟨some 10, .fad 0 (.t 1), some (9, true), true⟩,
  ⟨some 11, .load false 1 (.t 10), some (9, true), true⟩,
  ⟨some 12, .fad 1 (.t 1), some (9, true), true⟩,
  ⟨some 13, .load false 1 (.t 12), some (9, true), true⟩,
  ⟨some 14, .mn [.t 11, .t 13], some (9, true), true⟩,
  ⟨some 15, .bin .geq (.t 14) (.c (.int .i64 (-439400000))), some (9, true), true⟩,
  ⟨some 16, .pick (.t 9) (.t 15) (.c (.bool false)), none, true⟩,
  ⟨some 2, .as (.t 16), none, true⟩] (some [2]) [1]) (
.ret)))))
def A59_R0a : ACode := 
    (.seq (
    .reg none [
      ⟨some 6, .as (.t 29), none, true⟩] (some [2, 3, 4, 5, 6, 30]) []) (
    .reg none [
      ⟨some 7, .alloc [.int .i64 0, .int .i64 0, .int .i64 0, .int .i64 0], none, true⟩,
      ⟨none, .store 4 (.t 7) (.t 30), none, true⟩] (some [2, 3, 4, 5, 6, 7]) []))
def A59_R0b : ACode := 
    (.block 3 (
    (.seq (
    (.seq (
    .reg (some [.dr [32] [], .dr [] [], .free, .free, .dr [36, 38] [], .dr [38] [], .dr [38] [], .dr [36] [], .dr [] [], .free, .free, .free, .dr [46] [], .dr [43, 46] [], .dr [43, 46] [], .dr [43] [], .dr [43] [], .free, .free]) [
      ⟨some 31, .mv (.t 6), none, true⟩,
      ⟨some 32, .load false 1 (.t 4), none, true⟩,
      ⟨some 33, .bin .eql (.t 31) (.t 32), none, true⟩,
      ⟨some 34, .mv (.t 33), none, true⟩,
      ⟨some 35, .mv (.t 6), some (34, false), true⟩,
      ⟨some 36, .load false 1 (.t 4), some (34, false), true⟩,
      ⟨some 37, .bin .add (.t 36) (.c (.int .i64 1)), some (34, false), true⟩,
      ⟨some 38, .load false 1 (.t 3), some (34, false), true⟩,
      ⟨some 39, .bin .rem (.t 37) (.t 38), some (34, false), true⟩,
      ⟨some 40, .bin .eql (.t 35) (.t 39), some (34, false), true⟩,
      ⟨some 41, .pick (.t 34) (.c (.bool true)) (.t 40), none, true⟩,
      ⟨some 42, .mv (.t 41), none, true⟩,
      ⟨some 43, .load false 1 (.t 4), some (42, false), true⟩,
      ⟨some 44, .mv (.t 6), some (42, false), true⟩,
      ⟨some 45, .bin .add (.t 44) (.c (.int .i64 1)), some (42, false), true⟩,
      ⟨some 46, .load false 1 (.t 3), some (42, false), true⟩,
      ⟨some 47, .bin .rem (.t 45) (.t 46), some (42, false), true⟩,
      ⟨some 48, .bin .eql (.t 43) (.t 47), some (42, false), true⟩,
      ⟨some 49, .pick (.t 42) (.c (.bool true)) (.t 48), none, true⟩] (some [2, 5, 7, 49]) [3, 4]) (
    (.cond (.t 49) (
      .exit 3) (
      .skip))))) (
    (.seq (
    .reg none [
      ⟨some 50, .iaa 2 2 (.t 5) (.c (.int .i64 0)), none, true⟩,
      ⟨some 51, .load true 2 (.t 50), none, true⟩,
      ⟨some 52, .iaa 2 2 (.t 5) (.c (.int .i64 1)), none, true⟩,
      ⟨some 53, .load true 2 (.t 52), none, true⟩,
      ⟨some 54, .iaa 2 2 (.t 7) (.c (.int .i64 0)), none, true⟩,
      ⟨some 55, .load true 2 (.t 54), none, true⟩,
      ⟨some 56, .iaa 2 2 (.t 7) (.c (.int .i64 1)), none, true⟩,
      ⟨some 57, .load true 2 (.t 56), none, true⟩,
      ⟨some 58, .call 88 [.t 51, .t 53, .t 55, .t 57], none, true⟩] (some [2, 58]) [5, 7]) (
    (.cond (.t 58) (
      (.seq (
      .reg none [
        ⟨none, .store 1 (.t 2) (.c (.bool false)), none, true⟩] (some []) []) (
      .ret))) (
      .skip))))))) (some []) [58])
def A59_R0 : ACode := .rf 1 (.t 28) [29, 30]  A59_R0a A59_R0b
def A59_R1a : ACode := 
  (.seq (
  .reg none [
    ⟨some 4, .alloc [.int .i64 0], none, true⟩,
    ⟨none, .store 1 (.t 4) (.t 12), none, true⟩] (some [1, 2, 3, 4, 13]) []) (
  .reg none [
    ⟨some 5, .alloc [.int .i64 0, .int .i64 0, .int .i64 0, .int .i64 0], none, true⟩,
    ⟨none, .store 4 (.t 5) (.t 13), none, true⟩] (some [1, 2, 3, 4, 5]) []))
def A59_R1b : ACode := 
  (.block 1 (
  (.seq (
  (.seq (
  .reg (some [.dr [17, 18, 19, 21, 23, 24] [], .dr [17, 18, 19, 21, 23, 24] [], .dr [15, 18, 19, 21, 23, 24] [], .dr [15, 18, 19, 21, 23, 24] [], .dr [15, 17, 19, 21] [], .dr [15, 17, 18, 21] [], .dr [15, 17, 18, 21] [], .dr [15, 17, 18, 19] [], .dr [15, 17, 18] [], .dr [15, 17] [], .dr [15, 17] [], .free, .free]) [
    ⟨some 14, .iaa 2 2 (.t 5) (.c (.int .i64 0)), none, true⟩,
    ⟨some 15, .load true 2 (.t 14), none, true⟩,
    ⟨some 16, .iaa 2 2 (.t 5) (.c (.int .i64 1)), none, true⟩,
    ⟨some 17, .load true 2 (.t 16), none, true⟩,
    ⟨some 18, .load false 1 (.t 1), none, true⟩,
    ⟨some 19, .load false 1 (.t 4), none, true⟩,
    ⟨some 20, .bin .add (.t 19) (.c (.int .i64 2)), none, true⟩,
    ⟨some 21, .load false 1 (.t 3), none, true⟩,
    ⟨some 22, .bin .rem (.t 20) (.t 21), none, true⟩,
    ⟨some 23, .ias 2 (.t 18) (.t 22), none, true⟩,
    ⟨some 24, .load true 2 (.t 23), none, true⟩,
    ⟨some 25, .call 62 [.t 15, .t 17, .t 24], none, true⟩,
    ⟨some 26, .bin .eql (.t 25) (.c (.int .i64 0)), none, true⟩] (some [1, 2, 3, 4, 5, 26]) []) (
  (.cond (.t 26) (
    (.seq (
    .reg none [
      ⟨none, .store 1 (.t 2) (.c (.bool false)), none, true⟩] (some []) []) (
    .ret))) (
    .skip))))) (
  (.seq (
  .reg none [
    ⟨some 27, .load false 1 (.t 1), none, true⟩,
    ⟨some 28, .call 60 [.t 27], none, true⟩] (some [2, 3, 4, 5, 28]) [1]) (
  (.block 2 (
  A59_R0) (some []) [6, 7, 58])))))) (some []) [6, 7, 25, 28, 58])
def A59_R1 : ACode := .rf 0 (.t 11) [12, 13]  A59_R1a A59_R1b
/-- ambidexter/polygon.simple -/
def A59 : AFn := .code [.cell false 1 2] (
(.seq (
.reg none [
  ⟨some 1, .box (.t 0), none, true⟩,
  ⟨some 2, .alloc [.bool false], none, true⟩] (some [1, 2]) []) (
(.seq (
.reg none [
  ⟨some 8, .load false 1 (.t 1), none, true⟩,
  ⟨some 9, .len 0 (.t 8), none, true⟩,
  ⟨some 3, .alloc [.int .i64 0], none, true⟩,
  ⟨none, .store 1 (.t 3) (.t 9), none, true⟩] (some [1, 2, 3]) []) (
(.seq (
(.seq (
.reg none [
  ⟨some 10, .load false 1 (.t 1), none, true⟩,
  ⟨some 11, .call 60 [.t 10], none, true⟩] (some [1, 2, 3, 11]) []) (
(.block 0 (
A59_R1) (some [2]) [4, 5, 6, 7, 25, 28, 58])))) (
(.seq (
.reg none [
  ⟨none, .store 1 (.t 2) (.c (.bool true)), none, true⟩] (some [2]) []) (
.ret)))))))))
/-- ambidexter/polygon.edges -/
def A60 : AFn := .code [.t 2] (
(.seq (
.reg none [
  ⟨some 1, .box (.t 0), none, true⟩,
  ⟨some 2, .as (.c (.nilf)), none, true⟩] (some [1]) []) (
(.seq (
.reg none [
  ⟨some 3, .mkf (.func 89) [] [.t 1], none, true⟩,
  ⟨some 2, .as (.t 3), none, true⟩] (some [2]) []) (
.ret)))))
/-- ambidexter/geom.OnSegment -/
def A61 : AFn := .code [.t 6] (
(.seq (
.reg none [
  ⟨some 3, .box (.t 0), none, true⟩,
  ⟨some 4, .box (.t 1), none, true⟩,
  ⟨some 5, .box (.t 2), none, true⟩,
  ⟨some 6, .as (.c (.bool false)), none, true⟩] (some [3, 4, 5]) []) (
(.seq (
.reg none [
  ⟨some 7, .load true 2 (.t 3), none, true⟩,
  ⟨some 8, .load true 2 (.t 4), none, true⟩,
  ⟨some 9, .load true 2 (.t 5), none, true⟩,
  ⟨some 10, .call 90 [.t 7, .t 8, .t 9], none, true⟩,
  ⟨some 11, .mv (.t 10), none, true⟩,
  ⟨some 12, .load true 2 (.t 3), some (11, true), true⟩,
  ⟨some 13, .load true 2 (.t 4), some (11, true), true⟩,
  ⟨some 14, .load true 2 (.t 5), some (11, true), true⟩,
  ⟨some 15, .call 62 [.t 12, .t 13, .t 14], some (11, true), true⟩,
  ⟨some 16, .bin .eql (.t 15) (.c (.int .i64 0)), some (11, true), true⟩,
  ⟨some 17, .pick (.t 11) (.t 16) (.c (.bool false)), none, true⟩,
  ⟨some 6, .as (.t 17), none, true⟩] (some [6]) [3, 4, 5]) (
.ret)))))
/-- ambidexter/geom.Orientation -/
def A62 : AFn := .code [.t 6] (
(.seq (
.reg none [
  ⟨some 3, .box (.t 0), none, true⟩,
  ⟨some 4, .box (.t 1), none, true⟩,
  ⟨some 5, .box (.t 2), none, true⟩,
  ⟨some 6, .as (.c (.int .i64 0)), none, true⟩] (some [3, 4, 5]) []) (
(.seq (
.reg (some [.dr [11, 13, 14, 7, 8] [], .dr [10, 13, 14, 7, 8] [], .dr [13, 14, 7, 8] [], .dr [10, 11, 12, 14, 7, 8] [], .dr [10, 11, 12, 13, 7, 8] [], .dr [7, 8] [], .dr [10, 11, 12, 13, 14, 15, 8] [], .dr [10, 11, 12, 13, 14, 15, 7] [], .free, .free]) [
  ⟨some 10, .load true 2 (.t 4), none, true⟩,
  ⟨some 11, .load true 2 (.t 3), none, true⟩,
  ⟨some 12, .call 67 [.t 10, .t 11], none, true⟩,
  ⟨some 13, .load true 2 (.t 5), none, true⟩,
  ⟨some 14, .load true 2 (.t 3), none, true⟩,
  ⟨some 15, .call 67 [.t 13, .t 14], none, true⟩,
  ⟨some 7, .alloc [.int .i64 0, .int .i64 0], none, true⟩,
  ⟨some 8, .alloc [.int .i64 0, .int .i64 0], none, true⟩,
  ⟨none, .store 2 (.t 7) (.t 12), none, true⟩,
  ⟨none, .store 2 (.t 8) (.t 15), none, true⟩] (some [7, 8]) [3, 4, 5]) (
(.seq (
(.seq (
.reg none [
  ⟨some 16, .fad 0 (.t 7), none, true⟩,
  ⟨some 17, .load false 1 (.t 16), none, true⟩,
  ⟨some 18, .fad 1 (.t 8), none, true⟩,
  ⟨some 19, .load false 1 (.t 18), none, true⟩,
  ⟨some 20, .bin .mul (.t 17) (.t 19), none, true⟩,
  ⟨some 21, .fad 1 (.t 7), none, true⟩,
  ⟨some 22, .load false 1 (.t 21), none, true⟩,
  ⟨some 23, .fad 0 (.t 8), none, true⟩,
  ⟨some 24, .load false 1 (.t 23), none, true⟩,
  ⟨some 25, .bin .mul (.t 22) (.t 24), none, true⟩,
  ⟨some 26, .bin .sub (.t 20) (.t 25), none, true⟩,
  ⟨some 9, .as (.t 26), none, true⟩] (some [9]) [7, 8]) (
(.block 0 (
(.seq (
.reg none [
  ⟨some 28, .mv (.t 9), none, true⟩,
  ⟨some 29, .bin .gtr (.t 28) (.c (.int .i64 0)), none, true⟩,
  ⟨some 27, .as (.t 29), none, true⟩] (some [9, 27]) []) (
(.cond (.t 27) (
  (.seq (
  .reg none [
    ⟨some 6, .as (.c (.int .i64 1)), none, true⟩] (some [6]) []) (
  .ret))) (
  (.seq (
  .reg none [
    ⟨some 31, .mv (.t 9), none, true⟩,
    ⟨some 32, .bin .lss (.t 31) (.c (.int .i64 0)), none, true⟩,
    ⟨some 30, .as (.t 32), none, true⟩] (some [30]) []) (
  (.cond (.t 30) (
    (.seq (
    .reg none [
      ⟨some 6, .as (.c (.int .i64 (-1))), none, true⟩] (some [6]) []) (
    .ret))) (
    .skip))))))))) (some []) [6, 27, 30])))) (
(.seq (
.reg none [
  ⟨some 6, .as (.c (.int .i64 0)), none, true⟩] (some [6]) []) (
.ret)))))))))
/-- ambidexter/rotation.RotateQuarter -/
def A64 : AFn := .code [.cell true 2 2] (
(.seq (
.reg none [
  ⟨some 1, .box (.t 0), none, true⟩,
  ⟨some 2, .alloc [.int .i64 0, .int .i64 0], none, true⟩] (some [1, 2]) []) (
(.seq (
.reg none [
  ⟨some 4, .fad 0 (.t 1), none, true⟩,
  ⟨some 5, .load false 1 (.t 4), none, true⟩,
  ⟨some 6, .fad 1 (.t 1), none, true⟩,
  ⟨some 7, .load false 1 (.t 6), none, true⟩,
  ⟨some 8, .build [.int .i64 0, .int .i64 0] [(0, 1, .t 5), (1, 1, .t 7)], none, true⟩,
  ⟨some 9, .call 91 [.t 8], none, true⟩,
  ⟨some 3, .alloc [.int .i64 0, .int .i64 0], none, true⟩,
  ⟨none, .store 2 (.t 3) (.t 9), none, true⟩] (some [2, 3]) [1]) (
(.seq (
.reg none [
  ⟨some 10, .fad 0 (.t 3), none, true⟩,
  ⟨some 11, .load false 1 (.t 10), none, true⟩,
  ⟨some 12, .fad 1 (.t 3), none, true⟩,
  ⟨some 13, .load false 1 (.t 12), none, true⟩,
  ⟨some 14, .build [.int .i64 0, .int .i64 0] [(0, 1, .t 11), (1, 1, .t 13)], none, true⟩,
  ⟨none, .store 2 (.t 2) (.t 14), none, true⟩] (some [2]) [3]) (
.ret)))))))
/-- ambidexter/geom.Sub -/
def A67 : AFn := .code [.cell true 2 4] (
(.seq (
.reg none [
  ⟨some 2, .box (.t 0), none, true⟩,
  ⟨some 3, .box (.t 1), none, true⟩,
  ⟨some 4, .alloc [.int .i64 0, .int .i64 0], none, true⟩] (some [2, 3, 4]) []) (
(.seq (
.reg none [
  ⟨some 5, .fad 0 (.t 2), none, true⟩,
  ⟨some 6, .load false 1 (.t 5), none, true⟩,
  ⟨some 7, .fad 0 (.t 3), none, true⟩,
  ⟨some 8, .load false 1 (.t 7), none, true⟩,
  ⟨some 9, .bin .sub (.t 6) (.t 8), none, true⟩,
  ⟨some 10, .fad 1 (.t 2), none, true⟩,
  ⟨some 11, .load false 1 (.t 10), none, true⟩,
  ⟨some 12, .fad 1 (.t 3), none, true⟩,
  ⟨some 13, .load false 1 (.t 12), none, true⟩,
  ⟨some 14, .bin .sub (.t 11) (.t 13), none, true⟩,
  ⟨some 15, .build [.int .i64 0, .int .i64 0] [(0, 1, .t 9), (1, 1, .t 14)], none, true⟩,
  ⟨none, .store 2 (.t 4) (.t 15), none, true⟩] (some [4]) [2, 3]) (
.ret)))))
def A81_L0b : ACode := 
  (.seq (
  (.seq (
  .reg none [
    ⟨some 5, .mv (.t 4), none, true⟩,
    ⟨some 6, .mv (.t 0), none, true⟩,
    ⟨some 7, .bin .lss (.t 5) (.t 6), none, true⟩] (some [0, 3, 4, 7]) []) (
  (.cond (.t 7) (
    .skip) (
    .exit 0))))) (
  (.seq (
  (.block 1 (
  .reg none [
    ⟨some 10, .mv (.t 3), none, true⟩,
    ⟨some 11, .bin .mul (.c (.int .i64 65)) (.t 10), none, true⟩,
    ⟨some 3, .as (.t 11), none, true⟩] (some [0, 3, 4]) []) (some [0, 3, 4]) [])) (
  .reg none [
    ⟨some 8, .mv (.t 4), none, true⟩,
    ⟨some 9, .bin .add (.t 8) (.c (.int .i64 1)), none, true⟩,
    ⟨some 4, .as (.t 9), none, true⟩] (some [0, 3, 4]) []))))
def A81_L0 : ACode := .loop A81_L0b (some [0, 3, 4]) []
/-- ambidexter/ambidexterref01.Pow -/
def A81 : AFn := .code [.t 2] (
(.seq (
.reg none [
  ⟨some 2, .as (.c (.int .i64 0)), none, true⟩] (some [0]) []) (
(.seq (
.reg none [
  ⟨some 3, .as (.c (.int .i64 1)), none, true⟩] (some [0, 3]) []) (
(.seq (
(.seq (
.reg none [
  ⟨some 4, .as (.c (.int .i64 0)), none, true⟩] (some [0, 3, 4]) []) (
(.block 0 (
A81_L0) (some [3]) [4])))) (
(.seq (
.reg none [
  ⟨some 12, .mv (.t 3), none, true⟩,
  ⟨some 2, .as (.t 12), none, true⟩] (some [2]) []) (
.ret)))))))))
/-- ambidexter/rotation.ValidDirection -/
def A82 : AFn := .code [.t 2] (
(.seq (
.reg none [
  ⟨some 1, .box (.t 0), none, true⟩,
  ⟨some 2, .as (.c (.bool false)), none, true⟩] (some [1]) []) (
(.seq (
(.seq (
.reg none [
  ⟨some 6, .fad 2 (.t 1), none, true⟩,
  ⟨some 7, .load false 1 (.t 6), none, true⟩,
  ⟨some 8, .bin .lss (.t 7) (.c (.int .i64 0)), none, true⟩,
  ⟨some 9, .mv (.t 8), none, true⟩,
  ⟨some 10, .fad 2 (.t 1), some (9, false), true⟩,
  ⟨some 11, .load false 1 (.t 10), some (9, false), true⟩,
  ⟨some 12, .bin .gtr (.t 11) (.c (.int .i64 3)), some (9, false), true⟩,
  ⟨some 13, .pick (.t 9) (.c (.bool true)) (.t 12), none, true⟩] (some [1, 13]) []) (
(.cond (.t 13) (
  (.seq (
  .reg none [
    ⟨some 2, .as (.c (.bool false)), none, true⟩] (some [2]) []) (
  .ret))) (
  .skip))))) (
(.seq (
.reg none [
  ⟨some 14, .fad 2 (.t 1), none, true⟩,
  ⟨some 15, .load false 1 (.t 14), none, true⟩,
  ⟨some 16, .mkf (.func 86) [.t 15] [], none, true⟩,
  ⟨some 3, .as (.t 16), none, true⟩] (some [1, 3]) []) (
(.seq (
.reg none [
  ⟨some 17, .mv (.t 3), none, true⟩,
  ⟨some 18, .cal (.t 17) [], none, true⟩,
  ⟨some 4, .alloc [.int .i64 0], none, true⟩,
  ⟨none, .store 1 (.t 4) (.t 18), none, true⟩] (some [1, 4]) []) (
(.seq (
.reg none [
  ⟨some 19, .mkf (.func 108) [] [.t 4], none, true⟩,
  ⟨some 5, .as (.t 19), none, true⟩] (some [1, 4, 5]) []) (
(.seq (
.reg none [
  ⟨some 20, .mv (.t 5), none, true⟩,
  ⟨some 21, .fad 0 (.t 1), none, true⟩,
  ⟨some 22, .load false 1 (.t 21), none, true⟩,
  ⟨some 23, .cal (.t 20) [.t 22], none, true⟩,
  ⟨some 24, .mv (.t 23), none, true⟩,
  ⟨some 25, .mv (.t 5), some (24, true), true⟩,
  ⟨some 26, .fad 1 (.t 1), some (24, true), true⟩,
  ⟨some 27, .load false 1 (.t 26), some (24, true), true⟩,
  ⟨some 28, .cal (.t 25) [.t 27], some (24, true), true⟩,
  ⟨some 29, .pick (.t 24) (.t 28) (.c (.bool false)), none, true⟩,
  ⟨some 30, .mv (.t 29), none, true⟩,
  ⟨some 31, .fad 0 (.t 1), some (30, true), true⟩,
  ⟨some 32, .load false 1 (.t 31), some (30, true), true⟩,
  ⟨some 33, .fad 0 (.t 1), some (30, true), true⟩,
  ⟨some 34, .load false 1 (.t 33), some (30, true), true⟩,
  ⟨some 35, .bin .mul (.t 32) (.t 34), some (30, true), true⟩,
  ⟨some 36, .fad 1 (.t 1), some (30, true), true⟩,
  ⟨some 37, .load false 1 (.t 36), some (30, true), true⟩,
  ⟨some 38, .fad 1 (.t 1), some (30, true), true⟩,
  ⟨some 39, .load false 1 (.t 38), some (30, true), true⟩,
  ⟨some 40, .bin .mul (.t 37) (.t 39), some (30, true), true⟩,
  ⟨some 41, .bin .add (.t 35) (.t 40), some (30, true), true⟩,
  ⟨some 42, .load false 1 (.t 4), some (30, true), true⟩,
  ⟨some 43, .load false 1 (.t 4), some (30, true), true⟩,
  ⟨some 44, .bin .mul (.t 42) (.t 43), some (30, true), true⟩,
  ⟨some 45, .bin .eql (.t 41) (.t 44), some (30, true), true⟩,
  ⟨some 46, .pick (.t 30) (.t 45) (.c (.bool false)), none, true⟩,
  ⟨some 2, .as (.t 46), none, true⟩] (some [2]) [1]) (
.ret)))))))))))))
/-- (ambidexter/rotation.vector).by -/
def A83 : AFn := .code [.cell true 2 4] (
(.seq (
.reg none [
  ⟨some 2, .box (.t 0), none, true⟩,
  ⟨some 4, .alloc [.int .i64 0, .int .i64 0], none, true⟩] (some [1, 2, 4]) []) (
(.seq (
.reg none [
  ⟨some 8, .mv (.t 1), none, true⟩,
  ⟨some 9, .call 109 [.t 8], none, true⟩,
  ⟨some 7, .mv (.t 9), none, true⟩,
  ⟨some 10, .ext (.t 7) 0, none, true⟩,
  ⟨some 11, .ext (.t 7) 1, none, true⟩,
  ⟨some 5, .as (.t 10), none, true⟩,
  ⟨some 6, .as (.t 11), none, true⟩] (some [2, 4, 5, 6]) []) (
(.seq (
.reg none [
  ⟨some 12, .fad 0 (.t 2), none, true⟩,
  ⟨some 13, .load false 1 (.t 12), none, true⟩,
  ⟨some 14, .mv (.t 5), none, true⟩,
  ⟨some 15, .bin .mul (.t 13) (.t 14), none, true⟩,
  ⟨some 16, .fad 1 (.t 2), none, true⟩,
  ⟨some 17, .load false 1 (.t 16), none, true⟩,
  ⟨some 18, .mv (.t 6), none, true⟩,
  ⟨some 19, .bin .mul (.t 17) (.t 18), none, true⟩,
  ⟨some 20, .bin .sub (.t 15) (.t 19), none, true⟩,
  ⟨some 21, .fad 0 (.t 2), none, true⟩,
  ⟨some 22, .load false 1 (.t 21), none, true⟩,
  ⟨some 23, .mv (.t 6), none, true⟩,
  ⟨some 24, .bin .mul (.t 22) (.t 23), none, true⟩,
  ⟨some 25, .fad 1 (.t 2), none, true⟩,
  ⟨some 26, .load false 1 (.t 25), none, true⟩,
  ⟨some 27, .mv (.t 5), none, true⟩,
  ⟨some 28, .bin .mul (.t 26) (.t 27), none, true⟩,
  ⟨some 29, .bin .add (.t 24) (.t 28), none, true⟩,
  ⟨some 30, .build [.int .i64 0, .int .i64 0] [(0, 1, .t 20), (1, 1, .t 29)], none, true⟩,
  ⟨none, .store 2 (.t 4) (.t 30), none, true⟩] (some [4]) [2]) (
.ret)))))))
/-- ambidexter/ambidexterref01.Right -/
def A84 : AFn := .code [.t 2] (
(.seq (
.reg none [
  ⟨some 1, .box (.t 0), none, true⟩,
  ⟨some 2, .as (.c (.bool false)), none, true⟩] (some [1]) []) (
(.seq (
(.seq (
.reg none [
  ⟨some 4, .fad 2 (.t 1), none, true⟩,
  ⟨some 5, .load false 1 (.t 4), none, true⟩,
  ⟨some 6, .bin .lss (.t 5) (.c (.int .i64 0)), none, true⟩,
  ⟨some 7, .mv (.t 6), none, true⟩,
  ⟨some 8, .fad 2 (.t 1), some (7, false), true⟩,
  ⟨some 9, .load false 1 (.t 8), some (7, false), true⟩,
  ⟨some 10, .bin .gtr (.t 9) (.c (.int .i64 3)), some (7, false), true⟩,
  ⟨some 11, .pick (.t 7) (.c (.bool true)) (.t 10), none, true⟩] (some [1, 11]) []) (
(.cond (.t 11) (
  (.seq (
  .reg none [
    ⟨some 2, .as (.c (.bool false)), none, true⟩] (some [2]) []) (
  .ret))) (
  .skip))))) (
(.seq (
.reg none [
  ⟨some 12, .fad 2 (.t 1), none, true⟩,
  ⟨some 13, .load false 1 (.t 12), none, true⟩,
  ⟨some 14, .call 81 [.t 13], none, true⟩,
  ⟨some 3, .as (.t 14), none, true⟩] (some [1, 3]) []) (
(.seq (
.reg none [
  ⟨some 15, .fad 0 (.t 1), none, true⟩,
  ⟨some 16, .load false 1 (.t 15), none, true⟩,
  ⟨some 17, .mv (.t 3), none, true⟩,
  ⟨some 18, .un .neg (.t 17), none, true⟩,
  ⟨some 19, .bin .geq (.t 16) (.t 18), none, true⟩,
  ⟨some 20, .mv (.t 19), none, true⟩,
  ⟨some 21, .fad 0 (.t 1), some (20, true), true⟩,
  ⟨some 22, .load false 1 (.t 21), some (20, true), true⟩,
  ⟨some 23, .mv (.t 3), some (20, true), true⟩,
  ⟨some 24, .bin .leq (.t 22) (.t 23), some (20, true), true⟩,
  ⟨some 25, .pick (.t 20) (.t 24) (.c (.bool false)), none, true⟩,
  ⟨some 26, .mv (.t 25), none, true⟩,
  ⟨some 27, .fad 1 (.t 1), some (26, true), true⟩,
  ⟨some 28, .load false 1 (.t 27), some (26, true), true⟩,
  ⟨some 29, .mv (.t 3), some (26, true), true⟩,
  ⟨some 30, .un .neg (.t 29), some (26, true), true⟩,
  ⟨some 31, .bin .geq (.t 28) (.t 30), some (26, true), true⟩,
  ⟨some 32, .pick (.t 26) (.t 31) (.c (.bool false)), none, true⟩,
  ⟨some 33, .mv (.t 32), none, true⟩,
  ⟨some 34, .fad 1 (.t 1), some (33, true), true⟩,
  ⟨some 35, .load false 1 (.t 34), some (33, true), true⟩,
  ⟨some 36, .mv (.t 3), some (33, true), true⟩,
  ⟨some 37, .bin .leq (.t 35) (.t 36), some (33, true), true⟩,
  ⟨some 38, .pick (.t 33) (.t 37) (.c (.bool false)), none, true⟩,
  ⟨some 39, .mv (.t 38), none, true⟩,
  ⟨some 40, .fad 0 (.t 1), some (39, true), true⟩,
  ⟨some 41, .load false 1 (.t 40), some (39, true), true⟩,
  ⟨some 42, .fad 0 (.t 1), some (39, true), true⟩,
  ⟨some 43, .load false 1 (.t 42), some (39, true), true⟩,
  ⟨some 44, .bin .mul (.t 41) (.t 43), some (39, true), true⟩,
  ⟨some 45, .fad 1 (.t 1), some (39, true), true⟩,
  ⟨some 46, .load false 1 (.t 45), some (39, true), true⟩,
  ⟨some 47, .fad 1 (.t 1), some (39, true), true⟩,
  ⟨some 48, .load false 1 (.t 47), some (39, true), true⟩,
  ⟨some 49, .bin .mul (.t 46) (.t 48), some (39, true), true⟩,
  ⟨some 50, .bin .add (.t 44) (.t 49), some (39, true), true⟩,
  ⟨some 51, .mv (.t 3), some (39, true), true⟩,
  ⟨some 52, .mv (.t 3), some (39, true), true⟩,
  ⟨some 53, .bin .mul (.t 51) (.t 52), some (39, true), true⟩,
  ⟨some 54, .bin .eql (.t 50) (.t 53), some (39, true), true⟩,
  ⟨some 55, .pick (.t 39) (.t 54) (.c (.bool false)), none, true⟩,
  ⟨some 2, .as (.t 55), none, true⟩] (some [2]) [1]) (
.ret)))))))))
def A85_L0b : ACode := 
  (.seq (
  (.seq (
  .reg none [
    ⟨some 24, .mv (.t 9), none, true⟩,
    ⟨some 25, .mv (.t 6), none, true⟩,
    ⟨some 26, .bin .quo (.t 25) (.c (.int .i64 9)), none, true⟩,
    ⟨some 27, .bin .lss (.t 24) (.t 26), none, true⟩] (some [6, 7, 8, 9, 27]) []) (
  (.cond (.t 27) (
    .skip) (
    .exit 0))))) (
  (.seq (
  (.block 1 (
  .reg none [
    ⟨some 30, .mv (.t 8), none, true⟩,
    ⟨some 31, .un .neg (.t 30), none, true⟩,
    ⟨some 32, .mv (.t 7), none, true⟩,
    ⟨some 7, .as (.t 31), none, true⟩,
    ⟨some 8, .as (.t 32), none, true⟩] (some [6, 7, 8, 9]) []) (some [6, 7, 8, 9]) [])) (
  .reg none [
    ⟨some 28, .mv (.t 9), none, true⟩,
    ⟨some 29, .bin .add (.t 28) (.c (.int .i64 1)), none, true⟩,
    ⟨some 9, .as (.t 29), none, true⟩] (some [6, 7, 8, 9]) []))))
def A85_L0 : ACode := .loop A85_L0b (some [6, 7, 8, 9]) []
/-- ambidexter/ambidexterref01.Of -/
def A85 : AFn := .code [.t 2, .t 3] (
(.seq (
.reg none [
  ⟨some 2, .as (.c (.int .i64 0)), none, true⟩,
  ⟨some 3, .as (.c (.int .i64 0)), none, true⟩] (some [0]) []) (
(.seq (
.reg none [
  ⟨some 10, .bsl 1 9 [.int .i64 0] [(0, .c (.int .i64 65)), (1, .c (.int .i64 63)), (2, .c (.int .i64 60)), (3, .c (.int .i64 56)), (4, .c (.int .i64 52)), (5, .c (.int .i64 39)), (6, .c (.int .i64 33)), (7, .c (.int .i64 25)), (8, .c (.int .i64 16))], none, true⟩,
  ⟨some 4, .as (.t 10), none, true⟩] (some [0, 4]) []) (
(.seq (
.reg none [
  ⟨some 11, .bsl 1 9 [.int .i64 0] [(0, .c (.int .i64 0)), (1, .c (.int .i64 16)), (2, .c (.int .i64 25)), (3, .c (.int .i64 33)), (4, .c (.int .i64 39)), (5, .c (.int .i64 52)), (6, .c (.int .i64 56)), (7, .c (.int .i64 60)), (8, .c (.int .i64 63))], none, true⟩,
  ⟨some 5, .as (.t 11), none, true⟩] (some [0, 4, 5]) []) (
(.seq (
.reg none [
  ⟨some 12, .mv (.t 0), none, true⟩,
  ⟨some 13, .call 110 [.t 12], none, true⟩,
  ⟨some 6, .as (.t 13), none, true⟩] (some [4, 5, 6]) []) (
(.seq (
.reg none [
  ⟨some 14, .mv (.t 4), none, true⟩,
  ⟨some 15, .mv (.t 6), none, true⟩,
  ⟨some 16, .bin .rem (.t 15) (.c (.int .i64 9)), none, true⟩,
  ⟨some 17, .ias 1 (.t 14) (.t 16), none, true⟩,
  ⟨some 18, .load false 1 (.t 17), none, true⟩,
  ⟨some 7, .as (.t 18), none, true⟩] (some [5, 6, 7]) []) (
(.seq (
.reg none [
  ⟨some 19, .mv (.t 5), none, true⟩,
  ⟨some 20, .mv (.t 6), none, true⟩,
  ⟨some 21, .bin .rem (.t 20) (.c (.int .i64 9)), none, true⟩,
  ⟨some 22, .ias 1 (.t 19) (.t 21), none, true⟩,
  ⟨some 23, .load false 1 (.t 22), none, true⟩,
  ⟨some 8, .as (.t 23), none, true⟩] (some [6, 7, 8]) []) (
(.seq (
(.seq (
.reg none [
  ⟨some 9, .as (.c (.int .i64 0)), none, true⟩] (some [6, 7, 8, 9]) []) (
(.block 0 (
A85_L0) (some [7, 8]) [9])))) (
(.seq (
.reg none [
  ⟨some 33, .mv (.t 7), none, true⟩,
  ⟨some 34, .mv (.t 8), none, true⟩,
  ⟨some 2, .as (.t 33), none, true⟩,
  ⟨some 3, .as (.t 34), none, true⟩] (some [2, 3]) []) (
.ret)))))))))))))))))
def A86_L0b : ACode := 
  (.seq (
  .reg none [
    ⟨some 6, .bin .lss (.t 5) (.t 4), none, true⟩] (some [3, 4, 5, 6]) []) (
  (.seq (
  (.cond (.t 6) (
    .skip) (
    .exit 0))) (
  (.seq (
  (.block 1 (
  .reg none [
    ⟨some 7, .mv (.t 3), none, true⟩,
    ⟨some 8, .bin .mul (.t 7) (.c (.int .i64 65)), none, true⟩,
    ⟨some 3, .as (.t 8), none, true⟩] (some [3, 4, 5]) []) (some [3, 4, 5]) [])) (
  .reg none [
    ⟨some 9, .bin .add (.t 5) (.c (.int .i64 1)), none, true⟩,
    ⟨some 5, .mv (.t 9), none, true⟩] (some [3, 4, 5]) []))))))
def A86_L0 : ACode := .loop A86_L0b (some [3, 4, 5]) []
/-- (ambidexter/rotation.power).of -/
def A86 : AFn := .code [.t 2] (
(.seq (
.reg none [
  ⟨some 2, .as (.c (.int .i64 0)), none, true⟩] (some [0]) []) (
(.seq (
.reg none [
  ⟨some 3, .as (.c (.int .i64 1)), none, true⟩] (some [0, 3]) []) (
(.seq (
(.seq (
.reg none [
  ⟨some 4, .mv (.t 0), none, true⟩,
  ⟨some 5, .mv (.c (.int .i64 0)), none, true⟩] (some [3, 4, 5]) []) (
(.block 0 (
A86_L0) (some [3]) [])))) (
(.seq (
.reg none [
  ⟨some 10, .mv (.t 3), none, true⟩,
  ⟨some 2, .as (.t 10), none, true⟩] (some [2]) []) (
.ret)))))))))
def A87_L0b : ACode := 
  (.seq (
  .reg none [
    ⟨some 9, .bin .lss (.t 8) (.t 7), none, true⟩] (some [0, 1, 7, 8, 9]) []) (
  (.seq (
  (.cond (.t 9) (
    .skip) (
    .exit 0))) (
  (.seq (
  (.block 1 (
  (.seq (
  .reg none [
    ⟨some 10, .mv (.t 8), none, true⟩,
    ⟨some 5, .as (.t 10), none, true⟩] (some [0, 1, 5, 7, 8]) []) (
  (.seq (
  .reg none [
    ⟨some 11, .mv (.t 1), none, true⟩,
    ⟨some 12, .mv (.t 0), none, true⟩,
    ⟨some 13, .mv (.t 5), none, true⟩,
    ⟨some 14, .ias 2 (.t 12) (.t 13), none, true⟩,
    ⟨some 15, .load true 2 (.t 14), none, true⟩,
    ⟨some 16, .cal (.t 11) [.t 15], none, true⟩] (some [0, 1, 5, 7, 8, 16]) []) (
  (.cond (.t 16) (
    (.seq (
    .reg none [
      ⟨some 17, .mv (.t 5), none, true⟩,
      ⟨some 4, .as (.t 17), none, true⟩] (some [4]) []) (
    .ret))) (
    .skip))))))) (some [0, 1, 7, 8]) [4, 5, 16])) (
  .reg none [
    ⟨some 18, .bin .add (.t 8) (.c (.int .i64 1)), none, true⟩,
    ⟨some 8, .mv (.t 18), none, true⟩] (some [0, 1, 7, 8]) []))))))
def A87_L0 : ACode := .loop A87_L0b (some [0, 1, 7, 8]) [4, 5, 16]
/-- slices.IndexFunc[ambidexter/api.Polygon,ambidexter/api.Point] -/
def A87 : AFn := .code [.t 4] (
(.seq (
.reg none [
  ⟨some 4, .as (.c (.int .i64 0)), none, true⟩] (some [0, 1]) []) (
(.seq (
(.seq (
.reg none [
  ⟨some 6, .mv (.t 0), none, true⟩,
  ⟨some 7, .len 0 (.t 6), none, true⟩,
  ⟨some 8, .mv (.c (.int .i64 0)), none, true⟩] (some [0, 1, 7, 8]) []) (
(.block 0 (
A87_L0) (some []) [4, 5, 16])))) (
(.seq (
.reg none [
  ⟨some 4, .as (.c (.int .i64 (-1))), none, true⟩] (some [4]) []) (
.ret)))))))
/-- ambidexter/geom.SegmentsIntersect -/
def A88 : AFn := .code [.t 8] (
(.seq (
.reg none [
  ⟨some 4, .box (.t 0), none, true⟩,
  ⟨some 5, .box (.t 1), none, true⟩,
  ⟨some 6, .box (.t 2), none, true⟩,
  ⟨some 7, .box (.t 3), none, true⟩,
  ⟨some 8, .as (.c (.bool false)), none, true⟩] (some [4, 5, 6, 7]) []) (
(.seq (
.reg none [
  ⟨some 9, .as (.fu 111), none, true⟩] (some [4, 5, 6, 7, 9]) []) (
(.seq (
.reg none [
  ⟨some 15, .mv (.t 9), none, true⟩,
  ⟨some 16, .load true 2 (.t 4), none, true⟩,
  ⟨some 17, .load true 2 (.t 5), none, true⟩,
  ⟨some 18, .load true 2 (.t 6), none, true⟩,
  ⟨some 19, .load true 2 (.t 7), none, true⟩,
  ⟨some 20, .cal (.t 15) [.t 16, .t 17, .t 18, .t 19], none, true⟩,
  ⟨some 14, .mv (.t 20), none, true⟩,
  ⟨some 21, .ext (.t 14) 0, none, true⟩,
  ⟨some 22, .ext (.t 14) 1, none, true⟩,
  ⟨some 10, .as (.t 21), none, true⟩,
  ⟨some 11, .as (.t 22), none, true⟩] (some [4, 5, 6, 7, 9, 10, 11]) []) (
(.seq (
.reg none [
  ⟨some 24, .mv (.t 9), none, true⟩,
  ⟨some 25, .load true 2 (.t 6), none, true⟩,
  ⟨some 26, .load true 2 (.t 7), none, true⟩,
  ⟨some 27, .load true 2 (.t 4), none, true⟩,
  ⟨some 28, .load true 2 (.t 5), none, true⟩,
  ⟨some 29, .cal (.t 24) [.t 25, .t 26, .t 27, .t 28], none, true⟩,
  ⟨some 23, .mv (.t 29), none, true⟩,
  ⟨some 30, .ext (.t 23) 0, none, true⟩,
  ⟨some 31, .ext (.t 23) 1, none, true⟩,
  ⟨some 12, .as (.t 30), none, true⟩,
  ⟨some 13, .as (.t 31), none, true⟩] (some [10, 11, 12, 13]) [4, 5, 6, 7]) (
(.seq (
.reg none [
  ⟨some 32, .mv (.t 10), none, true⟩,
  ⟨some 33, .mv (.t 32), none, true⟩,
  ⟨some 34, .mv (.t 12), some (33, true), true⟩,
  ⟨some 35, .pick (.t 33) (.t 34) (.c (.bool false)), none, true⟩,
  ⟨some 36, .mv (.t 35), none, true⟩,
  ⟨some 37, .mv (.t 11), some (36, false), true⟩,
  ⟨some 38, .pick (.t 36) (.c (.bool true)) (.t 37), none, true⟩,
  ⟨some 39, .mv (.t 38), none, true⟩,
  ⟨some 40, .mv (.t 13), some (39, false), true⟩,
  ⟨some 41, .pick (.t 39) (.c (.bool true)) (.t 40), none, true⟩,
  ⟨some 8, .as (.t 41), none, true⟩] (some [8]) []) (
.ret)))))))))))
def A89_L0b : ACode := 
  (.seq (
  .reg none [
    ⟨some 8, .bin .lss (.t 7) (.t 6), none, true⟩] (some [0, 1, 5, 6, 7, 8]) []) (
  (.seq (
  (.cond (.t 8) (
    .skip) (
    .exit 0))) (
  (.seq (
  (.block 1 (
  (.seq (
  .reg none [
    ⟨some 9, .mv (.t 7), none, true⟩,
    ⟨some 10, .ias 2 (.t 5) (.t 7), none, true⟩,
    ⟨some 11, .load true 2 (.t 10), none, true⟩,
    ⟨some 4, .alloc [.int .i64 0, .int .i64 0], none, true⟩,
    ⟨some 3, .as (.t 9), none, true⟩,
    ⟨none, .store 2 (.t 4) (.t 11), none, true⟩] (some [0, 1, 3, 4, 5, 6, 7]) []) (
  (.seq (
  .reg (some [.dr [14, 15, 18, 19, 21, 22] [], .dr [14, 15, 18, 19, 21, 22] [], .dr [15, 18, 19, 21, 22] [], .dr [14, 18, 19] [], .dr [14, 15, 18, 19] [], .dr [14, 15, 18, 19] [], .dr [14, 15] [], .dr [14, 15] [], .dr [14, 15] [], .dr [14] [], .dr [14] [], .dr [] [], .free, .free]) [
    ⟨some 12, .mv (.t 0), none, true⟩,
    ⟨some 13, .mv (.t 3), none, true⟩,
    ⟨some 14, .load true 2 (.t 4), none, true⟩,
    ⟨some 15, .load false 1 (.t 1), none, true⟩,
    ⟨some 16, .mv (.t 3), none, true⟩,
    ⟨some 17, .bin .add (.t 16) (.c (.int .i64 1)), none, true⟩,
    ⟨some 18, .load false 1 (.t 1), none, true⟩,
    ⟨some 19, .len 0 (.t 18), none, true⟩,
    ⟨some 20, .bin .rem (.t 17) (.t 19), none, true⟩,
    ⟨some 21, .ias 2 (.t 15) (.t 20), none, true⟩,
    ⟨some 22, .load true 2 (.t 21), none, true⟩,
    ⟨some 23, .build [.int .i64 0, .int .i64 0, .int .i64 0, .int .i64 0] [(0, 2, .t 14), (2, 2, .t 22)], none, true⟩,
    ⟨some 24, .cal (.t 12) [.t 13, .t 23], none, true⟩,
    ⟨some 25, .un .not (.t 24), none, true⟩] (some [0, 1, 5, 6, 7, 25]) [4]) (
  (.cond (.t 25) (
    .ret) (
    .skip))))))) (some [0, 1, 5, 6, 7]) [3, 4, 24])) (
  .reg none [
    ⟨some 26, .bin .add (.t 7) (.c (.int .i64 1)), none, true⟩,
    ⟨some 7, .mv (.t 26), none, true⟩] (some [0, 1, 5, 6, 7]) []))))))
def A89_L0 : ACode := .loop A89_L0b (some [0, 1, 5, 6, 7]) [3, 4, 24]
/-- ambidexter/polygon.edges$1 -/
def A89 : AFn := .code [] (
(.seq (
.reg none [
  ⟨some 5, .load false 1 (.t 1), none, true⟩,
  ⟨some 6, .len 0 (.t 5), none, true⟩,
  ⟨some 7, .mv (.c (.int .i64 0)), none, true⟩] (some [0, 1, 5, 6, 7]) []) (
(.block 0 (
A89_L0) (some []) [3, 4, 24]))))
/-- ambidexter/geom.within -/
def A90 : AFn := .code [.t 6] (
(.seq (
.reg none [
  ⟨some 3, .box (.t 0), none, true⟩,
  ⟨some 4, .box (.t 1), none, true⟩,
  ⟨some 5, .box (.t 2), none, true⟩,
  ⟨some 6, .as (.c (.bool false)), none, true⟩] (some [3, 4, 5]) []) (
(.seq (
.reg none [
  ⟨some 10, .load true 2 (.t 3), none, true⟩,
  ⟨some 11, .load true 2 (.t 4), none, true⟩,
  ⟨some 12, .bsl 2 2 [.int .i64 0, .int .i64 0] [(0, .t 10), (1, .t 11)], none, true⟩,
  ⟨some 13, .call 107 [.t 12], none, true⟩,
  ⟨some 9, .mv (.t 13), none, true⟩,
  ⟨some 14, .ext (.t 9) 0, none, true⟩,
  ⟨some 15, .ext (.t 9) 1, none, true⟩,
  ⟨some 7, .alloc [.int .i64 0, .int .i64 0], none, true⟩,
  ⟨some 8, .alloc [.int .i64 0, .int .i64 0], none, true⟩,
  ⟨none, .store 2 (.t 7) (.t 14), none, true⟩,
  ⟨none, .store 2 (.t 8) (.t 15), none, true⟩] (some [5, 7, 8]) [3, 4]) (
(.seq (
.reg none [
  ⟨some 16, .fad 0 (.t 5), none, true⟩,
  ⟨some 17, .load false 1 (.t 16), none, true⟩,
  ⟨some 18, .fad 0 (.t 7), none, true⟩,
  ⟨some 19, .load false 1 (.t 18), none, true⟩,
  ⟨some 20, .bin .geq (.t 17) (.t 19), none, true⟩,
  ⟨some 21, .mv (.t 20), none, true⟩,
  ⟨some 22, .fad 0 (.t 5), some (21, true), true⟩,
  ⟨some 23, .load false 1 (.t 22), some (21, true), true⟩,
  ⟨some 24, .fad 0 (.t 8), some (21, true), true⟩,
  ⟨some 25, .load false 1 (.t 24), some (21, true), true⟩,
  ⟨some 26, .bin .leq (.t 23) (.t 25), some (21, true), true⟩,
  ⟨some 27, .pick (.t 21) (.t 26) (.c (.bool false)), none, true⟩,
  ⟨some 28, .mv (.t 27), none, true⟩,
  ⟨some 29, .fad 1 (.t 5), some (28, true), true⟩,
  ⟨some 30, .load false 1 (.t 29), some (28, true), true⟩,
  ⟨some 31, .fad 1 (.t 7), some (28, true), true⟩,
  ⟨some 32, .load false 1 (.t 31), some (28, true), true⟩,
  ⟨some 33, .bin .geq (.t 30) (.t 32), some (28, true), true⟩,
  ⟨some 34, .pick (.t 28) (.t 33) (.c (.bool false)), none, true⟩,
  ⟨some 35, .mv (.t 34), none, true⟩,
  ⟨some 36, .fad 1 (.t 5), some (35, true), true⟩,
  ⟨some 37, .load false 1 (.t 36), some (35, true), true⟩,
  ⟨some 38, .fad 1 (.t 8), some (35, true), true⟩,
  ⟨some 39, .load false 1 (.t 38), some (35, true), true⟩,
  ⟨some 40, .bin .leq (.t 37) (.t 39), some (35, true), true⟩,
  ⟨some 41, .pick (.t 35) (.t 40) (.c (.bool false)), none, true⟩,
  ⟨some 6, .as (.t 41), none, true⟩] (some [6]) [5, 7, 8]) (
.ret)))))))
/-- (ambidexter/rotation.vector).left -/
def A91 : AFn := .code [.cell true 2 2] (
(.seq (
.reg none [
  ⟨some 1, .box (.t 0), none, true⟩,
  ⟨some 2, .alloc [.int .i64 0, .int .i64 0], none, true⟩] (some [1, 2]) []) (
(.seq (
.reg none [
  ⟨some 3, .fad 1 (.t 1), none, true⟩,
  ⟨some 4, .load false 1 (.t 3), none, true⟩,
  ⟨some 5, .un .neg (.t 4), none, true⟩,
  ⟨some 6, .fad 0 (.t 1), none, true⟩,
  ⟨some 7, .load false 1 (.t 6), none, true⟩,
  ⟨some 8, .build [.int .i64 0, .int .i64 0] [(0, 1, .t 5), (1, 1, .t 7)], none, true⟩,
  ⟨none, .store 2 (.t 2) (.t 8), none, true⟩] (some [2]) [1]) (
.ret)))))
/-- ambidexter/geom.BoundingBox -/
def A107 : AFn := .code [.cell true 2 2, .cell true 2 3] (
(.seq (
.reg none [
  ⟨some 2, .alloc [.int .i64 0, .int .i64 0], none, true⟩,
  ⟨some 3, .alloc [.int .i64 0, .int .i64 0], none, true⟩] (some [0, 2, 3]) []) (
(.seq (
(.seq (
.reg none [
  ⟨some 6, .mv (.t 0), none, true⟩,
  ⟨some 7, .len 0 (.t 6), none, true⟩,
  ⟨some 8, .bin .eql (.t 7) (.c (.int .i64 0)), none, true⟩] (some [0, 2, 3, 8]) []) (
(.cond (.t 8) (
  (.seq (
  .reg none [
    ⟨some 9, .build [.int .i64 0, .int .i64 0] [], none, true⟩,
    ⟨some 10, .build [.int .i64 0, .int .i64 0] [], none, true⟩,
    ⟨none, .store 2 (.t 2) (.t 9), none, true⟩,
    ⟨none, .store 2 (.t 3) (.t 10), none, true⟩] (some [2, 3]) []) (
  .ret))) (
  .skip))))) (
(.seq (
.reg none [
  ⟨some 11, .mv (.t 0), none, true⟩,
  ⟨some 12, .mv (.t 0), none, true⟩,
  ⟨some 13, .ias 2 (.t 12) (.c (.int .i64 0)), none, true⟩,
  ⟨some 14, .load true 2 (.t 13), none, true⟩,
  ⟨some 15, .call 117 [.t 11, .t 14, .fu 118], none, true⟩,
  ⟨some 4, .alloc [.int .i64 0, .int .i64 0], none, true⟩,
  ⟨none, .store 2 (.t 4) (.t 15), none, true⟩] (some [0, 2, 3, 4]) []) (
(.seq (
.reg none [
  ⟨some 16, .mv (.t 0), none, true⟩,
  ⟨some 17, .mv (.t 0), none, true⟩,
  ⟨some 18, .ias 2 (.t 17) (.c (.int .i64 0)), none, true⟩,
  ⟨some 19, .load true 2 (.t 18), none, true⟩,
  ⟨some 20, .call 117 [.t 16, .t 19, .fu 119], none, true⟩,
  ⟨some 5, .alloc [.int .i64 0, .int .i64 0], none, true⟩,
  ⟨none, .store 2 (.t 5) (.t 20), none, true⟩] (some [2, 3, 4, 5]) []) (
(.seq (
.reg (some [.dr [22] [], .dr [21] [2], .dr [22] [], .free]) [
  ⟨some 21, .load true 2 (.t 4), none, true⟩,
  ⟨some 22, .load true 2 (.t 5), none, true⟩,
  ⟨none, .store 2 (.t 2) (.t 21), none, true⟩,
  ⟨none, .store 2 (.t 3) (.t 22), none, true⟩] (some [2, 3]) [4, 5]) (
.ret)))))))))))
/-- ambidexter/rotation.ValidDirection$1 -/
def A108 : AFn := .code [.t 3] (
(.seq (
.reg none [
  ⟨some 3, .as (.c (.bool false)), none, true⟩] (some [0, 1]) []) (
(.seq (
.reg none [
  ⟨some 4, .mv (.t 0), none, true⟩,
  ⟨some 5, .load false 1 (.t 1), none, true⟩,
  ⟨some 6, .un .neg (.t 5), none, true⟩,
  ⟨some 7, .bin .geq (.t 4) (.t 6), none, true⟩,
  ⟨some 8, .mv (.t 7), none, true⟩,
  ⟨some 9, .mv (.t 0), some (8, true), true⟩,
  ⟨some 10, .load false 1 (.t 1), some (8, true), true⟩,
  ⟨some 11, .bin .leq (.t 9) (.t 10), some (8, true), true⟩,
  ⟨some 12, .pick (.t 8) (.t 11) (.c (.bool false)), none, true⟩,
  ⟨some 3, .as (.t 12), none, true⟩] (some [3]) []) (
.ret)))))
def A109_L0b : ACode := 
  (.seq (
  .reg none [
    ⟨some 22, .bin .lss (.t 21) (.t 20), none, true⟩] (some [6, 7, 20, 21, 22]) []) (
  (.seq (
  (.cond (.t 22) (
    .skip) (
    .exit 0))) (
  (.seq (
  (.block 1 (
  .reg none [
    ⟨some 23, .mv (.t 7), none, true⟩,
    ⟨some 24, .load true 2 (.t 6), none, true⟩,
    ⟨some 25, .cal (.t 23) [.t 24], none, true⟩,
    ⟨none, .store 2 (.t 6) (.t 25), none, true⟩] (some [6, 7, 20, 21]) []) (some [6, 7, 20, 21]) [])) (
  .reg none [
    ⟨some 26, .bin .add (.t 21) (.c (.int .i64 1)), none, true⟩,
    ⟨some 21, .mv (.t 26), none, true⟩] (some [6, 7, 20, 21]) []))))))
def A109_L0 : ACode := .loop A109_L0b (some [6, 7, 20, 21]) []
/-- ambidexter/rotation.CosSin -/
def A109 : AFn := .code [.t 2, .t 3] (
(.seq (
.reg none [
  ⟨some 2, .as (.c (.int .i64 0)), none, true⟩,
  ⟨some 3, .as (.c (.int .i64 0)), none, true⟩] (some [0]) []) (
(.seq (
.reg none [
  ⟨some 8, .mv (.t 0), none, true⟩,
  ⟨some 9, .call 120 [.t 8], none, true⟩,
  ⟨some 4, .as (.t 9), none, true⟩] (some [4]) []) (
(.seq (
.reg none [
  ⟨some 10, .call 121 [], none, true⟩,
  ⟨some 11, .mv (.t 4), none, true⟩,
  ⟨some 12, .bin .rem (.t 11) (.c (.int .i64 9)), none, true⟩,
  ⟨some 13, .ixa true 9 2 (.t 10) (.t 12), none, true⟩,
  ⟨some 5, .alloc [.int .i64 0, .int .i64 0], none, true⟩,
  ⟨none, .store 2 (.t 5) (.t 13), none, true⟩] (some [4, 5]) []) (
(.seq (
.reg none [
  ⟨some 14, .iaa 2 1 (.t 5) (.c (.int .i64 0)), none, true⟩,
  ⟨some 15, .load false 1 (.t 14), none, true⟩,
  ⟨some 16, .iaa 2 1 (.t 5) (.c (.int .i64 1)), none, true⟩,
  ⟨some 17, .load false 1 (.t 16), none, true⟩,
  ⟨some 18, .build [.int .i64 0, .int .i64 0] [(0, 1, .t 15), (1, 1, .t 17)], none, true⟩,
  ⟨some 6, .alloc [.int .i64 0, .int .i64 0], none, true⟩,
  ⟨none, .store 2 (.t 6) (.t 18), none, true⟩] (some [4, 6]) [5]) (
(.seq (
.reg none [
  ⟨some 7, .as (.fu 91), none, true⟩] (some [4, 6, 7]) []) (
(.seq (
(.seq (
.reg none [
  ⟨some 19, .mv (.t 4), none, true⟩,
  ⟨some 20, .bin .quo (.t 19) (.c (.int .i64 9)), none, true⟩,
  ⟨some 21, .mv (.c (.int .i64 0)), none, true⟩] (some [6, 7, 20, 21]) []) (
(.block 0 (
A109_L0) (some [6]) [])))) (
(.seq (
.reg (some [.dr [30] [], .dr [30] [], .dr [28] [], .dr [28] [], .dr [30] [], .free]) [
  ⟨some 27, .fad 0 (.t 6), none, true⟩,
  ⟨some 28, .load false 1 (.t 27), none, true⟩,
  ⟨some 29, .fad 1 (.t 6), none, true⟩,
  ⟨some 30, .load false 1 (.t 29), none, true⟩,
  ⟨some 2, .as (.t 28), none, true⟩,
  ⟨some 3, .as (.t 30), none, true⟩] (some [2, 3]) [6]) (
.ret)))))))))))))))
/-- ambidexter/ambidexterref01.mod -/
def A110 : AFn := .code [.t 2] (
(.seq (
.reg none [
  ⟨some 2, .as (.c (.int .i64 0)), none, true⟩] (some [0]) []) (
(.seq (
.reg none [
  ⟨some 3, .mv (.t 0), none, true⟩,
  ⟨some 4, .bin .rem (.t 3) (.c (.int .i64 36)), none, true⟩,
  ⟨some 5, .bin .add (.t 4) (.c (.int .i64 36)), none, true⟩,
  ⟨some 6, .bin .rem (.t 5) (.c (.int .i64 36)), none, true⟩,
  ⟨some 2, .as (.t 6), none, true⟩] (some [2]) []) (
.ret)))))

end Go.Proofs.Ytnecdcaaknhgpaa

namespace Go.Proofs.Ytnecdcaaknhgpaa
open Go Go.Zv
set_option maxRecDepth 100000
/-- ambidexter/geom.SegmentsIntersect$1 -/
def A111 : AFn := .code [.t 8, .t 9] (
(.seq (
.reg none [
  ⟨some 4, .box (.t 0), none, true⟩,
  ⟨some 5, .box (.t 1), none, true⟩,
  ⟨some 6, .box (.t 2), none, true⟩,
  ⟨some 7, .box (.t 3), none, true⟩,
  ⟨some 8, .as (.c (.bool false)), none, true⟩,
  ⟨some 9, .as (.c (.bool false)), none, true⟩] (some [4, 5, 6, 7]) []) (
(.seq (
.reg (some [.dr [13, 14, 16, 17, 18] [], .dr [12, 14, 16, 17, 18] [], .dr [12, 13, 16, 17, 18] [], .dr [16, 17, 18] [], .dr [12, 13, 14, 15, 17, 18] [], .dr [12, 13, 14, 15, 16, 18] [], .dr [12, 13, 14, 15, 16, 17] [], .free, .free, .free]) [
  ⟨some 12, .load true 2 (.t 4), none, true⟩,
  ⟨some 13, .load true 2 (.t 5), none, true⟩,
  ⟨some 14, .load true 2 (.t 6), none, true⟩,
  ⟨some 15, .call 62 [.t 12, .t 13, .t 14], none, true⟩,
  ⟨some 16, .load true 2 (.t 4), none, true⟩,
  ⟨some 17, .load true 2 (.t 5), none, true⟩,
  ⟨some 18, .load true 2 (.t 7), none, true⟩,
  ⟨some 19, .call 62 [.t 16, .t 17, .t 18], none, true⟩,
  ⟨some 10, .as (.t 15), none, true⟩,
  ⟨some 11, .as (.t 19), none, true⟩] (some [4, 5, 6, 7, 10, 11]) []) (
(.seq (
.reg none [
  ⟨some 20, .mv (.t 10), none, true⟩,
  ⟨some 21, .mv (.t 11), none, true⟩,
  ⟨some 22, .bin .mul (.t 20) (.t 21), none, true⟩,
  ⟨some 23, .bin .lss (.t 22) (.c (.int .i64 0)), none, true⟩,
  ⟨some 24, .mv (.t 10), none, true⟩,
  ⟨some 25, .bin .eql (.t 24) (.c (.int .i64 0)), none, true⟩,
  ⟨some 26, .mv (.t 25), none, true⟩,
  ⟨some 27, .load true 2 (.t 4), some (26, true), true⟩,
  ⟨some 28, .load true 2 (.t 5), some (26, true), true⟩,
  ⟨some 29, .load true 2 (.t 6), some (26, true), true⟩,
  ⟨some 30, .call 90 [.t 27, .t 28, .t 29], some (26, true), true⟩,
  ⟨some 31, .pick (.t 26) (.t 30) (.c (.bool false)), none, true⟩,
  ⟨some 32, .mv (.t 31), none, true⟩,
  ⟨some 33, .mv (.t 11), some (32, false), true⟩,
  ⟨some 34, .bin .eql (.t 33) (.c (.int .i64 0)), some (32, false), true⟩,
  ⟨some 35, .mv (.t 34), some (32, false), true⟩,
  ⟨some 36, .load true 2 (.t 4), some (35, true), true⟩,
  ⟨some 37, .load true 2 (.t 5), some (35, true), true⟩,
  ⟨some 38, .load true 2 (.t 7), some (35, true), true⟩,
  ⟨some 39, .call 90 [.t 36, .t 37, .t 38], some (35, true), true⟩,
  ⟨some 40, .pick (.t 35) (.t 39) (.c (.bool false)), some (32, false), true⟩,
  ⟨some 41, .pick (.t 32) (.c (.bool true)) (.t 40), none, true⟩,
  ⟨some 8, .as (.t 23), none, true⟩,
  ⟨some 9, .as (.t 41), none, true⟩] (some [8, 9]) [4, 5, 6, 7]) (
.ret)))))))
def A117_L0b : ACode := 
  (.seq (
  .reg none [
    ⟨some 12, .bin .lss (.t 11) (.t 10), none, true⟩] (some [2, 4, 6, 9, 10, 11, 12]) []) (
  (.seq (
  (.cond (.t 12) (
    .skip) (
    .exit 0))) (
  (.seq (
  (.block 1 (
  (.seq (
  .reg none [
    ⟨some 13, .ias 2 (.t 9) (.t 11), none, true⟩,
    ⟨some 14, .load true 2 (.t 13), none, true⟩,
    ⟨some 8, .alloc [.int .i64 0, .int .i64 0], none, true⟩,
    ⟨none, .store 2 (.t 8) (.t 14), none, true⟩] (some [2, 4, 6, 8, 9, 10, 11]) []) (
  .reg none [
    ⟨some 15, .mv (.t 2), none, true⟩,
    ⟨some 16, .load true 2 (.t 4), none, true⟩,
    ⟨some 17, .load true 2 (.t 8), none, true⟩,
    ⟨some 18, .cal (.t 15) [.t 16, .t 17], none, true⟩,
    ⟨none, .store 2 (.t 4) (.t 18), none, true⟩] (some [2, 4, 6, 9, 10, 11]) [8]))) (some [2, 4, 6, 9, 10, 11]) [8])) (
  .reg none [
    ⟨some 19, .bin .add (.t 11) (.c (.int .i64 1)), none, true⟩,
    ⟨some 11, .mv (.t 19), none, true⟩] (some [2, 4, 6, 9, 10, 11]) []))))))
def A117_L0 : ACode := .loop A117_L0b (some [2, 4, 6, 9, 10, 11]) [8]
/-- ambidexter/geom.fold[ambidexter/api.Point,ambidexter/api.Point] -/
def A117 : AFn := .code [.cell true 2 6] (
(.seq (
.reg none [
  ⟨some 4, .box (.t 1), none, true⟩,
  ⟨some 6, .alloc [.int .i64 0, .int .i64 0], none, true⟩] (some [0, 2, 4, 6]) []) (
(.seq (
(.seq (
.reg none [
  ⟨some 9, .mv (.t 0), none, true⟩,
  ⟨some 10, .len 0 (.t 9), none, true⟩,
  ⟨some 11, .mv (.c (.int .i64 0)), none, true⟩] (some [2, 4, 6, 9, 10, 11]) []) (
(.block 0 (
A117_L0) (some [4, 6]) [8])))) (
(.seq (
.reg none [
  ⟨some 20, .load true 2 (.t 4), none, true⟩,
  ⟨none, .store 2 (.t 6) (.t 20), none, true⟩] (some [6]) [4]) (
.ret)))))))
/-- ambidexter/geom.BoundingBox$1 -/
def A118 : AFn := .code [.cell true 2 4] (
(.seq (
.reg none [
  ⟨some 2, .box (.t 0), none, true⟩,
  ⟨some 3, .box (.t 1), none, true⟩,
  ⟨some 4, .alloc [.int .i64 0, .int .i64 0], none, true⟩] (some [2, 3, 4]) []) (
(.seq (
.reg none [
  ⟨some 5, .fad 0 (.t 2), none, true⟩,
  ⟨some 6, .load false 1 (.t 5), none, true⟩,
  ⟨some 7, .fad 0 (.t 3), none, true⟩,
  ⟨some 8, .load false 1 (.t 7), none, true⟩,
  ⟨some 9, .mn [.t 6, .t 8], none, true⟩,
  ⟨some 10, .fad 1 (.t 2), none, true⟩,
  ⟨some 11, .load false 1 (.t 10), none, true⟩,
  ⟨some 12, .fad 1 (.t 3), none, true⟩,
  ⟨some 13, .load false 1 (.t 12), none, true⟩,
  ⟨some 14, .mn [.t 11, .t 13], none, true⟩,
  ⟨some 15, .build [.int .i64 0, .int .i64 0] [(0, 1, .t 9), (1, 1, .t 14)], none, true⟩,
  ⟨none, .store 2 (.t 4) (.t 15), none, true⟩] (some [4]) [2, 3]) (
.ret)))))
/-- ambidexter/geom.BoundingBox$2 -/
def A119 : AFn := .code [.cell true 2 4] (
(.seq (
.reg none [
  ⟨some 2, .box (.t 0), none, true⟩,
  ⟨some 3, .box (.t 1), none, true⟩,
  ⟨some 4, .alloc [.int .i64 0, .int .i64 0], none, true⟩] (some [2, 3, 4]) []) (
(.seq (
.reg none [
  ⟨some 5, .fad 0 (.t 2), none, true⟩,
  ⟨some 6, .load false 1 (.t 5), none, true⟩,
  ⟨some 7, .fad 0 (.t 3), none, true⟩,
  ⟨some 8, .load false 1 (.t 7), none, true⟩,
  ⟨some 9, .mx [.t 6, .t 8], none, true⟩,
  ⟨some 10, .fad 1 (.t 2), none, true⟩,
  ⟨some 11, .load false 1 (.t 10), none, true⟩,
  ⟨some 12, .fad 1 (.t 3), none, true⟩,
  ⟨some 13, .load false 1 (.t 12), none, true⟩,
  ⟨some 14, .mx [.t 11, .t 13], none, true⟩,
  ⟨some 15, .build [.int .i64 0, .int .i64 0] [(0, 1, .t 9), (1, 1, .t 14)], none, true⟩,
  ⟨none, .store 2 (.t 4) (.t 15), none, true⟩] (some [4]) [2, 3]) (
.ret)))))
/-- ambidexter/rotation.round -/
def A120 : AFn := .code [.t 2] (
(.seq (
.reg none [
  ⟨some 2, .as (.c (.int .i64 0)), none, true⟩] (some [0]) []) (
(.seq (
.reg none [
  ⟨some 3, .mv (.t 0), none, true⟩,
  ⟨some 4, .bin .rem (.t 3) (.c (.int .i64 36)), none, true⟩,
  ⟨some 0, .as (.t 4), none, true⟩] (some [0]) []) (
(.seq (
(.seq (
.reg none [
  ⟨some 5, .mv (.t 0), none, true⟩,
  ⟨some 6, .bin .lss (.t 5) (.c (.int .i64 0)), none, true⟩] (some [0, 6]) []) (
(.cond (.t 6) (
  .reg none [
    ⟨some 7, .mv (.t 0), none, true⟩,
    ⟨some 8, .bin .add (.t 7) (.c (.int .i64 36)), none, true⟩,
    ⟨some 0, .as (.t 8), none, true⟩] (some [0]) []) (
  .skip))))) (
(.seq (
.reg none [
  ⟨some 9, .mv (.t 0), none, true⟩,
  ⟨some 2, .as (.t 9), none, true⟩] (some [2]) []) (
.ret)))))))))
/-- ambidexter/rotation.quarter -/
def A121 : AFn := .code [.cell true 18 0] (
(.seq (
.reg none [
  ⟨some 0, .alloc [.int .i64 0, .int .i64 0, .int .i64 0, .int .i64 0, .int .i64 0, .int .i64 0, .int .i64 0, .int .i64 0, .int .i64 0, .int .i64 0, .int .i64 0, .int .i64 0, .int .i64 0, .int .i64 0, .int .i64 0, .int .i64 0, .int .i64 0, .int .i64 0], none, true⟩] (some [0]) []) (
(.seq (
.reg none [
  ⟨some 1, .build [.int .i64 0, .int .i64 0] [(0, 1, .c (.int .i64 65)), (1, 1, .c (.int .i64 0))], none, true⟩,
  ⟨some 2, .build [.int .i64 0, .int .i64 0] [(0, 1, .c (.int .i64 63)), (1, 1, .c (.int .i64 16))], none, true⟩,
  ⟨some 3, .build [.int .i64 0, .int .i64 0] [(0, 1, .c (.int .i64 60)), (1, 1, .c (.int .i64 25))], none, true⟩,
  ⟨some 4, .build [.int .i64 0, .int .i64 0] [(0, 1, .c (.int .i64 56)), (1, 1, .c (.int .i64 33))], none, true⟩,
  ⟨some 5, .build [.int .i64 0, .int .i64 0] [(0, 1, .c (.int .i64 52)), (1, 1, .c (.int .i64 39))], none, true⟩,
  ⟨some 6, .build [.int .i64 0, .int .i64 0] [(0, 1, .c (.int .i64 39)), (1, 1, .c (.int .i64 52))], none, true⟩,
  ⟨some 7, .build [.int .i64 0, .int .i64 0] [(0, 1, .c (.int .i64 33)), (1, 1, .c (.int .i64 56))], none, true⟩,
  ⟨some 8, .build [.int .i64 0, .int .i64 0] [(0, 1, .c (.int .i64 25)), (1, 1, .c (.int .i64 60))], none, true⟩,
  ⟨some 9, .build [.int .i64 0, .int .i64 0] [(0, 1, .c (.int .i64 16)), (1, 1, .c (.int .i64 63))], none, true⟩,
  ⟨some 10, .build [.int .i64 0, .int .i64 0, .int .i64 0, .int .i64 0, .int .i64 0, .int .i64 0, .int .i64 0, .int .i64 0, .int .i64 0, .int .i64 0, .int .i64 0, .int .i64 0, .int .i64 0, .int .i64 0, .int .i64 0, .int .i64 0, .int .i64 0, .int .i64 0] [(0, 2, .t 1), (2, 2, .t 2), (4, 2, .t 3), (6, 2, .t 4), (8, 2, .t 5), (10, 2, .t 6), (12, 2, .t 7), (14, 2, .t 8), (16, 2, .t 9)], none, true⟩,
  ⟨none, .store 18 (.t 0) (.t 10), none, true⟩] (some [0]) []) (
.ret)))))

end Go.Proofs.Ytnecdcaaknhgpaa

namespace Go.Proofs.Ytnecdcaaknhgpaa
open Go Go.Zv
set_option maxRecDepth 100000

def E : FuncId → Option AFn
  | 3 => some A3
  | 4 => some A4
  | 5 => some A5
  | 6 => some A6
  | 7 => some A7
  | 8 => some A8
  | 14 => some A14
  | 15 => some A15
  | 16 => some A16
  | 17 => some A17
  | 18 => some A18
  | 19 => some A19
  | 20 => some A20
  | 21 => some A21
  | 22 => some A22
  | 23 => some A23
  | 24 => some A24
  | 25 => some A25
  | 26 => some A26
  | 27 => some A27
  | 28 => some A28
  | 29 => some A29
  | 30 => some A30
  | 31 => some A31
  | 32 => some A32
  | 33 => some A33
  | 45 => some A45
  | 46 => some A46
  | 47 => some A47
  | 48 => some A48
  | 49 => some A49
  | 50 => some A50
  | 51 => some A51
  | 52 => some A52
  | 53 => some A53
  | 54 => some A54
  | 55 => some A55
  | 56 => some A56
  | 57 => some A57
  | 58 => some A58
  | 59 => some A59
  | 60 => some A60
  | 61 => some A61
  | 62 => some A62
  | 64 => some A64
  | 67 => some A67
  | 81 => some A81
  | 82 => some A82
  | 83 => some A83
  | 84 => some A84
  | 85 => some A85
  | 86 => some A86
  | 87 => some A87
  | 88 => some A88
  | 89 => some A89
  | 90 => some A90
  | 91 => some A91
  | 107 => some A107
  | 108 => some A108
  | 109 => some A109
  | 110 => some A110
  | 111 => some A111
  | 117 => some A117
  | 118 => some A118
  | 119 => some A119
  | 120 => some A120
  | 121 => some A121
  | _ => none
theorem E_3 : E 3 = some A3 := rfl
theorem E_4 : E 4 = some A4 := rfl
theorem E_5 : E 5 = some A5 := rfl
theorem E_6 : E 6 = some A6 := rfl
theorem E_7 : E 7 = some A7 := rfl
theorem E_8 : E 8 = some A8 := rfl
theorem E_14 : E 14 = some A14 := rfl
theorem E_15 : E 15 = some A15 := rfl
theorem E_16 : E 16 = some A16 := rfl
theorem E_17 : E 17 = some A17 := rfl
theorem E_18 : E 18 = some A18 := rfl
theorem E_19 : E 19 = some A19 := rfl
theorem E_20 : E 20 = some A20 := rfl
theorem E_21 : E 21 = some A21 := rfl
theorem E_22 : E 22 = some A22 := rfl
theorem E_23 : E 23 = some A23 := rfl
theorem E_24 : E 24 = some A24 := rfl
theorem E_25 : E 25 = some A25 := rfl
theorem E_26 : E 26 = some A26 := rfl
theorem E_27 : E 27 = some A27 := rfl
theorem E_28 : E 28 = some A28 := rfl
theorem E_29 : E 29 = some A29 := rfl
theorem E_30 : E 30 = some A30 := rfl
theorem E_31 : E 31 = some A31 := rfl
theorem E_32 : E 32 = some A32 := rfl
theorem E_33 : E 33 = some A33 := rfl
theorem E_45 : E 45 = some A45 := rfl
theorem E_46 : E 46 = some A46 := rfl
theorem E_47 : E 47 = some A47 := rfl
theorem E_48 : E 48 = some A48 := rfl
theorem E_49 : E 49 = some A49 := rfl
theorem E_50 : E 50 = some A50 := rfl
theorem E_51 : E 51 = some A51 := rfl
theorem E_52 : E 52 = some A52 := rfl
theorem E_53 : E 53 = some A53 := rfl
theorem E_54 : E 54 = some A54 := rfl
theorem E_55 : E 55 = some A55 := rfl
theorem E_56 : E 56 = some A56 := rfl
theorem E_57 : E 57 = some A57 := rfl
theorem E_58 : E 58 = some A58 := rfl
theorem E_59 : E 59 = some A59 := rfl
theorem E_60 : E 60 = some A60 := rfl
theorem E_61 : E 61 = some A61 := rfl
theorem E_62 : E 62 = some A62 := rfl
theorem E_64 : E 64 = some A64 := rfl
theorem E_67 : E 67 = some A67 := rfl
theorem E_81 : E 81 = some A81 := rfl
theorem E_82 : E 82 = some A82 := rfl
theorem E_83 : E 83 = some A83 := rfl
theorem E_84 : E 84 = some A84 := rfl
theorem E_85 : E 85 = some A85 := rfl
theorem E_86 : E 86 = some A86 := rfl
theorem E_87 : E 87 = some A87 := rfl
theorem E_88 : E 88 = some A88 := rfl
theorem E_89 : E 89 = some A89 := rfl
theorem E_90 : E 90 = some A90 := rfl
theorem E_91 : E 91 = some A91 := rfl
theorem E_107 : E 107 = some A107 := rfl
theorem E_108 : E 108 = some A108 := rfl
theorem E_109 : E 109 = some A109 := rfl
theorem E_110 : E 110 = some A110 := rfl
theorem E_111 : E 111 = some A111 := rfl
theorem E_117 : E 117 = some A117 := rfl
theorem E_118 : E 118 = some A118 := rfl
theorem E_119 : E 119 = some A119 := rfl
theorem E_120 : E 120 = some A120 := rfl
theorem E_121 : E 121 = some A121 := rfl
theorem A3_L0_eq (s : St) : K E A3_L0 s = (K E A3_L0b s).bind (loopF E A3_L0 (some [3, 4, 5, 11, 12, 13, 14, 15]) [10, 58]) := loop_fold rfl s
theorem A4_L0_eq (s : St) : K E A4_L0 s = (K E A4_L0b s).bind (loopF E A4_L0 (some [9, 11, 13, 14, 15, 16, 20]) [8, 125, 134]) := loop_fold rfl s
theorem A4_L1_eq (s : St) : K E A4_L1 s = (K E A4_L1b s).bind (loopF E A4_L1 (some [9, 11, 13, 14, 15, 16, 18, 19]) [8, 104, 111]) := loop_fold rfl s
theorem A4_L2_eq (s : St) : K E A4_L2 s = (K E A4_L2b s).bind (loopF E A4_L2 (some [9, 11, 13, 14, 15, 16, 18]) [8, 19, 104, 111]) := loop_fold rfl s
theorem A4_L3_eq (s : St) : K E A4_L3 s = (K E A4_L3b s).bind (loopF E A4_L3 (some [9, 11, 13, 14, 15, 16, 17]) [8]) := loop_fold rfl s
theorem A5_L0_eq (s : St) : K E A5_L0 s = (K E A5_L0b s).bind (loopF E A5_L0 (some [11, 13, 19, 20, 21]) [10]) := loop_fold rfl s
theorem A5_L1_eq (s : St) : K E A5_L1 s = (K E A5_L1b s).bind (loopF E A5_L1 (some [5, 9, 11, 12, 13, 14, 16, 17, 18]) [10]) := loop_fold rfl s
theorem A6_L0_eq (s : St) : K E A6_L0 s = (K E A6_L0b s).bind (loopF E A6_L0 (some [2, 3, 7, 8, 9]) [6, 10, 11, 12, 13, 14, 15, 16, 56, 96, 109]) := loop_fold rfl s
theorem A8_L0_eq (s : St) : K E A8_L0 s = (K E A8_L0b s).bind (loopF E A8_L0 (some [2, 5, 7, 8, 9, 11]) [4, 12, 67]) := loop_fold rfl s
theorem A8_L1_eq (s : St) : K E A8_L1 s = (K E A8_L1b s).bind (loopF E A8_L1 (some [2, 5, 7, 8, 9]) [4, 10, 11, 12, 44, 67, 85, 108, 114, 134, 145]) := loop_fold rfl s
theorem A15_L0_eq (s : St) : K E A15_L0 s = (K E A15_L0b s).bind (loopF E A15_L0 (some [1, 3, 10, 11]) [2, 4, 5]) := loop_fold rfl s
theorem A16_L0_eq (s : St) : K E A16_L0 s = (K E A16_L0b s).bind (loopF E A16_L0 (some [1, 3, 4]) [2]) := loop_fold rfl s
theorem A17_L0_eq (s : St) : K E A17_L0 s = (K E A17_L0b s).bind (loopF E A17_L0 (some [2, 7, 8]) [4, 5, 6]) := loop_fold rfl s
theorem A18_L0_eq (s : St) : K E A18_L0 s = (K E A18_L0b s).bind (loopF E A18_L0 (some [2, 3, 5]) [4]) := loop_fold rfl s
theorem A19_L0_eq (s : St) : K E A19_L0 s = (K E A19_L0b s).bind (loopF E A19_L0 (some [2, 3, 4, 5, 6]) []) := loop_fold rfl s
theorem A20_L0_eq (s : St) : K E A20_L0 s = (K E A20_L0b s).bind (loopF E A20_L0 (some [4, 5, 6, 7, 22, 23]) [8, 9, 37]) := loop_fold rfl s
theorem A21_L0_eq (s : St) : K E A21_L0 s = (K E A21_L0b s).bind (loopF E A21_L0 (some [2, 4, 5, 6, 7, 8]) [9, 10, 11, 28, 46, 52, 58, 63, 64]) := loop_fold rfl s
theorem A22_L0_eq (s : St) : K E A22_L0 s = (K E A22_L0b s).bind (loopF E A22_L0 (some [0, 1, 5]) [4]) := loop_fold rfl s
theorem A25_L0_eq (s : St) : K E A25_L0 s = (K E A25_L0b s).bind (loopF E A25_L0 (some [4, 5, 6, 10, 11]) [7, 8]) := loop_fold rfl s
theorem A27_L0_eq (s : St) : K E A27_L0 s = (K E A27_L0b s).bind (loopF E A27_L0 (some [2, 4, 5, 7, 18, 19]) [8, 9, 31, 32]) := loop_fold rfl s
theorem A28_L0_eq (s : St) : K E A28_L0 s = (K E A28_L0b s).bind (loopF E A28_L0 (some [2, 4, 5, 6, 7]) [30, 31]) := loop_fold rfl s
theorem A81_L0_eq (s : St) : K E A81_L0 s = (K E A81_L0b s).bind (loopF E A81_L0 (some [0, 3, 4]) []) := loop_fold rfl s
theorem A85_L0_eq (s : St) : K E A85_L0 s = (K E A85_L0b s).bind (loopF E A85_L0 (some [6, 7, 8, 9]) []) := loop_fold rfl s
theorem A86_L0_eq (s : St) : K E A86_L0 s = (K E A86_L0b s).bind (loopF E A86_L0 (some [3, 4, 5]) []) := loop_fold rfl s
theorem A87_L0_eq (s : St) : K E A87_L0 s = (K E A87_L0b s).bind (loopF E A87_L0 (some [0, 1, 7, 8]) [4, 5, 16]) := loop_fold rfl s
theorem A89_L0_eq (s : St) : K E A89_L0 s = (K E A89_L0b s).bind (loopF E A89_L0 (some [0, 1, 5, 6, 7]) [3, 4, 24]) := loop_fold rfl s
theorem A109_L0_eq (s : St) : K E A109_L0 s = (K E A109_L0b s).bind (loopF E A109_L0 (some [6, 7, 20, 21]) []) := loop_fold rfl s
theorem A117_L0_eq (s : St) : K E A117_L0 s = (K E A117_L0b s).bind (loopF E A117_L0 (some [2, 4, 6, 9, 10, 11]) [8]) := loop_fold rfl s
end Go.Proofs.Ytnecdcaaknhgpaa

namespace Go.Proofs.Ytnecdcaaknhgpaa
set_option maxRecDepth 100000
set_option maxHeartbeats 4000000
set_option linter.unusedSimpArgs false
set_option linter.unusedVariables false
open Go Go.Zv
theorem wr_nat {n : Nat} (h : n < 9223372036854775808) : IntKind.i64.wrap (n : Int) = n := by
  simp [IntKind.wrap, IntKind.signed, IntKind.bits]; omega
theorem wr_succ {n : Nat} (h : n + 1 < 9223372036854775808) : IntKind.i64.wrap ((n : Int) + 1) = ((n + 1 : Nat) : Int) := by
  have := wr_nat h; simpa using this
theorem tmod_pos {x n : Int} (h : 0 ≤ x) : x.tmod n = x % n := Int.tmod_eq_emod_of_nonneg h
theorem tmod36 (q : Int) : (if q.tmod 36 < 0 then q.tmod 36 + 36 else q.tmod 36) = q % 36 := by
  by_cases h : 0 ≤ q
  · rw [tmod_pos h]; split <;> omega
  · obtain ⟨p, rfl⟩ : ∃ p : Int, q = -p := ⟨-q, by omega⟩
    rw [Int.neg_tmod, tmod_pos (by omega)]
    split <;> omega
theorem tb36 (q : Int) : -36 < q.tmod 36 ∧ q.tmod 36 < 36 := ⟨Int.lt_tmod_of_pos q (by omega), Int.tmod_lt_of_pos q (by omega)⟩
theorem c120 (q : Int) : pc E 120 [.int .i64 q] = some (.int .i64 (q % 36)) := by
  have h := tmod36 q
  have hb := tb36 q
  have w : IntKind.i64.wrap (q.tmod 36 + 36) = q.tmod 36 + 36 := wrap_small (by omega) (by omega)
  by_cases hc : q.tmod 36 < 0
  · rw [if_pos hc] at h
    have w2 : IntKind.i64.wrap (q % 36) = q % 36 := wrap_small (by omega) (by omega)
    rw [pc_eq]; simp +contextual -implicitDefEqProofs (maxSteps := 2000000) only [go_sem, ↓reduceIte, Nat.reduceAdd, Nat.reduceMul, Nat.reduceSub, Nat.reduceEqDiff, Nat.reduceLeDiff, Nat.reduceDiv, Nat.reduceMod, Nat.reduceBEq, Nat.reduceBNe, reduceCtorEq, Int.reduceLE, Int.reduceLT, Int.reduceToNat, Int.reduceNeg, Nat.reduceLT, Int.reduceEq, Int.reduceSub, Int.reduceAdd, Int.reduceMul, Nat.reducePow, Int.reduceBEq, Int.reduceBNe, Int.reduceMod, E_120, A120, hc, w, h, w2]
  · rw [if_neg hc] at h
    rw [h] at hc
    rw [pc_eq]; simp +contextual -implicitDefEqProofs (maxSteps := 2000000) only [go_sem, ↓reduceIte, Nat.reduceAdd, Nat.reduceMul, Nat.reduceSub, Nat.reduceEqDiff, Nat.reduceLeDiff, Nat.reduceDiv, Nat.reduceMod, Nat.reduceBEq, Nat.reduceBNe, reduceCtorEq, Int.reduceLE, Int.reduceLT, Int.reduceToNat, Int.reduceNeg, Nat.reduceLT, Int.reduceEq, Int.reduceSub, Int.reduceAdd, Int.reduceMul, Nat.reducePow, Int.reduceBEq, Int.reduceBNe, Int.reduceMod, E_120, A120, h, hc]
theorem c121 : pc E 121 [] = some (.agg [.int .i64 65, .int .i64 0, .int .i64 63, .int .i64 16, .int .i64 60, .int .i64 25, .int .i64 56, .int .i64 33, .int .i64 52, .int .i64 39, .int .i64 39, .int .i64 52, .int .i64 33, .int .i64 56, .int .i64 25, .int .i64 60, .int .i64 16, .int .i64 63]) := by
  rw [pc_eq]; simp +contextual -implicitDefEqProofs (maxSteps := 2000000) only [go_sem, ↓reduceIte, Nat.reduceAdd, Nat.reduceMul, Nat.reduceSub, Nat.reduceEqDiff, Nat.reduceLeDiff, Nat.reduceDiv, Nat.reduceMod, Nat.reduceBEq, Nat.reduceBNe, reduceCtorEq, Int.reduceLE, Int.reduceLT, Int.reduceToNat, Int.reduceNeg, Nat.reduceLT, Int.reduceEq, Int.reduceSub, Int.reduceAdd, Int.reduceMul, Nat.reducePow, Int.reduceBEq, Int.reduceBNe, Int.reduceMod, E_121, A121]
theorem c91 (x y : Int) (h1 : -1000000000000 ≤ y) (h2 : y ≤ 1000000000000) : pc E 91 [.agg [.int .i64 x, .int .i64 y]] = some (.agg [.int .i64 (-y), .int .i64 x]) := by
  have w : IntKind.i64.wrap (0 - y) = -y := by rw [wrap_small (by omega) (by omega)]; omega
  rw [pc_eq]; simp +contextual -implicitDefEqProofs (maxSteps := 2000000) only [go_sem, ↓reduceIte, Nat.reduceAdd, Nat.reduceMul, Nat.reduceSub, Nat.reduceEqDiff, Nat.reduceLeDiff, Nat.reduceDiv, Nat.reduceMod, Nat.reduceBEq, Nat.reduceBNe, reduceCtorEq, Int.reduceLE, Int.reduceLT, Int.reduceToNat, Int.reduceNeg, Nat.reduceLT, Int.reduceEq, Int.reduceSub, Int.reduceAdd, Int.reduceMul, Nat.reducePow, Int.reduceBEq, Int.reduceBNe, Int.reduceMod, E_91, A91, w]
/-- cosine and sine, times 65 -/
def cs : Nat → Int × Int
  | 0 => (65, 0) | 1 => (63, 16) | 2 => (60, 25) | 3 => (56, 33) | 4 => (52, 39) | 5 => (39, 52) | 6 => (33, 56) | 7 => (25, 60) | 8 => (16, 63)
  | 9 => (0, 65) | 10 => (-16, 63) | 11 => (-25, 60) | 12 => (-33, 56) | 13 => (-39, 52) | 14 => (-52, 39) | 15 => (-56, 33) | 16 => (-60, 25) | 17 => (-63, 16)
  | 18 => (-65, 0) | 19 => (-63, -16) | 20 => (-60, -25) | 21 => (-56, -33) | 22 => (-52, -39) | 23 => (-39, -52) | 24 => (-33, -56) | 25 => (-25, -60) | 26 => (-16, -63)
  | 27 => (0, -65) | 28 => (16, -63) | 29 => (25, -60) | 30 => (33, -56) | 31 => (39, -52) | 32 => (52, -39) | 33 => (56, -33) | 34 => (60, -25) | 35 => (63, -16)
  | _ => (65, 0)
def csI (q : Int) : Int × Int := cs (q % 36).toNat
theorem cases36 {k : Int} (h1 : 0 ≤ k) (h2 : k < 36) : k = 0 ∨ k = 1 ∨ k = 2 ∨ k = 3 ∨ k = 4 ∨ k = 5 ∨ k = 6 ∨ k = 7 ∨ k = 8 ∨ k = 9 ∨ k = 10 ∨ k = 11 ∨ k = 12 ∨ k = 13 ∨ k = 14 ∨ k = 15 ∨ k = 16 ∨ k = 17 ∨ k = 18 ∨ k = 19 ∨ k = 20 ∨ k = 21 ∨ k = 22 ∨ k = 23 ∨ k = 24 ∨ k = 25 ∨ k = 26 ∨ k = 27 ∨ k = 28 ∨ k = 29 ∨ k = 30 ∨ k = 31 ∨ k = 32 ∨ k = 33 ∨ k = 34 ∨ k = 35 := by omega
theorem left_ok (x y : Int) (h1 : -65 ≤ y) (h2 : y ≤ 65) : pc E 91 [.agg [.int .i64 x, .int .i64 y]] = some (.agg [.int .i64 (-y), .int .i64 x]) := c91 x y (by omega) (by omega)
end Go.Proofs.Ytnecdcaaknhgpaa

namespace Go.Proofs.Ytnecdcaaknhgpaa
set_option maxRecDepth 100000
set_option maxHeartbeats 4000000
set_option linter.unusedSimpArgs false
set_option linter.unusedVariables false
open Go Go.Zv
theorem c109 (q : Int) : pc E 109 [.int .i64 q] = some (.tup [.int .i64 (csI q).1, .int .i64 (csI q).2]) := by
  have h := c120 q
  have h1 : 0 ≤ q % 36 := by omega
  have h2 : q % 36 < 36 := by omega
  unfold csI
  generalize q % 36 = k at *
  rcases cases36 h1 h2 with rfl | rfl | rfl | rfl | rfl | rfl | rfl | rfl | rfl | rfl | rfl | rfl | rfl | rfl | rfl | rfl | rfl | rfl | rfl | rfl | rfl | rfl | rfl | rfl | rfl | rfl | rfl | rfl | rfl | rfl | rfl | rfl | rfl | rfl | rfl | rfl <;>
    (rw [pc_eq]; simp +contextual -implicitDefEqProofs (maxSteps := 2000000) only [go_sem, ↓reduceIte, Nat.reduceAdd, Nat.reduceMul, Nat.reduceSub, Nat.reduceEqDiff, Nat.reduceLeDiff, Nat.reduceDiv, Nat.reduceMod, Nat.reduceBEq, Nat.reduceBNe, reduceCtorEq, Int.reduceLE, Int.reduceLT, Int.reduceToNat, Int.reduceNeg, Nat.reduceLT, Int.reduceEq, Int.reduceSub, Int.reduceAdd, Int.reduceMul, Nat.reducePow, Int.reduceBEq, Int.reduceBNe, Int.reduceMod, E_109, A109, h, c121, A109_L0_eq, A109_L0b, Int.reduceTDiv, Int.reduceTMod, left_ok, Int.neg_neg]) <;> rfl
theorem c110 (q : Int) : pc E 110 [.int .i64 q] = some (.int .i64 (q % 36)) := by
  have hb := tb36 q
  have w1 : IntKind.i64.wrap (q.tmod 36 + 36) = q.tmod 36 + 36 := wrap_small (by omega) (by omega)
  have e : (q.tmod 36 + 36).tmod 36 = q % 36 := by
    rw [tmod_pos (by omega)]
    have := tmod36 q
    split at this <;> omega
  rw [pc_eq]; simp +contextual -implicitDefEqProofs (maxSteps := 2000000) only [go_sem, ↓reduceIte, Nat.reduceAdd, Nat.reduceMul, Nat.reduceSub, Nat.reduceEqDiff, Nat.reduceLeDiff, Nat.reduceDiv, Nat.reduceMod, Nat.reduceBEq, Nat.reduceBNe, reduceCtorEq, Int.reduceLE, Int.reduceLT, Int.reduceToNat, Int.reduceNeg, Nat.reduceLT, Int.reduceEq, Int.reduceSub, Int.reduceAdd, Int.reduceMul, Nat.reducePow, Int.reduceBEq, Int.reduceBNe, Int.reduceMod, E_110, A110, w1, e]
theorem c85 (q : Int) : pc E 85 [.int .i64 q] = some (.tup [.int .i64 (csI q).1, .int .i64 (csI q).2]) := by
  have h := c110 q
  have h1 : 0 ≤ q % 36 := by omega
  have h2 : q % 36 < 36 := by omega
  unfold csI
  generalize q % 36 = k at *
  rcases cases36 h1 h2 with rfl | rfl | rfl | rfl | rfl | rfl | rfl | rfl | rfl | rfl | rfl | rfl | rfl | rfl | rfl | rfl | rfl | rfl | rfl | rfl | rfl | rfl | rfl | rfl | rfl | rfl | rfl | rfl | rfl | rfl | rfl | rfl | rfl | rfl | rfl | rfl <;>
    (rw [pc_eq]; simp +contextual -implicitDefEqProofs (maxSteps := 2000000) only [go_sem, ↓reduceIte, Nat.reduceAdd, Nat.reduceMul, Nat.reduceSub, Nat.reduceEqDiff, Nat.reduceLeDiff, Nat.reduceDiv, Nat.reduceMod, Nat.reduceBEq, Nat.reduceBNe, reduceCtorEq, Int.reduceLE, Int.reduceLT, Int.reduceToNat, Int.reduceNeg, Nat.reduceLT, Int.reduceEq, Int.reduceSub, Int.reduceAdd, Int.reduceMul, Nat.reducePow, Int.reduceBEq, Int.reduceBNe, Int.reduceMod, E_85, A85, h, A85_L0_eq, A85_L0b, Int.reduceTDiv, Int.reduceTMod, Int.neg_neg]) <;> rfl
end Go.Proofs.Ytnecdcaaknhgpaa
