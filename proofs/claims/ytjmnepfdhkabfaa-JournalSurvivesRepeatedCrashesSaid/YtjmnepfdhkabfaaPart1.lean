/- Part of the proof: the evaluation of the program's code and its tie to the machine, or what functions of the program compute over it. -/
import Derived.Test.YtjmnepfdhkabfaaEng6
namespace Go.Proofs.Ytjmnepfdhkabfaa
open Go Go.Zv
set_option maxRecDepth 100000
def A13_L0b : ACode := 
    (.seq (
    (.seq (
    .reg none [
      ⟨some 116, .mv (.t 19), none, true⟩,
      ⟨some 117, .mv (.t 9), none, true⟩,
      ⟨some 118, .len 0 (.t 117), none, true⟩,
      ⟨some 119, .bin .lss (.t 116) (.t 118), none, true⟩] (some [1, 2, 7, 8, 9, 10, 11, 15, 16, 17, 18, 19, 119]) []) (
    (.cond (.t 119) (
      .skip) (
      .exit 2))))) (
    (.seq (
    (.block 3 (
    .reg (some [.free, .free, .free, .free, .dr [130] [], .dr [130] [], .dr [130] [], .dr [130] [], .dr [128, 129] [], .free, .free, .free, .free]) [
      ⟨some 122, .mv (.t 18), none, true⟩,
      ⟨some 123, .mv (.t 122), none, true⟩,
      ⟨some 124, .mv (.t 17), some (123, false), true⟩,
      ⟨some 125, .mv (.t 124), some (123, false), true⟩,
      ⟨some 126, .mv (.t 9), some (125, true), true⟩,
      ⟨some 127, .mv (.t 19), some (125, true), true⟩,
      ⟨some 128, .ias 12 (.t 126) (.t 127), some (125, true), true⟩,
      ⟨some 129, .load true 12 (.t 128), some (125, true), true⟩,
      ⟨some 130, .load true 12 (.t 16), some (125, true), true⟩,
      ⟨some 131, .call 36 [.t 129, .t 130], some (125, true), true⟩,
      ⟨some 132, .pick (.t 125) (.t 131) (.c (.bool false)), some (123, false), true⟩,
      ⟨some 133, .pick (.t 123) (.c (.bool true)) (.t 132), none, true⟩,
      ⟨some 18, .as (.t 133), none, true⟩] (some [1, 2, 7, 8, 9, 10, 11, 15, 16, 17, 18, 19]) []) (some [1, 2, 7, 8, 9, 10, 11, 15, 16, 17, 18, 19]) [])) (
    .reg none [
      ⟨some 120, .mv (.t 19), none, true⟩,
      ⟨some 121, .bin .add (.t 120) (.c (.int .i64 1)), none, true⟩,
      ⟨some 19, .as (.t 121), none, true⟩] (some [1, 2, 7, 8, 9, 10, 11, 15, 16, 17, 18, 19]) []))))
def A13_L0 : ACode := .loop A13_L0b (some [1, 2, 7, 8, 9, 10, 11, 15, 16, 17, 18, 19]) []
def A13_L1b : ACode := 
  (.seq (
  (.seq (
  .reg none [
    ⟨some 37, .mv (.t 11), none, true⟩,
    ⟨some 38, .mv (.t 1), none, true⟩,
    ⟨some 39, .len 0 (.t 38), none, true⟩,
    ⟨some 40, .bin .lss (.t 37) (.t 39), none, true⟩] (some [1, 2, 7, 8, 9, 10, 11, 40]) []) (
  (.cond (.t 40) (
    .skip) (
    .exit 0))))) (
  (.seq (
  (.block 1 (
  (.seq (
  (.seq (
  .reg none [
    ⟨some 43, .mv (.t 1), none, true⟩,
    ⟨some 44, .mv (.t 11), none, true⟩,
    ⟨some 45, .ias 12 (.t 43) (.t 44), none, true⟩,
    ⟨some 46, .load true 12 (.t 45), none, true⟩,
    ⟨some 47, .call 32 [.t 46], none, true⟩] (some [1, 2, 7, 8, 9, 10, 11, 47]) []) (
  (.cond (.t 47) (
    (.seq (
    .reg none [
      ⟨some 48, .mv (.t 7), none, true⟩,
      ⟨some 6, .as (.t 48), none, true⟩] (some [6]) []) (
    .ret))) (
    .skip))))) (
  (.seq (
  (.seq (
  .reg none [
    ⟨some 49, .mv (.t 11), none, true⟩,
    ⟨some 50, .mv (.t 2), none, true⟩,
    ⟨some 51, .len 0 (.t 50), none, true⟩,
    ⟨some 52, .bin .lss (.t 49) (.t 51), none, true⟩,
    ⟨some 53, .mv (.t 52), none, true⟩,
    ⟨some 54, .mv (.t 2), some (53, true), true⟩,
    ⟨some 55, .mv (.t 11), some (53, true), true⟩,
    ⟨some 56, .ias 2 (.t 54) (.t 55), some (53, true), true⟩,
    ⟨some 57, .iaa 2 1 (.t 56) (.c (.int .i64 0)), some (53, true), true⟩,
    ⟨some 58, .load false 1 (.t 57), some (53, true), true⟩,
    ⟨some 59, .bin .rem (.t 58) (.c (.int .u8 3)), some (53, true), true⟩,
    ⟨some 60, .bin .eql (.t 59) (.c (.int .u8 0)), some (53, true), true⟩,
    ⟨some 61, .pick (.t 53) (.t 60) (.c (.bool false)), none, true⟩] (some [1, 2, 7, 8, 9, 10, 11, 61]) []) (
  (.cond (.t 61) (
    (.seq (
    .reg none [
      ⟨some 62, .fad 0 (.t 8), none, true⟩,
      ⟨some 63, .fad 1 (.t 62), none, true⟩,
      ⟨none, .store 1 (.t 63) (.c (.int .i64 1)), none, true⟩] (some [1, 2, 7, 8, 9, 10, 11]) []) (
    .reg none [
      ⟨some 64, .mv (.t 2), none, true⟩,
      ⟨some 65, .mv (.t 11), none, true⟩,
      ⟨some 66, .ias 2 (.t 64) (.t 65), none, true⟩,
      ⟨some 67, .iaa 2 1 (.t 66) (.c (.int .i64 1)), none, true⟩,
      ⟨some 68, .load false 1 (.t 67), none, true⟩,
      ⟨some 69, .conv .i64 (.t 68), none, true⟩,
      ⟨some 70, .bin .rem (.t 69) (.c (.int .i64 65)), none, true⟩,
      ⟨some 71, .fad 0 (.t 8), none, true⟩,
      ⟨some 72, .fad 2 (.t 71), none, true⟩,
      ⟨none, .store 1 (.t 72) (.t 70), none, true⟩] (some [1, 2, 7, 8, 9, 10, 11]) []))) (
    .skip))))) (
  (.seq (
  .reg none [
    ⟨some 73, .mv (.t 1), none, true⟩,
    ⟨some 74, .mv (.t 11), none, true⟩,
    ⟨some 75, .ias 12 (.t 73) (.t 74), none, true⟩,
    ⟨some 76, .load true 12 (.t 75), none, true⟩,
    ⟨some 12, .alloc [.int .i64 0, .int .i64 0, .int .i64 0, .int .i64 0, .int .i64 0, .int .i64 0, .int .i64 0, .int .i64 0, .int .i64 0, .int .i64 0, .nils 1, .int .i64 0], none, true⟩,
    ⟨none, .store 12 (.t 12) (.t 76), none, true⟩] (some [1, 2, 7, 8, 9, 10, 11, 12]) []) (
  (.seq (
  .reg none [
    ⟨some 77, .fad 4 (.t 8), none, true⟩,
    ⟨some 78, .load false 1 (.t 77), none, true⟩,
    ⟨some 79, .fad 0 (.t 12), none, true⟩,
    ⟨none, .store 1 (.t 79) (.t 78), none, true⟩] (some [1, 2, 7, 8, 9, 10, 11, 12]) []) (
  (.seq (
  .reg (some [.dr [84, 85, 13] [], .dr [81, 13] [], .dr [81, 13] [], .dr [81, 13] [], .dr [81, 13] [], .dr [13] [], .dr [13] [], .dr [13] [], .dr [13] [], .dr [81, 84, 85, 86] [], .dr [] [13], .free]) [
    ⟨some 81, .load true 6 (.t 8), none, true⟩,
    ⟨some 82, .mv (.t 1), none, true⟩,
    ⟨some 83, .mv (.t 11), none, true⟩,
    ⟨some 84, .ias 12 (.t 82) (.t 83), none, true⟩,
    ⟨some 85, .load true 12 (.t 84), none, true⟩,
    ⟨some 86, .call 40 [.t 81, .t 85], none, true⟩,
    ⟨some 80, .mv (.t 86), none, true⟩,
    ⟨some 87, .ext (.t 80) 0, none, true⟩,
    ⟨some 88, .ext (.t 80) 1, none, true⟩,
    ⟨some 13, .alloc [.nils 1, .int .i64 0, .int .i64 0, .bool false, .int .i64 0, .int .i64 0], none, true⟩,
    ⟨none, .store 6 (.t 13) (.t 87), none, true⟩,
    ⟨some 14, .as (.t 88), none, true⟩] (some [1, 2, 7, 8, 9, 10, 11, 12, 13, 14]) []) (
  (.seq (
  (.seq (
  .reg none [
    ⟨some 89, .mv (.t 14), none, true⟩,
    ⟨some 90, .bin .eql (.t 89) (.c (.int .i64 0)), none, true⟩] (some [1, 2, 7, 8, 9, 10, 11, 12, 13, 14, 90]) []) (
  (.cond (.t 90) (
    .reg none [
      ⟨some 91, .fad 0 (.t 12), none, true⟩,
      ⟨some 92, .load false 1 (.t 91), none, true⟩,
      ⟨some 10, .as (.t 92), none, true⟩] (some [1, 2, 7, 8, 9, 10, 11, 12, 13, 14]) []) (
    .skip))))) (
  (.seq (
  (.seq (
  .reg none [
    ⟨some 93, .mv (.t 14), none, true⟩,
    ⟨some 94, .bin .neq (.t 93) (.c (.int .i64 1)), none, true⟩] (some [1, 2, 7, 8, 9, 10, 11, 12, 13, 14, 94]) []) (
  (.cond (.t 94) (
    .reg none [
      ⟨some 95, .mv (.t 9), none, true⟩,
      ⟨some 96, .load true 12 (.t 12), none, true⟩,
      ⟨some 97, .bsl 12 1 [.int .i64 0, .int .i64 0, .int .i64 0, .int .i64 0, .int .i64 0, .int .i64 0, .int .i64 0, .int .i64 0, .int .i64 0, .int .i64 0, .nils 1, .int .i64 0] [(0, .t 96)], none, true⟩,
      ⟨some 98, .app 12 (.t 95) (.t 97), none, true⟩,
      ⟨some 9, .as (.t 98), none, true⟩] (some [1, 2, 7, 8, 9, 10, 11, 13, 14]) [12]) (
    .skip))))) (
  (.seq (
  .reg none [
    ⟨some 99, .load true 6 (.t 13), none, true⟩,
    ⟨none, .store 6 (.t 8) (.t 99), none, true⟩] (some [1, 2, 7, 8, 9, 10, 11, 13, 14]) []) (
  (.seq (
  (.seq (
  .reg none [
    ⟨some 100, .mv (.t 14), none, true⟩,
    ⟨some 101, .bin .neq (.t 100) (.c (.int .i64 300)), none, true⟩] (some [1, 2, 7, 8, 9, 10, 11, 13, 101]) []) (
  (.cond (.t 101) (
    .exit 1) (
    .skip))))) (
  (.seq (
  .reg none [
    ⟨some 103, .fad 0 (.t 13), none, true⟩,
    ⟨some 104, .load true 4 (.t 103), none, true⟩,
    ⟨some 105, .call 30 [.t 104], none, true⟩,
    ⟨some 106, .call 42 [.t 105], none, true⟩,
    ⟨some 102, .mv (.t 106), none, true⟩,
    ⟨some 107, .ext (.t 102) 0, none, true⟩,
    ⟨some 108, .ext (.t 102) 1, none, true⟩,
    ⟨some 109, .ext (.t 102) 2, none, true⟩,
    ⟨some 15, .alloc [.nils 1, .int .i64 0, .int .i64 0, .bool false, .int .i64 0, .int .i64 0], none, true⟩,
    ⟨some 16, .alloc [.int .i64 0, .int .i64 0, .int .i64 0, .int .i64 0, .int .i64 0, .int .i64 0, .int .i64 0, .int .i64 0, .int .i64 0, .int .i64 0, .nils 1, .int .i64 0], none, true⟩,
    ⟨none, .store 6 (.t 15) (.t 107), none, true⟩,
    ⟨none, .store 12 (.t 16) (.t 108), none, true⟩,
    ⟨some 17, .as (.t 109), none, true⟩] (some [1, 2, 7, 8, 9, 10, 11, 15, 16, 17]) [13]) (
  (.seq (
  .reg none [
    ⟨some 110, .mv (.t 17), none, true⟩,
    ⟨some 111, .un .not (.t 110), none, true⟩,
    ⟨some 112, .mv (.t 111), none, true⟩,
    ⟨some 113, .mv (.t 10), some (112, true), true⟩,
    ⟨some 114, .bin .eql (.t 113) (.c (.int .i64 0)), some (112, true), true⟩,
    ⟨some 115, .pick (.t 112) (.t 114) (.c (.bool false)), none, true⟩,
    ⟨some 18, .as (.t 115), none, true⟩] (some [1, 2, 7, 8, 9, 10, 11, 15, 16, 17, 18]) []) (
  (.seq (
  (.seq (
  .reg none [
    ⟨some 19, .as (.c (.int .i64 0)), none, true⟩] (some [1, 2, 7, 8, 9, 10, 11, 15, 16, 17, 18, 19]) []) (
  (.block 2 (
  A13_L0) (some [1, 2, 7, 8, 9, 10, 11, 15, 16, 18]) [19])))) (
  (.seq (
  (.seq (
  .reg none [
    ⟨some 134, .mv (.t 18), none, true⟩,
    ⟨some 135, .un .not (.t 134), none, true⟩,
    ⟨some 136, .mv (.t 135), none, true⟩,
    ⟨some 137, .fad 0 (.t 16), some (136, false), true⟩,
    ⟨some 138, .load false 1 (.t 137), some (136, false), true⟩,
    ⟨some 139, .mv (.t 10), some (136, false), true⟩,
    ⟨some 140, .bin .lss (.t 138) (.t 139), some (136, false), true⟩,
    ⟨some 141, .pick (.t 136) (.c (.bool true)) (.t 140), none, true⟩,
    ⟨some 142, .mv (.t 141), none, true⟩,
    ⟨some 143, .fad 4 (.t 15), some (142, false), true⟩,
    ⟨some 144, .load false 1 (.t 143), some (142, false), true⟩,
    ⟨some 145, .fad 0 (.t 16), some (142, false), true⟩,
    ⟨some 146, .load false 1 (.t 145), some (142, false), true⟩,
    ⟨some 147, .bin .add (.t 146) (.c (.int .i64 1)), some (142, false), true⟩,
    ⟨some 148, .bin .neq (.t 144) (.t 147), some (142, false), true⟩,
    ⟨some 149, .pick (.t 142) (.c (.bool true)) (.t 148), none, true⟩,
    ⟨some 150, .mv (.t 149), none, true⟩,
    ⟨some 151, .fad 5 (.t 15), some (150, false), true⟩,
    ⟨some 152, .load false 1 (.t 151), some (150, false), true⟩,
    ⟨some 153, .bin .lss (.t 152) (.c (.int .i64 0)), some (150, false), true⟩,
    ⟨some 154, .pick (.t 150) (.c (.bool true)) (.t 153), none, true⟩,
    ⟨some 155, .mv (.t 154), none, true⟩,
    ⟨some 156, .fad 5 (.t 15), some (155, false), true⟩,
    ⟨some 157, .load false 1 (.t 156), some (155, false), true⟩,
    ⟨some 158, .fad 0 (.t 8), some (155, false), true⟩,
    ⟨some 159, .fad 0 (.t 158), some (155, false), true⟩,
    ⟨some 160, .load false 1 (.t 159), some (155, false), true⟩,
    ⟨some 161, .len 0 (.t 160), some (155, false), true⟩,
    ⟨some 162, .bin .geq (.t 157) (.t 161), some (155, false), true⟩,
    ⟨some 163, .pick (.t 155) (.c (.bool true)) (.t 162), none, true⟩] (some [1, 2, 7, 8, 9, 11, 15, 16, 163]) []) (
  (.cond (.t 163) (
    (.seq (
    .reg none [
      ⟨some 6, .as (.c (.bool false)), none, true⟩] (some [6]) []) (
    .ret))) (
    .skip))))) (
  (.seq (
  .reg none [
    ⟨some 164, .fad 0 (.t 16), none, true⟩,
    ⟨some 165, .load false 1 (.t 164), none, true⟩,
    ⟨some 10, .as (.t 165), none, true⟩] (some [1, 2, 7, 8, 9, 10, 11, 15]) [16]) (
  .reg none [
    ⟨some 166, .load true 6 (.t 15), none, true⟩,
    ⟨none, .store 6 (.t 8) (.t 166), none, true⟩] (some [1, 2, 7, 8, 9, 10, 11]) [15]))))))))))))))))))))))))))))) (some [1, 2, 7, 8, 9, 10, 11]) [6, 12, 13, 14, 15, 16, 17, 18, 19, 47, 86, 97, 105, 106, 131])) (
  .reg none [
    ⟨some 41, .mv (.t 11), none, true⟩,
    ⟨some 42, .bin .add (.t 41) (.c (.int .i64 1)), none, true⟩,
    ⟨some 11, .as (.t 42), none, true⟩] (some [1, 2, 7, 8, 9, 10, 11]) []))))
def A13_L1 : ACode := .loop A13_L1b (some [1, 2, 7, 8, 9, 10, 11]) [6, 12, 13, 14, 15, 16, 17, 18, 19, 47, 86, 97, 105, 106, 131]
/-- ambidexter/ambidexterlaw31.JournalSurvivesRepeatedCrashes -/
def A13 : AFn := .code [.t 6] (
(.seq (
.reg none [
  ⟨some 6, .as (.c (.bool false)), none, true⟩] (some [0, 1, 2]) []) (
(.seq (
.reg none [
  ⟨some 20, .call 31 [], none, true⟩,
  ⟨some 7, .as (.t 20), none, true⟩] (some [0, 1, 2, 7]) []) (
(.seq (
(.seq (
.reg none [
  ⟨some 21, .mv (.t 1), none, true⟩,
  ⟨some 22, .len 0 (.t 21), none, true⟩,
  ⟨some 23, .bin .gtr (.t 22) (.c (.int .i64 100)), none, true⟩,
  ⟨some 24, .mv (.t 23), none, true⟩,
  ⟨some 25, .mv (.t 2), some (24, false), true⟩,
  ⟨some 26, .len 0 (.t 25), some (24, false), true⟩,
  ⟨some 27, .bin .gtr (.t 26) (.c (.int .i64 100)), some (24, false), true⟩,
  ⟨some 28, .pick (.t 24) (.c (.bool true)) (.t 27), none, true⟩] (some [0, 1, 2, 7, 28]) []) (
(.cond (.t 28) (
  (.seq (
  .reg none [
    ⟨some 29, .mv (.t 7), none, true⟩,
    ⟨some 6, .as (.t 29), none, true⟩] (some [6]) []) (
  .ret))) (
  .skip))))) (
(.seq (
.reg none [
  ⟨some 30, .mv (.t 0), none, true⟩,
  ⟨some 31, .conv .i64 (.t 30), none, true⟩,
  ⟨some 32, .bin .rem (.t 31) (.c (.int .i64 7)), none, true⟩,
  ⟨some 33, .bin .add (.c (.int .i64 2)) (.t 32), none, true⟩,
  ⟨some 34, .call 39 [.t 33], none, true⟩,
  ⟨some 35, .call 38 [.t 34], none, true⟩,
  ⟨some 8, .alloc [.nils 1, .int .i64 0, .int .i64 0, .bool false, .int .i64 0, .int .i64 0], none, true⟩,
  ⟨none, .store 6 (.t 8) (.t 35), none, true⟩] (some [1, 2, 7, 8]) [1002049]) (
(.seq (
.reg none [
  ⟨some 36, .bsl 12 0 [.int .i64 0, .int .i64 0, .int .i64 0, .int .i64 0, .int .i64 0, .int .i64 0, .int .i64 0, .int .i64 0, .int .i64 0, .int .i64 0, .nils 1, .int .i64 0] [], none, true⟩,
  ⟨some 9, .as (.t 36), none, true⟩] (some [1, 2, 7, 8, 9]) []) (
(.seq (
.reg none [
  ⟨some 10, .as (.c (.int .i64 0)), none, true⟩] (some [1, 2, 7, 8, 9, 10]) []) (
(.seq (
(.seq (
.reg none [
  ⟨some 11, .as (.c (.int .i64 0)), none, true⟩] (some [1, 2, 7, 8, 9, 10, 11]) []) (
(.block 0 (
A13_L1) (some [7]) [6, 9, 10, 11, 12, 13, 14, 15, 16, 17, 18, 19, 47, 86, 97, 98, 105, 106, 131])))) (
(.seq (
.reg none [
  ⟨some 167, .mv (.t 7), none, true⟩,
  ⟨some 6, .as (.t 167), none, true⟩] (some [6]) []) (
.ret)))))))))))))))))
def A17_L0b : ACode := 
  (.seq (
  .reg none [
    ⟨some 20, .bin .lss (.t 19) (.t 18), none, true⟩] (some [2, 4, 18, 19, 20]) []) (
  (.seq (
  (.cond (.t 20) (
    .skip) (
    .exit 0))) (
  (.seq (
  (.block 1 (
  (.seq (
  .reg none [
    ⟨some 21, .mv (.t 19), none, true⟩,
    ⟨some 5, .as (.t 21), none, true⟩] (some [2, 4, 5, 18, 19]) []) (
  .reg (some [.dr [25] [], .dr [25] [], .dr [23, 25] [], .dr [23] [], .free, .free]) [
    ⟨some 22, .fad 0 (.t 4), none, true⟩,
    ⟨some 23, .load false 1 (.t 22), none, true⟩,
    ⟨some 24, .mv (.t 5), none, true⟩,
    ⟨some 25, .mks 1 [.int .u8 0] (.c (.int .i64 64)) (.c (.int .i64 64)), none, true⟩,
    ⟨some 26, .ias 1 (.t 23) (.t 24), none, true⟩,
    ⟨none, .store 1 (.t 26) (.t 25), none, true⟩] (some [2, 4, 18, 19]) []))) (some [2, 4, 18, 19]) [5, 25])) (
  .reg none [
    ⟨some 27, .bin .add (.t 19) (.c (.int .i64 1)), none, true⟩,
    ⟨some 19, .mv (.t 27), none, true⟩] (some [2, 4, 18, 19]) []))))))
def A17_L0 : ACode := .loop A17_L0b (some [2, 4, 18, 19]) [5, 25]
/-- ambidexter/disk.New -/
def A17 : AFn := .code [.cell true 4 2, .t 3] (
(.seq (
.reg none [
  ⟨some 2, .alloc [.nils 1, .int .i64 0, .int .i64 0, .bool false], none, true⟩,
  ⟨some 3, .as (.c (.int .i64 0)), none, true⟩] (some [0, 2]) []) (
(.seq (
(.seq (
.reg none [
  ⟨some 6, .mv (.t 0), none, true⟩,
  ⟨some 7, .bin .lss (.t 6) (.c (.int .i64 1)), none, true⟩,
  ⟨some 8, .mv (.t 7), none, true⟩,
  ⟨some 9, .mv (.t 0), some (8, false), true⟩,
  ⟨some 10, .bin .gtr (.t 9) (.c (.int .i64 64)), some (8, false), true⟩,
  ⟨some 11, .pick (.t 8) (.c (.bool true)) (.t 10), none, true⟩] (some [0, 2, 11]) []) (
(.cond (.t 11) (
  (.seq (
  .reg none [
    ⟨some 12, .build [.nils 1, .int .i64 0, .int .i64 0, .bool false] [], none, true⟩,
    ⟨none, .store 4 (.t 2) (.t 12), none, true⟩,
    ⟨some 3, .as (.c (.int .i64 1)), none, true⟩] (some [2, 3]) []) (
  .ret))) (
  .skip))))) (
(.seq (
.reg none [
  ⟨some 13, .mv (.t 0), none, true⟩,
  ⟨some 14, .mks 1 [.nils 1] (.t 13) (.t 13), none, true⟩,
  ⟨some 15, .build [.nils 1, .int .i64 0, .int .i64 0, .bool false] [(1, 1, .c (.int .i64 (-1))), (0, 1, .t 14)], none, true⟩,
  ⟨some 4, .alloc [.nils 1, .int .i64 0, .int .i64 0, .bool false], none, true⟩,
  ⟨none, .store 4 (.t 4) (.t 15), none, true⟩] (some [2, 4]) []) (
(.seq (
(.seq (
.reg none [
  ⟨some 16, .fad 0 (.t 4), none, true⟩,
  ⟨some 17, .load false 1 (.t 16), none, true⟩,
  ⟨some 18, .len 0 (.t 17), none, true⟩,
  ⟨some 19, .mv (.c (.int .i64 0)), none, true⟩] (some [2, 4, 18, 19]) []) (
(.block 0 (
A17_L0) (some [2, 4]) [5, 25])))) (
(.seq (
.reg none [
  ⟨some 28, .load true 4 (.t 4), none, true⟩,
  ⟨none, .store 4 (.t 2) (.t 28), none, true⟩,
  ⟨some 3, .as (.c (.int .i64 0)), none, true⟩] (some [2, 3]) [4]) (
.ret)))))))))))
/-- ambidexter/disk.Read -/
def A25 : AFn := .code [.t 4, .t 5] (
(.seq (
.reg none [
  ⟨some 2, .box (.t 0), none, true⟩,
  ⟨some 4, .as (.c (.nils 1)), none, true⟩,
  ⟨some 5, .as (.c (.int .i64 0)), none, true⟩] (some [1, 2]) []) (
(.seq (
(.block 0 (
(.seq (
.reg none [
  ⟨some 7, .fad 3 (.t 2), none, true⟩,
  ⟨some 8, .load false 1 (.t 7), none, true⟩,
  ⟨some 6, .as (.t 8), none, true⟩] (some [1, 2, 6]) []) (
(.cond (.t 6) (
  (.seq (
  .reg none [
    ⟨some 4, .as (.c (.nils 1)), none, true⟩,
    ⟨some 5, .as (.c (.int .i64 300)), none, true⟩] (some [4, 5]) []) (
  .ret))) (
  (.seq (
  .reg none [
    ⟨some 10, .load true 4 (.t 2), none, true⟩,
    ⟨some 11, .mv (.t 1), none, true⟩,
    ⟨some 12, .call 53 [.t 10, .t 11], none, true⟩,
    ⟨some 13, .un .not (.t 12), none, true⟩,
    ⟨some 9, .as (.t 13), none, true⟩] (some [1, 2, 9]) []) (
  (.cond (.t 9) (
    (.seq (
    .reg none [
      ⟨some 4, .as (.c (.nils 1)), none, true⟩,
      ⟨some 5, .as (.c (.int .i64 1)), none, true⟩] (some [4, 5]) []) (
    .ret))) (
    .skip))))))))) (some [1, 2]) [4, 5, 6, 9, 12])) (
(.seq (
.reg none [
  ⟨some 14, .fad 0 (.t 2), none, true⟩,
  ⟨some 15, .load false 1 (.t 14), none, true⟩,
  ⟨some 16, .mv (.t 1), none, true⟩,
  ⟨some 17, .ias 1 (.t 15) (.t 16), none, true⟩,
  ⟨some 18, .load false 1 (.t 17), none, true⟩,
  ⟨some 4, .as (.t 18), none, true⟩,
  ⟨some 5, .as (.c (.int .i64 0)), none, true⟩] (some [4, 5]) [2]) (
.ret)))))))
/-- ambidexter/disk.Write -/
def A29 : AFn := .code [.cell true 4 6, .t 7] (
(.seq (
.reg none [
  ⟨some 3, .box (.t 0), none, true⟩,
  ⟨some 4, .box (.t 1), none, true⟩,
  ⟨some 5, .box (.t 2), none, true⟩,
  ⟨some 6, .alloc [.nils 1, .int .i64 0, .int .i64 0, .bool false], none, true⟩,
  ⟨some 7, .as (.c (.int .i64 0)), none, true⟩] (some [3, 4, 5, 6]) []) (
(.seq (
.reg none [
  ⟨some 13, .mkf (.func 54) [] [.t 3], none, true⟩,
  ⟨some 8, .as (.t 13), none, true⟩] (some [3, 4, 5, 6, 8]) []) (
(.seq (
.reg none [
  ⟨some 14, .mkf (.func 55) [] [.t 3, .t 4, .t 5], none, true⟩,
  ⟨some 9, .as (.t 14), none, true⟩] (some [3, 4, 5, 6, 8, 9]) []) (
(.seq (
(.seq (
.reg none [
  ⟨some 15, .mv (.t 8), none, true⟩,
  ⟨some 16, .mv (.t 9), none, true⟩,
  ⟨some 17, .bsl 1 2 [.nilf] [(0, .t 15), (1, .t 16)], none, true⟩,
  ⟨some 18, .call 56 [.t 17], none, true⟩,
  ⟨some 10, .as (.t 18), none, true⟩] (some [3, 4, 5, 6, 10]) []) (
(.seq (
.reg none [
  ⟨some 19, .mv (.t 10), none, true⟩,
  ⟨some 20, .bin .neq (.t 19) (.c (.int .i64 0)), none, true⟩] (some [3, 4, 5, 6, 10, 20]) []) (
(.cond (.t 20) (
  (.seq (
  .reg none [
    ⟨some 21, .load true 4 (.t 3), none, true⟩,
    ⟨some 22, .mv (.t 10), none, true⟩,
    ⟨none, .store 4 (.t 6) (.t 21), none, true⟩,
    ⟨some 7, .as (.t 22), none, true⟩] (some [6, 7]) []) (
  .ret))) (
  .skip))))))) (
(.seq (
.reg none [
  ⟨some 23, .fad 1 (.t 3), none, true⟩,
  ⟨some 24, .load false 1 (.t 23), none, true⟩,
  ⟨some 25, .bin .eql (.t 24) (.c (.int .i64 1)), none, true⟩,
  ⟨some 11, .as (.t 25), none, true⟩] (some [3, 4, 5, 6, 11]) []) (
(.seq (
(.seq (
.reg none [
  ⟨some 26, .mv (.t 11), none, true⟩] (some [3, 4, 5, 6, 11, 26]) []) (
(.cond (.t 26) (
  .reg none [
    ⟨some 27, .load false 1 (.t 5), none, true⟩,
    ⟨some 28, .fad 2 (.t 3), none, true⟩,
    ⟨some 29, .load false 1 (.t 28), none, true⟩,
    ⟨some 30, .load false 1 (.t 5), none, true⟩,
    ⟨some 31, .len 0 (.t 30), none, true⟩,
    ⟨some 32, .mn [.t 29, .t 31], none, true⟩,
    ⟨some 33, .sls 1 (.t 27) none (some (.t 32)), none, true⟩,
    ⟨none, .store 1 (.t 5) (.t 33), none, true⟩] (some [3, 4, 5, 6, 11]) []) (
  .skip))))) (
(.seq (
.reg none [
  ⟨some 34, .fad 0 (.t 3), none, true⟩,
  ⟨some 35, .load false 1 (.t 34), none, true⟩,
  ⟨some 36, .load false 1 (.t 4), none, true⟩,
  ⟨some 37, .ias 1 (.t 35) (.t 36), none, true⟩,
  ⟨some 38, .load false 1 (.t 37), none, true⟩,
  ⟨some 39, .call 57 [.t 38], none, true⟩,
  ⟨some 12, .as (.t 39), none, true⟩] (some [3, 4, 5, 6, 11, 12]) []) (
(.seq (
.reg none [
  ⟨some 40, .mv (.t 12), none, true⟩,
  ⟨some 41, .load false 1 (.t 5), none, true⟩,
  ⟨some 42, .cpy 1 (.t 40) (.t 41), none, true⟩] (some [3, 4, 6, 11, 12]) []) (
(.seq (
.reg none [
  ⟨some 43, .fad 0 (.t 3), none, true⟩,
  ⟨some 44, .load false 1 (.t 43), none, true⟩,
  ⟨some 45, .load false 1 (.t 4), none, true⟩,
  ⟨some 46, .mv (.t 12), none, true⟩,
  ⟨some 47, .call 58 [.t 44, .t 45, .t 46], none, true⟩,
  ⟨some 48, .fad 0 (.t 3), none, true⟩,
  ⟨none, .store 1 (.t 48) (.t 47), none, true⟩] (some [3, 6, 11]) []) (
(.seq (
(.block 0 (
(.seq (
.reg none [
  ⟨some 50, .mv (.t 11), none, true⟩,
  ⟨some 49, .as (.t 50), none, true⟩] (some [3, 6, 49]) []) (
(.cond (.t 49) (
  (.seq (
  .reg none [
    ⟨some 51, .fad 1 (.t 3), none, true⟩,
    ⟨none, .store 1 (.t 51) (.c (.int .i64 (-1))), none, true⟩,
    ⟨some 52, .fad 2 (.t 3), none, true⟩,
    ⟨none, .store 1 (.t 52) (.c (.int .i64 0)), none, true⟩,
    ⟨some 53, .fad 3 (.t 3), none, true⟩,
    ⟨none, .store 1 (.t 53) (.c (.bool true)), none, true⟩] (some [3, 6]) []) (
  (.seq (
  .reg none [
    ⟨some 54, .load true 4 (.t 3), none, true⟩,
    ⟨none, .store 4 (.t 6) (.t 54), none, true⟩,
    ⟨some 7, .as (.c (.int .i64 300)), none, true⟩] (some [6, 7]) []) (
  .ret))))) (
  (.seq (
  .reg none [
    ⟨some 56, .fad 1 (.t 3), none, true⟩,
    ⟨some 57, .load false 1 (.t 56), none, true⟩,
    ⟨some 58, .bin .gtr (.t 57) (.c (.int .i64 1)), none, true⟩,
    ⟨some 55, .as (.t 58), none, true⟩] (some [3, 6, 55]) []) (
  (.cond (.t 55) (
    .reg none [
      ⟨some 59, .fad 1 (.t 3), none, true⟩,
      ⟨some 60, .load false 1 (.t 59), none, true⟩,
      ⟨some 61, .bin .sub (.t 60) (.c (.int .i64 1)), none, true⟩,
      ⟨some 62, .fad 1 (.t 3), none, true⟩,
      ⟨none, .store 1 (.t 62) (.t 61), none, true⟩] (some [3, 6]) []) (
    .skip))))))))) (some [3, 6]) [7, 49, 55])) (
(.seq (
.reg none [
  ⟨some 63, .load true 4 (.t 3), none, true⟩,
  ⟨none, .store 4 (.t 6) (.t 63), none, true⟩,
  ⟨some 7, .as (.c (.int .i64 0)), none, true⟩] (some [6, 7]) []) (
.ret)))))))))))))))))))))))
/-- ambidexter/disk.PowerOn -/
def A30 : AFn := .code [.cell true 4 2] (
(.seq (
.reg none [
  ⟨some 1, .box (.t 0), none, true⟩,
  ⟨some 2, .alloc [.nils 1, .int .i64 0, .int .i64 0, .bool false], none, true⟩] (some [1, 2]) []) (
(.seq (
.reg none [
  ⟨some 3, .fad 3 (.t 1), none, true⟩,
  ⟨none, .store 1 (.t 3) (.c (.bool false)), none, true⟩] (some [1, 2]) []) (
(.seq (
.reg none [
  ⟨some 4, .load true 4 (.t 1), none, true⟩,
  ⟨none, .store 4 (.t 2) (.t 4), none, true⟩] (some [2]) [1]) (
.ret)))))))
/-- ambidexter/ambidexterlaw31.head -/
def A31 : AFn := .code [.t 0] (
(.seq (
.reg none [
  ⟨some 0, .as (.c (.bool false)), none, true⟩] (some []) []) (
(.seq (
.reg none [
  ⟨some 22, .call 17 [.c (.int .i64 2)], none, true⟩,
  ⟨some 21, .mv (.t 22), none, true⟩,
  ⟨some 23, .ext (.t 21) 0, none, true⟩,
  ⟨some 24, .ext (.t 21) 1, none, true⟩,
  ⟨some 1, .alloc [.nils 1, .int .i64 0, .int .i64 0, .bool false], none, true⟩,
  ⟨none, .store 4 (.t 1) (.t 23), none, true⟩,
  ⟨some 2, .as (.t 24), none, true⟩] (some [1, 2]) []) (
(.seq (
.reg none [
  ⟨some 26, .load true 4 (.t 1), none, true⟩,
  ⟨some 27, .call 38 [.t 26], none, true⟩,
  ⟨some 28, .call 59 [.c (.int .i64 5)], none, true⟩,
  ⟨some 29, .call 40 [.t 27, .t 28], none, true⟩,
  ⟨some 25, .mv (.t 29), none, true⟩,
  ⟨some 30, .ext (.t 25) 0, none, true⟩,
  ⟨some 31, .ext (.t 25) 1, none, true⟩,
  ⟨some 3, .alloc [.nils 1, .int .i64 0, .int .i64 0, .bool false, .int .i64 0, .int .i64 0], none, true⟩,
  ⟨none, .store 6 (.t 3) (.t 30), none, true⟩,
  ⟨some 4, .as (.t 31), none, true⟩] (some [1, 2, 3, 4]) []) (
(.seq (
.reg none [
  ⟨some 32, .fad 0 (.t 3), none, true⟩,
  ⟨some 33, .fad 1 (.t 32), none, true⟩,
  ⟨none, .store 1 (.t 33) (.c (.int .i64 1)), none, true⟩,
  ⟨some 34, .fad 0 (.t 3), none, true⟩,
  ⟨some 35, .fad 2 (.t 34), none, true⟩,
  ⟨none, .store 1 (.t 35) (.c (.int .i64 30)), none, true⟩] (some [1, 2, 3, 4]) []) (
(.seq (
.reg (some [.dr [38, 5] [], .dr [37, 5] [], .dr [5] [], .dr [5] [], .dr [5] [], .dr [5] [], .dr [37, 38, 39] [], .dr [] [5], .free]) [
  ⟨some 37, .load true 6 (.t 3), none, true⟩,
  ⟨some 38, .call 59 [.c (.int .i64 6)], none, true⟩,
  ⟨some 39, .call 40 [.t 37, .t 38], none, true⟩,
  ⟨some 36, .mv (.t 39), none, true⟩,
  ⟨some 40, .ext (.t 36) 0, none, true⟩,
  ⟨some 41, .ext (.t 36) 1, none, true⟩,
  ⟨some 5, .alloc [.nils 1, .int .i64 0, .int .i64 0, .bool false, .int .i64 0, .int .i64 0], none, true⟩,
  ⟨none, .store 6 (.t 5) (.t 40), none, true⟩,
  ⟨some 6, .as (.t 41), none, true⟩] (some [1, 2, 3, 4, 5, 6]) []) (
(.seq (
.reg none [
  ⟨some 43, .fad 0 (.t 5), none, true⟩,
  ⟨some 44, .load true 4 (.t 43), none, true⟩,
  ⟨some 45, .call 30 [.t 44], none, true⟩,
  ⟨some 46, .call 42 [.t 45], none, true⟩,
  ⟨some 42, .mv (.t 46), none, true⟩,
  ⟨some 47, .ext (.t 42) 0, none, true⟩,
  ⟨some 48, .ext (.t 42) 1, none, true⟩,
  ⟨some 49, .ext (.t 42) 2, none, true⟩,
  ⟨some 7, .alloc [.nils 1, .int .i64 0, .int .i64 0, .bool false, .int .i64 0, .int .i64 0], none, true⟩,
  ⟨some 8, .alloc [.int .i64 0, .int .i64 0, .int .i64 0, .int .i64 0, .int .i64 0, .int .i64 0, .int .i64 0, .int .i64 0, .int .i64 0, .int .i64 0, .nils 1, .int .i64 0], none, true⟩,
  ⟨none, .store 6 (.t 7) (.t 47), none, true⟩,
  ⟨none, .store 12 (.t 8) (.t 48), none, true⟩,
  ⟨some 9, .as (.t 49), none, true⟩] (some [1, 2, 3, 4, 6, 7, 8, 9]) [5]) (
(.seq (
.reg none [
  ⟨some 51, .load true 4 (.t 1), none, true⟩,
  ⟨some 52, .call 42 [.t 51], none, true⟩,
  ⟨some 50, .mv (.t 52), none, true⟩,
  ⟨some 53, .ext (.t 50) 0, none, true⟩,
  ⟨some 54, .ext (.t 50) 1, none, true⟩,
  ⟨some 55, .ext (.t 50) 2, none, true⟩,
  ⟨some 10, .alloc [.nils 1, .int .i64 0, .int .i64 0, .bool false, .int .i64 0, .int .i64 0], none, true⟩,
  ⟨some 11, .alloc [.int .i64 0, .int .i64 0, .int .i64 0, .int .i64 0, .int .i64 0, .int .i64 0, .int .i64 0, .int .i64 0, .int .i64 0, .int .i64 0, .nils 1, .int .i64 0], none, true⟩,
  ⟨none, .store 6 (.t 10) (.t 53), none, true⟩,
  ⟨none, .store 12 (.t 11) (.t 54), none, true⟩,
  ⟨some 12, .as (.t 55), none, true⟩] (some [2, 3, 4, 6, 7, 8, 9, 11, 12]) [1, 10]) (
(.seq (
.reg none [
  ⟨some 56, .call 59 [.c (.int .i64 5)], none, true⟩,
  ⟨some 57, .call 35 [.t 56], none, true⟩,
  ⟨some 13, .as (.t 57), none, true⟩] (some [2, 3, 4, 6, 7, 8, 9, 11, 12, 13]) []) (
(.seq (
.reg none [
  ⟨some 59, .mv (.t 13), none, true⟩,
  ⟨some 60, .call 33 [.t 59], none, true⟩,
  ⟨some 58, .mv (.t 60), none, true⟩,
  ⟨some 61, .ext (.t 58) 0, none, true⟩,
  ⟨some 62, .ext (.t 58) 1, none, true⟩,
  ⟨some 14, .alloc [.int .i64 0, .int .i64 0, .int .i64 0, .int .i64 0, .int .i64 0, .int .i64 0, .int .i64 0, .int .i64 0, .int .i64 0, .int .i64 0, .nils 1, .int .i64 0], none, true⟩,
  ⟨none, .store 12 (.t 14) (.t 61), none, true⟩,
  ⟨some 15, .as (.t 62), none, true⟩] (some [2, 3, 4, 6, 7, 8, 9, 11, 12, 13, 14, 15]) []) (
(.seq (
.reg none [
  ⟨some 64, .call 33 [.c (.nul)], none, true⟩,
  ⟨some 63, .mv (.t 64), none, true⟩,
  ⟨some 65, .ext (.t 63) 0, none, true⟩,
  ⟨some 66, .ext (.t 63) 1, none, true⟩,
  ⟨some 16, .alloc [.int .i64 0, .int .i64 0, .int .i64 0, .int .i64 0, .int .i64 0, .int .i64 0, .int .i64 0, .int .i64 0, .int .i64 0, .int .i64 0, .nils 1, .int .i64 0], none, true⟩,
  ⟨none, .store 12 (.t 16) (.t 65), none, true⟩,
  ⟨some 17, .as (.t 66), none, true⟩] (some [2, 3, 4, 6, 7, 8, 9, 11, 12, 13, 14, 15, 17]) [16]) (
(.seq (
.reg none [
  ⟨some 67, .call 59 [.c (.int .i64 5)], none, true⟩,
  ⟨some 18, .alloc [.int .i64 0, .int .i64 0, .int .i64 0, .int .i64 0, .int .i64 0, .int .i64 0, .int .i64 0, .int .i64 0, .int .i64 0, .int .i64 0, .nils 1, .int .i64 0], none, true⟩,
  ⟨none, .store 12 (.t 18) (.t 67), none, true⟩] (some [2, 3, 4, 6, 7, 8, 9, 11, 12, 13, 14, 15, 17, 18]) []) (
(.seq (
.reg none [
  ⟨some 68, .fad 11 (.t 18), none, true⟩,
  ⟨none, .store 1 (.t 68) (.c (.int .i64 6)), none, true⟩] (some [2, 3, 4, 6, 7, 8, 9, 11, 12, 13, 14, 15, 17, 18]) []) (
(.seq (
.reg none [
  ⟨some 70, .load true 6 (.t 3), none, true⟩,
  ⟨some 71, .load true 12 (.t 18), none, true⟩,
  ⟨some 72, .call 40 [.t 70, .t 71], none, true⟩,
  ⟨some 69, .mv (.t 72), none, true⟩,
  ⟨some 73, .ext (.t 69) 0, none, true⟩,
  ⟨some 74, .ext (.t 69) 1, none, true⟩,
  ⟨some 19, .alloc [.nils 1, .int .i64 0, .int .i64 0, .bool false, .int .i64 0, .int .i64 0], none, true⟩,
  ⟨none, .store 6 (.t 19) (.t 73), none, true⟩,
  ⟨some 20, .as (.t 74), none, true⟩] (some [2, 4, 6, 7, 8, 9, 11, 12, 13, 14, 15, 17, 20]) [3, 18, 19]) (
(.seq (
(.seq (
.reg none [
  ⟨some 75, .mv (.t 13), none, true⟩,
  ⟨some 76, .len 0 (.t 75), none, true⟩,
  ⟨some 77, .bin .neq (.t 76) (.c (.int .i64 64)), none, true⟩] (some [2, 4, 6, 7, 8, 9, 11, 12, 13, 14, 15, 17, 20, 77]) []) (
(.cond (.t 77) (
  (.seq (
  .reg none [
    ⟨some 0, .as (.c (.bool false)), none, true⟩] (some [0]) []) (
  .ret))) (
  .skip))))) (
(.seq (
.reg (some [.free, .free, .free, .free, .free, .free, .free, .free, .free, .free, .free, .free, .free, .free, .free, .free, .free, .free, .free, .free, .free, .free, .free, .free, .free, .free, .free, .free, .free, .free, .free, .free, .free, .free, .free, .free, .free, .free, .free, .free, .free, .free, .free, .free, .free, .free, .free, .free, .free, .free, .free, .free, .free, .free, .free, .free, .free, .free, .free, .free, .free, .free, .dr [141] [], .dr [140] [], .free, .free, .free, .free, .free, .free, .free, .free, .free, .free, .free, .free, .free, .free, .free]) [
  ⟨some 78, .mv (.t 2), none, true⟩,
  ⟨some 79, .bin .eql (.t 78) (.c (.int .i64 0)), none, true⟩,
  ⟨some 80, .mv (.t 79), none, true⟩,
  ⟨some 81, .mv (.t 4), some (80, true), true⟩,
  ⟨some 82, .bin .eql (.t 81) (.c (.int .i64 0)), some (80, true), true⟩,
  ⟨some 83, .pick (.t 80) (.t 82) (.c (.bool false)), none, true⟩,
  ⟨some 84, .mv (.t 83), none, true⟩,
  ⟨some 85, .mv (.t 6), some (84, true), true⟩,
  ⟨some 86, .bin .eql (.t 85) (.c (.int .i64 300)), some (84, true), true⟩,
  ⟨some 87, .pick (.t 84) (.t 86) (.c (.bool false)), none, true⟩,
  ⟨some 88, .mv (.t 87), none, true⟩,
  ⟨some 89, .mv (.t 9), some (88, true), true⟩,
  ⟨some 90, .pick (.t 88) (.t 89) (.c (.bool false)), none, true⟩,
  ⟨some 91, .mv (.t 90), none, true⟩,
  ⟨some 92, .fad 1 (.t 8), some (91, true), true⟩,
  ⟨some 93, .load false 1 (.t 92), some (91, true), true⟩,
  ⟨some 94, .bin .eql (.t 93) (.c (.int .i64 5)), some (91, true), true⟩,
  ⟨some 95, .pick (.t 91) (.t 94) (.c (.bool false)), none, true⟩,
  ⟨some 96, .mv (.t 95), none, true⟩,
  ⟨some 97, .fad 4 (.t 7), some (96, true), true⟩,
  ⟨some 98, .load false 1 (.t 97), some (96, true), true⟩,
  ⟨some 99, .bin .eql (.t 98) (.c (.int .i64 2)), some (96, true), true⟩,
  ⟨some 100, .pick (.t 96) (.t 99) (.c (.bool false)), none, true⟩,
  ⟨some 101, .mv (.t 100), none, true⟩,
  ⟨some 102, .fad 5 (.t 7), some (101, true), true⟩,
  ⟨some 103, .load false 1 (.t 102), some (101, true), true⟩,
  ⟨some 104, .bin .eql (.t 103) (.c (.int .i64 1)), some (101, true), true⟩,
  ⟨some 105, .pick (.t 101) (.t 104) (.c (.bool false)), none, true⟩,
  ⟨some 106, .mv (.t 105), none, true⟩,
  ⟨some 107, .mv (.t 12), some (106, true), true⟩,
  ⟨some 108, .un .not (.t 107), some (106, true), true⟩,
  ⟨some 109, .pick (.t 106) (.t 108) (.c (.bool false)), none, true⟩,
  ⟨some 110, .mv (.t 109), none, true⟩,
  ⟨some 111, .fad 0 (.t 11), some (110, true), true⟩,
  ⟨some 112, .load false 1 (.t 111), some (110, true), true⟩,
  ⟨some 113, .bin .eql (.t 112) (.c (.int .i64 0)), some (110, true), true⟩,
  ⟨some 114, .pick (.t 110) (.t 113) (.c (.bool false)), none, true⟩,
  ⟨some 115, .mv (.t 114), none, true⟩,
  ⟨some 116, .mv (.t 13), some (115, true), true⟩,
  ⟨some 117, .ias 1 (.t 116) (.c (.int .i64 0)), some (115, true), true⟩,
  ⟨some 118, .load false 1 (.t 117), some (115, true), true⟩,
  ⟨some 119, .bin .eql (.t 118) (.c (.int .u8 74)), some (115, true), true⟩,
  ⟨some 120, .pick (.t 115) (.t 119) (.c (.bool false)), none, true⟩,
  ⟨some 121, .mv (.t 120), none, true⟩,
  ⟨some 122, .mv (.t 13), some (121, true), true⟩,
  ⟨some 123, .ias 1 (.t 122) (.c (.int .i64 4)), some (121, true), true⟩,
  ⟨some 124, .load false 1 (.t 123), some (121, true), true⟩,
  ⟨some 125, .bin .eql (.t 124) (.c (.int .u8 1)), some (121, true), true⟩,
  ⟨some 126, .pick (.t 121) (.t 125) (.c (.bool false)), none, true⟩,
  ⟨some 127, .mv (.t 126), none, true⟩,
  ⟨some 128, .mv (.t 13), some (127, true), true⟩,
  ⟨some 129, .ias 1 (.t 128) (.c (.int .i64 63)), some (127, true), true⟩,
  ⟨some 130, .load false 1 (.t 129), some (127, true), true⟩,
  ⟨some 131, .bin .eql (.t 130) (.c (.int .u8 1)), some (127, true), true⟩,
  ⟨some 132, .pick (.t 127) (.t 131) (.c (.bool false)), none, true⟩,
  ⟨some 133, .mv (.t 132), none, true⟩,
  ⟨some 134, .mv (.t 13), some (133, true), true⟩,
  ⟨some 135, .ias 1 (.t 134) (.c (.int .i64 6)), some (133, true), true⟩,
  ⟨some 136, .load false 1 (.t 135), some (133, true), true⟩,
  ⟨some 137, .bin .eql (.t 136) (.c (.int .u8 5)), some (133, true), true⟩,
  ⟨some 138, .pick (.t 133) (.t 137) (.c (.bool false)), none, true⟩,
  ⟨some 139, .mv (.t 138), none, true⟩,
  ⟨some 140, .load true 12 (.t 14), some (139, true), true⟩,
  ⟨some 141, .call 59 [.c (.int .i64 5)], some (139, true), true⟩,
  ⟨some 142, .call 36 [.t 140, .t 141], some (139, true), true⟩,
  ⟨some 143, .pick (.t 139) (.t 142) (.c (.bool false)), none, true⟩,
  ⟨some 144, .mv (.t 143), none, true⟩,
  ⟨some 145, .mv (.t 15), some (144, true), true⟩,
  ⟨some 146, .bin .eql (.t 145) (.c (.int .i64 0)), some (144, true), true⟩,
  ⟨some 147, .pick (.t 144) (.t 146) (.c (.bool false)), none, true⟩,
  ⟨some 148, .mv (.t 147), none, true⟩,
  ⟨some 149, .mv (.t 17), some (148, true), true⟩,
  ⟨some 150, .bin .eql (.t 149) (.c (.int .i64 4)), some (148, true), true⟩,
  ⟨some 151, .pick (.t 148) (.t 150) (.c (.bool false)), none, true⟩,
  ⟨some 152, .mv (.t 151), none, true⟩,
  ⟨some 153, .mv (.t 20), some (152, true), true⟩,
  ⟨some 154, .bin .eql (.t 153) (.c (.int .i64 1)), some (152, true), true⟩,
  ⟨some 155, .pick (.t 152) (.t 154) (.c (.bool false)), none, true⟩,
  ⟨some 0, .as (.t 155), none, true⟩] (some [0]) [7, 8, 11, 14]) (
.ret)))))))))))))))))))))))))))))))
/-- ambidexter/ambidexterlaw31.great -/
def A32 : AFn := .code [.t 2] (
(.seq (
.reg none [
  ⟨some 1, .box (.t 0), none, true⟩,
  ⟨some 2, .as (.c (.bool false)), none, true⟩] (some [1]) []) (
(.seq (
.reg none [
  ⟨some 3, .fad 2 (.t 1), none, true⟩,
  ⟨some 4, .fad 8 (.t 3), none, true⟩,
  ⟨some 5, .load false 1 (.t 4), none, true⟩,
  ⟨some 6, .len 0 (.t 5), none, true⟩,
  ⟨some 7, .bin .gtr (.t 6) (.c (.int .i64 100)), none, true⟩,
  ⟨some 2, .as (.t 7), none, true⟩] (some [2]) [1]) (
.ret)))))
def A33_L0b : ACode := 
  (.seq (
  .reg none [
    ⟨some 61, .bin .lss (.t 60) (.t 59), none, true⟩] (some [0, 2, 4, 5, 59, 60, 61]) []) (
  (.seq (
  (.cond (.t 61) (
    .skip) (
    .exit 6))) (
  (.seq (
  (.block 7 (
  .reg (some [.alt [0, 1, 3] [[2, 4, 5, 6, 7, 8, 9, 10], [4, 2, 5, 6, 7, 8, 9, 10], [4, 5, 2, 6, 7, 8, 9, 10], [4, 5, 6, 2, 7, 8, 9, 10]]]) [
    ⟨some 62, .fad 2 (.t 5), none, true⟩,
    ⟨some 63, .fad 8 (.t 62), none, true⟩,
    ⟨some 64, .load false 1 (.t 63), none, true⟩,
    ⟨some 65, .mv (.t 4), none, true⟩,
    ⟨some 66, .cal (.t 65) [.c (.int .i64 1)], none, true⟩,
    ⟨some 67, .bin .sub (.t 66) (.c (.int .i64 1)), none, true⟩,
    ⟨some 68, .bsl 1 1 [.int .i64 0] [(0, .t 67)], none, true⟩,
    ⟨some 69, .app 1 (.t 64) (.t 68), none, true⟩,
    ⟨some 70, .fad 2 (.t 5), none, true⟩,
    ⟨some 71, .fad 8 (.t 70), none, true⟩,
    ⟨none, .store 1 (.t 71) (.t 69), none, true⟩] (some [0, 2, 4, 5, 59, 60]) []) (some [0, 2, 4, 5, 59, 60]) [66, 68, 69])) (
  .reg none [
    ⟨some 72, .bin .add (.t 60) (.c (.int .i64 1)), none, true⟩,
    ⟨some 60, .mv (.t 72), none, true⟩] (some [0, 2, 4, 5, 59, 60]) []))))))
def A33_L0 : ACode := .loop A33_L0b (some [0, 2, 4, 5, 59, 60]) [66, 68, 69]
def A33_L1b : ACode := 
  (.seq (
  .reg none [
    ⟨some 44, .bin .lss (.t 43) (.c (.int .i64 2)), none, true⟩] (some [0, 2, 4, 5, 43, 44]) []) (
  (.seq (
  (.cond (.t 44) (
    .skip) (
    .exit 4))) (
  (.seq (
  (.block 5 (
  (.seq (
  .reg none [
    ⟨some 45, .mv (.t 43), none, true⟩,
    ⟨some 8, .as (.t 45), none, true⟩] (some [0, 2, 4, 5, 8, 43]) []) (
  .reg none [
    ⟨some 46, .mv (.t 8), none, true⟩,
    ⟨some 47, .mv (.t 4), none, true⟩,
    ⟨some 48, .cal (.t 47) [.c (.int .i64 1)], none, true⟩,
    ⟨some 49, .bin .sub (.t 48) (.c (.int .i64 1)), none, true⟩,
    ⟨some 50, .fad 2 (.t 5), none, true⟩,
    ⟨some 51, .fad 6 (.t 50), none, true⟩,
    ⟨some 52, .iaa 2 1 (.t 51) (.t 46), none, true⟩,
    ⟨none, .store 1 (.t 52) (.t 49), none, true⟩] (some [0, 2, 4, 5, 43]) []))) (some [0, 2, 4, 5, 43]) [8, 48])) (
  .reg none [
    ⟨some 53, .bin .add (.t 43) (.c (.int .i64 1)), none, true⟩,
    ⟨some 43, .mv (.t 53), none, true⟩] (some [0, 2, 4, 5, 43]) []))))))
def A33_L1 : ACode := .loop A33_L1b (some [0, 2, 4, 5, 43]) [8, 48]
def A33_L2b : ACode := 
    (.seq (
    .reg none [
      ⟨some 30, .bin .lss (.t 29) (.c (.int .i64 3)), none, true⟩] (some [0, 2, 4, 5, 6, 26, 29, 30]) []) (
    (.seq (
    (.cond (.t 30) (
      .skip) (
      .exit 2))) (
    (.seq (
    (.block 3 (
    (.seq (
    .reg none [
      ⟨some 31, .mv (.t 29), none, true⟩,
      ⟨some 7, .as (.t 31), none, true⟩] (some [0, 2, 4, 5, 6, 7, 26, 29]) []) (
    .reg (some [.loc, .loc, .loc, .loc, .loc, .loc, .free, .free, .free, .free]) [
      ⟨some 32, .mv (.t 6), none, true⟩,
      ⟨some 33, .mv (.t 7), none, true⟩,
      ⟨some 34, .mv (.t 4), none, true⟩,
      ⟨some 37, .fad 2 (.t 5), none, true⟩,
      ⟨some 38, .fad 0 (.t 37), none, true⟩,
      ⟨some 39, .iaa 2 3 (.t 38) (.t 32), none, true⟩,
      ⟨some 35, .cal (.t 34) [.c (.int .i64 1)], none, true⟩,
      ⟨some 36, .bin .sub (.t 35) (.c (.int .i64 17)), none, true⟩,
      ⟨some 40, .iaa 3 1 (.t 39) (.t 33), none, true⟩,
      ⟨none, .store 1 (.t 40) (.t 36), none, true⟩] (some [0, 2, 4, 5, 6, 26, 29]) []))) (some [0, 2, 4, 5, 6, 26, 29]) [7, 35])) (
    .reg none [
      ⟨some 41, .bin .add (.t 29) (.c (.int .i64 1)), none, true⟩,
      ⟨some 29, .mv (.t 41), none, true⟩] (some [0, 2, 4, 5, 6, 26, 29]) []))))))
def A33_L2 : ACode := .loop A33_L2b (some [0, 2, 4, 5, 6, 26, 29]) [7, 35]
def A33_L3b : ACode := 
  (.seq (
  .reg none [
    ⟨some 27, .bin .lss (.t 26) (.c (.int .i64 2)), none, true⟩] (some [0, 2, 4, 5, 26, 27]) []) (
  (.seq (
  (.cond (.t 27) (
    .skip) (
    .exit 0))) (
  (.seq (
  (.block 1 (
  (.seq (
  .reg none [
    ⟨some 28, .mv (.t 26), none, true⟩,
    ⟨some 6, .as (.t 28), none, true⟩] (some [0, 2, 4, 5, 6, 26]) []) (
  (.seq (
  .reg none [
    ⟨some 29, .mv (.c (.int .i64 0)), none, true⟩] (some [0, 2, 4, 5, 6, 26, 29]) []) (
  (.block 2 (
  A33_L2) (some [0, 2, 4, 5, 26]) [7, 35])))))) (some [0, 2, 4, 5, 26]) [6, 7, 35])) (
  .reg none [
    ⟨some 42, .bin .add (.t 26) (.c (.int .i64 1)), none, true⟩,
    ⟨some 26, .mv (.t 42), none, true⟩] (some [0, 2, 4, 5, 26]) []))))))
def A33_L3 : ACode := .loop A33_L3b (some [0, 2, 4, 5, 26]) [6, 7, 35]
/-- ambidexter/journal.Decode -/
def A33 : AFn := .code [.cell true 12 2, .t 3] (
(.seq (
.reg none [
  ⟨some 2, .alloc [.int .i64 0, .int .i64 0, .int .i64 0, .int .i64 0, .int .i64 0, .int .i64 0, .int .i64 0, .int .i64 0, .int .i64 0, .int .i64 0, .nils 1, .int .i64 0], none, true⟩,
  ⟨some 3, .as (.c (.int .i64 0)), none, true⟩] (some [0, 2]) []) (
(.seq (
(.seq (
.reg none [
  ⟨some 10, .mv (.t 0), none, true⟩,
  ⟨some 11, .len 0 (.t 10), none, true⟩,
  ⟨some 12, .bin .neq (.t 11) (.c (.int .i64 64)), none, true⟩] (some [0, 2, 12]) []) (
(.cond (.t 12) (
  (.seq (
  .reg none [
    ⟨some 13, .build [.int .i64 0, .int .i64 0, .int .i64 0, .int .i64 0, .int .i64 0, .int .i64 0, .int .i64 0, .int .i64 0, .int .i64 0, .int .i64 0, .nils 1, .int .i64 0] [], none, true⟩,
    ⟨none, .store 12 (.t 2) (.t 13), none, true⟩,
    ⟨some 3, .as (.c (.int .i64 4)), none, true⟩] (some [2, 3]) []) (
  .ret))) (
  .skip))))) (
(.seq (
.reg none [
  ⟨some 14, .mv (.t 0), none, true⟩,
  ⟨some 15, .build [.nils 1] [(0, 1, .t 14)], none, true⟩,
  ⟨some 16, .box (.t 15), none, true⟩,
  ⟨some 17, .mkf (.func 60) [.t 16] [], none, true⟩,
  ⟨some 4, .as (.t 17), none, true⟩] (some [0, 2, 4]) []) (
(.seq (
.reg none [
  ⟨some 5, .alloc [.int .i64 0, .int .i64 0, .int .i64 0, .int .i64 0, .int .i64 0, .int .i64 0, .int .i64 0, .int .i64 0, .int .i64 0, .int .i64 0, .nils 1, .int .i64 0], none, true⟩] (some [0, 2, 4, 5]) []) (
(.seq (
.reg none [
  ⟨some 18, .mv (.t 4), none, true⟩,
  ⟨some 19, .cal (.t 18) [.c (.int .i64 1)], none, true⟩] (some [0, 2, 4, 5]) []) (
(.seq (
.reg none [
  ⟨some 20, .mv (.t 4), none, true⟩,
  ⟨some 21, .cal (.t 20) [.c (.int .i64 4)], none, true⟩,
  ⟨some 22, .mv (.t 4), none, true⟩,
  ⟨some 23, .cal (.t 22) [.c (.int .i64 2)], none, true⟩,
  ⟨some 24, .fad 0 (.t 5), none, true⟩,
  ⟨none, .store 1 (.t 24) (.t 21), none, true⟩,
  ⟨some 25, .fad 1 (.t 5), none, true⟩,
  ⟨none, .store 1 (.t 25) (.t 23), none, true⟩] (some [0, 2, 4, 5]) []) (
(.seq (
(.seq (
.reg none [
  ⟨some 26, .mv (.c (.int .i64 0)), none, true⟩] (some [0, 2, 4, 5, 26]) []) (
(.block 0 (
A33_L3) (some [0, 2, 4, 5]) [6, 7, 35])))) (
(.seq (
(.seq (
.reg none [
  ⟨some 43, .mv (.c (.int .i64 0)), none, true⟩] (some [0, 2, 4, 5, 43]) []) (
(.block 4 (
A33_L1) (some [0, 2, 4, 5]) [8, 48])))) (
(.seq (
.reg none [
  ⟨some 54, .mv (.t 4), none, true⟩,
  ⟨some 55, .cal (.t 54) [.c (.int .i64 1)], none, true⟩,
  ⟨some 9, .as (.t 55), none, true⟩] (some [0, 2, 4, 5, 9]) []) (
(.seq (
(.seq (
.reg none [
  ⟨some 56, .mv (.t 9), none, true⟩,
  ⟨some 57, .bin .gtr (.t 56) (.c (.int .i64 8)), none, true⟩] (some [0, 2, 4, 5, 9, 57]) []) (
(.cond (.t 57) (
  (.seq (
  .reg none [
    ⟨some 58, .build [.int .i64 0, .int .i64 0, .int .i64 0, .int .i64 0, .int .i64 0, .int .i64 0, .int .i64 0, .int .i64 0, .int .i64 0, .int .i64 0, .nils 1, .int .i64 0] [], none, true⟩,
    ⟨none, .store 12 (.t 2) (.t 58), none, true⟩,
    ⟨some 3, .as (.c (.int .i64 4)), none, true⟩] (some [2, 3]) []) (
  .ret))) (
  .skip))))) (
(.seq (
(.seq (
.reg none [
  ⟨some 59, .mv (.t 9), none, true⟩,
  ⟨some 60, .mv (.c (.int .i64 0)), none, true⟩] (some [0, 2, 4, 5, 59, 60]) []) (
(.block 6 (
A33_L0) (some [0, 2, 4, 5]) [66, 68, 69])))) (
(.seq (
.reg none [
  ⟨some 73, .mv (.t 4), none, true⟩,
  ⟨some 74, .cal (.t 73) [.c (.int .i64 1)], none, true⟩,
  ⟨some 75, .fad 11 (.t 5), none, true⟩,
  ⟨none, .store 1 (.t 75) (.t 74), none, true⟩] (some [0, 2, 5]) []) (
(.seq (
(.seq (
.reg none [
  ⟨some 76, .load true 12 (.t 5), none, true⟩,
  ⟨some 77, .call 61 [.t 76], none, true⟩,
  ⟨some 78, .un .not (.t 77), none, true⟩,
  ⟨some 79, .mv (.t 78), none, true⟩,
  ⟨some 80, .load true 12 (.t 5), some (79, false), true⟩,
  ⟨some 81, .call 35 [.t 80], some (79, false), true⟩,
  ⟨some 82, .mv (.t 0), some (79, false), true⟩,
  ⟨some 83, .call 62 [.t 81, .t 82], some (79, false), true⟩,
  ⟨some 84, .un .not (.t 83), some (79, false), true⟩,
  ⟨some 85, .pick (.t 79) (.c (.bool true)) (.t 84), none, true⟩] (some [2, 5, 85]) []) (
(.cond (.t 85) (
  (.seq (
  .reg none [
    ⟨some 86, .build [.int .i64 0, .int .i64 0, .int .i64 0, .int .i64 0, .int .i64 0, .int .i64 0, .int .i64 0, .int .i64 0, .int .i64 0, .int .i64 0, .nils 1, .int .i64 0] [], none, true⟩,
    ⟨none, .store 12 (.t 2) (.t 86), none, true⟩,
    ⟨some 3, .as (.c (.int .i64 4)), none, true⟩] (some [2, 3]) []) (
  .ret))) (
  .skip))))) (
(.seq (
.reg none [
  ⟨some 87, .load true 12 (.t 5), none, true⟩,
  ⟨none, .store 12 (.t 2) (.t 87), none, true⟩,
  ⟨some 3, .as (.c (.int .i64 0)), none, true⟩] (some [2, 3]) [5]) (
.ret)))))))))))))))))))))))))))))
/-- ambidexter/journal.Encode -/
def A35 : AFn := .code [.t 2] (
(.seq (
.reg none [
  ⟨some 1, .box (.t 0), none, true⟩,
  ⟨some 2, .as (.c (.nils 1)), none, true⟩] (some [1]) []) (
(.seq (
.reg (some [.dr [7, 10, 28, 29, 30, 34, 37, 38] [], .dr [7, 10, 28, 29, 30, 34, 37, 38] [], .dr [4, 5, 10, 28, 29, 30, 34, 37, 38] [], .dr [4, 5, 10, 28, 29, 30, 34, 37, 38] [], .dr [10, 28, 29, 30, 34, 37, 38] [], .dr [4, 5, 7, 8, 28, 29, 30, 34, 37, 38] [], .dr [4, 5, 7, 8, 28, 29, 30, 34, 37, 38] [], .dr [28, 29, 30, 34, 37, 38] [], .dr [4, 5, 7, 8, 10, 11, 28, 29, 30, 34, 37, 38] [], .dr [4, 5, 7, 8, 10, 11, 28, 29, 30, 34, 37, 38] [], .dr [4, 5, 7, 8, 10, 11, 28, 29, 30, 34, 37, 38] [], .dr [4, 5, 7, 8, 10, 11, 28, 29, 30, 34, 37, 38] [], .dr [28, 29, 30, 34, 37, 38] [], .dr [4, 5, 7, 8, 10, 11, 16, 28, 29, 30, 34, 37, 38] [], .dr [4, 5, 7, 8, 10, 11, 16, 28, 29, 30, 34, 37, 38] [], .dr [4, 5, 7, 8, 10, 11, 16, 28, 29, 30, 34, 37, 38] [], .dr [4, 5, 7, 8, 10, 11, 16, 28, 29, 30, 34, 37, 38] [], .dr [28, 29, 30, 34, 37, 38] [], .dr [4, 5, 7, 8, 10, 11, 16, 21, 28, 29, 30, 34, 37, 38] [], .dr [4, 5, 7, 8, 10, 11, 16, 21, 28, 29, 30, 34, 37, 38] [], .dr [4, 5, 7, 8, 10, 11, 16, 21, 28, 29, 30, 34, 37, 38] [], .dr [28, 29, 30, 34, 37, 38] [], .dr [4, 5, 7, 8, 10, 11, 16, 21, 25, 34, 37, 38] [], .dr [4, 5, 7, 8, 10, 11, 16, 21, 25, 34, 37, 38] [], .dr [4, 5, 7, 8, 10, 11, 16, 21, 25, 34, 37, 38] [], .dr [4, 5, 7, 8, 10, 11, 16, 21, 25, 34, 37, 38] [], .dr [4, 5, 7, 8, 10, 11, 16, 21, 25, 34, 37, 38] [], .dr [34, 37, 38] [], .dr [4, 5, 7, 8, 10, 11, 16, 21, 25, 28, 29, 30, 31, 37, 38] [], .dr [4, 5, 7, 8, 10, 11, 16, 21, 25, 28, 29, 30, 31, 37, 38] [], .dr [4, 5, 7, 8, 10, 11, 16, 21, 25, 28, 29, 30, 31, 37, 38] [], .dr [37, 38] [], .dr [4, 5, 7, 8, 10, 11, 16, 21, 25, 28, 29, 30, 31, 34, 35] [], .dr [4, 5, 7, 8, 10, 11, 16, 21, 25, 28, 29, 30, 31, 34, 35] [], .dr [4, 5, 7, 8, 10, 11, 16, 21, 25, 28, 29, 30, 31, 34, 35] [], .free, .free, .free, .free]) [
  ⟨some 4, .bsl 1 1 [.int .i64 0] [(0, .c (.int .i64 74))], none, false⟩,
  ⟨some 5, .call 64 [.c (.int .i64 0), .t 4], none, true⟩,
  ⟨some 6, .fad 0 (.t 1), none, true⟩,
  ⟨some 7, .load false 1 (.t 6), none, true⟩,
  ⟨some 8, .call 65 [.t 7, .c (.int .i64 4)], none, true⟩,
  ⟨some 9, .fad 1 (.t 1), none, true⟩,
  ⟨some 10, .load false 1 (.t 9), none, true⟩,
  ⟨some 11, .call 65 [.t 10, .c (.int .i64 2)], none, true⟩,
  ⟨some 12, .fad 2 (.t 1), none, true⟩,
  ⟨some 13, .fad 0 (.t 12), none, true⟩,
  ⟨some 14, .iaa 2 3 (.t 13) (.c (.int .i64 0)), none, true⟩,
  ⟨some 15, .sla 3 1 (.t 14) none none, none, true⟩,
  ⟨some 16, .call 64 [.c (.int .i64 17), .t 15], none, true⟩,
  ⟨some 17, .fad 2 (.t 1), none, true⟩,
  ⟨some 18, .fad 0 (.t 17), none, true⟩,
  ⟨some 19, .iaa 2 3 (.t 18) (.c (.int .i64 1)), none, true⟩,
  ⟨some 20, .sla 3 1 (.t 19) none none, none, true⟩,
  ⟨some 21, .call 64 [.c (.int .i64 17), .t 20], none, true⟩,
  ⟨some 22, .fad 2 (.t 1), none, true⟩,
  ⟨some 23, .fad 6 (.t 22), none, true⟩,
  ⟨some 24, .sla 2 1 (.t 23) none none, none, true⟩,
  ⟨some 25, .call 64 [.c (.int .i64 1), .t 24], none, true⟩,
  ⟨some 26, .fad 2 (.t 1), none, true⟩,
  ⟨some 27, .fad 8 (.t 26), none, true⟩,
  ⟨some 28, .load false 1 (.t 27), none, true⟩,
  ⟨some 29, .len 0 (.t 28), none, true⟩,
  ⟨some 30, .bsl 1 1 [.int .i64 0] [(0, .t 29)], none, false⟩,
  ⟨some 31, .call 64 [.c (.int .i64 0), .t 30], none, true⟩,
  ⟨some 32, .fad 2 (.t 1), none, true⟩,
  ⟨some 33, .fad 8 (.t 32), none, true⟩,
  ⟨some 34, .load false 1 (.t 33), none, true⟩,
  ⟨some 35, .call 64 [.c (.int .i64 1), .t 34], none, true⟩,
  ⟨some 36, .fad 11 (.t 1), none, true⟩,
  ⟨some 37, .load false 1 (.t 36), none, true⟩,
  ⟨some 38, .bsl 1 1 [.int .i64 0] [(0, .t 37)], none, false⟩,
  ⟨some 39, .call 64 [.c (.int .i64 0), .t 38], none, true⟩,
  ⟨some 40, .bsl 1 9 [.nils 1] [(0, .t 5), (1, .t 8), (2, .t 11), (3, .t 16), (4, .t 21), (5, .t 25), (6, .t 31), (7, .t 35), (8, .t 39)], none, true⟩,
  ⟨some 41, .call 63 [.t 40], none, true⟩,
  ⟨some 3, .as (.t 41), none, true⟩] (some [1, 3]) []) (
(.seq (
.reg none [
  ⟨some 42, .mv (.t 3), none, true⟩,
  ⟨some 43, .mv (.t 3), none, true⟩,
  ⟨some 44, .len 0 (.t 43), none, true⟩,
  ⟨some 45, .bin .sub (.c (.int .i64 58)) (.t 44), none, true⟩,
  ⟨some 46, .apz 1 [.int .u8 0] (.t 42) (.t 45), none, true⟩,
  ⟨some 3, .as (.t 46), none, true⟩] (some [1, 3]) []) (
(.seq (
.reg (some [.loc, .loc, .loc, .dr [52] [], .dr [52] [], .dr [49, 50] [], .free, .free, .free, .free]) [
  ⟨some 47, .mv (.t 3), none, true⟩,
  ⟨some 48, .mv (.t 3), none, true⟩,
  ⟨some 51, .fad 0 (.t 1), none, true⟩,
  ⟨some 49, .call 66 [.t 48], none, true⟩,
  ⟨some 50, .call 65 [.t 49, .c (.int .i64 2)], none, true⟩,
  ⟨some 52, .load false 1 (.t 51), none, true⟩,
  ⟨some 53, .call 65 [.t 52, .c (.int .i64 4)], none, true⟩,
  ⟨some 54, .bsl 1 3 [.nils 1] [(0, .t 47), (1, .t 50), (2, .t 53)], none, true⟩,
  ⟨some 55, .call 63 [.t 54], none, true⟩,
  ⟨some 2, .as (.t 55), none, true⟩] (some [2]) []) (
.ret)))))))))
def A36_L0b : ACode := 
  (.seq (
  (.seq (
  .reg none [
    ⟨some 54, .mv (.t 5), none, true⟩,
    ⟨some 55, .fad 2 (.t 2), none, true⟩,
    ⟨some 56, .fad 8 (.t 55), none, true⟩,
    ⟨some 57, .load false 1 (.t 56), none, true⟩,
    ⟨some 58, .len 0 (.t 57), none, true⟩,
    ⟨some 59, .bin .lss (.t 54) (.t 58), none, true⟩] (some [2, 3, 5, 59]) []) (
  (.cond (.t 59) (
    .skip) (
    .exit 0))))) (
  (.seq (
  (.block 1 (
  (.seq (
  .reg (some [.dr [70, 72, 73] [], .dr [70, 72, 73] [], .dr [70, 72, 73] [], .dr [64, 70, 72, 73] [], .dr [70, 72, 73] [], .dr [70, 72, 73] [], .dr [64, 66, 67] [], .dr [64, 66, 67] [], .dr [64, 66, 67] [], .dr [64, 66, 67, 70] [], .dr [64, 66, 67] [], .dr [64, 66, 67] [], .free]) [
    ⟨some 62, .fad 2 (.t 2), none, true⟩,
    ⟨some 63, .fad 8 (.t 62), none, true⟩,
    ⟨some 64, .load false 1 (.t 63), none, true⟩,
    ⟨some 65, .mv (.t 5), none, true⟩,
    ⟨some 66, .ias 1 (.t 64) (.t 65), none, true⟩,
    ⟨some 67, .load false 1 (.t 66), none, true⟩,
    ⟨some 68, .fad 2 (.t 3), none, true⟩,
    ⟨some 69, .fad 8 (.t 68), none, true⟩,
    ⟨some 70, .load false 1 (.t 69), none, true⟩,
    ⟨some 71, .mv (.t 5), none, true⟩,
    ⟨some 72, .ias 1 (.t 70) (.t 71), none, true⟩,
    ⟨some 73, .load false 1 (.t 72), none, true⟩,
    ⟨some 74, .bin .neq (.t 67) (.t 73), none, true⟩] (some [2, 3, 5, 74]) []) (
  (.cond (.t 74) (
    (.seq (
    .reg none [
      ⟨some 4, .as (.c (.bool false)), none, true⟩] (some [4]) []) (
    .ret))) (
    .skip))))) (some [2, 3, 5]) [4])) (
  .reg none [
    ⟨some 60, .mv (.t 5), none, true⟩,
    ⟨some 61, .bin .add (.t 60) (.c (.int .i64 1)), none, true⟩,
    ⟨some 5, .as (.t 61), none, true⟩] (some [2, 3, 5]) []))))
def A36_L0 : ACode := .loop A36_L0b (some [2, 3, 5]) [4]
/-- ambidexter/ambidexterref31.SameRecord -/
def A36 : AFn := .code [.t 4] (
(.seq (
.reg none [
  ⟨some 2, .box (.t 0), none, true⟩,
  ⟨some 3, .box (.t 1), none, true⟩,
  ⟨some 4, .as (.c (.bool false)), none, true⟩] (some [2, 3]) []) (
(.seq (
(.seq (
.reg none [
  ⟨some 6, .fad 0 (.t 2), none, true⟩,
  ⟨some 7, .load false 1 (.t 6), none, true⟩,
  ⟨some 8, .fad 0 (.t 3), none, true⟩,
  ⟨some 9, .load false 1 (.t 8), none, true⟩,
  ⟨some 10, .bin .neq (.t 7) (.t 9), none, true⟩,
  ⟨some 11, .mv (.t 10), none, true⟩,
  ⟨some 12, .fad 1 (.t 2), some (11, false), true⟩,
  ⟨some 13, .load false 1 (.t 12), some (11, false), true⟩,
  ⟨some 14, .fad 1 (.t 3), some (11, false), true⟩,
  ⟨some 15, .load false 1 (.t 14), some (11, false), true⟩,
  ⟨some 16, .bin .neq (.t 13) (.t 15), some (11, false), true⟩,
  ⟨some 17, .pick (.t 11) (.c (.bool true)) (.t 16), none, true⟩,
  ⟨some 18, .mv (.t 17), none, true⟩,
  ⟨some 19, .fad 11 (.t 2), some (18, false), true⟩,
  ⟨some 20, .load false 1 (.t 19), some (18, false), true⟩,
  ⟨some 21, .fad 11 (.t 3), some (18, false), true⟩,
  ⟨some 22, .load false 1 (.t 21), some (18, false), true⟩,
  ⟨some 23, .bin .neq (.t 20) (.t 22), some (18, false), true⟩,
  ⟨some 24, .pick (.t 18) (.c (.bool true)) (.t 23), none, true⟩,
  ⟨some 25, .mv (.t 24), none, true⟩,
  ⟨some 26, .fad 2 (.t 2), some (25, false), true⟩,
  ⟨some 27, .fad 0 (.t 26), some (25, false), true⟩,
  ⟨some 28, .load true 6 (.t 27), some (25, false), true⟩,
  ⟨some 29, .fad 2 (.t 3), some (25, false), true⟩,
  ⟨some 30, .fad 0 (.t 29), some (25, false), true⟩,
  ⟨some 31, .load true 6 (.t 30), some (25, false), true⟩,
  ⟨some 32, .eqa true [0, 0, 0, 0, 0, 0] (.t 28) (.t 31), some (25, false), true⟩,
  ⟨some 33, .pick (.t 25) (.c (.bool true)) (.t 32), none, true⟩,
  ⟨some 34, .mv (.t 33), none, true⟩,
  ⟨some 35, .fad 2 (.t 2), some (34, false), true⟩,
  ⟨some 36, .fad 6 (.t 35), some (34, false), true⟩,
  ⟨some 37, .load true 2 (.t 36), some (34, false), true⟩,
  ⟨some 38, .fad 2 (.t 3), some (34, false), true⟩,
  ⟨some 39, .fad 6 (.t 38), some (34, false), true⟩,
  ⟨some 40, .load true 2 (.t 39), some (34, false), true⟩,
  ⟨some 41, .eqa true [0, 0] (.t 37) (.t 40), some (34, false), true⟩,
  ⟨some 42, .pick (.t 34) (.c (.bool true)) (.t 41), none, true⟩,
  ⟨some 43, .mv (.t 42), none, true⟩,
  ⟨some 44, .fad 2 (.t 2), some (43, false), true⟩,
  ⟨some 45, .fad 8 (.t 44), some (43, false), true⟩,
  ⟨some 46, .load false 1 (.t 45), some (43, false), true⟩,
  ⟨some 47, .len 0 (.t 46), some (43, false), true⟩,
  ⟨some 48, .fad 2 (.t 3), some (43, false), true⟩,
  ⟨some 49, .fad 8 (.t 48), some (43, false), true⟩,
  ⟨some 50, .load false 1 (.t 49), some (43, false), true⟩,
  ⟨some 51, .len 0 (.t 50), some (43, false), true⟩,
  ⟨some 52, .bin .neq (.t 47) (.t 51), some (43, false), true⟩,
  ⟨some 53, .pick (.t 43) (.c (.bool true)) (.t 52), none, true⟩] (some [2, 3, 53]) []) (
(.cond (.t 53) (
  (.seq (
  .reg none [
    ⟨some 4, .as (.c (.bool false)), none, true⟩] (some [4]) []) (
  .ret))) (
  .skip))))) (
(.seq (
(.seq (
.reg none [
  ⟨some 5, .as (.c (.int .i64 0)), none, true⟩] (some [2, 3, 5]) []) (
(.block 0 (
A36_L0) (some []) [4, 5])))) (
(.seq (
.reg none [
  ⟨some 4, .as (.c (.bool true)), none, true⟩] (some [4]) []) (
.ret)))))))))
/-- ambidexter/journal.New -/
def A38 : AFn := .code [.cell true 6 2] (
(.seq (
.reg none [
  ⟨some 1, .box (.t 0), none, true⟩,
  ⟨some 2, .alloc [.nils 1, .int .i64 0, .int .i64 0, .bool false, .int .i64 0, .int .i64 0], none, true⟩] (some [1, 2]) []) (
(.seq (
.reg none [
  ⟨some 3, .load true 4 (.t 1), none, true⟩,
  ⟨some 4, .build [.nils 1, .int .i64 0, .int .i64 0, .bool false, .int .i64 0, .int .i64 0] [(0, 4, .t 3), (4, 1, .c (.int .i64 1))], none, true⟩,
  ⟨none, .store 6 (.t 2) (.t 4), none, true⟩] (some [2]) [1]) (
.ret)))))
/-- ambidexter/ambidexterlaw31.empty -/
def A39 : AFn := .code [.cell true 4 2] (
(.seq (
.reg none [
  ⟨some 2, .alloc [.nils 1, .int .i64 0, .int .i64 0, .bool false], none, true⟩] (some [0, 2]) []) (
(.seq (
.reg none [
  ⟨some 6, .mv (.t 0), none, true⟩,
  ⟨some 7, .call 17 [.t 6], none, true⟩,
  ⟨some 5, .mv (.t 7), none, true⟩,
  ⟨some 8, .ext (.t 5) 0, none, true⟩,
  ⟨some 9, .ext (.t 5) 1, none, true⟩,
  ⟨some 3, .alloc [.nils 1, .int .i64 0, .int .i64 0, .bool false], none, true⟩,
  ⟨none, .store 4 (.t 3) (.t 8), none, true⟩,
  ⟨some 4, .as (.t 9), none, true⟩] (some [2, 3]) []) (
(.seq (
.reg none [
  ⟨some 10, .load true 4 (.t 3), none, true⟩,
  ⟨none, .store 4 (.t 2) (.t 10), none, true⟩] (some [2]) [3]) (
.ret)))))))
/-- ambidexter/journal.Append -/
def A40 : AFn := .code [.cell true 6 4, .t 5] (
(.seq (
.reg none [
  ⟨some 2, .box (.t 0), none, true⟩,
  ⟨some 3, .box (.t 1), none, true⟩,
  ⟨some 4, .alloc [.nils 1, .int .i64 0, .int .i64 0, .bool false, .int .i64 0, .int .i64 0], none, true⟩,
  ⟨some 5, .as (.c (.int .i64 0)), none, true⟩] (some [2, 3, 4]) []) (
(.seq (
.reg none [
  ⟨some 8, .fad 0 (.t 3), none, true⟩,
  ⟨none, .store 1 (.t 8) (.c (.int .i64 1)), none, true⟩] (some [2, 3, 4]) []) (
(.seq (
(.seq (
.reg none [
  ⟨some 9, .load true 12 (.t 3), none, true⟩,
  ⟨some 10, .call 61 [.t 9], none, true⟩,
  ⟨some 11, .un .not (.t 10), none, true⟩] (some [2, 3, 4, 11]) []) (
(.cond (.t 11) (
  (.seq (
  .reg none [
    ⟨some 12, .load true 6 (.t 2), none, true⟩,
    ⟨none, .store 6 (.t 4) (.t 12), none, true⟩,
    ⟨some 5, .as (.c (.int .i64 1)), none, true⟩] (some [4, 5]) [2]) (
  .ret))) (
  .skip))))) (
(.seq (
(.seq (
.reg none [
  ⟨some 13, .fad 4 (.t 2), none, true⟩,
  ⟨some 14, .load false 1 (.t 13), none, true⟩,
  ⟨some 15, .bin .gtr (.t 14) (.c (.int .i64 1073741824)), none, true⟩] (some [2, 3, 4, 15]) []) (
(.cond (.t 15) (
  (.seq (
  .reg none [
    ⟨some 16, .load true 6 (.t 2), none, true⟩,
    ⟨none, .store 6 (.t 4) (.t 16), none, true⟩,
    ⟨some 5, .as (.c (.int .i64 310)), none, true⟩] (some [4, 5]) [2]) (
  .ret))) (
  .skip))))) (
(.seq (
.reg none [
  ⟨some 17, .fad 4 (.t 2), none, true⟩,
  ⟨some 18, .load false 1 (.t 17), none, true⟩,
  ⟨some 19, .fad 0 (.t 3), none, true⟩,
  ⟨none, .store 1 (.t 19) (.t 18), none, true⟩] (some [2, 3, 4]) []) (
(.seq (
.reg (some [.dr [24, 25, 26, 6] [], .dr [24, 25, 26, 6] [], .dr [22, 25, 26, 6] [], .dr [22, 25, 26, 6] [], .dr [22, 24, 6] [], .dr [22, 24, 6] [], .dr [6] [], .dr [6] [], .dr [6] [], .dr [6] [], .dr [22, 24, 25, 26, 27] [], .dr [] [6], .free]) [
  ⟨some 21, .fad 0 (.t 2), none, true⟩,
  ⟨some 22, .load true 4 (.t 21), none, true⟩,
  ⟨some 23, .fad 5 (.t 2), none, true⟩,
  ⟨some 24, .load false 1 (.t 23), none, true⟩,
  ⟨some 25, .load true 12 (.t 3), none, true⟩,
  ⟨some 26, .call 35 [.t 25], none, false⟩,
  ⟨some 27, .call 29 [.t 22, .t 24, .t 26], none, true⟩,
  ⟨some 20, .mv (.t 27), none, true⟩,
  ⟨some 28, .ext (.t 20) 0, none, true⟩,
  ⟨some 29, .ext (.t 20) 1, none, true⟩,
  ⟨some 6, .alloc [.nils 1, .int .i64 0, .int .i64 0, .bool false], none, true⟩,
  ⟨none, .store 4 (.t 6) (.t 28), none, true⟩,
  ⟨some 7, .as (.t 29), none, true⟩] (some [2, 4, 6, 7]) [3]) (
(.seq (
.reg none [
  ⟨some 30, .load true 4 (.t 6), none, true⟩,
  ⟨some 31, .fad 0 (.t 2), none, true⟩,
  ⟨none, .store 4 (.t 31) (.t 30), none, true⟩] (some [2, 4, 6, 7]) []) (
(.seq (
(.seq (
.reg none [
  ⟨some 32, .mv (.t 7), none, true⟩,
  ⟨some 33, .bin .neq (.t 32) (.c (.int .i64 0)), none, true⟩] (some [2, 4, 6, 7, 33]) []) (
(.cond (.t 33) (
  (.seq (
  .reg none [
    ⟨some 34, .load true 6 (.t 2), none, true⟩,
    ⟨some 35, .mv (.t 7), none, true⟩,
    ⟨none, .store 6 (.t 4) (.t 34), none, true⟩,
    ⟨some 5, .as (.t 35), none, true⟩] (some [4, 5]) [2]) (
  .ret))) (
  .skip))))) (
(.seq (
.reg (some [.dr [39, 41, 42] [], .dr [39, 41, 42] [], .dr [39, 41, 42] [], .dr [37, 41] [], .dr [37, 39] [], .dr [37, 39] [], .dr [37] [], .dr [39, 42] [], .free, .free, .free]) [
  ⟨some 36, .fad 4 (.t 2), none, true⟩,
  ⟨some 37, .load false 1 (.t 36), none, true⟩,
  ⟨some 38, .bin .add (.t 37) (.c (.int .i64 1)), none, true⟩,
  ⟨some 39, .load true 4 (.t 6), none, true⟩,
  ⟨some 40, .fad 5 (.t 2), none, true⟩,
  ⟨some 41, .load false 1 (.t 40), none, true⟩,
  ⟨some 42, .call 68 [.t 39, .t 41], none, true⟩,
  ⟨some 43, .fad 4 (.t 2), none, true⟩,
  ⟨none, .store 1 (.t 43) (.t 38), none, true⟩,
  ⟨some 44, .fad 5 (.t 2), none, true⟩,
  ⟨none, .store 1 (.t 44) (.t 42), none, true⟩] (some [2, 4]) [6]) (
(.seq (
.reg none [
  ⟨some 45, .load true 6 (.t 2), none, true⟩,
  ⟨none, .store 6 (.t 4) (.t 45), none, true⟩,
  ⟨some 5, .as (.c (.int .i64 0)), none, true⟩] (some [4, 5]) [2]) (
.ret)))))))))))))))))))))
def A42_L0b : ACode := 
  (.seq (
  .reg none [
    ⟨some 18, .bin .lss (.t 17) (.t 16), none, true⟩] (some [1, 2, 3, 5, 6, 16, 17, 18]) []) (
  (.seq (
  (.cond (.t 18) (
    .skip) (
    .exit 0))) (
  (.seq (
  (.block 1 (
  (.seq (
  .reg none [
    ⟨some 19, .mv (.t 17), none, true⟩,
    ⟨some 7, .as (.t 19), none, true⟩] (some [1, 2, 3, 5, 6, 7, 16, 17]) []) (
  (.seq (
  .reg none [
    ⟨some 21, .load true 4 (.t 1), none, true⟩,
    ⟨some 22, .mv (.t 7), none, true⟩,
    ⟨some 23, .call 25 [.t 21, .t 22], none, true⟩,
    ⟨some 20, .mv (.t 23), none, true⟩,
    ⟨some 24, .ext (.t 20) 0, none, true⟩,
    ⟨some 25, .ext (.t 20) 1, none, true⟩,
    ⟨some 8, .as (.t 24), none, true⟩,
    ⟨some 9, .as (.t 25), none, true⟩] (some [1, 2, 3, 5, 6, 7, 8, 9, 16, 17]) []) (
  (.seq (
  (.seq (
  .reg none [
    ⟨some 26, .mv (.t 9), none, true⟩,
    ⟨some 27, .bin .neq (.t 26) (.c (.int .i64 0)), none, true⟩] (some [1, 2, 3, 5, 6, 7, 8, 16, 17, 27]) []) (
  (.cond (.t 27) (
    .exit 1) (
    .skip))))) (
  (.seq (
  .reg none [
    ⟨some 29, .mv (.t 8), none, true⟩,
    ⟨some 30, .call 33 [.t 29], none, true⟩,
    ⟨some 28, .mv (.t 30), none, true⟩,
    ⟨some 31, .ext (.t 28) 0, none, true⟩,
    ⟨some 32, .ext (.t 28) 1, none, true⟩,
    ⟨some 10, .alloc [.int .i64 0, .int .i64 0, .int .i64 0, .int .i64 0, .int .i64 0, .int .i64 0, .int .i64 0, .int .i64 0, .int .i64 0, .int .i64 0, .nils 1, .int .i64 0], none, true⟩,
    ⟨none, .store 12 (.t 10) (.t 31), none, true⟩,
    ⟨some 11, .as (.t 32), none, true⟩] (some [1, 2, 3, 5, 6, 7, 10, 11, 16, 17]) []) (
  (.seq (
  .reg none [
    ⟨some 33, .mv (.t 11), none, true⟩,
    ⟨some 34, .bin .eql (.t 33) (.c (.int .i64 0)), none, true⟩,
    ⟨some 35, .mv (.t 34), none, true⟩,
    ⟨some 36, .fad 0 (.t 10), some (35, true), true⟩,
    ⟨some 37, .load false 1 (.t 36), some (35, true), true⟩,
    ⟨some 38, .fad 0 (.t 6), some (35, true), true⟩,
    ⟨some 39, .load false 1 (.t 38), some (35, true), true⟩,
    ⟨some 40, .bin .gtr (.t 37) (.t 39), some (35, true), true⟩,
    ⟨some 41, .pick (.t 35) (.t 40) (.c (.bool false)), none, true⟩] (some [1, 2, 3, 5, 6, 7, 10, 16, 17, 41]) []) (
  (.cond (.t 41) (
    (.seq (
    .reg none [
      ⟨some 42, .load true 12 (.t 10), none, true⟩,
      ⟨none, .store 12 (.t 6) (.t 42), none, true⟩] (some [1, 2, 3, 5, 6, 7, 10, 16, 17]) []) (
    .reg (some [.dr [46, 48] [], .dr [46, 48] [], .dr [46, 48] [], .dr [44] [], .dr [44, 46] [], .dr [44] [], .dr [46, 48] [], .free, .free, .free]) [
      ⟨some 43, .fad 0 (.t 10), none, true⟩,
      ⟨some 44, .load false 1 (.t 43), none, true⟩,
      ⟨some 45, .bin .add (.t 44) (.c (.int .i64 1)), none, true⟩,
      ⟨some 46, .load true 4 (.t 1), none, true⟩,
      ⟨some 47, .mv (.t 7), none, true⟩,
      ⟨some 48, .call 68 [.t 46, .t 47], none, true⟩,
      ⟨some 49, .fad 4 (.t 5), none, true⟩,
      ⟨none, .store 1 (.t 49) (.t 45), none, true⟩,
      ⟨some 50, .fad 5 (.t 5), none, true⟩,
      ⟨none, .store 1 (.t 50) (.t 48), none, true⟩] (some [1, 2, 3, 5, 6, 16, 17]) [10]))) (
    .skip))))))))))))) (some [1, 2, 3, 5, 6, 16, 17]) [7, 8, 9, 10, 11, 23, 30, 48])) (
  .reg none [
    ⟨some 51, .bin .add (.t 17) (.c (.int .i64 1)), none, true⟩,
    ⟨some 17, .mv (.t 51), none, true⟩] (some [1, 2, 3, 5, 6, 16, 17]) []))))))
def A42_L0 : ACode := .loop A42_L0b (some [1, 2, 3, 5, 6, 16, 17]) [7, 8, 9, 10, 11, 23, 30, 48]
/-- ambidexter/journal.Recover -/
def A42 : AFn := .code [.cell true 6 2, .cell true 12 3, .t 4] (
(.seq (
.reg none [
  ⟨some 1, .box (.t 0), none, true⟩,
  ⟨some 2, .alloc [.nils 1, .int .i64 0, .int .i64 0, .bool false, .int .i64 0, .int .i64 0], none, true⟩,
  ⟨some 3, .alloc [.int .i64 0, .int .i64 0, .int .i64 0, .int .i64 0, .int .i64 0, .int .i64 0, .int .i64 0, .int .i64 0, .int .i64 0, .int .i64 0, .nils 1, .int .i64 0], none, true⟩,
  ⟨some 4, .as (.c (.bool false)), none, true⟩] (some [1, 2, 3]) []) (
(.seq (
.reg none [
  ⟨some 12, .load true 4 (.t 1), none, true⟩,
  ⟨some 13, .call 38 [.t 12], none, true⟩,
  ⟨some 5, .alloc [.nils 1, .int .i64 0, .int .i64 0, .bool false, .int .i64 0, .int .i64 0], none, true⟩,
  ⟨none, .store 6 (.t 5) (.t 13), none, true⟩] (some [1, 2, 3, 5]) []) (
(.seq (
.reg none [
  ⟨some 6, .alloc [.int .i64 0, .int .i64 0, .int .i64 0, .int .i64 0, .int .i64 0, .int .i64 0, .int .i64 0, .int .i64 0, .int .i64 0, .int .i64 0, .nils 1, .int .i64 0], none, true⟩] (some [1, 2, 3, 5, 6]) [1001547]) (
(.seq (
(.seq (
.reg none [
  ⟨some 14, .fad 0 (.t 1), none, true⟩,
  ⟨some 15, .load false 1 (.t 14), none, true⟩,
  ⟨some 16, .len 0 (.t 15), none, true⟩,
  ⟨some 17, .mv (.c (.int .i64 0)), none, true⟩] (some [1, 2, 3, 5, 6, 16, 17]) []) (
(.block 0 (
A42_L0) (some [2, 3, 5, 6]) [7, 8, 9, 10, 11, 23, 30, 48])))) (
(.seq (
.reg (some [.dr [53, 55] [], .dr [52, 55] [2], .dr [52, 53] [], .dr [52, 53] [2, 3], .dr [52, 53] [], .dr [53, 55] [], .dr [55] [], .free]) [
  ⟨some 52, .load true 6 (.t 5), none, true⟩,
  ⟨some 53, .load true 12 (.t 6), none, true⟩,
  ⟨some 54, .fad 0 (.t 6), none, true⟩,
  ⟨some 55, .load false 1 (.t 54), none, true⟩,
  ⟨some 56, .bin .gtr (.t 55) (.c (.int .i64 0)), none, true⟩,
  ⟨none, .store 6 (.t 2) (.t 52), none, true⟩,
  ⟨none, .store 12 (.t 3) (.t 53), none, true⟩,
  ⟨some 4, .as (.t 56), none, true⟩] (some [2, 3, 4]) [5, 6]) (
.ret)))))))))))
/-- ambidexter/disk.there -/
def A53 : AFn := .code [.t 4] (
(.seq (
.reg none [
  ⟨some 2, .box (.t 0), none, true⟩,
  ⟨some 4, .as (.c (.bool false)), none, true⟩] (some [1, 2]) []) (
(.seq (
.reg none [
  ⟨some 5, .mv (.t 1), none, true⟩,
  ⟨some 6, .bin .geq (.t 5) (.c (.int .i64 0)), none, true⟩,
  ⟨some 7, .mv (.t 6), none, true⟩,
  ⟨some 8, .mv (.t 1), some (7, true), true⟩,
  ⟨some 9, .fad 0 (.t 2), some (7, true), true⟩,
  ⟨some 10, .load false 1 (.t 9), some (7, true), true⟩,
  ⟨some 11, .len 0 (.t 10), some (7, true), true⟩,
  ⟨some 12, .bin .lss (.t 8) (.t 11), some (7, true), true⟩,
  ⟨some 13, .pick (.t 7) (.t 12) (.c (.bool false)), none, true⟩,
  ⟨some 4, .as (.t 13), none, true⟩] (some [4]) [2]) (
.ret)))))
/-- ambidexter/disk.Write$1 -/
def A54 : AFn := .code [.t 1] (
(.seq (
.reg none [
  ⟨some 1, .as (.c (.int .i64 0)), none, true⟩] (some [0]) []) (
(.seq (
(.seq (
.reg none [
  ⟨some 2, .fad 3 (.t 0), none, true⟩,
  ⟨some 3, .load false 1 (.t 2), none, true⟩] (some [3]) []) (
(.cond (.t 3) (
  (.seq (
  .reg none [
    ⟨some 1, .as (.c (.int .i64 300)), none, true⟩] (some [1]) []) (
  .ret))) (
  .skip))))) (
(.seq (
.reg none [
  ⟨some 1, .as (.c (.int .i64 0)), none, true⟩] (some [1]) []) (
.ret)))))))
/-- ambidexter/disk.Write$2 -/
def A55 : AFn := .code [.t 3] (
(.seq (
.reg none [
  ⟨some 3, .as (.c (.int .i64 0)), none, true⟩] (some [0, 1, 2]) []) (
(.seq (
(.seq (
.reg none [
  ⟨some 4, .load true 4 (.t 0), none, true⟩,
  ⟨some 5, .load false 1 (.t 1), none, true⟩,
  ⟨some 6, .call 53 [.t 4, .t 5], none, true⟩,
  ⟨some 7, .un .not (.t 6), none, true⟩,
  ⟨some 8, .mv (.t 7), none, true⟩,
  ⟨some 9, .load false 1 (.t 2), some (8, false), true⟩,
  ⟨some 10, .len 0 (.t 9), some (8, false), true⟩,
  ⟨some 11, .bin .gtr (.t 10) (.c (.int .i64 64)), some (8, false), true⟩,
  ⟨some 12, .pick (.t 8) (.c (.bool true)) (.t 11), none, true⟩] (some [12]) []) (
(.cond (.t 12) (
  (.seq (
  .reg none [
    ⟨some 3, .as (.c (.int .i64 1)), none, true⟩] (some [3]) []) (
  .ret))) (
  .skip))))) (
(.seq (
.reg none [
  ⟨some 3, .as (.c (.int .i64 0)), none, true⟩] (some [3]) []) (
.ret)))))))
def A56_L0b : ACode := 
  (.seq (
  .reg none [
    ⟨some 9, .bin .lss (.t 8) (.t 7), none, true⟩] (some [6, 7, 8, 9]) []) (
  (.seq (
  (.cond (.t 9) (
    .skip) (
    .exit 0))) (
  (.seq (
  (.block 1 (
  (.seq (
  .reg none [
    ⟨some 10, .ias 1 (.t 6) (.t 8), none, true⟩,
    ⟨some 11, .load false 1 (.t 10), none, true⟩,
    ⟨some 4, .as (.t 11), none, true⟩] (some [4, 6, 7, 8]) []) (
  (.seq (
  .reg none [
    ⟨some 12, .mv (.t 4), none, true⟩,
    ⟨some 13, .cal (.t 12) [], none, true⟩,
    ⟨some 5, .as (.t 13), none, true⟩] (some [5, 6, 7, 8]) []) (
  (.seq (
  .reg none [
    ⟨some 14, .mv (.t 5), none, true⟩,
    ⟨some 15, .bin .neq (.t 14) (.c (.int .i64 0)), none, true⟩] (some [5, 6, 7, 8, 15]) []) (
  (.cond (.t 15) (
    (.seq (
    .reg none [
      ⟨some 16, .mv (.t 5), none, true⟩,
      ⟨some 2, .as (.t 16), none, true⟩] (some [2]) []) (
    .ret))) (
    .skip))))))))) (some [6, 7, 8]) [2, 4, 5, 13])) (
  .reg none [
    ⟨some 17, .bin .add (.t 8) (.c (.int .i64 1)), none, true⟩,
    ⟨some 8, .mv (.t 17), none, true⟩] (some [6, 7, 8]) []))))))
def A56_L0 : ACode := .loop A56_L0b (some [6, 7, 8]) [2, 4, 5, 13]
/-- ambidexter/disk.refused -/
def A56 : AFn := .code [.t 2] (
(.seq (
.reg none [
  ⟨some 2, .as (.c (.int .i64 0)), none, true⟩] (some [0]) []) (
(.seq (
(.seq (
.reg none [
  ⟨some 6, .mv (.t 0), none, true⟩,
  ⟨some 7, .len 0 (.t 6), none, true⟩,
  ⟨some 8, .mv (.c (.int .i64 0)), none, true⟩] (some [6, 7, 8]) []) (
(.block 0 (
A56_L0) (some []) [2, 4, 5, 13])))) (
(.seq (
.reg none [
  ⟨some 2, .as (.c (.int .i64 0)), none, true⟩] (some [2]) []) (
.ret)))))))
/-- slices.Clone[[]byte,byte] -/
def A57 : AFn := .code [.t 2] (
(.seq (
.reg none [
  ⟨some 2, .as (.c (.nils 1)), none, true⟩] (some [0]) []) (
(.seq (
(.seq (
.reg none [
  ⟨some 3, .mv (.t 0), none, true⟩,
  ⟨some 4, .isn false (.t 3), none, true⟩] (some [0, 4]) []) (
(.cond (.t 4) (
  (.seq (
  .reg none [
    ⟨some 2, .as (.c (.nils 1)), none, true⟩] (some [2]) []) (
  .ret))) (
  .skip))))) (
(.seq (
.reg none [
  ⟨some 5, .bsl 1 0 [.int .u8 0] [], none, true⟩,
  ⟨some 6, .mv (.t 0), none, true⟩,
  ⟨some 7, .app 1 (.t 5) (.t 6), none, true⟩,
  ⟨some 2, .as (.t 7), none, true⟩] (some [2]) []) (
.ret)))))))
/-- ambidexter/disk.changed[[]byte] -/
def A58 : AFn := .code [.t 6] (
(.seq (
.reg none [
  ⟨some 6, .as (.c (.nils 1)), none, true⟩] (some [0, 1, 2]) []) (
(.seq (
.reg none [
  ⟨some 8, .mv (.t 0), none, true⟩,
  ⟨some 9, .call 81 [.t 8], none, true⟩,
  ⟨some 7, .as (.t 9), none, true⟩] (some [1, 2, 7]) []) (
(.seq (
.reg none [
  ⟨some 10, .mv (.t 7), none, true⟩,
  ⟨some 11, .mv (.t 1), none, true⟩,
  ⟨some 12, .mv (.t 2), none, true⟩,
  ⟨some 13, .ias 1 (.t 10) (.t 11), none, true⟩,
  ⟨none, .store 1 (.t 13) (.t 12), none, true⟩] (some [7]) []) (
(.seq (
.reg none [
  ⟨some 14, .mv (.t 7), none, true⟩,
  ⟨some 6, .as (.t 14), none, true⟩] (some [6]) []) (
.ret)))))))))
/-- ambidexter/ambidexterlaw31.One -/
def A59 : AFn := .code [.cell true 12 2] (
(.seq (
.reg none [
  ⟨some 2, .alloc [.int .i64 0, .int .i64 0, .int .i64 0, .int .i64 0, .int .i64 0, .int .i64 0, .int .i64 0, .int .i64 0, .int .i64 0, .int .i64 0, .nils 1, .int .i64 0], none, true⟩] (some [0, 2]) []) (
(.seq (
.reg none [
  ⟨some 3, .mv (.t 0), none, true⟩,
  ⟨some 4, .build [.int .i64 0, .int .i64 0, .int .i64 0] [(0, 1, .c (.int .i64 1)), (1, 1, .c (.int .i64 (-17))), (2, 1, .c (.int .i64 18))], none, true⟩,
  ⟨some 5, .build [.int .i64 0, .int .i64 0, .int .i64 0] [], none, true⟩,
  ⟨some 6, .build [.int .i64 0, .int .i64 0, .int .i64 0, .int .i64 0, .int .i64 0, .int .i64 0] [(0, 3, .t 4), (3, 3, .t 5)], none, true⟩,
  ⟨some 7, .build [.int .i64 0, .int .i64 0] [(0, 1, .c (.int .i64 (-1))), (1, 1, .c (.int .i64 2))], none, true⟩,
  ⟨some 8, .bsl 1 3 [.int .i64 0] [(0, .c (.int .i64 3)), (1, .c (.int .i64 0)), (2, .c (.int .i64 (-1)))], none, true⟩,
  ⟨some 9, .build [.int .i64 0, .int .i64 0, .int .i64 0, .int .i64 0, .int .i64 0, .int .i64 0, .int .i64 0, .int .i64 0, .nils 1] [(0, 6, .t 6), (6, 2, .t 7), (8, 1, .t 8)], none, true⟩,
  ⟨some 10, .build [.int .i64 0, .int .i64 0, .int .i64 0, .int .i64 0, .int .i64 0, .int .i64 0, .int .i64 0, .int .i64 0, .int .i64 0, .int .i64 0, .nils 1, .int .i64 0] [(0, 1, .c (.int .i64 1)), (1, 1, .t 3), (2, 9, .t 9), (11, 1, .c (.int .i64 2))], none, true⟩,
  ⟨none, .store 12 (.t 2) (.t 10), none, true⟩] (some [2]) []) (
.ret)))))
def A60_L0b : ACode := 
  (.seq (
  .reg none [
    ⟨some 8, .bin .lss (.t 7) (.t 6), none, true⟩] (some [0, 5, 6, 7, 8]) []) (
  (.seq (
  (.cond (.t 8) (
    .skip) (
    .exit 0))) (
  (.seq (
  (.block 1 (
  (.seq (
  .reg none [
    ⟨some 9, .mv (.t 5), none, true⟩,
    ⟨some 10, .bin .shl (.t 9) (.c (.int .u64 8)), none, true⟩,
    ⟨some 11, .mv (.t 0), none, true⟩,
    ⟨some 12, .nilc (.t 11), none, true⟩,
    ⟨some 13, .fad 0 (.t 12), none, true⟩,
    ⟨some 14, .load false 1 (.t 13), none, true⟩,
    ⟨some 15, .ias 1 (.t 14) (.c (.int .i64 0)), none, true⟩,
    ⟨some 16, .load false 1 (.t 15), none, true⟩,
    ⟨some 17, .conv .i64 (.t 16), none, true⟩,
    ⟨some 18, .bin .or (.t 10) (.t 17), none, true⟩,
    ⟨some 5, .as (.t 18), none, true⟩] (some [0, 5, 6, 7]) []) (
  .reg none [
    ⟨some 19, .mv (.t 0), none, true⟩,
    ⟨some 20, .mv (.t 0), none, true⟩,
    ⟨some 21, .nilc (.t 20), none, true⟩,
    ⟨some 22, .fad 0 (.t 21), none, true⟩,
    ⟨some 23, .load false 1 (.t 22), none, true⟩,
    ⟨some 24, .sls 1 (.t 23) (some (.c (.int .i64 1))) none, none, true⟩,
    ⟨some 25, .nilc (.t 19), none, true⟩,
    ⟨some 26, .fad 0 (.t 25), none, true⟩,
    ⟨none, .store 1 (.t 26) (.t 24), none, true⟩] (some [0, 5, 6, 7]) []))) (some [0, 5, 6, 7]) [])) (
  .reg none [
    ⟨some 27, .bin .add (.t 7) (.c (.int .i64 1)), none, true⟩,
    ⟨some 7, .mv (.t 27), none, true⟩] (some [0, 5, 6, 7]) []))))))
def A60_L0 : ACode := .loop A60_L0b (some [0, 5, 6, 7]) []
/-- (*ambidexter/journal.bytes).next -/
def A60 : AFn := .code [.t 4] (
(.seq (
.reg none [
  ⟨some 4, .as (.c (.int .i64 0)), none, true⟩] (some [0, 1]) []) (
(.seq (
.reg none [
  ⟨some 5, .as (.c (.int .i64 0)), none, true⟩] (some [0, 1, 5]) []) (
(.seq (
(.seq (
.reg none [
  ⟨some 6, .mv (.t 1), none, true⟩,
  ⟨some 7, .mv (.c (.int .i64 0)), none, true⟩] (some [0, 5, 6, 7]) []) (
(.block 0 (
A60_L0) (some [5]) [])))) (
(.seq (
.reg none [
  ⟨some 28, .mv (.t 5), none, true⟩,
  ⟨some 4, .as (.t 28), none, true⟩] (some [4]) []) (
.ret)))))))))
def A61_L0b : ACode := 
  (.seq (
  .reg none [
    ⟨some 37, .bin .lss (.t 36) (.t 35), none, true⟩] (some [1, 34, 35, 36, 37]) []) (
  (.seq (
  (.cond (.t 37) (
    .skip) (
    .exit 4))) (
  (.seq (
  (.block 5 (
  (.seq (
  .reg none [
    ⟨some 38, .ias 1 (.t 34) (.t 36), none, true⟩,
    ⟨some 39, .load false 1 (.t 38), none, true⟩,
    ⟨some 8, .as (.t 39), none, true⟩] (some [1, 8, 34, 35, 36]) []) (
  (.seq (
  .reg none [
    ⟨some 40, .mv (.t 8), none, true⟩,
    ⟨some 41, .call 82 [.t 40, .c (.int .i64 (-1)), .c (.int .i64 15)], none, true⟩,
    ⟨some 42, .un .not (.t 41), none, true⟩] (some [1, 34, 35, 36, 42]) []) (
  (.cond (.t 42) (
    (.seq (
    .reg none [
      ⟨some 2, .as (.c (.bool false)), none, true⟩] (some [2]) []) (
    .ret))) (
    .skip))))))) (some [1, 34, 35, 36]) [2, 8, 41])) (
  .reg none [
    ⟨some 43, .bin .add (.t 36) (.c (.int .i64 1)), none, true⟩,
    ⟨some 36, .mv (.t 43), none, true⟩] (some [1, 34, 35, 36]) []))))))
def A61_L0 : ACode := .loop A61_L0b (some [1, 34, 35, 36]) [2, 8, 41]
def A61_L1b : ACode := 
    (.seq (
    .reg none [
      ⟨some 18, .bin .lss (.t 17) (.c (.int .i64 3)), none, true⟩] (some [1, 3, 11, 12, 16, 17, 18]) []) (
    (.seq (
    (.cond (.t 18) (
      .skip) (
      .exit 2))) (
    (.seq (
    (.block 3 (
    (.seq (
    .reg none [
      ⟨some 19, .ixa false 3 1 (.t 16) (.t 17), none, true⟩,
      ⟨some 6, .as (.t 19), none, true⟩] (some [1, 3, 6, 11, 12, 16, 17]) []) (
    (.seq (
    .reg none [
      ⟨some 20, .mv (.t 6), none, true⟩,
      ⟨some 21, .call 82 [.t 20, .c (.int .i64 (-17)), .c (.int .i64 18)], none, true⟩,
      ⟨some 22, .un .not (.t 21), none, true⟩] (some [1, 3, 11, 12, 16, 17, 22]) []) (
    (.cond (.t 22) (
      (.seq (
      .reg none [
        ⟨some 2, .as (.c (.bool false)), none, true⟩] (some [2]) []) (
      .ret))) (
      .skip))))))) (some [1, 3, 11, 12, 16, 17]) [2, 6, 21])) (
    .reg none [
      ⟨some 23, .bin .add (.t 17) (.c (.int .i64 1)), none, true⟩,
      ⟨some 17, .mv (.t 23), none, true⟩] (some [1, 3, 11, 12, 16, 17]) []))))))
def A61_L1 : ACode := .loop A61_L1b (some [1, 3, 11, 12, 16, 17]) [2, 6, 21]
def A61_L2b : ACode := 
  (.seq (
  .reg none [
    ⟨some 13, .bin .lss (.t 12) (.c (.int .i64 2)), none, true⟩] (some [1, 11, 12, 13]) []) (
  (.seq (
  (.cond (.t 13) (
    .skip) (
    .exit 0))) (
  (.seq (
  (.block 1 (
  (.seq (
  .reg none [
    ⟨some 14, .mv (.t 12), none, true⟩,
    ⟨some 15, .ixa true 2 3 (.t 11) (.t 12), none, true⟩,
    ⟨some 4, .alloc [.int .i64 0, .int .i64 0, .int .i64 0], none, true⟩,
    ⟨some 3, .as (.t 14), none, true⟩,
    ⟨none, .store 3 (.t 4) (.t 15), none, true⟩] (some [1, 3, 4, 11, 12]) []) (
  (.seq (
  (.seq (
  .reg none [
    ⟨some 16, .load true 3 (.t 4), none, true⟩,
    ⟨some 17, .mv (.c (.int .i64 0)), none, true⟩] (some [1, 3, 11, 12, 16, 17]) [4]) (
  (.block 2 (
  A61_L1) (some [1, 3, 11, 12]) [2, 6, 21])))) (
  (.seq (
  .reg none [
    ⟨some 24, .mv (.t 3), none, true⟩,
    ⟨some 25, .fad 2 (.t 1), none, true⟩,
    ⟨some 26, .fad 6 (.t 25), none, true⟩,
    ⟨some 27, .iaa 2 1 (.t 26) (.t 24), none, true⟩,
    ⟨some 28, .load false 1 (.t 27), none, true⟩,
    ⟨some 29, .call 82 [.t 28, .c (.int .i64 (-1)), .c (.int .i64 7)], none, true⟩,
    ⟨some 30, .un .not (.t 29), none, true⟩] (some [1, 11, 12, 30]) []) (
  (.cond (.t 30) (
    (.seq (
    .reg none [
      ⟨some 2, .as (.c (.bool false)), none, true⟩] (some [2]) []) (
    .ret))) (
    .skip))))))))) (some [1, 11, 12]) [2, 3, 4, 6, 21, 29])) (
  .reg none [
    ⟨some 31, .bin .add (.t 12) (.c (.int .i64 1)), none, true⟩,
    ⟨some 12, .mv (.t 31), none, true⟩] (some [1, 11, 12]) []))))))
def A61_L2 : ACode := .loop A61_L2b (some [1, 11, 12]) [2, 3, 4, 6, 21, 29]
/-- ambidexter/journal.may -/
def A61 : AFn := .code [.t 2] (
(.seq (
.reg none [
  ⟨some 1, .box (.t 0), none, true⟩,
  ⟨some 2, .as (.c (.bool false)), none, true⟩] (some [1]) []) (
(.seq (
(.seq (
.reg none [
  ⟨some 9, .fad 2 (.t 1), none, true⟩,
  ⟨some 10, .fad 0 (.t 9), none, true⟩,
  ⟨some 11, .load true 6 (.t 10), none, true⟩,
  ⟨some 12, .mv (.c (.int .i64 0)), none, true⟩] (some [1, 11, 12]) []) (
(.block 0 (
A61_L2) (some [1]) [2, 3, 4, 6, 21, 29])))) (
(.seq (
(.seq (
.reg none [
  ⟨some 32, .fad 2 (.t 1), none, true⟩,
  ⟨some 33, .fad 8 (.t 32), none, true⟩,
  ⟨some 34, .load false 1 (.t 33), none, true⟩,
  ⟨some 35, .len 0 (.t 34), none, true⟩,
  ⟨some 36, .mv (.c (.int .i64 0)), none, true⟩] (some [1, 34, 35, 36]) []) (
(.block 4 (
A61_L0) (some [1]) [2, 8, 41])))) (
(.seq (
.reg none [
  ⟨some 44, .fad 0 (.t 1), none, true⟩,
  ⟨some 45, .load false 1 (.t 44), none, true⟩,
  ⟨some 46, .call 82 [.t 45, .c (.int .i64 1), .c (.int .i64 1073741824)], none, true⟩,
  ⟨some 47, .mv (.t 46), none, true⟩,
  ⟨some 48, .fad 1 (.t 1), some (47, true), true⟩,
  ⟨some 49, .load false 1 (.t 48), some (47, true), true⟩,
  ⟨some 50, .call 82 [.t 49, .c (.int .i64 0), .c (.int .i64 300)], some (47, true), true⟩,
  ⟨some 51, .pick (.t 47) (.t 50) (.c (.bool false)), none, true⟩,
  ⟨some 52, .mv (.t 51), none, true⟩,
  ⟨some 53, .fad 2 (.t 1), some (52, true), true⟩,
  ⟨some 54, .fad 8 (.t 53), some (52, true), true⟩,
  ⟨some 55, .load false 1 (.t 54), some (52, true), true⟩,
  ⟨some 56, .len 0 (.t 55), some (52, true), true⟩,
  ⟨some 57, .bin .leq (.t 56) (.c (.int .i64 8)), some (52, true), true⟩,
  ⟨some 58, .pick (.t 52) (.t 57) (.c (.bool false)), none, true⟩,
  ⟨some 59, .mv (.t 58), none, true⟩,
  ⟨some 60, .fad 11 (.t 1), some (59, true), true⟩,
  ⟨some 61, .load false 1 (.t 60), some (59, true), true⟩,
  ⟨some 62, .call 82 [.t 61, .c (.int .i64 1), .c (.int .i64 5)], some (59, true), true⟩,
  ⟨some 63, .pick (.t 59) (.t 62) (.c (.bool false)), none, true⟩,
  ⟨some 2, .as (.t 63), none, true⟩] (some [2]) [1]) (
.ret)))))))))
def A62_L0b : ACode := 
  (.seq (
  .reg none [
    ⟨some 14, .bin .lss (.t 13) (.t 12), none, true⟩] (some [0, 1, 12, 13, 14]) []) (
  (.seq (
  (.cond (.t 14) (
    .skip) (
    .exit 0))) (
  (.seq (
  (.block 1 (
  (.seq (
  .reg none [
    ⟨some 15, .mv (.t 13), none, true⟩,
    ⟨some 5, .as (.t 15), none, true⟩] (some [0, 1, 5, 12, 13]) []) (
  (.seq (
  .reg (some [.dr [22, 23] [], .dr [22, 23] [], .dr [22, 23] [], .dr [22, 23] [], .dr [18, 19] [], .dr [18, 19] [], .dr [18, 19] [], .dr [18, 19] [], .free]) [
    ⟨some 16, .mv (.t 0), none, true⟩,
    ⟨some 17, .mv (.t 5), none, true⟩,
    ⟨some 18, .ias 1 (.t 16) (.t 17), none, true⟩,
    ⟨some 19, .load false 1 (.t 18), none, true⟩,
    ⟨some 20, .mv (.t 1), none, true⟩,
    ⟨some 21, .mv (.t 5), none, true⟩,
    ⟨some 22, .ias 1 (.t 20) (.t 21), none, true⟩,
    ⟨some 23, .load false 1 (.t 22), none, true⟩,
    ⟨some 24, .bin .neq (.t 19) (.t 23), none, true⟩] (some [0, 1, 12, 13, 24]) []) (
  (.cond (.t 24) (
    (.seq (
    .reg none [
      ⟨some 4, .as (.c (.bool false)), none, true⟩] (some [4]) []) (
    .ret))) (
    .skip))))))) (some [0, 1, 12, 13]) [4, 5])) (
  .reg none [
    ⟨some 25, .bin .add (.t 13) (.c (.int .i64 1)), none, true⟩,
    ⟨some 13, .mv (.t 25), none, true⟩] (some [0, 1, 12, 13]) []))))))
def A62_L0 : ACode := .loop A62_L0b (some [0, 1, 12, 13]) [4, 5]
/-- slices.Equal[[]byte,byte] -/
def A62 : AFn := .code [.t 4] (
(.seq (
.reg none [
  ⟨some 4, .as (.c (.bool false)), none, true⟩] (some [0, 1]) []) (
(.seq (
(.seq (
.reg none [
  ⟨some 6, .mv (.t 0), none, true⟩,
  ⟨some 7, .len 0 (.t 6), none, true⟩,
  ⟨some 8, .mv (.t 1), none, true⟩,
  ⟨some 9, .len 0 (.t 8), none, true⟩,
  ⟨some 10, .bin .neq (.t 7) (.t 9), none, true⟩] (some [0, 1, 10]) []) (
(.cond (.t 10) (
  (.seq (
  .reg none [
    ⟨some 4, .as (.c (.bool false)), none, true⟩] (some [4]) []) (
  .ret))) (
  .skip))))) (
(.seq (
(.seq (
.reg none [
  ⟨some 11, .mv (.t 0), none, true⟩,
  ⟨some 12, .len 0 (.t 11), none, true⟩,
  ⟨some 13, .mv (.c (.int .i64 0)), none, true⟩] (some [0, 1, 12, 13]) []) (
(.block 0 (
A62_L0) (some []) [4, 5])))) (
(.seq (
.reg none [
  ⟨some 4, .as (.c (.bool true)), none, true⟩] (some [4]) []) (
.ret)))))))))
def A63_L0b : ACode := 
  (.seq (
  .reg none [
    ⟨some 28, .bin .lss (.t 27) (.t 26), none, true⟩] (some [6, 25, 26, 27, 28]) []) (
  (.seq (
  (.cond (.t 28) (
    .skip) (
    .exit 2))) (
  (.seq (
  (.block 3 (
  (.seq (
  .reg none [
    ⟨some 29, .ias 1 (.t 25) (.t 27), none, true⟩,
    ⟨some 30, .load false 1 (.t 29), none, true⟩,
    ⟨some 8, .as (.t 30), none, true⟩] (some [6, 8, 25, 26, 27]) []) (
  .reg none [
    ⟨some 31, .mv (.t 6), none, true⟩,
    ⟨some 32, .mv (.t 8), none, true⟩,
    ⟨some 33, .app 1 (.t 31) (.t 32), none, true⟩,
    ⟨some 6, .as (.t 33), none, true⟩] (some [6, 25, 26, 27]) []))) (some [6, 25, 26, 27]) [8])) (
  .reg none [
    ⟨some 34, .bin .add (.t 27) (.c (.int .i64 1)), none, true⟩,
    ⟨some 27, .mv (.t 34), none, true⟩] (some [6, 25, 26, 27]) []))))))
def A63_L0 : ACode := .loop A63_L0b (some [6, 25, 26, 27]) [8]
def A63_L1b : ACode := 
  (.seq (
  .reg none [
    ⟨some 12, .bin .lss (.t 11) (.t 10), none, true⟩] (some [0, 3, 9, 10, 11, 12]) []) (
  (.seq (
  (.cond (.t 12) (
    .skip) (
    .exit 0))) (
  (.seq (
  (.block 1 (
  (.seq (
  .reg none [
    ⟨some 13, .ias 1 (.t 9) (.t 11), none, true⟩,
    ⟨some 14, .load false 1 (.t 13), none, true⟩,
    ⟨some 5, .as (.t 14), none, true⟩] (some [0, 3, 5, 9, 10, 11]) []) (
  (.seq (
  .reg none [
    ⟨some 15, .mv (.t 3), none, true⟩,
    ⟨some 16, .mv (.t 5), none, true⟩,
    ⟨some 17, .len 0 (.t 16), none, true⟩,
    ⟨some 18, .bin .add (.t 15) (.t 17), none, true⟩,
    ⟨some 3, .as (.t 18), none, true⟩] (some [0, 3, 9, 10, 11]) []) (
  (.seq (
  .reg none [
    ⟨some 19, .mv (.t 3), none, true⟩,
    ⟨some 20, .bin .lss (.t 19) (.c (.int .i64 0)), none, true⟩] (some [0, 3, 9, 10, 11, 20]) []) (
  (.cond (.t 20) (
    .reg none [
      ⟨some 21, .bad, none, true⟩,
      ⟨none, .bad, none, true⟩] (some [0, 3, 9, 10, 11]) []) (
    .skip))))))))) (some [0, 3, 9, 10, 11]) [5])) (
  .reg none [
    ⟨some 22, .bin .add (.t 11) (.c (.int .i64 1)), none, true⟩,
    ⟨some 11, .mv (.t 22), none, true⟩] (some [0, 3, 9, 10, 11]) []))))))
def A63_L1 : ACode := .loop A63_L1b (some [0, 3, 9, 10, 11]) [5]
/-- slices.Concat[[]byte,byte] -/
def A63 : AFn := .code [.t 2] (
(.seq (
.reg none [
  ⟨some 2, .as (.c (.nils 1)), none, true⟩] (some [0]) []) (
(.seq (
.reg none [
  ⟨some 3, .as (.c (.int .i64 0)), none, true⟩] (some [0, 3]) []) (
(.seq (
(.seq (
.reg none [
  ⟨some 9, .mv (.t 0), none, true⟩,
  ⟨some 10, .len 0 (.t 9), none, true⟩,
  ⟨some 11, .mv (.c (.int .i64 0)), none, true⟩] (some [0, 3, 9, 10, 11]) []) (
(.block 0 (
A63_L1) (some [0, 3]) [5])))) (
(.seq (
.reg none [
  ⟨some 23, .mv (.t 3), none, true⟩,
  ⟨some 24, .call 83 [.c (.nul), .t 23], none, true⟩,
  ⟨some 6, .as (.t 24), none, true⟩] (some [0, 6]) []) (
(.seq (
(.seq (
.reg none [
  ⟨some 25, .mv (.t 0), none, true⟩,
  ⟨some 26, .len 0 (.t 25), none, true⟩,
  ⟨some 27, .mv (.c (.int .i64 0)), none, true⟩] (some [6, 25, 26, 27]) []) (
(.block 2 (
A63_L0) (some [6]) [8])))) (
(.seq (
.reg none [
  ⟨some 35, .mv (.t 6), none, true⟩,
  ⟨some 2, .as (.t 35), none, true⟩] (some [2]) []) (
.ret)))))))))))))
def A64_L0b : ACode := 
  (.seq (
  .reg none [
    ⟨some 11, .bin .lss (.t 10) (.t 9), none, true⟩] (some [0, 5, 8, 9, 10, 11]) []) (
  (.seq (
  (.cond (.t 11) (
    .skip) (
    .exit 0))) (
  (.seq (
  (.block 1 (
  (.seq (
  .reg none [
    ⟨some 12, .ias 1 (.t 8) (.t 10), none, true⟩,
    ⟨some 13, .load false 1 (.t 12), none, true⟩,
    ⟨some 7, .as (.t 13), none, true⟩] (some [0, 5, 7, 8, 9, 10]) []) (
  .reg none [
    ⟨some 14, .mv (.t 5), none, true⟩,
    ⟨some 15, .mv (.t 7), none, true⟩,
    ⟨some 16, .mv (.t 0), none, true⟩,
    ⟨some 17, .bin .add (.t 15) (.t 16), none, true⟩,
    ⟨some 18, .conv .u8 (.t 17), none, true⟩,
    ⟨some 19, .bsl 1 1 [.int .u8 0] [(0, .t 18)], none, true⟩,
    ⟨some 20, .app 1 (.t 14) (.t 19), none, true⟩,
    ⟨some 5, .as (.t 20), none, true⟩] (some [0, 5, 8, 9, 10]) []))) (some [0, 5, 8, 9, 10]) [7, 19])) (
  .reg none [
    ⟨some 21, .bin .add (.t 10) (.c (.int .i64 1)), none, true⟩,
    ⟨some 10, .mv (.t 21), none, true⟩] (some [0, 5, 8, 9, 10]) []))))))
def A64_L0 : ACode := .loop A64_L0b (some [0, 5, 8, 9, 10]) [7, 19]
/-- ambidexter/journal.row -/
def A64 : AFn := .code [.t 4] (
(.seq (
.reg none [
  ⟨some 4, .as (.c (.nils 1)), none, true⟩] (some [0, 1]) []) (
(.seq (
.reg none [
  ⟨some 5, .as (.c (.nils 1)), none, true⟩] (some [0, 1, 5]) []) (
(.seq (
(.seq (
.reg none [
  ⟨some 8, .mv (.t 1), none, true⟩,
  ⟨some 9, .len 0 (.t 8), none, true⟩,
  ⟨some 10, .mv (.c (.int .i64 0)), none, true⟩] (some [0, 5, 8, 9, 10]) []) (
(.block 0 (
A64_L0) (some [5]) [7, 19])))) (
(.seq (
.reg none [
  ⟨some 22, .mv (.t 5), none, true⟩,
  ⟨some 4, .as (.t 22), none, true⟩] (some [4]) []) (
.ret)))))))))
def A65_L0b : ACode := 
  (.seq (
  (.seq (
  .reg none [
    ⟨some 11, .mv (.t 6), none, true⟩,
    ⟨some 12, .bin .geq (.t 11) (.c (.int .i64 0)), none, true⟩] (some [0, 5, 6, 12]) []) (
  (.cond (.t 12) (
    .skip) (
    .exit 0))))) (
  (.seq (
  (.block 1 (
  (.seq (
  .reg none [
    ⟨some 15, .mv (.t 5), none, true⟩,
    ⟨some 16, .mv (.t 6), none, true⟩,
    ⟨some 17, .mv (.t 0), none, true⟩,
    ⟨some 18, .conv .u8 (.t 17), none, true⟩,
    ⟨some 19, .ias 1 (.t 15) (.t 16), none, true⟩,
    ⟨none, .store 1 (.t 19) (.t 18), none, true⟩] (some [0, 5, 6]) []) (
  .reg none [
    ⟨some 20, .mv (.t 0), none, true⟩,
    ⟨some 21, .bin .shr (.t 20) (.c (.int .u64 8)), none, true⟩,
    ⟨some 0, .as (.t 21), none, true⟩] (some [0, 5, 6]) []))) (some [0, 5, 6]) [])) (
  .reg none [
    ⟨some 13, .mv (.t 6), none, true⟩,
    ⟨some 14, .bin .sub (.t 13) (.c (.int .i64 1)), none, true⟩,
    ⟨some 6, .as (.t 14), none, true⟩] (some [0, 5, 6]) []))))
def A65_L0 : ACode := .loop A65_L0b (some [0, 5, 6]) []
/-- ambidexter/journal.wide -/
def A65 : AFn := .code [.t 4] (
(.seq (
.reg none [
  ⟨some 4, .as (.c (.nils 1)), none, true⟩] (some [0, 1]) []) (
(.seq (
.reg none [
  ⟨some 7, .mv (.t 1), none, true⟩,
  ⟨some 8, .mks 1 [.int .u8 0] (.t 7) (.t 7), none, true⟩,
  ⟨some 5, .as (.t 8), none, true⟩] (some [0, 1, 5]) []) (
(.seq (
(.seq (
.reg none [
  ⟨some 9, .mv (.t 1), none, true⟩,
  ⟨some 10, .bin .sub (.t 9) (.c (.int .i64 1)), none, true⟩,
  ⟨some 6, .as (.t 10), none, true⟩] (some [0, 5, 6]) []) (
(.block 0 (
A65_L0) (some [5]) [0, 6])))) (
(.seq (
.reg none [
  ⟨some 22, .mv (.t 5), none, true⟩,
  ⟨some 4, .as (.t 22), none, true⟩] (some [4]) []) (
.ret)))))))))
def A66_L0b : ACode := 
  (.seq (
  .reg none [
    ⟨some 9, .bin .lss (.t 8) (.t 7), none, true⟩] (some [3, 6, 7, 8, 9]) []) (
  (.seq (
  (.cond (.t 9) (
    .skip) (
    .exit 0))) (
  (.seq (
  (.block 1 (
  (.seq (
  .reg none [
    ⟨some 10, .mv (.t 8), none, true⟩,
    ⟨some 11, .ias 1 (.t 6) (.t 8), none, true⟩,
    ⟨some 12, .load false 1 (.t 11), none, true⟩,
    ⟨some 4, .as (.t 10), none, true⟩,
    ⟨some 5, .as (.t 12), none, true⟩] (some [3, 4, 5, 6, 7, 8]) []) (
  .reg none [
    ⟨some 13, .mv (.t 3), none, true⟩,
    ⟨some 14, .mv (.t 4), none, true⟩,
    ⟨some 15, .bin .add (.t 14) (.c (.int .i64 1)), none, true⟩,
    ⟨some 16, .mv (.t 5), none, true⟩,
    ⟨some 17, .conv .i64 (.t 16), none, true⟩,
    ⟨some 18, .bin .mul (.t 15) (.t 17), none, true⟩,
    ⟨some 19, .bin .add (.t 13) (.t 18), none, true⟩,
    ⟨some 3, .as (.t 19), none, true⟩] (some [3, 6, 7, 8]) []))) (some [3, 6, 7, 8]) [4, 5])) (
  .reg none [
    ⟨some 20, .bin .add (.t 8) (.c (.int .i64 1)), none, true⟩,
    ⟨some 8, .mv (.t 20), none, true⟩] (some [3, 6, 7, 8]) []))))))
def A66_L0 : ACode := .loop A66_L0b (some [3, 6, 7, 8]) [4, 5]
/-- ambidexter/journal.sum -/
def A66 : AFn := .code [.t 2] (
(.seq (
.reg none [
  ⟨some 2, .as (.c (.int .i64 0)), none, true⟩] (some [0]) []) (
(.seq (
.reg none [
  ⟨some 3, .as (.c (.int .i64 0)), none, true⟩] (some [0, 3]) []) (
(.seq (
(.seq (
.reg none [
  ⟨some 6, .mv (.t 0), none, true⟩,
  ⟨some 7, .len 0 (.t 6), none, true⟩,
  ⟨some 8, .mv (.c (.int .i64 0)), none, true⟩] (some [3, 6, 7, 8]) []) (
(.block 0 (
A66_L0) (some [3]) [4, 5])))) (
(.seq (
.reg none [
  ⟨some 21, .mv (.t 3), none, true⟩,
  ⟨some 22, .bin .rem (.t 21) (.c (.int .i64 65521)), none, true⟩,
  ⟨some 2, .as (.t 22), none, true⟩] (some [2]) []) (
.ret)))))))))
/-- ambidexter/journal.after -/
def A68 : AFn := .code [.t 4] (
(.seq (
.reg none [
  ⟨some 2, .box (.t 0), none, true⟩,
  ⟨some 4, .as (.c (.int .i64 0)), none, true⟩] (some [1, 2]) []) (
(.seq (
.reg none [
  ⟨some 5, .mv (.t 1), none, true⟩,
  ⟨some 6, .bin .add (.t 5) (.c (.int .i64 1)), none, true⟩,
  ⟨some 7, .fad 0 (.t 2), none, true⟩,
  ⟨some 8, .load false 1 (.t 7), none, true⟩,
  ⟨some 9, .len 0 (.t 8), none, true⟩,
  ⟨some 10, .mx [.c (.int .i64 1), .t 9], none, true⟩,
  ⟨some 11, .bin .rem (.t 6) (.t 10), none, true⟩,
  ⟨some 4, .as (.t 11), none, true⟩] (some [4]) [2]) (
.ret)))))
/-- slices.Clone[[][]byte,[]byte] -/
def A81 : AFn := .code [.t 2] (
(.seq (
.reg none [
  ⟨some 2, .as (.c (.nils 1)), none, true⟩] (some [0]) []) (
(.seq (
(.seq (
.reg none [
  ⟨some 3, .mv (.t 0), none, true⟩,
  ⟨some 4, .isn false (.t 3), none, true⟩] (some [0, 4]) []) (
(.cond (.t 4) (
  (.seq (
  .reg none [
    ⟨some 2, .as (.c (.nils 1)), none, true⟩] (some [2]) []) (
  .ret))) (
  .skip))))) (
(.seq (
.reg none [
  ⟨some 5, .bsl 1 0 [.nils 1] [], none, true⟩,
  ⟨some 6, .mv (.t 0), none, true⟩,
  ⟨some 7, .app 1 (.t 5) (.t 6), none, true⟩,
  ⟨some 2, .as (.t 7), none, true⟩] (some [2]) []) (
.ret)))))))
/-- ambidexter/journal.within -/
def A82 : AFn := .code [.t 6] (
(.seq (
.reg none [
  ⟨some 6, .as (.c (.bool false)), none, true⟩] (some [0, 1, 2]) []) (
(.seq (
.reg none [
  ⟨some 7, .mv (.t 0), none, true⟩,
  ⟨some 8, .mv (.t 1), none, true⟩,
  ⟨some 9, .bin .geq (.t 7) (.t 8), none, true⟩,
  ⟨some 10, .mv (.t 9), none, true⟩,
  ⟨some 11, .mv (.t 0), some (10, true), true⟩,
  ⟨some 12, .mv (.t 2), some (10, true), true⟩,
  ⟨some 13, .bin .leq (.t 11) (.t 12), some (10, true), true⟩,
  ⟨some 14, .pick (.t 10) (.t 13) (.c (.bool false)), none, true⟩,
  ⟨some 6, .as (.t 14), none, true⟩] (some [6]) []) (
.ret)))))
/-- slices.Grow[[]byte,byte] -/
def A83 : AFn := .code [.t 4] (
(.seq (
.reg none [
  ⟨some 4, .as (.c (.nils 1)), none, true⟩] (some [0, 1]) []) (
(.seq (
(.seq (
.reg none [
  ⟨some 5, .mv (.t 1), none, true⟩,
  ⟨some 6, .bin .lss (.t 5) (.c (.int .i64 0)), none, true⟩] (some [0, 1, 6]) []) (
(.cond (.t 6) (
  .reg none [
    ⟨some 7, .bad, none, true⟩,
    ⟨none, .bad, none, true⟩] (some [0, 1]) []) (
  .skip))))) (
(.seq (
(.seq (
.reg none [
  ⟨some 8, .mv (.t 1), none, true⟩,
  ⟨some 9, .mv (.t 0), none, true⟩,
  ⟨some 10, .capn (.t 9), none, true⟩,
  ⟨some 11, .mv (.t 0), none, true⟩,
  ⟨some 12, .len 0 (.t 11), none, true⟩,
  ⟨some 13, .bin .sub (.t 10) (.t 12), none, true⟩,
  ⟨some 14, .bin .sub (.t 8) (.t 13), none, true⟩,
  ⟨some 1, .as (.t 14), none, true⟩] (some [0, 1]) []) (
(.seq (
.reg none [
  ⟨some 15, .mv (.t 1), none, true⟩,
  ⟨some 16, .bin .gtr (.t 15) (.c (.int .i64 0)), none, true⟩] (some [0, 1, 16]) []) (
(.cond (.t 16) (
  .reg none [
    ⟨some 17, .mv (.t 0), none, true⟩,
    ⟨some 18, .mv (.t 0), none, true⟩,
    ⟨some 19, .capn (.t 18), none, true⟩,
    ⟨some 20, .sls 1 (.t 17) none (some (.t 19)), none, true⟩,
    ⟨some 21, .mv (.t 1), none, true⟩,
    ⟨some 22, .apz 1 [.int .u8 0] (.t 20) (.t 21), none, true⟩,
    ⟨some 23, .mv (.t 0), none, true⟩,
    ⟨some 24, .len 0 (.t 23), none, true⟩,
    ⟨some 25, .sls 1 (.t 22) none (some (.t 24)), none, true⟩,
    ⟨some 0, .as (.t 25), none, true⟩] (some [0]) []) (
  .skip))))))) (
(.seq (
.reg none [
  ⟨some 26, .mv (.t 0), none, true⟩,
  ⟨some 4, .as (.t 26), none, true⟩] (some [4]) []) (
.ret)))))))))

def E : FuncId → Option AFn
  | 13 => some A13
  | 17 => some A17
  | 25 => some A25
  | 29 => some A29
  | 30 => some A30
  | 31 => some A31
  | 32 => some A32
  | 33 => some A33
  | 35 => some A35
  | 36 => some A36
  | 38 => some A38
  | 39 => some A39
  | 40 => some A40
  | 42 => some A42
  | 53 => some A53
  | 54 => some A54
  | 55 => some A55
  | 56 => some A56
  | 57 => some A57
  | 58 => some A58
  | 59 => some A59
  | 60 => some A60
  | 61 => some A61
  | 62 => some A62
  | 63 => some A63
  | 64 => some A64
  | 65 => some A65
  | 66 => some A66
  | 68 => some A68
  | 81 => some A81
  | 82 => some A82
  | 83 => some A83
  | _ => none
theorem E_13 : E 13 = some A13 := rfl
theorem E_17 : E 17 = some A17 := rfl
theorem E_25 : E 25 = some A25 := rfl
theorem E_29 : E 29 = some A29 := rfl
theorem E_30 : E 30 = some A30 := rfl
theorem E_31 : E 31 = some A31 := rfl
theorem E_32 : E 32 = some A32 := rfl
theorem E_33 : E 33 = some A33 := rfl
theorem E_35 : E 35 = some A35 := rfl
theorem E_36 : E 36 = some A36 := rfl
theorem E_38 : E 38 = some A38 := rfl
theorem E_39 : E 39 = some A39 := rfl
theorem E_40 : E 40 = some A40 := rfl
theorem E_42 : E 42 = some A42 := rfl
theorem E_53 : E 53 = some A53 := rfl
theorem E_54 : E 54 = some A54 := rfl
theorem E_55 : E 55 = some A55 := rfl
theorem E_56 : E 56 = some A56 := rfl
theorem E_57 : E 57 = some A57 := rfl
theorem E_58 : E 58 = some A58 := rfl
theorem E_59 : E 59 = some A59 := rfl
theorem E_60 : E 60 = some A60 := rfl
theorem E_61 : E 61 = some A61 := rfl
theorem E_62 : E 62 = some A62 := rfl
theorem E_63 : E 63 = some A63 := rfl
theorem E_64 : E 64 = some A64 := rfl
theorem E_65 : E 65 = some A65 := rfl
theorem E_66 : E 66 = some A66 := rfl
theorem E_68 : E 68 = some A68 := rfl
theorem E_81 : E 81 = some A81 := rfl
theorem E_82 : E 82 = some A82 := rfl
theorem E_83 : E 83 = some A83 := rfl
theorem A13_L0_eq (s : St) : K E A13_L0 s = (K E A13_L0b s).bind (loopF E A13_L0 (some [1, 2, 7, 8, 9, 10, 11, 15, 16, 17, 18, 19]) []) := loop_fold rfl s
theorem A13_L1_eq (s : St) : K E A13_L1 s = (K E A13_L1b s).bind (loopF E A13_L1 (some [1, 2, 7, 8, 9, 10, 11]) [6, 12, 13, 14, 15, 16, 17, 18, 19, 47, 86, 97, 105, 106, 131]) := loop_fold rfl s
theorem A17_L0_eq (s : St) : K E A17_L0 s = (K E A17_L0b s).bind (loopF E A17_L0 (some [2, 4, 18, 19]) [5, 25]) := loop_fold rfl s
theorem A33_L0_eq (s : St) : K E A33_L0 s = (K E A33_L0b s).bind (loopF E A33_L0 (some [0, 2, 4, 5, 59, 60]) [66, 68, 69]) := loop_fold rfl s
theorem A33_L1_eq (s : St) : K E A33_L1 s = (K E A33_L1b s).bind (loopF E A33_L1 (some [0, 2, 4, 5, 43]) [8, 48]) := loop_fold rfl s
theorem A33_L2_eq (s : St) : K E A33_L2 s = (K E A33_L2b s).bind (loopF E A33_L2 (some [0, 2, 4, 5, 6, 26, 29]) [7, 35]) := loop_fold rfl s
theorem A33_L3_eq (s : St) : K E A33_L3 s = (K E A33_L3b s).bind (loopF E A33_L3 (some [0, 2, 4, 5, 26]) [6, 7, 35]) := loop_fold rfl s
theorem A36_L0_eq (s : St) : K E A36_L0 s = (K E A36_L0b s).bind (loopF E A36_L0 (some [2, 3, 5]) [4]) := loop_fold rfl s
theorem A42_L0_eq (s : St) : K E A42_L0 s = (K E A42_L0b s).bind (loopF E A42_L0 (some [1, 2, 3, 5, 6, 16, 17]) [7, 8, 9, 10, 11, 23, 30, 48]) := loop_fold rfl s
theorem A56_L0_eq (s : St) : K E A56_L0 s = (K E A56_L0b s).bind (loopF E A56_L0 (some [6, 7, 8]) [2, 4, 5, 13]) := loop_fold rfl s
theorem A60_L0_eq (s : St) : K E A60_L0 s = (K E A60_L0b s).bind (loopF E A60_L0 (some [0, 5, 6, 7]) []) := loop_fold rfl s
theorem A61_L0_eq (s : St) : K E A61_L0 s = (K E A61_L0b s).bind (loopF E A61_L0 (some [1, 34, 35, 36]) [2, 8, 41]) := loop_fold rfl s
theorem A61_L1_eq (s : St) : K E A61_L1 s = (K E A61_L1b s).bind (loopF E A61_L1 (some [1, 3, 11, 12, 16, 17]) [2, 6, 21]) := loop_fold rfl s
theorem A61_L2_eq (s : St) : K E A61_L2 s = (K E A61_L2b s).bind (loopF E A61_L2 (some [1, 11, 12]) [2, 3, 4, 6, 21, 29]) := loop_fold rfl s
theorem A62_L0_eq (s : St) : K E A62_L0 s = (K E A62_L0b s).bind (loopF E A62_L0 (some [0, 1, 12, 13]) [4, 5]) := loop_fold rfl s
theorem A63_L0_eq (s : St) : K E A63_L0 s = (K E A63_L0b s).bind (loopF E A63_L0 (some [6, 25, 26, 27]) [8]) := loop_fold rfl s
theorem A63_L1_eq (s : St) : K E A63_L1 s = (K E A63_L1b s).bind (loopF E A63_L1 (some [0, 3, 9, 10, 11]) [5]) := loop_fold rfl s
theorem A64_L0_eq (s : St) : K E A64_L0 s = (K E A64_L0b s).bind (loopF E A64_L0 (some [0, 5, 8, 9, 10]) [7, 19]) := loop_fold rfl s
theorem A65_L0_eq (s : St) : K E A65_L0 s = (K E A65_L0b s).bind (loopF E A65_L0 (some [0, 5, 6]) []) := loop_fold rfl s
theorem A66_L0_eq (s : St) : K E A66_L0 s = (K E A66_L0b s).bind (loopF E A66_L0 (some [3, 6, 7, 8]) [4, 5]) := loop_fold rfl s
end Go.Proofs.Ytjmnepfdhkabfaa

namespace Go.Proofs.Ytjmnepfdhkabfaa
set_option maxRecDepth 100000
set_option maxHeartbeats 4000000
set_option linter.unusedSimpArgs false
set_option linter.unusedVariables false
open Go Go.Zv
def b1 (b : UInt8) : List LV := [.int .u8 b.toNat]
abbrev bv (s : List UInt8) : LV := .vs (s.map b1)
def s1 (s : List UInt8) : List LV := [bv s]
abbrev sv (l : List (List UInt8)) : LV := .vs (l.map s1)
structure Dsk where
  sec : List (List UInt8)
  fuse : Int
  torn : Int
  down : Bool
abbrev dv (d : Dsk) : LV := .agg [sv d.sec, .int .i64 d.fuse, .int .i64 d.torn, .bool d.down]
theorem b2s_b1 (a : List UInt8) : b2sK (a.map b1) = some (.str a) := by
  have h : ∀ a : List UInt8, bytesOf (a.map b1) = some a := fun a => by
    induction a with
    | nil => rfl
    | cons x a ih =>
      show (byte1 (b1 x)).bind _ = _
      rw [show byte1 (b1 x) = some x from by simp [b1, byte1]]
      simp only [Option.bind_some]
      rw [ih]; rfl
  unfold b2sK; rw [h]; rfl
theorem c53 (s : List (List UInt8)) (f t : Int) (w : Bool) (i : Int) : pc E 53 [.agg [sv s, .int .i64 f, .int .i64 t, .bool w], .int .i64 i] = some (.bool (decide (0 ≤ i ∧ i < s.length))) := by
  rw [pc_eq]; simp +contextual -implicitDefEqProofs (maxSteps := 2000000) only [go_sem, ↓reduceIte, Nat.reduceAdd, Nat.reduceMul, Nat.reduceSub, Nat.reduceEqDiff, Nat.reduceLeDiff, Nat.reduceDiv, Nat.reduceMod, Nat.reduceBEq, Nat.reduceBNe, reduceCtorEq, Int.reduceLE, Int.reduceLT, Int.reduceToNat, Int.reduceNeg, Nat.reduceLT, Int.reduceEq, Int.reduceSub, Int.reduceAdd, Int.reduceMul, Nat.reducePow, Int.reduceBEq, Int.reduceBNe, Int.reduceMod, E_53, A53, List.length_map]
  by_cases h : 0 ≤ i <;> simp [h]
theorem c30 (s : List (List UInt8)) (f t : Int) (w : Bool) : pc E 30 [.agg [sv s, .int .i64 f, .int .i64 t, .bool w]] = some (.agg [sv s, .int .i64 f, .int .i64 t, .bool false]) := by
  rw [pc_eq]; simp +contextual -implicitDefEqProofs (maxSteps := 2000000) only [go_sem, ↓reduceIte, Nat.reduceAdd, Nat.reduceMul, Nat.reduceSub, Nat.reduceEqDiff, Nat.reduceLeDiff, Nat.reduceDiv, Nat.reduceMod, Nat.reduceBEq, Nat.reduceBNe, reduceCtorEq, Int.reduceLE, Int.reduceLT, Int.reduceToNat, Int.reduceNeg, Nat.reduceLT, Int.reduceEq, Int.reduceSub, Int.reduceAdd, Int.reduceMul, Nat.reducePow, Int.reduceBEq, Int.reduceBNe, Int.reduceMod, E_30, A30]
theorem get_s1 {l : List (List UInt8)} {i : Nat} {p : List UInt8} (h : l[i]? = some p) : (l.map s1)[i]? = some [bv p] := by
  rw [List.getElem?_map, h]; rfl
/-- what Read answers -/
def rdv (s : List (List UInt8)) (w : Bool) (i : Int) : LV :=
  if w = true then .tup [.os 1 [], .int .i64 300] else
  if 0 ≤ i ∧ i < s.length then .tup [bv (s[i.toNat]?.getD []), .int .i64 0] else .tup [.os 1 [], .int .i64 1]
theorem c25 (s : List (List UInt8)) (f t : Int) (w : Bool) (i : Int) : pc E 25 [.agg [sv s, .int .i64 f, .int .i64 t, .bool w], .int .i64 i] = some (rdv s w i) := by
  cases w with
  | true => rw [pc_eq]; simp +contextual -implicitDefEqProofs (maxSteps := 2000000) only [go_sem, ↓reduceIte, Nat.reduceAdd, Nat.reduceMul, Nat.reduceSub, Nat.reduceEqDiff, Nat.reduceLeDiff, Nat.reduceDiv, Nat.reduceMod, Nat.reduceBEq, Nat.reduceBNe, reduceCtorEq, Int.reduceLE, Int.reduceLT, Int.reduceToNat, Int.reduceNeg, Nat.reduceLT, Int.reduceEq, Int.reduceSub, Int.reduceAdd, Int.reduceMul, Nat.reducePow, Int.reduceBEq, Int.reduceBNe, Int.reduceMod, E_25, A25, rdv]
  | false =>
    by_cases h : 0 ≤ i ∧ i < s.length
    · have hget : s[i.toNat]? = some (s[i.toNat]'(by omega)) := List.getElem?_eq_getElem _
      have hg := get_s1 hget
      rw [pc_eq]; simp +contextual -implicitDefEqProofs (maxSteps := 2000000) only [go_sem, ↓reduceIte, Nat.reduceAdd, Nat.reduceMul, Nat.reduceSub, Nat.reduceEqDiff, Nat.reduceLeDiff, Nat.reduceDiv, Nat.reduceMod, Nat.reduceBEq, Nat.reduceBNe, reduceCtorEq, Int.reduceLE, Int.reduceLT, Int.reduceToNat, Int.reduceNeg, Nat.reduceLT, Int.reduceEq, Int.reduceSub, Int.reduceAdd, Int.reduceMul, Nat.reducePow, Int.reduceBEq, Int.reduceBNe, Int.reduceMod, E_25, A25, rdv, c53, h, h.1, h.2, hg, hget, List.length_map]
    · rw [pc_eq]; simp +contextual -implicitDefEqProofs (maxSteps := 2000000) only [go_sem, ↓reduceIte, Nat.reduceAdd, Nat.reduceMul, Nat.reduceSub, Nat.reduceEqDiff, Nat.reduceLeDiff, Nat.reduceDiv, Nat.reduceMod, Nat.reduceBEq, Nat.reduceBNe, reduceCtorEq, Int.reduceLE, Int.reduceLT, Int.reduceToNat, Int.reduceNeg, Nat.reduceLT, Int.reduceEq, Int.reduceSub, Int.reduceAdd, Int.reduceMul, Nat.reducePow, Int.reduceBEq, Int.reduceBNe, Int.reduceMod, E_25, A25, rdv, c53, h]
theorem all_b1 (l : List UInt8) : ((l.map b1).all fun x => x.length == 1) = true := by simp [b1]
theorem all_s1 (l : List (List UInt8)) : ((l.map s1).all fun x => x.length == 1) = true := by simp [s1]
theorem take_b1 (l : List UInt8) : (l.map b1).take l.length = l.map b1 := List.take_of_length_le (by simp)
theorem take_s1 (l : List (List UInt8)) : (l.map s1).take l.length = l.map s1 := List.take_of_length_le (by simp)
theorem c57 (l : List UInt8) (h0 : l ≠ []) (h1 : l.length ≤ 1000000000) : pc E 57 [bv l] = some (.os 1 (l.map b1)) := by
  have h2 : (l.map b1).isEmpty = false := by simp [h0]
  rw [pc_eq]; simp +contextual -implicitDefEqProofs (maxSteps := 2000000) only [go_sem, ↓reduceIte, Nat.reduceAdd, Nat.reduceMul, Nat.reduceSub, Nat.reduceEqDiff, Nat.reduceLeDiff, Nat.reduceDiv, Nat.reduceMod, Nat.reduceBEq, Nat.reduceBNe, reduceCtorEq, Int.reduceLE, Int.reduceLT, Int.reduceToNat, Int.reduceNeg, Nat.reduceLT, Int.reduceEq, Int.reduceSub, Int.reduceAdd, Int.reduceMul, Nat.reducePow, Int.reduceBEq, Int.reduceBNe, Int.reduceMod, E_57, A57, List.length_map, h2, all_b1, take_b1, h1]
theorem c81 (l : List (List UInt8)) (h0 : l ≠ []) (h1 : l.length ≤ 1000000000) : pc E 81 [sv l] = some (.os 1 (l.map s1)) := by
  have h2 : (l.map s1).isEmpty = false := by simp [h0]
  rw [pc_eq]; simp +contextual -implicitDefEqProofs (maxSteps := 2000000) only [go_sem, ↓reduceIte, Nat.reduceAdd, Nat.reduceMul, Nat.reduceSub, Nat.reduceEqDiff, Nat.reduceLeDiff, Nat.reduceDiv, Nat.reduceMod, Nat.reduceBEq, Nat.reduceBNe, reduceCtorEq, Int.reduceLE, Int.reduceLT, Int.reduceToNat, Int.reduceNeg, Nat.reduceLT, Int.reduceEq, Int.reduceSub, Int.reduceAdd, Int.reduceMul, Nat.reducePow, Int.reduceBEq, Int.reduceBNe, Int.reduceMod, E_81, A81, List.length_map, h2, all_s1, take_s1, h1]
theorem c58 (l : List (List UInt8)) (i : Nat) (x : List UInt8) (hi : i < l.length) (h1 : l.length ≤ 1000000000) : pc E 58 [sv l, .int .i64 i, bv x] = some (.os 1 ((l.set i x).map s1)) := by
  have h0 : l ≠ [] := fun h => by subst h; simp at hi
  have h2 : (i : Int) < l.length := by omega
  have h3 : (0 : Int) ≤ i := by omega
  have e : (l.map s1).set i [.vs (x.map b1)] = (l.set i x).map s1 := by rw [List.map_set]; rfl
  have e2 : ((l.set i x).map s1).take l.length = (l.set i x).map s1 := List.take_of_length_le (by simp)
  have hget : l[i]? = some (l[i]'hi) := List.getElem?_eq_getElem _
  have hg := get_s1 hget
  rw [pc_eq]; simp +contextual -implicitDefEqProofs (maxSteps := 2000000) only [go_sem, ↓reduceIte, Nat.reduceAdd, Nat.reduceMul, Nat.reduceSub, Nat.reduceEqDiff, Nat.reduceLeDiff, Nat.reduceDiv, Nat.reduceMod, Nat.reduceBEq, Nat.reduceBNe, reduceCtorEq, Int.reduceLE, Int.reduceLT, Int.reduceToNat, Int.reduceNeg, Nat.reduceLT, Int.reduceEq, Int.reduceSub, Int.reduceAdd, Int.reduceMul, Nat.reducePow, Int.reduceBEq, Int.reduceBNe, Int.reduceMod, E_58, A58, List.length_map, c81 l h0 h1, h2, h3, hg, e, e2, Nat.le_refl, List.length_set]
end Go.Proofs.Ytjmnepfdhkabfaa

namespace Go.Proofs.Ytjmnepfdhkabfaa
set_option maxRecDepth 100000
set_option maxHeartbeats 4000000
set_option linter.unusedSimpArgs false
set_option linter.unusedVariables false
open Go Go.Zv
theorem c29a (s : List (List UInt8)) (f t : Int) (i : Int) (x : List UInt8) : pc E 29 [.agg [sv s, .int .i64 f, .int .i64 t, .bool true], .int .i64 i, bv x] = some (.tup [.agg [sv s, .int .i64 f, .int .i64 t, .bool true], .int .i64 300]) := by
  rw [pc_eq]; simp +contextual -implicitDefEqProofs (maxSteps := 2000000) only [go_sem, ↓reduceIte, Nat.reduceAdd, Nat.reduceMul, Nat.reduceSub, Nat.reduceEqDiff, Nat.reduceLeDiff, Nat.reduceDiv, Nat.reduceMod, Nat.reduceBEq, Nat.reduceBNe, reduceCtorEq, Int.reduceLE, Int.reduceLT, Int.reduceToNat, Int.reduceNeg, Nat.reduceLT, Int.reduceEq, Int.reduceSub, Int.reduceAdd, Int.reduceMul, Nat.reducePow, Int.reduceBEq, Int.reduceBNe, Int.reduceMod, E_29, A29, E_56, A56, A56_L0_eq, A56_L0b, E_54, A54, E_55, A55, c53]
theorem c29b (s : List (List UInt8)) (f t : Int) (i : Int) (x : List UInt8) (h : ¬ (0 ≤ i ∧ i < s.length)) : pc E 29 [.agg [sv s, .int .i64 f, .int .i64 t, .bool false], .int .i64 i, bv x] = some (.tup [.agg [sv s, .int .i64 f, .int .i64 t, .bool false], .int .i64 1]) := by
  rw [pc_eq]; simp +contextual -implicitDefEqProofs (maxSteps := 2000000) only [go_sem, ↓reduceIte, Nat.reduceAdd, Nat.reduceMul, Nat.reduceSub, Nat.reduceEqDiff, Nat.reduceLeDiff, Nat.reduceDiv, Nat.reduceMod, Nat.reduceBEq, Nat.reduceBNe, reduceCtorEq, Int.reduceLE, Int.reduceLT, Int.reduceToNat, Int.reduceNeg, Nat.reduceLT, Int.reduceEq, Int.reduceSub, Int.reduceAdd, Int.reduceMul, Nat.reducePow, Int.reduceBEq, Int.reduceBNe, Int.reduceMod, E_29, A29, E_56, A56, A56_L0_eq, A56_L0b, E_54, A54, E_55, A55, c53, h]
theorem c29c (s : List (List UInt8)) (f t : Int) (i : Int) (x : List UInt8) (h : (0 ≤ i ∧ i < s.length)) (hx : (64 : Int) < x.length) : pc E 29 [.agg [sv s, .int .i64 f, .int .i64 t, .bool false], .int .i64 i, bv x] = some (.tup [.agg [sv s, .int .i64 f, .int .i64 t, .bool false], .int .i64 1]) := by
  rw [pc_eq]; simp +contextual -implicitDefEqProofs (maxSteps := 2000000) only [go_sem, ↓reduceIte, Nat.reduceAdd, Nat.reduceMul, Nat.reduceSub, Nat.reduceEqDiff, Nat.reduceLeDiff, Nat.reduceDiv, Nat.reduceMod, Nat.reduceBEq, Nat.reduceBNe, reduceCtorEq, Int.reduceLE, Int.reduceLT, Int.reduceToNat, Int.reduceNeg, Nat.reduceLT, Int.reduceEq, Int.reduceSub, Int.reduceAdd, Int.reduceMul, Nat.reducePow, Int.reduceBEq, Int.reduceBNe, Int.reduceMod, E_29, A29, E_56, A56, A56_L0_eq, A56_L0b, E_54, A54, E_55, A55, c53, h, hx, List.length_map]
/-- a sector with new bytes at its beginning -/
def over (x p : List UInt8) : List UInt8 := x ++ p.drop x.length
theorem over_len {x p : List UInt8} (h : x.length ≤ p.length) : (over x p).length = p.length := by simp [over]; omega
theorem over_row {x p : List UInt8} (h : x.length ≤ p.length) : List.take (min x.length p.length) (x.map b1) ++ List.drop (min x.length p.length) (p.map b1) = (over x p).map b1 := by
  rw [Nat.min_eq_left h, take_b1]; simp [over]
theorem c29d (s : List (List UInt8)) (f t : Int) (i : Nat) (x : List UInt8) (p : List UInt8) (hp : s[i]? = some p) (hpl : p.length = 64) (hs : s.length ≤ 64) (hx : x.length ≤ 64) (hf : f ≠ 1) (hf1 : ¬ f > 1) : pc E 29 [.agg [sv s, .int .i64 f, .int .i64 t, .bool false], .int .i64 i, bv x] = some (.tup [.agg [sv (s.set i (over x p)), .int .i64 f, .int .i64 t, .bool false], .int .i64 0]) := by
  have hi := (List.getElem?_eq_some_iff.1 hp).1
  have h : 0 ≤ (i : Int) ∧ (i : Int) < s.length := by omega
  have hx2 : ¬ ((64 : Int) < x.length) := by omega
  have hg := get_s1 hp
  have h57 := c57 p (by intro h; subst h; simp at hpl) (by omega)
  have hle : x.length ≤ p.length := by omega
  have o1 := over_row hle
  have o2 := over_len hle
  have o3 : ((over x p).map b1).take p.length = (over x p).map b1 := List.take_of_length_le (by simp [o2])
  have h58 := c58 s i (over x p) hi (by omega)
  have tk : ((s.set i (over x p)).map s1).take s.length = (s.set i (over x p)).map s1 := List.take_of_length_le (by simp)
  rw [pc_eq]; simp +contextual -implicitDefEqProofs (maxSteps := 2000000) only [go_sem, ↓reduceIte, Nat.reduceAdd, Nat.reduceMul, Nat.reduceSub, Nat.reduceEqDiff, Nat.reduceLeDiff, Nat.reduceDiv, Nat.reduceMod, Nat.reduceBEq, Nat.reduceBNe, reduceCtorEq, Int.reduceLE, Int.reduceLT, Int.reduceToNat, Int.reduceNeg, Nat.reduceLT, Int.reduceEq, Int.reduceSub, Int.reduceAdd, Int.reduceMul, Nat.reducePow, Int.reduceBEq, Int.reduceBNe, Int.reduceMod, E_29, A29, E_56, A56, A56_L0_eq, A56_L0b, E_54, A54, E_55, A55, c53, h, h.1, h.2, hx2, List.length_map, hf, hf1, hg, h57, beq_eq_false_iff_ne.2 hf, all_b1, o1, o2, o3, h58, Nat.le_refl, tk, List.length_set, ite_self]
theorem c29e (s : List (List UInt8)) (f t : Int) (i : Nat) (x : List UInt8) (p : List UInt8) (hp : s[i]? = some p) (hpl : p.length = 64) (hs : s.length ≤ 64) (hx : x.length ≤ 64) (hf : f ≠ 1) (hf1 : f > 1) (hf2 : f ≤ 9223372036854775807) : pc E 29 [.agg [sv s, .int .i64 f, .int .i64 t, .bool false], .int .i64 i, bv x] = some (.tup [.agg [sv (s.set i (over x p)), .int .i64 (f - 1), .int .i64 t, .bool false], .int .i64 0]) := by
  have hi := (List.getElem?_eq_some_iff.1 hp).1
  have h : 0 ≤ (i : Int) ∧ (i : Int) < s.length := by omega
  have hx2 : ¬ ((64 : Int) < x.length) := by omega
  have hg := get_s1 hp
  have h57 := c57 p (by intro h; subst h; simp at hpl) (by omega)
  have hle : x.length ≤ p.length := by omega
  have o1 := over_row hle
  have o2 := over_len hle
  have o3 : ((over x p).map b1).take p.length = (over x p).map b1 := List.take_of_length_le (by simp [o2])
  have h58 := c58 s i (over x p) hi (by omega)
  have tk : ((s.set i (over x p)).map s1).take s.length = (s.set i (over x p)).map s1 := List.take_of_length_le (by simp)
  have w1 : IntKind.i64.wrap (f - 1) = f - 1 := wrap_small (by omega) (by omega)
  rw [pc_eq]; simp +contextual -implicitDefEqProofs (maxSteps := 2000000) only [go_sem, ↓reduceIte, Nat.reduceAdd, Nat.reduceMul, Nat.reduceSub, Nat.reduceEqDiff, Nat.reduceLeDiff, Nat.reduceDiv, Nat.reduceMod, Nat.reduceBEq, Nat.reduceBNe, reduceCtorEq, Int.reduceLE, Int.reduceLT, Int.reduceToNat, Int.reduceNeg, Nat.reduceLT, Int.reduceEq, Int.reduceSub, Int.reduceAdd, Int.reduceMul, Nat.reducePow, Int.reduceBEq, Int.reduceBNe, Int.reduceMod, E_29, A29, E_56, A56, A56_L0_eq, A56_L0b, E_54, A54, E_55, A55, c53, h, h.1, h.2, hx2, List.length_map, hf, hf1, hg, h57, beq_eq_false_iff_ne.2 hf, all_b1, o1, o2, o3, h58, Nat.le_refl, tk, List.length_set, w1, ite_self]
theorem c29f (s : List (List UInt8)) (t : Int) (i : Nat) (x : List UInt8) (p : List UInt8) (hp : s[i]? = some p) (hpl : p.length = 64) (hs : s.length ≤ 64) (hx : x.length ≤ 64) (ht : 0 ≤ t) : pc E 29 [.agg [sv s, .int .i64 1, .int .i64 t, .bool false], .int .i64 i, bv x] = some (.tup [.agg [sv (s.set i (over (x.take t.toNat) p)), .int .i64 (-1), .int .i64 0, .bool true], .int .i64 300]) := by
  have hi := (List.getElem?_eq_some_iff.1 hp).1
  have h : 0 ≤ (i : Int) ∧ (i : Int) < s.length := by omega
  have hx2 : ¬ ((64 : Int) < x.length) := by omega
  have hg := get_s1 hp
  have h57 := c57 p (by intro h; subst h; simp at hpl) (by omega)
  have hle : (x.take t.toNat).length ≤ p.length := by rw [List.length_take]; omega
  have o1 := over_row hle
  have o2 := over_len hle
  have o3 : ((over (x.take t.toNat) p).map b1).take p.length = (over (x.take t.toNat) p).map b1 := List.take_of_length_le (by simp [o2])
  have h58 := c58 s i (over (x.take t.toNat) p) hi (by omega)
  have tk : ((s.set i (over (x.take t.toNat) p)).map s1).take s.length = (s.set i (over (x.take t.toNat) p)).map s1 := List.take_of_length_le (by simp)
  have hk : mnI t x.length = ((x.take t.toNat).length : Int) := by rw [List.length_take]; unfold mnI; split <;> omega
  have k1 : (0 : Int) ≤ ((x.take t.toNat).length : Int) := by omega
  have k2 : ((x.take t.toNat).length : Int) ≤ x.length := by rw [List.length_take]; omega
  have k3 : (x.map b1).take (x.take t.toNat).length = (x.take t.toNat).map b1 := by rw [List.length_take, List.map_take, List.take_eq_take_iff]; simp
  generalize x.take t.toNat = x' at *
  rw [pc_eq]; simp +contextual -implicitDefEqProofs (maxSteps := 2000000) only [go_sem, ↓reduceIte, Nat.reduceAdd, Nat.reduceMul, Nat.reduceSub, Nat.reduceEqDiff, Nat.reduceLeDiff, Nat.reduceDiv, Nat.reduceMod, Nat.reduceBEq, Nat.reduceBNe, reduceCtorEq, Int.reduceLE, Int.reduceLT, Int.reduceToNat, Int.reduceNeg, Nat.reduceLT, Int.reduceEq, Int.reduceSub, Int.reduceAdd, Int.reduceMul, Nat.reducePow, Int.reduceBEq, Int.reduceBNe, Int.reduceMod, hk, k1, k2, k3, E_29, A29, E_56, A56, A56_L0_eq, A56_L0b, E_54, A54, E_55, A55, c53, h, h.1, h.2, hx2, List.length_map, hg, h57, all_b1, o1, o2, o3, h58, Nat.le_refl, tk, List.length_set, ite_self]
end Go.Proofs.Ytjmnepfdhkabfaa

namespace Go.Proofs.Ytjmnepfdhkabfaa
set_option maxRecDepth 100000
set_option maxHeartbeats 4000000
set_option linter.unusedSimpArgs false
set_option linter.unusedVariables false
open Go Go.Zv
theorem wr_nat {n : Nat} (h : n < 9223372036854775808) : IntKind.i64.wrap (n : Int) = n := by
  simp [IntKind.wrap, IntKind.signed, IntKind.bits]; omega
theorem wr_succ {n : Nat} (h : n + 1 < 9223372036854775808) : IntKind.i64.wrap ((n : Int) + 1) = ((n + 1 : Nat) : Int) := by
  have := wr_nat h; simpa using this
theorem tk_set (s : List (List UInt8)) (n : Nat) (y : List UInt8) : ((s.set n y).map s1).take s.length = (s.set n y).map s1 := List.take_of_length_le (by simp)
structure OKd (d : Dsk) : Prop where
  len1 : 1 ≤ d.sec.length
  len2 : d.sec.length ≤ 64
  all : ∀ s ∈ d.sec, s.length = 64
  fuse : d.fuse = -1 ∨ (1 ≤ d.fuse ∧ d.fuse ≤ 1099511627776)
  torn0 : 0 ≤ d.torn
  torn1 : d.torn ≤ 64
/-- what Write answers -/
def wr (d : Dsk) (i : Int) (x : List UInt8) : Dsk × Int :=
  if d.down = true then (d, 300) else
  if 0 ≤ i ∧ i < d.sec.length ∧ x.length ≤ 64 then
    if d.fuse = 1 then (⟨d.sec.set i.toNat (over (x.take d.torn.toNat) (d.sec[i.toNat]?.getD [])), -1, 0, true⟩, 300)
    else (⟨d.sec.set i.toNat (over x (d.sec[i.toNat]?.getD [])), if d.fuse > 1 then d.fuse - 1 else d.fuse, d.torn, false⟩, 0)
  else (d, 1)
theorem c29 (d : Dsk) (h : OKd d) (i : Int) (x : List UInt8) (hxl : x.length ≤ 1000000000) : pc E 29 [dv d, .int .i64 i, bv x] = some (.tup [dv (wr d i x).1, .int .i64 (wr d i x).2]) := by
  obtain ⟨s, f, t, w⟩ := d
  obtain ⟨h1, h2, h3, h4, h5, h6⟩ := h
  simp only at h1 h2 h3 h4 h5 h6
  cases w with
  | true => simp only [wr, if_true]; exact c29a s f t i x
  | false =>
    simp only [wr, Bool.false_eq_true, if_false]
    by_cases hi : 0 ≤ i ∧ i < s.length
    · by_cases hx : x.length ≤ 64
      · rw [if_pos ⟨hi.1, hi.2, hx⟩]
        have hget : s[i.toNat]? = some (s[i.toNat]'(by omega)) := List.getElem?_eq_getElem _
        have hpl := h3 _ (List.getElem_mem (l := s) (n := i.toNat) (by omega))
        rw [hget, Option.getD_some]
        generalize s[i.toNat]'(by omega) = p at hget hpl
        have hii : i = (i.toNat : Int) := by omega
        generalize i.toNat = n at *
        subst hii
        by_cases hf : f = 1
        · subst hf; simp only [if_true]; exact c29f s t n x p hget hpl h2 hx h5
        · rw [if_neg hf]
          by_cases hf1 : f > 1
          · simp only [if_pos hf1]; exact c29e s f t n x p hget hpl h2 hx hf hf1 (by omega)
          · simp only [if_neg hf1]; exact c29d s f t n x p hget hpl h2 hx hf hf1
      · rw [if_neg (by omega)]; exact c29c s f t i x hi (by omega)
    · rw [if_neg (by omega)]; exact c29b s f t i x hi
end Go.Proofs.Ytjmnepfdhkabfaa

namespace Go.Proofs.Ytjmnepfdhkabfaa
set_option maxRecDepth 100000
set_option maxHeartbeats 4000000
set_option linter.unusedSimpArgs false
set_option linter.unusedVariables false
open Go Go.Zv
def zs : List UInt8 := List.replicate 64 0
theorem zs_len : zs.length = 64 := by simp [zs]
theorem zs_row : List.replicate 64 [LV.int .u8 0] = zs.map b1 := by simp [zs, b1]
def fresh (n k : Nat) : List (List UInt8) := List.replicate k zs ++ List.replicate (n - k) []
theorem fresh_len {n k : Nat} (h : k ≤ n) : (fresh n k).length = n := by simp [fresh]; omega
theorem fresh_set {n k : Nat} (h : k < n) : ((fresh n k).map s1).set k [bv zs] = (fresh n (k + 1)).map s1 := by
  have e : (fresh n k).set k zs = fresh n (k + 1) := by
    apply List.ext_getElem?
    intro j
    unfold fresh
    rw [List.getElem?_set]
    simp only [List.getElem?_append, List.length_replicate, List.getElem?_replicate, List.length_append]
    repeat' split
    all_goals (first | omega | rfl)
  rw [← e, List.map_set]; rfl
theorem new_loop (n : Nat) (hn : n ≤ 64) : ∀ (j k : Nat), k + j = n →
    (K E A17_L0 ⟨[(2, .ptr 512 0), (4, .ptr 1024 0), (18, .int .i64 n), (19, .int .i64 k)], [], [(1024, .box [.bs 3584 0 n, .int .i64 (-1), .int .i64 0, .bool false]),
                          (1025, .row 1 []), (3584, .row 1 ((fresh n k).map s1)),
                          (512, .box [.bs 513 0 0, .int .i64 0, .int .i64 0, .bool false]),
                          (513, .row 1 [])], 0⟩).bind (blockR 0 (some [2, 4]) [5, 25]) =
    some (.ex .nrm ⟨[(2, .ptr 512 0), (4, .ptr 1024 0)], [], [(1024, .box [.bs 3584 0 n, .int .i64 (-1), .int .i64 0, .bool false]),
                          (1025, .row 1 []), (3584, .row 1 ((fresh n n).map s1)),
                          (512, .box [.bs 513 0 0, .int .i64 0, .int .i64 0, .bool false]),
                          (513, .row 1 [])], 0⟩)
  | 0, k, h => by
    have hk : k = n := by omega
    subst hk
    rw [A17_L0_eq]
    simp +contextual -implicitDefEqProofs (maxSteps := 2000000) only [go_sem, ↓reduceIte, Nat.reduceAdd, Nat.reduceMul, Nat.reduceSub, Nat.reduceEqDiff, Nat.reduceLeDiff, Nat.reduceDiv, Nat.reduceMod, Nat.reduceBEq, Nat.reduceBNe, reduceCtorEq, Int.reduceLE, Int.reduceLT, Int.reduceToNat, Int.reduceNeg, Nat.reduceLT, Int.reduceEq, Int.reduceSub, Int.reduceAdd, Int.reduceMul, Nat.reducePow, Int.reduceBEq, Int.reduceBNe, Int.reduceMod, A17_L0b, Int.lt_irrefl]
  | j + 1, k, h => by
    have hk : (k : Int) < n := by omega
    have hw := wr_succ (n := k) (by omega)
    have h0 : (0 : Int) ≤ (k : Int) := by omega
    have hfs := fresh_set (n := n) (k := k) (by omega)
    have hget : (fresh n k)[k]? = some [] := by
      unfold fresh
      rw [List.getElem?_append_right (by simp)]
      simp only [List.length_replicate, Nat.sub_self, List.getElem?_replicate]
      rw [if_pos (by omega)]
    have hg := get_s1 hget
    have ih := new_loop n hn j (k + 1) (by omega)
    have tz : (zs.map b1).take 64 = zs.map b1 := List.take_of_length_le (by simp [zs])
    rw [show bv zs = .vs (List.replicate 64 [LV.int .u8 0]) from by rw [zs_row]] at hfs
    simp only [List.replicate_succ, List.replicate_zero] at hfs
    rw [A17_L0_eq]
    simp +contextual -implicitDefEqProofs (maxSteps := 2000000) only [go_sem, ↓reduceIte, Nat.reduceAdd, Nat.reduceMul, Nat.reduceSub, Nat.reduceEqDiff, Nat.reduceLeDiff, Nat.reduceDiv, Nat.reduceMod, Nat.reduceBEq, Nat.reduceBNe, reduceCtorEq, Int.reduceLE, Int.reduceLT, Int.reduceToNat, Int.reduceNeg, Nat.reduceLT, Int.reduceEq, Int.reduceSub, Int.reduceAdd, Int.reduceMul, Nat.reducePow, Int.reduceBEq, Int.reduceBNe, Int.reduceMod, A17_L0b, hk, hw, h0, hg, hfs, ih, zs_len, List.length_map, tz]
def mk (n : Nat) : Dsk := ⟨List.replicate n zs, -1, 0, false⟩
theorem c17 (n : Nat) (h1 : 1 ≤ n) (h2 : n ≤ 64) : pc E 17 [.int .i64 n] = some (.tup [dv (mk n), .int .i64 0]) := by
  have g1 : ¬ ((n : Int) < 1) := by omega
  have g2 : ¬ ((64 : Int) < n) := by omega
  have g3 : 0 ≤ (n : Int) := by omega
  have g4 : (n : Int) ≤ 1000000000 := by omega
  have nl := new_loop n h2 n 0 (by omega)
  have e0 : (fresh n 0).map s1 = List.replicate n [.vs []] := by simp [fresh, s1]
  have e1 : fresh n n = List.replicate n zs := by simp [fresh]
  rw [e0, e1] at nl
  simp only [Int.natCast_zero, Int.ofNat_zero] at nl
  have tk : ((List.replicate n zs).map s1).take n = (List.replicate n zs).map s1 := List.take_of_length_le (by simp)
  rw [pc_eq]; simp +contextual -implicitDefEqProofs (maxSteps := 2000000) only [go_sem, ↓reduceIte, Nat.reduceAdd, Nat.reduceMul, Nat.reduceSub, Nat.reduceEqDiff, Nat.reduceLeDiff, Nat.reduceDiv, Nat.reduceMod, Nat.reduceBEq, Nat.reduceBNe, reduceCtorEq, Int.reduceLE, Int.reduceLT, Int.reduceToNat, Int.reduceNeg, Nat.reduceLT, Int.reduceEq, Int.reduceSub, Int.reduceAdd, Int.reduceMul, Nat.reducePow, Int.reduceBEq, Int.reduceBNe, Int.reduceMod, E_17, A17, g1, g2, g3, g4, List.length_replicate, Int.le_refl, nl, List.length_map, Nat.le_refl, tk, mk]
theorem c17b (n : Int) (h : n < 1 ∨ 64 < n) : pc E 17 [.int .i64 n] = some (.tup [.agg [sv [], .int .i64 0, .int .i64 0, .bool false], .int .i64 1]) := by
  by_cases h1 : n < 1
  · rw [pc_eq]; simp +contextual -implicitDefEqProofs (maxSteps := 2000000) only [go_sem, ↓reduceIte, Nat.reduceAdd, Nat.reduceMul, Nat.reduceSub, Nat.reduceEqDiff, Nat.reduceLeDiff, Nat.reduceDiv, Nat.reduceMod, Nat.reduceBEq, Nat.reduceBNe, reduceCtorEq, Int.reduceLE, Int.reduceLT, Int.reduceToNat, Int.reduceNeg, Nat.reduceLT, Int.reduceEq, Int.reduceSub, Int.reduceAdd, Int.reduceMul, Nat.reducePow, Int.reduceBEq, Int.reduceBNe, Int.reduceMod, E_17, A17, h1, List.map_nil]; rfl
  · have h2 : 64 < n := by omega
    rw [pc_eq]; simp +contextual -implicitDefEqProofs (maxSteps := 2000000) only [go_sem, ↓reduceIte, Nat.reduceAdd, Nat.reduceMul, Nat.reduceSub, Nat.reduceEqDiff, Nat.reduceLeDiff, Nat.reduceDiv, Nat.reduceMod, Nat.reduceBEq, Nat.reduceBNe, reduceCtorEq, Int.reduceLE, Int.reduceLT, Int.reduceToNat, Int.reduceNeg, Nat.reduceLT, Int.reduceEq, Int.reduceSub, Int.reduceAdd, Int.reduceMul, Nat.reducePow, Int.reduceBEq, Int.reduceBNe, Int.reduceMod, E_17, A17, h1, h2, List.map_nil]; rfl
def reps (k : Nat) : List (List UInt8) := List.replicate k zs
theorem reps_len (k : Nat) : (reps k).length = k := by simp [reps]
end Go.Proofs.Ytjmnepfdhkabfaa

namespace Go.Proofs.Ytjmnepfdhkabfaa
set_option maxRecDepth 100000
set_option maxHeartbeats 4000000
set_option linter.unusedSimpArgs false
set_option linter.unusedVariables false
open Go Go.Zv
theorem ok_mk (n : Nat) (h1 : 1 ≤ n) (h2 : n ≤ 64) : OKd (mk n) := by
  refine ⟨by simp [mk]; omega, by simp [mk]; omega, fun s hs => ?_, .inl rfl, by simp [mk], by simp [mk]⟩
  have := List.eq_of_mem_replicate (show s ∈ List.replicate n zs from hs)
  rw [this, zs_len]
def fu (d : Dsk) (a2 a3 : Int) : Dsk := if d.down = true then d else ⟨d.sec, 1 + a2.tmod 9, a3.tmod 65, false⟩
theorem ok_fu {d : Dsk} (h : OKd d) {a2 a3 : Int} (h1 : 0 ≤ a2) (h3 : 0 ≤ a3) : OKd (fu d a2 a3) := by
  unfold fu
  split
  · exact h
  · have e1 := Int.tmod_lt_of_pos a2 (show (0 : Int) < 9 by omega)
    have e2 := Int.tmod_nonneg 9 h1
    have e3 := Int.tmod_lt_of_pos a3 (show (0 : Int) < 65 by omega)
    have e4 := Int.tmod_nonneg 65 h3
    exact ⟨h.len1, h.len2, h.all, .inr ⟨by simp only; omega, by simp only; omega⟩, e4, by simp only; omega⟩
theorem ok_wr {d : Dsk} (h : OKd d) (i : Int) (x : List UInt8) : OKd (wr d i x).1 := by
  unfold wr
  split
  · exact h
  · split
    · rename_i hc
      have hget : d.sec[i.toNat]? = some (d.sec[i.toNat]'(by omega)) := List.getElem?_eq_getElem _
      have hpl := h.all _ (List.getElem_mem (l := d.sec) (n := i.toNat) (by omega))
      rw [hget, Option.getD_some]
      have hset : ∀ y : List UInt8, y.length = 64 → ∀ s ∈ d.sec.set i.toNat y, s.length = 64 := fun y hy s hs => by
        rcases List.mem_or_eq_of_mem_set hs with h' | rfl
        · exact h.all s h'
        · exact hy
      split
      · exact ⟨by simp only [List.length_set]; exact h.len1, by simp only [List.length_set]; exact h.len2, hset _ (by rw [over_len (by rw [List.length_take, hpl]; omega), hpl]), .inl rfl, by simp, by simp⟩
      · refine ⟨by simp only [List.length_set]; exact h.len1, by simp only [List.length_set]; exact h.len2, hset _ (by rw [over_len (by omega), hpl]), ?_, h.torn0, h.torn1⟩
        have := h.fuse
        simp only
        split <;> omega
    · exact h
theorem ok_up {d : Dsk} (h : OKd d) : OKd { d with down := false } := ⟨h.len1, h.len2, h.all, h.fuse, h.torn0, h.torn1⟩
end Go.Proofs.Ytjmnepfdhkabfaa

namespace Go.Proofs.Ytjmnepfdhkabfaa
set_option maxRecDepth 100000
set_option maxHeartbeats 4000000
set_option linter.unusedSimpArgs false
set_option linter.unusedVariables false
open Go Go.Zv
end Go.Proofs.Ytjmnepfdhkabfaa

namespace Go.Proofs.Ytjmnepfdhkabfaa
set_option maxRecDepth 100000
set_option maxHeartbeats 4000000
set_option linter.unusedSimpArgs false
set_option linter.unusedVariables false
open Go Go.Zv
def all64 (l : List (List UInt8)) : Bool := l.all fun s => s.length == 64
def vd (s : List (List UInt8)) (f t : Int) : Bool := decide (1 ≤ s.length ∧ s.length ≤ 64 ∧ (f = -1 ∨ (1 ≤ f ∧ f ≤ 1099511627776)) ∧ 0 ≤ t ∧ t ≤ 64) && all64 s
end Go.Proofs.Ytjmnepfdhkabfaa

namespace Go.Proofs.Ytjmnepfdhkabfaa
set_option maxRecDepth 100000
set_option maxHeartbeats 4000000
set_option linter.unusedSimpArgs false
set_option linter.unusedVariables false
open Go Go.Zv
/-- an act -/
structure Act where
  k : Int
  at_ : Int
  n : Int
  torn : Int
  data : List UInt8
abbrev av (a : Act) : LV := .agg [.int .u8 a.k, .int .i64 a.at_, .int .u8 a.n, .int .u8 a.torn, bv a.data]
structure OKa (a : Act) : Prop where
  k0 : 0 ≤ a.k
  n0 : 0 ≤ a.n
  n1 : a.n ≤ 255
  t0 : 0 ≤ a.torn
  t1 : a.torn ≤ 255
  len : a.data.length ≤ 1000000000
def ac (d : Dsk) (a : Act) : Dsk × Int :=
  if a.k.tmod 6 = 0 then ({ d with down := false }, 0) else if a.k.tmod 6 = 1 then (fu d a.n a.torn, 0) else wr d a.at_ a.data
theorem ok_ac {d : Dsk} (h : OKd d) {a : Act} (ha : OKa a) : OKd (ac d a).1 := by
  unfold ac
  split
  · exact ok_up h
  · split
    · exact ok_fu h ha.n0 ha.t0
    · exact ok_wr h _ _
end Go.Proofs.Ytjmnepfdhkabfaa

namespace Go.Proofs.Ytjmnepfdhkabfaa
set_option maxRecDepth 100000
set_option maxHeartbeats 4000000
set_option linter.unusedSimpArgs false
set_option linter.unusedVariables false
open Go Go.Zv
def a5 (a : Act) : List LV := [.int .u8 a.k, .int .i64 a.at_, .int .u8 a.n, .int .u8 a.torn, bv a.data]
theorem get_a5 {l : List Act} {i : Nat} {p : Act} (h : l[i]? = some p) : (l.map a5)[i]? = some [.int .u8 p.k, .int .i64 p.at_, .int .u8 p.n, .int .u8 p.torn, bv p.data] := by
  rw [List.getElem?_map, h]; rfl
def acs (d : Dsk) (l : List Act) : Dsk := l.foldl (fun d a => (ac d a).1) d
theorem ok_acs {l : List Act} (ha : ∀ a ∈ l, OKa a) : ∀ {d : Dsk}, OKd d → OKd (acs d l) := by
  induction l with
  | nil => exact fun h => h
  | cons a l ih => exact fun h => ih (fun b hb => ha b (by simp [hb])) (ok_ac h (ha a (by simp)))
/-- the disk that Made hands back -/
def made (n : Nat) (l : List Act) : Dsk := acs (mk (1 + n % 6)) l
theorem ok_made (n : Nat) (l : List Act) (ha : ∀ a ∈ l, OKa a) : OKd (made n l) := ok_acs ha (ok_mk _ (by omega) (by omega))
end Go.Proofs.Ytjmnepfdhkabfaa

namespace Go.Proofs.Ytjmnepfdhkabfaa
set_option maxRecDepth 100000
set_option maxHeartbeats 4000000
set_option linter.unusedSimpArgs false
set_option linter.unusedVariables false
open Go Go.Zv
def sameB (a b : Dsk) : Bool := decide (a.sec = b.sec ∧ a.fuse = b.fuse ∧ a.torn = b.torn ∧ a.down = b.down)
end Go.Proofs.Ytjmnepfdhkabfaa

namespace Go.Proofs.Ytjmnepfdhkabfaa
set_option maxRecDepth 100000
set_option maxHeartbeats 4000000
set_option linter.unusedSimpArgs false
set_option linter.unusedVariables false
open Go Go.Zv
def gr (l : List Act) : Bool := decide (60 < l.length) || l.any fun a => decide (100 < a.data.length)
end Go.Proofs.Ytjmnepfdhkabfaa

namespace Go.Proofs.Ytjmnepfdhkabfaa
set_option maxRecDepth 100000
set_option maxHeartbeats 4000000
set_option linter.unusedSimpArgs false
set_option linter.unusedVariables false
open Go Go.Zv
end Go.Proofs.Ytjmnepfdhkabfaa

namespace Go.Proofs.Ytjmnepfdhkabfaa
set_option maxRecDepth 100000
set_option maxHeartbeats 4000000
set_option linter.unusedSimpArgs false
set_option linter.unusedVariables false
open Go Go.Zv
end Go.Proofs.Ytjmnepfdhkabfaa

namespace Go.Proofs.Ytjmnepfdhkabfaa
set_option maxRecDepth 100000
set_option maxHeartbeats 4000000
set_option linter.unusedSimpArgs false
set_option linter.unusedVariables false
open Go Go.Zv
theorem vd_ok {d : Dsk} (h : OKd d) : vd d.sec d.fuse d.torn = true := by
  have h2 : all64 d.sec = true := List.all_eq_true.2 fun s hs => by simpa using h.all s hs
  have := h.len1; have := h.len2; have := h.fuse; have := h.torn0; have := h.torn1
  unfold vd
  rw [h2, Bool.and_true, decide_eq_true_eq]
  exact ⟨by omega, by omega, h.fuse, h.torn0, h.torn1⟩
theorem sameB_self (d : Dsk) : sameB d d = true := by simp [sameB]
theorem wr_cases (d : Dsk) (i : Int) (x : List UInt8) :
    (d.down = true ∧ wr d i x = (d, 300)) ∨ (d.down = false ∧ ¬ (0 ≤ i ∧ i < d.sec.length ∧ x.length ≤ 64) ∧ wr d i x = (d, 1)) ∨
    (d.down = false ∧ (0 ≤ i ∧ i < d.sec.length ∧ x.length ≤ 64) ∧ d.fuse = 1 ∧ wr d i x = (⟨d.sec.set i.toNat (over (x.take d.torn.toNat) (d.sec[i.toNat]?.getD [])), -1, 0, true⟩, 300)) ∨
    (d.down = false ∧ (0 ≤ i ∧ i < d.sec.length ∧ x.length ≤ 64) ∧ d.fuse ≠ 1 ∧ wr d i x = (⟨d.sec.set i.toNat (over x (d.sec[i.toNat]?.getD [])), if d.fuse > 1 then d.fuse - 1 else d.fuse, d.torn, false⟩, 0)) := by
  unfold wr
  cases h : d.down with
  | true => simp
  | false =>
    simp only [Bool.false_eq_true, if_false, false_and, true_and, false_or]
    by_cases h1 : 0 ≤ i ∧ i < d.sec.length ∧ x.length ≤ 64
    · by_cases h2 : d.fuse = 1
      · right; left; rw [if_pos h1, if_pos h2]; exact ⟨h1, h2, rfl⟩
      · right; right; rw [if_pos h1, if_neg h2]; exact ⟨h1, h2, rfl⟩
    · left; rw [if_neg h1]; exact ⟨h1, rfl⟩
theorem wr_len (d : Dsk) (i : Int) (x : List UInt8) : (wr d i x).1.sec.length = d.sec.length := by
  rcases wr_cases d i x with ⟨_, h⟩ | ⟨_, _, h⟩ | ⟨_, _, _, h⟩ | ⟨_, _, _, h⟩ <;> rw [h] <;> simp
theorem ac_len (d : Dsk) (a : Act) : (ac d a).1.sec.length = d.sec.length := by
  unfold ac
  split
  · rfl
  · split
    · unfold fu; split <;> rfl
    · exact wr_len ..
theorem ac_cases (d : Dsk) (a : Act) : (ac d a).2 = 0 ∨ ((ac d a).2 = 1 ∧ (ac d a).1 = d) ∨ ((ac d a).2 = 300 ∧ d.down = true ∧ (ac d a).1 = d) ∨ ((ac d a).2 = 300 ∧ d.down = false ∧ (ac d a).1.down = true) := by
  unfold ac
  split
  · exact .inl rfl
  · split
    · exact .inl rfl
    · rcases wr_cases d a.at_ a.data with ⟨h1, h⟩ | ⟨_, _, h⟩ | ⟨h1, _, _, h⟩ | ⟨_, _, _, h⟩ <;> rw [h] <;> simp [*]
end Go.Proofs.Ytjmnepfdhkabfaa

namespace Go.Proofs.Ytjmnepfdhkabfaa
set_option maxRecDepth 100000
set_option maxHeartbeats 4000000
set_option linter.unusedSimpArgs false
set_option linter.unusedVariables false
open Go Go.Zv
def c1 (n : Int) : List LV := [.int .i64 n]
structure Rec where
  seq : Int
  step : Int
  q0 : Int
  q1 : Int
  q2 : Int
  q3 : Int
  q4 : Int
  q5 : Int
  h0 : Int
  h1 : Int
  wh : List Int
  mode : Int
deriving DecidableEq
abbrev rv (r : Rec) : LV := .agg [.int .i64 r.seq, .int .i64 r.step, .int .i64 r.q0, .int .i64 r.q1, .int .i64 r.q2, .int .i64 r.q3, .int .i64 r.q4, .int .i64 r.q5, .int .i64 r.h0, .int .i64 r.h1, .vs (r.wh.map c1), .int .i64 r.mode]
def inI (n a b : Int) : Bool := decide (a ≤ n ∧ n ≤ b)
def whB (l : List Int) : Bool := l.all fun n => inI n (-1) 15
def mayB (r : Rec) : Bool := inI r.q0 (-17) 18 && (inI r.q1 (-17) 18 && (inI r.q2 (-17) 18 && (inI r.h0 (-1) 7 && (inI r.q3 (-17) 18 && (inI r.q4 (-17) 18 && (inI r.q5 (-17) 18 && (inI r.h1 (-1) 7 && (whB r.wh && (inI r.seq 1 1073741824 && (inI r.step 0 300 && (decide (r.wh.length ≤ 8) && inI r.mode 1 5)))))))))))
structure OKr (r : Rec) : Prop where
  q0 : -17 ≤ r.q0 ∧ r.q0 ≤ 18
  q1 : -17 ≤ r.q1 ∧ r.q1 ≤ 18
  q2 : -17 ≤ r.q2 ∧ r.q2 ≤ 18
  q3 : -17 ≤ r.q3 ∧ r.q3 ≤ 18
  q4 : -17 ≤ r.q4 ∧ r.q4 ≤ 18
  q5 : -17 ≤ r.q5 ∧ r.q5 ≤ 18
  h0 : -1 ≤ r.h0 ∧ r.h0 ≤ 7
  h1 : -1 ≤ r.h1 ∧ r.h1 ≤ 7
  wh : ∀ n ∈ r.wh, -1 ≤ n ∧ n ≤ 15
  seq : 1 ≤ r.seq ∧ r.seq ≤ 1073741824
  step : 0 ≤ r.step ∧ r.step ≤ 300
  len : r.wh.length ≤ 8
  mode : 1 ≤ r.mode ∧ r.mode ≤ 5
theorem may_iff (r : Rec) : mayB r = true ↔ OKr r := by
  simp only [mayB, whB, inI, Bool.and_eq_true, List.all_eq_true, decide_eq_true_eq]
  constructor
  · rintro ⟨a0, a1, a2, b0, a3, a4, a5, b1, w, s, t, l, m⟩; exact ⟨a0, a1, a2, a3, a4, a5, b0, b1, w, s, t, l, m⟩
  · rintro ⟨a0, a1, a2, a3, a4, a5, b0, b1, w, s, t, l, m⟩; exact ⟨a0, a1, a2, b0, a3, a4, a5, b1, w, s, t, l, m⟩
def by8 (n : Int) : UInt8 := UInt8.ofNat (n % 256).toNat
theorem by8_nat (n : Int) : ((by8 n).toNat : Int) = n % 256 := by
  have h1 : 0 ≤ n % 256 := Int.emod_nonneg _ (by omega)
  have h2 : n % 256 < 256 := Int.emod_lt_of_pos _ (by omega)
  simp only [by8, UInt8.toNat_ofNat']
  omega
theorem by8_small {n : Int} (h1 : 0 ≤ n) (h2 : n < 256) : ((by8 n).toNat : Int) = n := by rw [by8_nat]; omega
theorem by8_eq {a b : Int} (h : by8 a = by8 b) : a % 256 = b % 256 := by rw [← by8_nat, ← by8_nat, h]
theorem by8_back (x : UInt8) : by8 (x.toNat : Int) = x := by
  apply UInt8.toNat_inj.1
  have h := by8_nat (x.toNat : Int)
  have h2 : x.toNat < 256 := x.toNat_lt
  omega
def be2 (n : Int) : List UInt8 := [by8 (n / 256), by8 n]
def be4 (n : Int) : List UInt8 := [by8 (n / 16777216), by8 (n / 65536), by8 (n / 256), by8 n]
theorem be2_inj {a b : Int} (h1 : 0 ≤ a) (h2 : a < 65536) (h3 : 0 ≤ b) (h4 : b < 65536) (h : be2 a = be2 b) : a = b := by
  simp only [be2, List.cons.injEq, and_true] at h
  have e1 := by8_eq h.1
  have e2 := by8_eq h.2
  omega
def n2 (a b : UInt8) : Int := a.toNat * 256 + b.toNat
def n4 (a b c d : UInt8) : Int := ((a.toNat * 256 + b.toNat) * 256 + c.toNat) * 256 + d.toNat
theorem n2_be (n : Int) (h1 : 0 ≤ n) (h2 : n < 65536) : n2 (by8 (n / 256)) (by8 n) = n := by
  simp only [n2, by8_nat]; omega
theorem n4_be (n : Int) (h1 : 0 ≤ n) (h2 : n < 4294967296) : n4 (by8 (n / 16777216)) (by8 (n / 65536)) (by8 (n / 256)) (by8 n) = n := by
  simp only [n4, by8_nat]; omega
/-- the checksum, from the i-th byte on -/
def sm : List UInt8 → Nat → Nat
  | [], _ => 0
  | c :: l, i => (i + 1) * c.toNat + sm l (i + 1)
def sumB (l : List UInt8) : Int := ((sm l 0 % 65521 : Nat) : Int)
theorem sumB_lt (l) : 0 ≤ sumB l ∧ sumB l < 65521 := by unfold sumB; omega
theorem sm_set : ∀ (l : List UInt8) (i k : Nat) (x y : UInt8), l[k]? = some x → (sm (l.set k y) i : Int) = sm l i + (i + k + 1) * (y.toNat - x.toNat)
  | [], i, k, x, y, h => by simp at h
  | c :: l, i, 0, x, y, h => by
    simp only [List.getElem?_cons_zero, Option.some.injEq] at h; subst h
    simp only [List.set_cons_zero, sm, Int.natCast_add, Int.natCast_mul]
    simp only [Int.mul_sub]
    have e : (((i : Nat) : Int) + ((0 : Nat) : Int) + 1) = (i : Int) + ((1 : Nat) : Int) := by omega
    rw [e]; omega
  | c :: l, i, k + 1, x, y, h => by
    have ih := sm_set l (i + 1) k x y (by simpa using h)
    simp only [List.set_cons_succ, sm, Int.natCast_add, Int.natCast_mul, ih]
    have e : ((i : Int) + (1 : Int) + (k : Int) + 1) = ((i : Int) + (((k : Int) + 1)) + 1) := by omega
    simp only [Int.natCast_one] at *
    rw [e]; omega
def hd (r : Rec) : List UInt8 := 74 :: (be4 r.seq ++ (be2 r.step ++ (by8 (r.q0 + 17) :: by8 (r.q1 + 17) :: by8 (r.q2 + 17) :: by8 (r.q3 + 17) :: by8 (r.q4 + 17) :: by8 (r.q5 + 17) :: by8 (r.h0 + 1) :: by8 (r.h1 + 1) :: by8 r.wh.length :: (r.wh.map (fun n => by8 (n + 1)) ++ [by8 r.mode]))))
theorem hd_len (r : Rec) : (hd r).length = 17 + r.wh.length := by simp [hd, be4, be2]; omega
def pad (r : Rec) : List UInt8 := hd r ++ List.replicate (58 - (hd r).length) 0
theorem pad_len {r : Rec} (h : OKr r) : (pad r).length = 58 := by
  have := h.len; have := hd_len r
  simp [pad]; omega
def enc (r : Rec) : List UInt8 := pad r ++ (be2 (sumB (pad r)) ++ be4 r.seq)
theorem enc_len {r : Rec} (h : OKr r) : (enc r).length = 64 := by simp [enc, pad_len h, be2, be4]
def raw (b : List UInt8) : Rec :=
  let g := fun i => (b[i]?.getD 0)
  let m := (g 15).toNat
  ⟨n4 (g 1) (g 2) (g 3) (g 4), n2 (g 5) (g 6), (g 7).toNat - 17, (g 8).toNat - 17, (g 9).toNat - 17, (g 10).toNat - 17, (g 11).toNat - 17, (g 12).toNat - 17, (g 13).toNat - 1, (g 14).toNat - 1,
   ((b.drop 16).take m).map (fun x => ((x.toNat : Int) - 1)), (g (16 + m)).toNat⟩
def dec (b : List UInt8) : Option Rec := if b.length = 64 ∧ (b[15]?.getD 0).toNat ≤ 8 ∧ mayB (raw b) = true ∧ enc (raw b) = b then some (raw b) else none
theorem dec_some {b r} (h : dec b = some r) : OKr r ∧ enc r = b := by
  unfold dec at h
  split at h
  · rename_i hc
    cases h
    exact ⟨(may_iff _).1 hc.2.2.1, hc.2.2.2⟩
  · cases h
theorem raw_enc {r : Rec} (h : OKr r) : raw (enc r) = r ∧ ((enc r)[15]?.getD 0).toNat ≤ 8 := by
  obtain ⟨sq, st, a0, a1, a2, a3, a4, a5, b0, b1, l, m⟩ := r
  obtain ⟨q0, q1, q2, q3, q4, q5, h0, h1, w, s, t, ln, mo⟩ := h
  simp only at *
  have e : ∃ tl, enc ⟨sq, st, a0, a1, a2, a3, a4, a5, b0, b1, l, m⟩ = 74 :: by8 (sq / 16777216) :: by8 (sq / 65536) :: by8 (sq / 256) :: by8 sq :: by8 (st / 256) :: by8 st :: by8 (a0 + 17) :: by8 (a1 + 17) :: by8 (a2 + 17) :: by8 (a3 + 17) :: by8 (a4 + 17) :: by8 (a5 + 17) :: by8 (b0 + 1) :: by8 (b1 + 1) :: by8 l.length :: (l.map (fun n => by8 (n + 1)) ++ by8 m :: tl) := by
    refine ⟨List.replicate (58 - (hd ⟨sq, st, a0, a1, a2, a3, a4, a5, b0, b1, l, m⟩).length) 0 ++ (be2 (sumB (pad ⟨sq, st, a0, a1, a2, a3, a4, a5, b0, b1, l, m⟩)) ++ be4 sq), ?_⟩
    simp only [enc, pad, hd, be4, be2, List.cons_append, List.nil_append, List.append_assoc]
  obtain ⟨tl, e⟩ := e
  rw [e]
  have hm : (by8 (l.length : Int)).toNat = l.length := by have := by8_small (n := l.length) (by omega) (by omega); omega
  have hw : (l.map (fun n => by8 (n + 1))).map (fun x => ((x.toNat : Int) - 1)) = l := by
    rw [List.map_map]
    conv => rhs; rw [← List.map_id l]
    apply List.map_congr_left
    intro n hn
    have := w n hn
    simp only [Function.comp, id]
    rw [by8_small (by omega) (by omega)]; omega
  constructor
  · unfold raw
    simp only [List.getElem?_cons_succ, List.getElem?_cons_zero, Option.getD_some, List.drop_succ_cons, List.drop_zero, hm]
    rw [n4_be _ (by omega) (by omega), n2_be _ (by omega) (by omega), by8_small (by omega) (by omega), by8_small (by omega) (by omega), by8_small (by omega) (by omega), by8_small (by omega) (by omega), by8_small (by omega) (by omega), by8_small (by omega) (by omega), by8_small (by omega) (by omega), by8_small (by omega) (by omega)]
    have e1 : List.take l.length (l.map (fun n => by8 (n + 1)) ++ by8 m :: tl) = l.map (fun n => by8 (n + 1)) := by
      rw [List.take_append_of_le_length (by simp)]; exact List.take_of_length_le (by simp)
    rw [e1, hw]
    have e2 : (74 :: by8 (sq / 16777216) :: by8 (sq / 65536) :: by8 (sq / 256) :: by8 sq :: by8 (st / 256) :: by8 st :: by8 (a0 + 17) :: by8 (a1 + 17) :: by8 (a2 + 17) :: by8 (a3 + 17) :: by8 (a4 + 17) :: by8 (a5 + 17) :: by8 (b0 + 1) :: by8 (b1 + 1) :: by8 l.length :: (l.map (fun n => by8 (n + 1)) ++ by8 m :: tl))[16 + l.length]? = some (by8 m) := by
      rw [Nat.add_comm]
      simp only [List.getElem?_cons_succ]
      rw [List.getElem?_append_right (by simp)]
      simp
    rw [e2, Option.getD_some, by8_small (by omega) (by omega)]
    congr 1 <;> omega
  · simp only [List.getElem?_cons_succ, List.getElem?_cons_zero, Option.getD_some, hm]; omega
theorem dec_enc {r : Rec} (h : OKr r) : dec (enc r) = some r := by
  obtain ⟨h1, h2⟩ := raw_enc h
  unfold dec
  rw [if_pos ⟨enc_len h, h2, by rw [h1]; exact (may_iff r).2 h, by rw [h1]⟩, h1]
theorem enc_inj {r s : Rec} (hr : OKr r) (hs : OKr s) (h : enc r = enc s) : r = s := by
  have := dec_enc hr
  rw [h, dec_enc hs] at this
  cases this; rfl
end Go.Proofs.Ytjmnepfdhkabfaa

namespace Go.Proofs.Ytjmnepfdhkabfaa
set_option maxRecDepth 100000
set_option maxHeartbeats 4000000
set_option linter.unusedSimpArgs false
set_option linter.unusedVariables false
open Go Go.Zv
theorem c82 (n a b : Int) : pc E 82 [.int .i64 n, .int .i64 a, .int .i64 b] = some (.bool (inI n a b)) := by
  rw [pc_eq]; simp +contextual -implicitDefEqProofs (maxSteps := 2000000) only [go_sem, ↓reduceIte, Nat.reduceAdd, Nat.reduceMul, Nat.reduceSub, Nat.reduceEqDiff, Nat.reduceLeDiff, Nat.reduceDiv, Nat.reduceMod, Nat.reduceBEq, Nat.reduceBNe, reduceCtorEq, Int.reduceLE, Int.reduceLT, Int.reduceToNat, Int.reduceNeg, Nat.reduceLT, Int.reduceEq, Int.reduceSub, Int.reduceAdd, Int.reduceMul, Nat.reducePow, Int.reduceBEq, Int.reduceBNe, Int.reduceMod, E_82, A82]
  by_cases h : a ≤ n <;> simp [h, inI]
theorem get_c1 {l : List Int} {i : Nat} {p : Int} (h : l[i]? = some p) : (l.map c1)[i]? = some [.int .i64 p] := by
  rw [List.getElem?_map, h]; rfl
abbrev bx12 (sq st a0 a1 a2 a3 a4 a5 b0 b1 : Int) (l : List Int) (m : Int) : Zv.Obj := .box [.int .i64 sq, .int .i64 st, .int .i64 a0, .int .i64 a1, .int .i64 a2, .int .i64 a3, .int .i64 a4, .int .i64 a5, .int .i64 b0, .int .i64 b1, .vs (l.map c1), .int .i64 m]
theorem loop61 (sq st a0 a1 a2 a3 a4 a5 b0 b1 m : Int) (l : List Int) (hl : l.length ≤ 1000000000) :
    (K E A61_L0 ⟨[(1, .ptr 256 0), (34, .vs (l.map c1)), (35, .int .i64 l.length), (36, .int .i64 0)], [], [(256, bx12 sq st a0 a1 a2 a3 a4 a5 b0 b1 l m)], 0⟩).bind (blockR 4 (some [1]) [2, 8, 41]) =
    if (l.any fun n => !inI n (-1) 15) = true then some (.ex .ret ⟨[(2, .bool false)], [], [(256, bx12 sq st a0 a1 a2 a3 a4 a5 b0 b1 l m)], 0⟩)
    else some (.ex .nrm ⟨[(1, .ptr 256 0)], [], [(256, bx12 sq st a0 a1 a2 a3 a4 a5 b0 b1 l m)], 0⟩) := by
  refine loop_any (fun S => (K E A61_L0 S).bind (blockR 4 (some [1]) [2, 8, 41])) (fun k => ⟨[(1, .ptr 256 0), (34, .vs (l.map c1)), (35, .int .i64 l.length), (36, .int .i64 k)], [], [(256, bx12 sq st a0 a1 a2 a3 a4 a5 b0 b1 l m)], 0⟩) l (fun n => !inI n (-1) 15) _ _ ?_ fun k p hk hg => ?_
  · show (K E A61_L0 _).bind _ = _
    rw [A61_L0_eq]
    simp +contextual -implicitDefEqProofs (maxSteps := 2000000) only [go_sem, ↓reduceIte, Nat.reduceAdd, Nat.reduceMul, Nat.reduceSub, Nat.reduceEqDiff, Nat.reduceLeDiff, Nat.reduceDiv, Nat.reduceMod, Nat.reduceBEq, Nat.reduceBNe, reduceCtorEq, Int.reduceLE, Int.reduceLT, Int.reduceToNat, Int.reduceNeg, Nat.reduceLT, Int.reduceEq, Int.reduceSub, Int.reduceAdd, Int.reduceMul, Nat.reducePow, Int.reduceBEq, Int.reduceBNe, Int.reduceMod, A61_L0b, List.length_map, Int.lt_irrefl]
  · show (K E A61_L0 _).bind _ = if _ then _ else (K E A61_L0 _).bind _
    have h1 : (k : Int) < l.length := by omega
    have h0 : (0 : Int) ≤ k := by omega
    have hw := wr_succ (n := k) (by omega)
    have hg := get_c1 hg
    conv => lhs; rw [A61_L0_eq]
    cases hp : inI p (-1) 15 <;> simp +contextual -implicitDefEqProofs (maxSteps := 2000000) only [go_sem, ↓reduceIte, Nat.reduceAdd, Nat.reduceMul, Nat.reduceSub, Nat.reduceEqDiff, Nat.reduceLeDiff, Nat.reduceDiv, Nat.reduceMod, Nat.reduceBEq, Nat.reduceBNe, reduceCtorEq, Int.reduceLE, Int.reduceLT, Int.reduceToNat, Int.reduceNeg, Nat.reduceLT, Int.reduceEq, Int.reduceSub, Int.reduceAdd, Int.reduceMul, Nat.reducePow, Int.reduceBEq, Int.reduceBNe, Int.reduceMod, A61_L0b, List.length_map, h0, h1, hw, hg, hp, c82]
theorem whB_any (l : List Int) : (l.any fun n => !inI n (-1) 15) = !whB l := by
  induction l with
  | nil => rfl
  | cons n l ih => simp only [List.any_cons, whB, List.all_cons, Bool.not_and] at *; rw [ih]
theorem c61 (r : Rec) (hl : r.wh.length ≤ 1000000000) : pc E 61 [rv r] = some (.bool (mayB r)) := by
  obtain ⟨sq, st, a0, a1, a2, a3, a4, a5, b0, b1, l, m⟩ := r
  have lp := loop61 sq st a0 a1 a2 a3 a4 a5 b0 b1 m l hl
  rw [whB_any] at lp
  cases g0 : inI a0 (-17) 18 with
  | false =>
    rw [pc_eq]; simp +contextual -implicitDefEqProofs (maxSteps := 2000000) only [go_sem, ↓reduceIte, Nat.reduceAdd, Nat.reduceMul, Nat.reduceSub, Nat.reduceEqDiff, Nat.reduceLeDiff, Nat.reduceDiv, Nat.reduceMod, Nat.reduceBEq, Nat.reduceBNe, reduceCtorEq, Int.reduceLE, Int.reduceLT, Int.reduceToNat, Int.reduceNeg, Nat.reduceLT, Int.reduceEq, Int.reduceSub, Int.reduceAdd, Int.reduceMul, Nat.reducePow, Int.reduceBEq, Int.reduceBNe, Int.reduceMod, lp, E_61, A61, A61_L2_eq, A61_L2b, A61_L1_eq, A61_L1b, c82, List.length_map, g0]
    (try simp [mayB, g0]); try (first | (intro hh; exfalso; simp at g11; omega) | (simp at g11; omega))
  | true =>
    cases g1 : inI a1 (-17) 18 with
    | false =>
      rw [pc_eq]; simp +contextual -implicitDefEqProofs (maxSteps := 2000000) only [go_sem, ↓reduceIte, Nat.reduceAdd, Nat.reduceMul, Nat.reduceSub, Nat.reduceEqDiff, Nat.reduceLeDiff, Nat.reduceDiv, Nat.reduceMod, Nat.reduceBEq, Nat.reduceBNe, reduceCtorEq, Int.reduceLE, Int.reduceLT, Int.reduceToNat, Int.reduceNeg, Nat.reduceLT, Int.reduceEq, Int.reduceSub, Int.reduceAdd, Int.reduceMul, Nat.reducePow, Int.reduceBEq, Int.reduceBNe, Int.reduceMod, lp, E_61, A61, A61_L2_eq, A61_L2b, A61_L1_eq, A61_L1b, c82, List.length_map, g0, g1]
      (try simp [mayB, g0, g1]); try (first | (intro hh; exfalso; simp at g11; omega) | (simp at g11; omega))
    | true =>
      cases g2 : inI a2 (-17) 18 with
      | false =>
        rw [pc_eq]; simp +contextual -implicitDefEqProofs (maxSteps := 2000000) only [go_sem, ↓reduceIte, Nat.reduceAdd, Nat.reduceMul, Nat.reduceSub, Nat.reduceEqDiff, Nat.reduceLeDiff, Nat.reduceDiv, Nat.reduceMod, Nat.reduceBEq, Nat.reduceBNe, reduceCtorEq, Int.reduceLE, Int.reduceLT, Int.reduceToNat, Int.reduceNeg, Nat.reduceLT, Int.reduceEq, Int.reduceSub, Int.reduceAdd, Int.reduceMul, Nat.reducePow, Int.reduceBEq, Int.reduceBNe, Int.reduceMod, lp, E_61, A61, A61_L2_eq, A61_L2b, A61_L1_eq, A61_L1b, c82, List.length_map, g0, g1, g2]
        (try simp [mayB, g0, g1, g2]); try (first | (intro hh; exfalso; simp at g11; omega) | (simp at g11; omega))
      | true =>
        cases g3 : inI b0 (-1) 7 with
        | false =>
          rw [pc_eq]; simp +contextual -implicitDefEqProofs (maxSteps := 2000000) only [go_sem, ↓reduceIte, Nat.reduceAdd, Nat.reduceMul, Nat.reduceSub, Nat.reduceEqDiff, Nat.reduceLeDiff, Nat.reduceDiv, Nat.reduceMod, Nat.reduceBEq, Nat.reduceBNe, reduceCtorEq, Int.reduceLE, Int.reduceLT, Int.reduceToNat, Int.reduceNeg, Nat.reduceLT, Int.reduceEq, Int.reduceSub, Int.reduceAdd, Int.reduceMul, Nat.reducePow, Int.reduceBEq, Int.reduceBNe, Int.reduceMod, lp, E_61, A61, A61_L2_eq, A61_L2b, A61_L1_eq, A61_L1b, c82, List.length_map, g0, g1, g2, g3]
          (try simp [mayB, g0, g1, g2, g3]); try (first | (intro hh; exfalso; simp at g11; omega) | (simp at g11; omega))
        | true =>
          cases g4 : inI a3 (-17) 18 with
          | false =>
            rw [pc_eq]; simp +contextual -implicitDefEqProofs (maxSteps := 2000000) only [go_sem, ↓reduceIte, Nat.reduceAdd, Nat.reduceMul, Nat.reduceSub, Nat.reduceEqDiff, Nat.reduceLeDiff, Nat.reduceDiv, Nat.reduceMod, Nat.reduceBEq, Nat.reduceBNe, reduceCtorEq, Int.reduceLE, Int.reduceLT, Int.reduceToNat, Int.reduceNeg, Nat.reduceLT, Int.reduceEq, Int.reduceSub, Int.reduceAdd, Int.reduceMul, Nat.reducePow, Int.reduceBEq, Int.reduceBNe, Int.reduceMod, lp, E_61, A61, A61_L2_eq, A61_L2b, A61_L1_eq, A61_L1b, c82, List.length_map, g0, g1, g2, g3, g4]
            (try simp [mayB, g0, g1, g2, g3, g4]); try (first | (intro hh; exfalso; simp at g11; omega) | (simp at g11; omega))
          | true =>
            cases g5 : inI a4 (-17) 18 with
            | false =>
              rw [pc_eq]; simp +contextual -implicitDefEqProofs (maxSteps := 2000000) only [go_sem, ↓reduceIte, Nat.reduceAdd, Nat.reduceMul, Nat.reduceSub, Nat.reduceEqDiff, Nat.reduceLeDiff, Nat.reduceDiv, Nat.reduceMod, Nat.reduceBEq, Nat.reduceBNe, reduceCtorEq, Int.reduceLE, Int.reduceLT, Int.reduceToNat, Int.reduceNeg, Nat.reduceLT, Int.reduceEq, Int.reduceSub, Int.reduceAdd, Int.reduceMul, Nat.reducePow, Int.reduceBEq, Int.reduceBNe, Int.reduceMod, lp, E_61, A61, A61_L2_eq, A61_L2b, A61_L1_eq, A61_L1b, c82, List.length_map, g0, g1, g2, g3, g4, g5]
              (try simp [mayB, g0, g1, g2, g3, g4, g5]); try (first | (intro hh; exfalso; simp at g11; omega) | (simp at g11; omega))
            | true =>
              cases g6 : inI a5 (-17) 18 with
              | false =>
                rw [pc_eq]; simp +contextual -implicitDefEqProofs (maxSteps := 2000000) only [go_sem, ↓reduceIte, Nat.reduceAdd, Nat.reduceMul, Nat.reduceSub, Nat.reduceEqDiff, Nat.reduceLeDiff, Nat.reduceDiv, Nat.reduceMod, Nat.reduceBEq, Nat.reduceBNe, reduceCtorEq, Int.reduceLE, Int.reduceLT, Int.reduceToNat, Int.reduceNeg, Nat.reduceLT, Int.reduceEq, Int.reduceSub, Int.reduceAdd, Int.reduceMul, Nat.reducePow, Int.reduceBEq, Int.reduceBNe, Int.reduceMod, lp, E_61, A61, A61_L2_eq, A61_L2b, A61_L1_eq, A61_L1b, c82, List.length_map, g0, g1, g2, g3, g4, g5, g6]
                (try simp [mayB, g0, g1, g2, g3, g4, g5, g6]); try (first | (intro hh; exfalso; simp at g11; omega) | (simp at g11; omega))
              | true =>
                cases g7 : inI b1 (-1) 7 with
                | false =>
                  rw [pc_eq]; simp +contextual -implicitDefEqProofs (maxSteps := 2000000) only [go_sem, ↓reduceIte, Nat.reduceAdd, Nat.reduceMul, Nat.reduceSub, Nat.reduceEqDiff, Nat.reduceLeDiff, Nat.reduceDiv, Nat.reduceMod, Nat.reduceBEq, Nat.reduceBNe, reduceCtorEq, Int.reduceLE, Int.reduceLT, Int.reduceToNat, Int.reduceNeg, Nat.reduceLT, Int.reduceEq, Int.reduceSub, Int.reduceAdd, Int.reduceMul, Nat.reducePow, Int.reduceBEq, Int.reduceBNe, Int.reduceMod, lp, E_61, A61, A61_L2_eq, A61_L2b, A61_L1_eq, A61_L1b, c82, List.length_map, g0, g1, g2, g3, g4, g5, g6, g7]
                  (try simp [mayB, g0, g1, g2, g3, g4, g5, g6, g7]); try (first | (intro hh; exfalso; simp at g11; omega) | (simp at g11; omega))
                | true =>
                  cases g8 : whB l with
                  | false =>
                    rw [pc_eq]; simp +contextual -implicitDefEqProofs (maxSteps := 2000000) only [go_sem, ↓reduceIte, Nat.reduceAdd, Nat.reduceMul, Nat.reduceSub, Nat.reduceEqDiff, Nat.reduceLeDiff, Nat.reduceDiv, Nat.reduceMod, Nat.reduceBEq, Nat.reduceBNe, reduceCtorEq, Int.reduceLE, Int.reduceLT, Int.reduceToNat, Int.reduceNeg, Nat.reduceLT, Int.reduceEq, Int.reduceSub, Int.reduceAdd, Int.reduceMul, Nat.reducePow, Int.reduceBEq, Int.reduceBNe, Int.reduceMod, lp, E_61, A61, A61_L2_eq, A61_L2b, A61_L1_eq, A61_L1b, c82, List.length_map, g0, g1, g2, g3, g4, g5, g6, g7, g8]
                    (try simp [mayB, g0, g1, g2, g3, g4, g5, g6, g7, g8]); try (first | (intro hh; exfalso; simp at g11; omega) | (simp at g11; omega))
                  | true =>
                    cases g9 : inI sq 1 1073741824 with
                    | false =>
                      rw [pc_eq]; simp +contextual -implicitDefEqProofs (maxSteps := 2000000) only [go_sem, ↓reduceIte, Nat.reduceAdd, Nat.reduceMul, Nat.reduceSub, Nat.reduceEqDiff, Nat.reduceLeDiff, Nat.reduceDiv, Nat.reduceMod, Nat.reduceBEq, Nat.reduceBNe, reduceCtorEq, Int.reduceLE, Int.reduceLT, Int.reduceToNat, Int.reduceNeg, Nat.reduceLT, Int.reduceEq, Int.reduceSub, Int.reduceAdd, Int.reduceMul, Nat.reducePow, Int.reduceBEq, Int.reduceBNe, Int.reduceMod, lp, E_61, A61, A61_L2_eq, A61_L2b, A61_L1_eq, A61_L1b, c82, List.length_map, g0, g1, g2, g3, g4, g5, g6, g7, g8, g9]
                      (try simp [mayB, g0, g1, g2, g3, g4, g5, g6, g7, g8, g9]); try (first | (intro hh; exfalso; simp at g11; omega) | (simp at g11; omega))
                    | true =>
                      cases g10 : inI st 0 300 with
                      | false =>
                        rw [pc_eq]; simp +contextual -implicitDefEqProofs (maxSteps := 2000000) only [go_sem, ↓reduceIte, Nat.reduceAdd, Nat.reduceMul, Nat.reduceSub, Nat.reduceEqDiff, Nat.reduceLeDiff, Nat.reduceDiv, Nat.reduceMod, Nat.reduceBEq, Nat.reduceBNe, reduceCtorEq, Int.reduceLE, Int.reduceLT, Int.reduceToNat, Int.reduceNeg, Nat.reduceLT, Int.reduceEq, Int.reduceSub, Int.reduceAdd, Int.reduceMul, Nat.reducePow, Int.reduceBEq, Int.reduceBNe, Int.reduceMod, lp, E_61, A61, A61_L2_eq, A61_L2b, A61_L1_eq, A61_L1b, c82, List.length_map, g0, g1, g2, g3, g4, g5, g6, g7, g8, g9, g10]
                        (try simp [mayB, g0, g1, g2, g3, g4, g5, g6, g7, g8, g9, g10]); try (first | (intro hh; exfalso; simp at g11; omega) | (simp at g11; omega))
                      | true =>
                        cases g11 : decide ((l.length : Int) ≤ 8) with
                        | false =>
                          rw [pc_eq]; simp +contextual -implicitDefEqProofs (maxSteps := 2000000) only [go_sem, ↓reduceIte, Nat.reduceAdd, Nat.reduceMul, Nat.reduceSub, Nat.reduceEqDiff, Nat.reduceLeDiff, Nat.reduceDiv, Nat.reduceMod, Nat.reduceBEq, Nat.reduceBNe, reduceCtorEq, Int.reduceLE, Int.reduceLT, Int.reduceToNat, Int.reduceNeg, Nat.reduceLT, Int.reduceEq, Int.reduceSub, Int.reduceAdd, Int.reduceMul, Nat.reducePow, Int.reduceBEq, Int.reduceBNe, Int.reduceMod, lp, E_61, A61, A61_L2_eq, A61_L2b, A61_L1_eq, A61_L1b, c82, List.length_map, g0, g1, g2, g3, g4, g5, g6, g7, g8, g9, g10, g11]
                          (try simp [mayB, g0, g1, g2, g3, g4, g5, g6, g7, g8, g9, g10, g11]); try (first | (intro hh; exfalso; simp at g11; omega) | (simp at g11; omega))
                        | true =>
                          cases g12 : inI m 1 5 with
                          | false =>
                            rw [pc_eq]; simp +contextual -implicitDefEqProofs (maxSteps := 2000000) only [go_sem, ↓reduceIte, Nat.reduceAdd, Nat.reduceMul, Nat.reduceSub, Nat.reduceEqDiff, Nat.reduceLeDiff, Nat.reduceDiv, Nat.reduceMod, Nat.reduceBEq, Nat.reduceBNe, reduceCtorEq, Int.reduceLE, Int.reduceLT, Int.reduceToNat, Int.reduceNeg, Nat.reduceLT, Int.reduceEq, Int.reduceSub, Int.reduceAdd, Int.reduceMul, Nat.reducePow, Int.reduceBEq, Int.reduceBNe, Int.reduceMod, lp, E_61, A61, A61_L2_eq, A61_L2b, A61_L1_eq, A61_L1b, c82, List.length_map, g0, g1, g2, g3, g4, g5, g6, g7, g8, g9, g10, g11, g12]
                            (try simp [mayB, g0, g1, g2, g3, g4, g5, g6, g7, g8, g9, g10, g11, g12]); try (first | (intro hh; exfalso; simp at g11; omega) | (simp at g11; omega))
                          | true =>
                            rw [pc_eq]; simp +contextual -implicitDefEqProofs (maxSteps := 2000000) only [go_sem, ↓reduceIte, Nat.reduceAdd, Nat.reduceMul, Nat.reduceSub, Nat.reduceEqDiff, Nat.reduceLeDiff, Nat.reduceDiv, Nat.reduceMod, Nat.reduceBEq, Nat.reduceBNe, reduceCtorEq, Int.reduceLE, Int.reduceLT, Int.reduceToNat, Int.reduceNeg, Nat.reduceLT, Int.reduceEq, Int.reduceSub, Int.reduceAdd, Int.reduceMul, Nat.reducePow, Int.reduceBEq, Int.reduceBNe, Int.reduceMod, lp, E_61, A61, A61_L2_eq, A61_L2b, A61_L1_eq, A61_L1b, c82, List.length_map, g0, g1, g2, g3, g4, g5, g6, g7, g8, g9, g10, g11, g12]
                            (try simp [mayB, g0, g1, g2, g3, g4, g5, g6, g7, g8, g9, g10, g11, g12]); try (first | (intro hh; exfalso; simp at g11; omega) | (simp at g11; omega))
end Go.Proofs.Ytjmnepfdhkabfaa

namespace Go.Proofs.Ytjmnepfdhkabfaa
set_option maxRecDepth 100000
set_option maxHeartbeats 4000000
set_option linter.unusedSimpArgs false
set_option linter.unusedVariables false
open Go Go.Zv
theorem wr_u8 (n : Int) : IntKind.u8.wrap n = n % 256 := by simp [IntKind.wrap, IntKind.signed, IntKind.bits]
theorem b1_by8 (n : Int) : b1 (by8 n) = [.int .u8 (n % 256)] := by unfold b1; rw [by8_nat]
def rowk (y : Int) (l : List Int) (k : Nat) : List (List LV) := ((l.take k).map fun n => by8 (n + y)).map b1
theorem rowk_len (y l) (k : Nat) (h : k ≤ l.length) : (rowk y l k).length = k := by simp [rowk]; omega
theorem rowk_succ (y : Int) {l : List Int} {k : Nat} {p : Int} (h : l[k]? = some p) : rowk y l k ++ [[.int .u8 ((p + y) % 256)]] = rowk y l (k + 1) := by
  unfold rowk
  rw [List.take_add_one, h]
  simp [b1_by8]
theorem c64 (y : Int) (l : List Int) (hl : l.length ≤ 1000000) (hy : -1000 ≤ y ∧ y ≤ 1000) (hb : ∀ n ∈ l, -1000000 ≤ n ∧ n ≤ 1000000) : pc E 64 [.int .i64 y, .vs (l.map c1)] = some (.os 1 ((l.map fun n => by8 (n + y)).map b1)) := by
  have lp := loop_to (fun S => (K E A64_L0 S).bind (blockR 0 (some [5]) [7, 19])) (fun k => ⟨[(0, .int .i64 y), (5, .bs 1280 0 k), (8, .vs (l.map c1)), (9, .int .i64 l.length), (10, .int .i64 k)], [], [(1280, .row 1 (rowk y l k)), (1024, .row 1 [])], 0⟩) l.length (fun k hk => by
    show (K E A64_L0 _).bind _ = (K E A64_L0 _).bind _
    have hget : l[k]? = some (l[k]'hk) := List.getElem?_eq_getElem _
    have hp := hb _ (List.getElem_mem hk)
    generalize l[k]'hk = p at *
    have h1 : (k : Int) < l.length := by omega
    have h0 : (0 : Int) ≤ k := by omega
    have hw := wr_succ (n := k) (by omega)
    have hg := get_c1 hget
    have w1 : IntKind.i64.wrap (p + y) = p + y := wrap_small (by omega) (by omega)
    have e := rowk_succ y hget
    have rl := rowk_len y l k (by omega)
    have tk : (rowk y l k).take k = rowk y l k := List.take_of_length_le (by omega)
    have hb : k + 1 ≤ 1000000000 := by omega
    conv => lhs; rw [A64_L0_eq]
    simp +contextual -implicitDefEqProofs (maxSteps := 2000000) only [go_sem, ↓reduceIte, Nat.reduceAdd, Nat.reduceMul, Nat.reduceSub, Nat.reduceEqDiff, Nat.reduceLeDiff, Nat.reduceDiv, Nat.reduceMod, Nat.reduceBEq, Nat.reduceBNe, reduceCtorEq, Int.reduceLE, Int.reduceLT, Int.reduceToNat, Int.reduceNeg, Nat.reduceLT, Int.reduceEq, Int.reduceSub, Int.reduceAdd, Int.reduceMul, Nat.reducePow, Int.reduceBEq, Int.reduceBNe, Int.reduceMod, A64_L0b, List.length_map, h0, h1, hw, hg, w1, wr_u8, e, rl, tk, hb])
  have e0 : rowk y l 0 = [] := by simp [rowk]
  have el : rowk y l l.length = (l.map fun n => by8 (n + y)).map b1 := by simp [rowk]
  have lp2 : (K E A64_L0 ⟨[(0, .int .i64 y), (5, .bs 1280 0 l.length), (8, .vs (l.map c1)), (9, .int .i64 l.length), (10, .int .i64 l.length)], [], [(1280, .row 1 (rowk y l l.length)), (1024, .row 1 [])], 0⟩).bind (blockR 0 (some [5]) [7, 19]) = some (.ex .nrm ⟨[(5, .bs 1280 0 l.length)], [], [(1280, .row 1 (rowk y l l.length)), (1024, .row 1 [])], 0⟩) := by
    rw [A64_L0_eq]; simp +contextual -implicitDefEqProofs (maxSteps := 2000000) only [go_sem, ↓reduceIte, Nat.reduceAdd, Nat.reduceMul, Nat.reduceSub, Nat.reduceEqDiff, Nat.reduceLeDiff, Nat.reduceDiv, Nat.reduceMod, Nat.reduceBEq, Nat.reduceBNe, reduceCtorEq, Int.reduceLE, Int.reduceLT, Int.reduceToNat, Int.reduceNeg, Nat.reduceLT, Int.reduceEq, Int.reduceSub, Int.reduceAdd, Int.reduceMul, Nat.reducePow, Int.reduceBEq, Int.reduceBNe, Int.reduceMod, A64_L0b, Int.lt_irrefl]
  have lp3 := lp.trans lp2
  simp only [e0, el, Int.natCast_zero, Int.ofNat_zero] at lp3
  have tk : ((l.map fun n => by8 (n + y)).map b1).take l.length = (l.map fun n => by8 (n + y)).map b1 := List.take_of_length_le (by simp)
  rw [pc_eq]; simp +contextual -implicitDefEqProofs (maxSteps := 2000000) only [go_sem, ↓reduceIte, Nat.reduceAdd, Nat.reduceMul, Nat.reduceSub, Nat.reduceEqDiff, Nat.reduceLeDiff, Nat.reduceDiv, Nat.reduceMod, Nat.reduceBEq, Nat.reduceBNe, reduceCtorEq, Int.reduceLE, Int.reduceLT, Int.reduceToNat, Int.reduceNeg, Nat.reduceLT, Int.reduceEq, Int.reduceSub, Int.reduceAdd, Int.reduceMul, Nat.reducePow, Int.reduceBEq, Int.reduceBNe, Int.reduceMod, E_64, A64, List.length_map, lp3, tk]
theorem c62 (a b : List UInt8) (hl : a.length ≤ 1000000) : pc E 62 [bv a, bv b] = some (.bool (decide (a = b))) := by
  by_cases h : a.length = b.length
  · have lp := loop_eq (fun S => (K E A62_L0 S).bind (blockR 0 (some []) [4, 5])) (fun k => ⟨[(0, bv a), (1, bv b), (12, .int .i64 a.length), (13, .int .i64 k)], [], [], 0⟩) a b h (some (.ex .ret ⟨[(4, .bool false)], [], [], 0⟩)) (some (.ex .nrm ⟨[], [], [], 0⟩))
      (by
        show (K E A62_L0 _).bind _ = _
        rw [A62_L0_eq]; simp +contextual -implicitDefEqProofs (maxSteps := 2000000) only [go_sem, ↓reduceIte, Nat.reduceAdd, Nat.reduceMul, Nat.reduceSub, Nat.reduceEqDiff, Nat.reduceLeDiff, Nat.reduceDiv, Nat.reduceMod, Nat.reduceBEq, Nat.reduceBNe, reduceCtorEq, Int.reduceLE, Int.reduceLT, Int.reduceToNat, Int.reduceNeg, Nat.reduceLT, Int.reduceEq, Int.reduceSub, Int.reduceAdd, Int.reduceMul, Nat.reducePow, Int.reduceBEq, Int.reduceBNe, Int.reduceMod, A62_L0b, Int.lt_irrefl])
      (fun k p q hk hp hq => by
        show (K E A62_L0 _).bind _ = if _ then (K E A62_L0 _).bind _ else _
        have h1 : (k : Int) < a.length := by omega
        have h0 : (0 : Int) ≤ k := by omega
        have hw := wr_succ (n := k) (by omega)
        have g1 : (a.map b1)[k]? = some [.int .u8 p.toNat] := by rw [List.getElem?_map, hp]; rfl
        have g2 : (b.map b1)[k]? = some [.int .u8 q.toNat] := by rw [List.getElem?_map, hq]; rfl
        conv => lhs; rw [A62_L0_eq]
        by_cases e : p = q
        · subst e
          simp +contextual -implicitDefEqProofs (maxSteps := 2000000) only [go_sem, ↓reduceIte, Nat.reduceAdd, Nat.reduceMul, Nat.reduceSub, Nat.reduceEqDiff, Nat.reduceLeDiff, Nat.reduceDiv, Nat.reduceMod, Nat.reduceBEq, Nat.reduceBNe, reduceCtorEq, Int.reduceLE, Int.reduceLT, Int.reduceToNat, Int.reduceNeg, Nat.reduceLT, Int.reduceEq, Int.reduceSub, Int.reduceAdd, Int.reduceMul, Nat.reducePow, Int.reduceBEq, Int.reduceBNe, Int.reduceMod, A62_L0b, List.length_map, h0, h1, hw, g1, g2, bne_self_eq_false]
        · have e' : ((p.toNat : Int) != q.toNat) = true := by simp; intro h; exact e (UInt8.toNat_inj.1 (by omega))
          have e2 : ¬ ((p.toNat : Int) = q.toNat) := by simpa using e'
          simp +contextual -implicitDefEqProofs (maxSteps := 2000000) only [go_sem, ↓reduceIte, Nat.reduceAdd, Nat.reduceMul, Nat.reduceSub, Nat.reduceEqDiff, Nat.reduceLeDiff, Nat.reduceDiv, Nat.reduceMod, Nat.reduceBEq, Nat.reduceBNe, reduceCtorEq, Int.reduceLE, Int.reduceLT, Int.reduceToNat, Int.reduceNeg, Nat.reduceLT, Int.reduceEq, Int.reduceSub, Int.reduceAdd, Int.reduceMul, Nat.reducePow, Int.reduceBEq, Int.reduceBNe, Int.reduceMod, A62_L0b, List.length_map, h0, h1, hw, g1, g2, e, e', e2])
    simp only [Int.natCast_zero, Int.ofNat_zero] at lp
    have h' : ((a.length : Int) != b.length) = false := by simp [h]
    by_cases e : a = b
    · subst e
      rw [if_pos rfl] at lp
      rw [pc_eq]; simp +contextual -implicitDefEqProofs (maxSteps := 2000000) only [go_sem, ↓reduceIte, Nat.reduceAdd, Nat.reduceMul, Nat.reduceSub, Nat.reduceEqDiff, Nat.reduceLeDiff, Nat.reduceDiv, Nat.reduceMod, Nat.reduceBEq, Nat.reduceBNe, reduceCtorEq, Int.reduceLE, Int.reduceLT, Int.reduceToNat, Int.reduceNeg, Nat.reduceLT, Int.reduceEq, Int.reduceSub, Int.reduceAdd, Int.reduceMul, Nat.reducePow, Int.reduceBEq, Int.reduceBNe, Int.reduceMod, E_62, A62, List.length_map, h', lp, bne_self_eq_false]
    · rw [if_neg e] at lp
      rw [pc_eq]; simp +contextual -implicitDefEqProofs (maxSteps := 2000000) only [go_sem, ↓reduceIte, Nat.reduceAdd, Nat.reduceMul, Nat.reduceSub, Nat.reduceEqDiff, Nat.reduceLeDiff, Nat.reduceDiv, Nat.reduceMod, Nat.reduceBEq, Nat.reduceBNe, reduceCtorEq, Int.reduceLE, Int.reduceLT, Int.reduceToNat, Int.reduceNeg, Nat.reduceLT, Int.reduceEq, Int.reduceSub, Int.reduceAdd, Int.reduceMul, Nat.reducePow, Int.reduceBEq, Int.reduceBNe, Int.reduceMod, E_62, A62, List.length_map, h', lp, e]
  · have h' : ((a.length : Int) != b.length) = true := by simp; omega
    have h2 : ¬ ((a.length : Int) = b.length) := by omega
    have e : ¬ a = b := fun e => h (by rw [e])
    rw [pc_eq]; simp +contextual -implicitDefEqProofs (maxSteps := 2000000) only [go_sem, ↓reduceIte, Nat.reduceAdd, Nat.reduceMul, Nat.reduceSub, Nat.reduceEqDiff, Nat.reduceLeDiff, Nat.reduceDiv, Nat.reduceMod, Nat.reduceBEq, Nat.reduceBNe, reduceCtorEq, Int.reduceLE, Int.reduceLT, Int.reduceToNat, Int.reduceNeg, Nat.reduceLT, Int.reduceEq, Int.reduceSub, Int.reduceAdd, Int.reduceMul, Nat.reducePow, Int.reduceBEq, Int.reduceBNe, Int.reduceMod, E_62, A62, List.length_map, h', h2, e]
theorem sm_snoc : ∀ (a : List UInt8) (i : Nat) (c : UInt8), sm (a ++ [c]) i = sm a i + (i + a.length + 1) * c.toNat
  | [], i, c => by simp [sm]
  | d :: a, i, c => by
    have := sm_snoc a (i + 1) c
    simp only [List.cons_append, sm, this, List.length_cons]
    rw [show i + 1 + a.length + 1 = i + (a.length + 1) + 1 by omega]; omega
theorem sm_take {l : List UInt8} {k : Nat} {p : UInt8} (h : l[k]? = some p) : sm (l.take (k + 1)) 0 = sm (l.take k) 0 + (k + 1) * p.toNat := by
  have hk := (List.getElem?_eq_some_iff.1 h).1
  rw [List.take_add_one, h, Option.toList_some, sm_snoc, List.length_take, Nat.min_eq_left (by omega), Nat.zero_add]
theorem sm_bd : ∀ (l : List UInt8) (i : Nat), sm l i ≤ l.length * ((i + l.length) * 255)
  | [], i => by simp [sm]
  | c :: l, i => by
    have ih := sm_bd l (i + 1)
    have hc : c.toNat < 256 := c.toNat_lt
    have h1 : (i + 1) * c.toNat ≤ (i + 1) * 255 := Nat.mul_le_mul_left _ (by omega)
    have h2 : (i + 1) * 255 ≤ (i + (l.length + 1)) * 255 := Nat.mul_le_mul_right _ (by omega)
    simp only [sm, List.length_cons]
    rw [Nat.add_mul l.length 1]
    rw [show i + 1 + l.length = i + (l.length + 1) by omega] at ih
    omega
theorem c66 (l : List UInt8) (hl : l.length ≤ 64) : pc E 66 [bv l] = some (.int .i64 (sumB l)) := by
  have lp := loop_to (fun S => (K E A66_L0 S).bind (blockR 0 (some [3]) [4, 5])) (fun k => ⟨[(3, .int .i64 (sm (l.take k) 0)), (6, bv l), (7, .int .i64 l.length), (8, .int .i64 k)], [], [], 0⟩) l.length (fun k hk => by
    show (K E A66_L0 _).bind _ = (K E A66_L0 _).bind _
    have hget : l[k]? = some (l[k]'hk) := List.getElem?_eq_getElem _
    generalize l[k]'hk = p at *
    have h1 : (k : Int) < l.length := by omega
    have h0 : (0 : Int) ≤ k := by omega
    have hw := wr_succ (n := k) (by omega)
    have g1 : (l.map b1)[k]? = some [.int .u8 p.toNat] := by rw [List.getElem?_map, hget]; rfl
    have e := sm_take hget
    have bd := sm_bd (l.take (k + 1)) 0
    have bl : (l.take (k + 1)).length ≤ 64 := by rw [List.length_take]; omega
    have bd2 : (l.take (k + 1)).length * ((0 + (l.take (k + 1)).length) * 255) ≤ 64 * (64 * 255) := Nat.mul_le_mul bl (Nat.mul_le_mul_right _ (by omega))
    have hp : p.toNat < 256 := p.toNat_lt
    have pk : (k + 1) * p.toNat ≤ 64 * 255 := Nat.mul_le_mul (by omega) (by omega)
    have w1 : IntKind.i64.wrap (p.toNat : Int) = p.toNat := wrap_small (by omega) (by omega)
    have ek : ((k : Int) + 1) * p.toNat = (((k + 1) * p.toNat : Nat) : Int) := by rw [Int.natCast_mul]; rfl
    have w2 : IntKind.i64.wrap (((k + 1 : Nat) : Int) * p.toNat) = (((k + 1) * p.toNat : Nat) : Int) := by
      rw [← Int.natCast_mul]; exact wrap_small (by omega) (by omega)
    have w3 : IntKind.i64.wrap ((sm (l.take k) 0 : Int) + (((k + 1) * p.toNat : Nat) : Int)) = (sm (l.take (k + 1)) 0 : Int) := by
      rw [← Int.natCast_add, ← e]; exact wrap_small (by omega) (by omega)
    conv => lhs; rw [A66_L0_eq]
    simp +contextual -implicitDefEqProofs (maxSteps := 2000000) only [go_sem, ↓reduceIte, Nat.reduceAdd, Nat.reduceMul, Nat.reduceSub, Nat.reduceEqDiff, Nat.reduceLeDiff, Nat.reduceDiv, Nat.reduceMod, Nat.reduceBEq, Nat.reduceBNe, reduceCtorEq, Int.reduceLE, Int.reduceLT, Int.reduceToNat, Int.reduceNeg, Nat.reduceLT, Int.reduceEq, Int.reduceSub, Int.reduceAdd, Int.reduceMul, Nat.reducePow, Int.reduceBEq, Int.reduceBNe, Int.reduceMod, A66_L0b, List.length_map, h0, h1, hw, g1, w1, w2, w3])
  have lp2 : (K E A66_L0 ⟨[(3, .int .i64 (sm (l.take l.length) 0)), (6, bv l), (7, .int .i64 l.length), (8, .int .i64 l.length)], [], [], 0⟩).bind (blockR 0 (some [3]) [4, 5]) = some (.ex .nrm ⟨[(3, .int .i64 (sm (l.take l.length) 0))], [], [], 0⟩) := by
    rw [A66_L0_eq]; simp +contextual -implicitDefEqProofs (maxSteps := 2000000) only [go_sem, ↓reduceIte, Nat.reduceAdd, Nat.reduceMul, Nat.reduceSub, Nat.reduceEqDiff, Nat.reduceLeDiff, Nat.reduceDiv, Nat.reduceMod, Nat.reduceBEq, Nat.reduceBNe, reduceCtorEq, Int.reduceLE, Int.reduceLT, Int.reduceToNat, Int.reduceNeg, Nat.reduceLT, Int.reduceEq, Int.reduceSub, Int.reduceAdd, Int.reduceMul, Nat.reducePow, Int.reduceBEq, Int.reduceBNe, Int.reduceMod, A66_L0b, Int.lt_irrefl]
  have lp3 := lp.trans lp2
  simp only [List.take_zero, sm, List.take_length, Int.natCast_zero, Int.ofNat_zero] at lp3
  have tm : (sm l 0 : Int).tmod 65521 = sumB l := by rw [Int.tmod_eq_emod_of_nonneg (by omega)]; rfl
  rw [pc_eq]; simp +contextual -implicitDefEqProofs (maxSteps := 2000000) only [go_sem, ↓reduceIte, Nat.reduceAdd, Nat.reduceMul, Nat.reduceSub, Nat.reduceEqDiff, Nat.reduceLeDiff, Nat.reduceDiv, Nat.reduceMod, Nat.reduceBEq, Nat.reduceBNe, reduceCtorEq, Int.reduceLE, Int.reduceLT, Int.reduceToNat, Int.reduceNeg, Nat.reduceLT, Int.reduceEq, Int.reduceSub, Int.reduceAdd, Int.reduceMul, Nat.reducePow, Int.reduceBEq, Int.reduceBNe, Int.reduceMod, E_66, A66, List.length_map, lp3, tm]
end Go.Proofs.Ytjmnepfdhkabfaa

namespace Go.Proofs.Ytjmnepfdhkabfaa
set_option maxRecDepth 100000
set_option maxHeartbeats 4000000
set_option linter.unusedSimpArgs false
set_option linter.unusedVariables false
open Go Go.Zv
theorem shr8 (n : Int) : shf .shr .i64 n 8 = some (.int .i64 (n / 256)) := by
  simp [shf, IntKind.bits, Int.fdiv_eq_ediv_of_nonneg]
theorem shl8 (n : Int) : shf .shl .i64 n 8 = some (.int .i64 (IntKind.i64.wrap (n * 256))) := by
  simp [shf, IntKind.bits]
theorem or8 {x y : Int} (h1 : 0 ≤ x) (h2 : x < 1099511627776) (h3 : 0 ≤ y) (h4 : y < 256) : IntKind.i64.wrap (((bits .i64 (x * 256) ||| bits .i64 y).toNat : Nat) : Int) = x * 256 + y := by
  obtain ⟨a, rfl⟩ : ∃ a : Nat, x = a := ⟨x.toNat, by omega⟩
  obtain ⟨b, rfl⟩ : ∃ b : Nat, y = b := ⟨y.toNat, by omega⟩
  have e1 : (bits .i64 ((a : Int) * 256)).toNat = a * 256 := by
    simp only [bits, IntKind.bits, BitVec.toNat_ofInt]; omega
  have e2 : (bits .i64 (b : Int)).toNat = b := by
    simp only [bits, IntKind.bits, BitVec.toNat_ofInt]; omega
  have e3 : (a * 256) ||| b = a * 256 + b := by
    have := Nat.shiftLeft_add_eq_or_of_lt (i := 8) (b := b) (by omega) a
    rw [Nat.shiftLeft_eq] at this
    exact this.symm
  rw [BitVec.toNat_or, e1, e2, e3]
  rw [wrap_small (by omega) (by omega)]; omega
theorem c65_4 (n : Int) : pc E 65 [.int .i64 n, .int .i64 4] = some (.os 1 ((be4 n).map b1)) := by
  have e1 : n / 256 / 256 = n / 65536 := by omega
  have e2 : n / 65536 / 256 = n / 16777216 := by omega
  rw [pc_eq]; simp +contextual -implicitDefEqProofs (maxSteps := 2000000) only [go_sem, ↓reduceIte, Nat.reduceAdd, Nat.reduceMul, Nat.reduceSub, Nat.reduceEqDiff, Nat.reduceLeDiff, Nat.reduceDiv, Nat.reduceMod, Nat.reduceBEq, Nat.reduceBNe, reduceCtorEq, Int.reduceLE, Int.reduceLT, Int.reduceToNat, Int.reduceNeg, Nat.reduceLT, Int.reduceEq, Int.reduceSub, Int.reduceAdd, Int.reduceMul, Nat.reducePow, Int.reduceBEq, Int.reduceBNe, Int.reduceMod, E_65, A65, A65_L0_eq, A65_L0b, shr8, wr_u8, e1, e2, be4, b1_by8]
theorem c65_2 (n : Int) : pc E 65 [.int .i64 n, .int .i64 2] = some (.os 1 ((be2 n).map b1)) := by
  rw [pc_eq]; simp +contextual -implicitDefEqProofs (maxSteps := 2000000) only [go_sem, ↓reduceIte, Nat.reduceAdd, Nat.reduceMul, Nat.reduceSub, Nat.reduceEqDiff, Nat.reduceLeDiff, Nat.reduceDiv, Nat.reduceMod, Nat.reduceBEq, Nat.reduceBNe, reduceCtorEq, Int.reduceLE, Int.reduceLT, Int.reduceToNat, Int.reduceNeg, Nat.reduceLT, Int.reduceEq, Int.reduceSub, Int.reduceAdd, Int.reduceMul, Nat.reducePow, Int.reduceBEq, Int.reduceBNe, Int.reduceMod, E_65, A65, A65_L0_eq, A65_L0b, shr8, wr_u8, be2, b1_by8]
theorem c83 (n : Nat) (h : n ≠ 0) (hn : n ≤ 1000000) : pc E 83 [.nul, .int .i64 n] = some (.os 1 []) := by
  have h0 : ¬ ((n : Int) < 0) := by omega
  have w1 : IntKind.i64.wrap (n : Int) = n := wrap_small (by omega) (by omega)
  · have h1 : (0 : Int) < n := by omega
    have hb : (n : Int) ≤ 1000000000 := by omega
    have h2 : (0 : Int) ≤ n := by omega
    have h3 : n ≤ 1000000000 := by omega
    rw [pc_eq]; simp +contextual -implicitDefEqProofs (maxSteps := 2000000) only [go_sem, ↓reduceIte, Nat.reduceAdd, Nat.reduceMul, Nat.reduceSub, Nat.reduceEqDiff, Nat.reduceLeDiff, Nat.reduceDiv, Nat.reduceMod, Nat.reduceBEq, Nat.reduceBNe, reduceCtorEq, Int.reduceLE, Int.reduceLT, Int.reduceToNat, Int.reduceNeg, Nat.reduceLT, Int.reduceEq, Int.reduceSub, Int.reduceAdd, Int.reduceMul, Nat.reducePow, Int.reduceBEq, Int.reduceBNe, Int.reduceMod, E_83, A83, h0, h1, h2, h3, hb, Int.sub_zero, w1, List.length_replicate]
theorem flat_take {l : List (List UInt8)} {k : Nat} {p : List UInt8} (h : l[k]? = some p) : (l.take (k + 1)).flatten = (l.take k).flatten ++ p := by
  rw [List.take_add_one, h, Option.toList_some, List.flatten_append, List.flatten_cons, List.flatten_nil, List.append_nil]
theorem flat_bd : ∀ (l : List (List UInt8)), (∀ b ∈ l, b.length ≤ 1000) → l.flatten.length ≤ l.length * 1000
  | [], _ => by simp
  | b :: l, h => by
    have := flat_bd l (fun c hc => h c (by simp [hc]))
    have := h b (by simp)
    simp only [List.flatten_cons, List.length_append, List.length_cons]; omega
theorem flat_bd2 (l : List (List UInt8)) (hl : l.length ≤ 1000) (hs : ∀ b ∈ l, b.length ≤ 1000) (k : Nat) : (l.take k).flatten.length ≤ 1000000 := by
  have h1 := flat_bd (l.take k) (fun b hb => hs b (List.mem_of_mem_take hb))
  have h2 : (l.take k).length ≤ 1000 := by rw [List.length_take]; omega
  omega
theorem loop63a (l : List (List UInt8)) (hl : l.length ≤ 1000) (hs : ∀ b ∈ l, b.length ≤ 1000) :
    (K E A63_L1 ⟨[(0, sv l), (3, .int .i64 0), (9, sv l), (10, .int .i64 l.length), (11, .int .i64 0)], [], [(512, .row 1 [])], 0⟩).bind (blockR 0 (some [0, 3]) [5]) =
    some (.ex .nrm ⟨[(0, sv l), (3, .int .i64 l.flatten.length)], [], [(512, .row 1 [])], 0⟩) := by
  have h := loop_to (fun S => (K E A63_L1 S).bind (blockR 0 (some [0, 3]) [5])) (fun k => ⟨[(0, sv l), (3, .int .i64 (l.take k).flatten.length), (9, sv l), (10, .int .i64 l.length), (11, .int .i64 k)], [], [(512, .row 1 [])], 0⟩) l.length (fun k hk => by
    have hget : l[k]? = some (l[k]'hk) := List.getElem?_eq_getElem _
    have hp := hs _ (List.getElem_mem hk)
    generalize l[k]'hk = p at *
    have h1 : (k : Int) < l.length := by omega
    have h0 : (0 : Int) ≤ k := by omega
    have hw := wr_succ (n := k) (by omega)
    have hg := get_s1 hget
    have bd := flat_bd2 l hl hs k
    have e := flat_take hget
    have w1 : IntKind.i64.wrap (((l.take k).flatten.length : Int) + p.length) = ((l.take (k + 1)).flatten.length : Int) := by rw [e, List.length_append, wrap_small (by omega) (by omega)]; omega
    have n1 : ¬ (((l.take (k + 1)).flatten.length : Int) < 0) := by omega
    show (K E A63_L1 _).bind _ = (K E A63_L1 _).bind _
    conv => lhs; rw [A63_L1_eq]
    generalize (l.take (k + 1)).flatten.length = z2 at *
    generalize (l.take k).flatten.length = z1 at *
    simp +contextual -implicitDefEqProofs (maxSteps := 2000000) only [go_sem, ↓reduceIte, Nat.reduceAdd, Nat.reduceMul, Nat.reduceSub, Nat.reduceEqDiff, Nat.reduceLeDiff, Nat.reduceDiv, Nat.reduceMod, Nat.reduceBEq, Nat.reduceBNe, reduceCtorEq, Int.reduceLE, Int.reduceLT, Int.reduceToNat, Int.reduceNeg, Nat.reduceLT, Int.reduceEq, Int.reduceSub, Int.reduceAdd, Int.reduceMul, Nat.reducePow, Int.reduceBEq, Int.reduceBNe, Int.reduceMod, A63_L1b, List.length_map, h0, h1, hw, hg, w1, n1])
  simp only [List.take_zero, List.flatten_nil, List.length_nil, List.take_length] at h
  refine h.trans ?_
  show (K E A63_L1 _).bind _ = _
  generalize l.flatten.length = z
  rw [A63_L1_eq]; simp +contextual -implicitDefEqProofs (maxSteps := 2000000) only [go_sem, ↓reduceIte, Nat.reduceAdd, Nat.reduceMul, Nat.reduceSub, Nat.reduceEqDiff, Nat.reduceLeDiff, Nat.reduceDiv, Nat.reduceMod, Nat.reduceBEq, Nat.reduceBNe, reduceCtorEq, Int.reduceLE, Int.reduceLT, Int.reduceToNat, Int.reduceNeg, Nat.reduceLT, Int.reduceEq, Int.reduceSub, Int.reduceAdd, Int.reduceMul, Nat.reducePow, Int.reduceBEq, Int.reduceBNe, Int.reduceMod, A63_L1b, Int.lt_irrefl]
theorem loop63b (l : List (List UInt8)) (hl : l.length ≤ 1000) (hs : ∀ b ∈ l, b.length ≤ 1000) :
    (K E A63_L0 ⟨[(6, .bs 6144 0 0), (25, sv l), (26, .int .i64 l.length), (27, .int .i64 0)], [], [(6144, .row 1 []), (512, .row 1 [])], 0⟩).bind (blockR 2 (some [6]) [8]) =
    some (.ex .nrm ⟨[(6, .bs 6144 0 l.flatten.length)], [], [(6144, .row 1 (l.flatten.map b1)), (512, .row 1 [])], 0⟩) := by
  have h := loop_to (fun S => (K E A63_L0 S).bind (blockR 2 (some [6]) [8])) (fun k => ⟨[(6, .bs 6144 0 (l.take k).flatten.length), (25, sv l), (26, .int .i64 l.length), (27, .int .i64 k)], [], [(6144, .row 1 ((l.take k).flatten.map b1)), (512, .row 1 [])], 0⟩) l.length (fun k hk => by
    have hget : l[k]? = some (l[k]'hk) := List.getElem?_eq_getElem _
    have hp := hs _ (List.getElem_mem hk)
    generalize l[k]'hk = p at *
    have h1 : (k : Int) < l.length := by omega
    have h0 : (0 : Int) ≤ k := by omega
    have hw := wr_succ (n := k) (by omega)
    have hg := get_s1 hget
    have bd := flat_bd2 l hl hs k
    have e := flat_take hget
    have n1 : (l.take k).flatten.length + p.length ≤ 1000000000 := by omega
    have tk := take_b1 (l.take k).flatten
    have e2 : ((l.take k).flatten.map b1) ++ (p.map b1) = (l.take (k + 1)).flatten.map b1 := by rw [e, List.map_append]
    have e3 : (l.take k).flatten.length + p.length = (l.take (k + 1)).flatten.length := by rw [e, List.length_append]
    have n1' := n1
    rw [e3] at n1'
    show (K E A63_L0 _).bind _ = (K E A63_L0 _).bind _
    conv => lhs; rw [A63_L0_eq]
    simp +contextual -implicitDefEqProofs (maxSteps := 2000000) only [go_sem, ↓reduceIte, Nat.reduceAdd, Nat.reduceMul, Nat.reduceSub, Nat.reduceEqDiff, Nat.reduceLeDiff, Nat.reduceDiv, Nat.reduceMod, Nat.reduceBEq, Nat.reduceBNe, reduceCtorEq, Int.reduceLE, Int.reduceLT, Int.reduceToNat, Int.reduceNeg, Nat.reduceLT, Int.reduceEq, Int.reduceSub, Int.reduceAdd, Int.reduceMul, Nat.reducePow, Int.reduceBEq, Int.reduceBNe, Int.reduceMod, A63_L0b, List.length_map, h0, h1, hw, hg, all_b1, n1, n1', tk, e2, e3, Nat.le_refl])
  simp only [List.take_zero, List.flatten_nil, List.length_nil, List.take_length, List.map_nil] at h
  refine h.trans ?_
  show (K E A63_L0 _).bind _ = _
  rw [A63_L0_eq]; simp +contextual -implicitDefEqProofs (maxSteps := 2000000) only [go_sem, ↓reduceIte, Nat.reduceAdd, Nat.reduceMul, Nat.reduceSub, Nat.reduceEqDiff, Nat.reduceLeDiff, Nat.reduceDiv, Nat.reduceMod, Nat.reduceBEq, Nat.reduceBNe, reduceCtorEq, Int.reduceLE, Int.reduceLT, Int.reduceToNat, Int.reduceNeg, Nat.reduceLT, Int.reduceEq, Int.reduceSub, Int.reduceAdd, Int.reduceMul, Nat.reducePow, Int.reduceBEq, Int.reduceBNe, Int.reduceMod, A63_L0b, Int.lt_irrefl]
theorem c63 (l : List (List UInt8)) (hl : l.length ≤ 1000) (hs : ∀ b ∈ l, b.length ≤ 1000) (h0 : l.flatten.length ≠ 0) : pc E 63 [sv l] = some (.os 1 (l.flatten.map b1)) := by
  have lp := loop63a l hl hs
  have lb := loop63b l hl hs
  have bd := flat_bd2 l hl hs l.length
  rw [List.take_length] at bd
  have h83 := c83 _ h0 bd
  have tk := take_b1 l.flatten
  have ln : (l.flatten.map b1).length = l.flatten.length := by rw [List.length_map]
  generalize l.flatten.map b1 = xs at *
  generalize l.flatten.length = z at *
  rw [pc_eq]; simp +contextual -implicitDefEqProofs (maxSteps := 2000000) only [go_sem, ↓reduceIte, Nat.reduceAdd, Nat.reduceMul, Nat.reduceSub, Nat.reduceEqDiff, Nat.reduceLeDiff, Nat.reduceDiv, Nat.reduceMod, Nat.reduceBEq, Nat.reduceBNe, reduceCtorEq, Int.reduceLE, Int.reduceLT, Int.reduceToNat, Int.reduceNeg, Nat.reduceLT, Int.reduceEq, Int.reduceSub, Int.reduceAdd, Int.reduceMul, Nat.reducePow, Int.reduceBEq, Int.reduceBNe, Int.reduceMod, E_63, A63, List.length_map, lp, lb, h83, tk, ln, Nat.le_refl]
end Go.Proofs.Ytjmnepfdhkabfaa

namespace Go.Proofs.Ytjmnepfdhkabfaa
set_option maxRecDepth 100000
set_option maxHeartbeats 4000000
set_option linter.unusedSimpArgs false
set_option linter.unusedVariables false
open Go Go.Zv
theorem c64' (y : Int) (l : List Int) (hl : l.length ≤ 1000000) (hy : -1000 ≤ y ∧ y ≤ 1000) (hb : ∀ n ∈ l, -1000000 ≤ n ∧ n ≤ 1000000) (xs : List (List LV)) (hx : l.map c1 = xs) (ys : List UInt8) (hys : (l.map fun n => by8 (n + y)) = ys) : pc E 64 [.int .i64 y, .vs xs] = some (.os 1 (ys.map b1)) := by
  subst hx; subst hys; exact c64 y l hl hy hb
theorem scal_b1 (l : List UInt8) : ((l.map b1).all fun x => x.all LV.scal) = true := by simp [b1, LV.scal]
theorem scal1 (x : UInt8) : (b1 x).all LV.scal = true := by simp [b1, LV.scal]
theorem c35 (r : Rec) (h : OKr r) : pc E 35 [rv r] = some (.os 1 ((enc r).map b1)) := by
  have hp := pad_len h
  have hh := hd_len r
  have hhl : (hd r).length ≤ 25 := by have := h.len; omega
  obtain ⟨sq, st, a0, a1, a2, a3, a4, a5, b0, b1', l, m⟩ := r
  obtain ⟨q0, q1, q2, q3, q4, q5, h0, h1, w, s, t, ln, mo⟩ := h
  simp only at *
  have g1 := c64' 0 [74] (by simp) (by omega) (by simp) [[.int .i64 74]] rfl [74] rfl
  have g2 := c65_4 sq
  have g3 := c65_2 st
  have g4 := c64' 17 [a0, a1, a2] (by simp) (by omega) (by simp; omega) [[.int .i64 a0], [.int .i64 a1], [.int .i64 a2]] rfl _ rfl
  have g5 := c64' 17 [a3, a4, a5] (by simp) (by omega) (by simp; omega) [[.int .i64 a3], [.int .i64 a4], [.int .i64 a5]] rfl _ rfl
  have g6 := c64' 1 [b0, b1'] (by simp) (by omega) (by simp; omega) [[.int .i64 b0], [.int .i64 b1']] rfl _ rfl
  have g7 := c64' 0 [(l.length : Int)] (by simp) (by omega) (by simp; omega) [[.int .i64 l.length]] rfl _ rfl
  have g8 := c64' 1 l (by omega) (by omega) (fun n hn => by have := w n hn; omega) _ rfl _ rfl
  have g9 := c64' 0 [m] (by simp) (by omega) (by simp; omega) [[.int .i64 m]] rfl _ rfl
  have e : List.flatten [[74], be4 sq, be2 st, [a0, a1, a2].map (fun n => by8 (n + 17)), [a3, a4, a5].map (fun n => by8 (n + 17)), [b0, b1'].map (fun n => by8 (n + 1)), [(l.length : Int)].map (fun n => by8 (n + 0)), l.map (fun n => by8 (n + 1)), [m].map (fun n => by8 (n + 0))] = hd ⟨sq, st, a0, a1, a2, a3, a4, a5, b0, b1', l, m⟩ := by
    simp only [hd, List.flatten_cons, List.flatten_nil, List.map_cons, List.map_nil, List.cons_append, List.nil_append, Int.add_zero, List.append_nil]
  have g10 := c63 [[74], be4 sq, be2 st, [a0, a1, a2].map (fun n => by8 (n + 17)), [a3, a4, a5].map (fun n => by8 (n + 17)), [b0, b1'].map (fun n => by8 (n + 1)), [(l.length : Int)].map (fun n => by8 (n + 0)), l.map (fun n => by8 (n + 1)), [m].map (fun n => by8 (n + 0))] (by simp) (by simp [be4, be2]; omega) (by rw [e, hh]; omega)
  rw [e] at g10
  simp only [sv, List.map_cons, List.map_nil, s1, bv] at g10
  simp only [List.map_cons, List.map_nil, bv] at g1 g4 g5 g6 g7 g9
  have tkw : (List.map b1 (List.map (fun n => by8 (n + 1)) l)).take l.length = List.map b1 (List.map (fun n => by8 (n + 1)) l) := List.take_of_length_le (by simp)
  have hpe : (hd ⟨sq, st, a0, a1, a2, a3, a4, a5, b0, b1', l, m⟩).map b1 ++ List.replicate (58 - (hd ⟨sq, st, a0, a1, a2, a3, a4, a5, b0, b1', l, m⟩).length) [LV.int .u8 0] = (pad ⟨sq, st, a0, a1, a2, a3, a4, a5, b0, b1', l, m⟩).map b1 := by simp [pad, b1]
  have gs := c66 (pad ⟨sq, st, a0, a1, a2, a3, a4, a5, b0, b1', l, m⟩) (by omega)
  have ge : enc ⟨sq, st, a0, a1, a2, a3, a4, a5, b0, b1', l, m⟩ = List.flatten [pad ⟨sq, st, a0, a1, a2, a3, a4, a5, b0, b1', l, m⟩, be2 (sumB (pad ⟨sq, st, a0, a1, a2, a3, a4, a5, b0, b1', l, m⟩)), be4 sq] := by simp [enc]
  rw [ge]
  generalize hd ⟨sq, st, a0, a1, a2, a3, a4, a5, b0, b1', l, m⟩ = H at *
  generalize pad ⟨sq, st, a0, a1, a2, a3, a4, a5, b0, b1', l, m⟩ = Q at *
  have hhl2 : H.length ≤ 25 := hhl
  have w1 : IntKind.i64.wrap (58 - (H.length : Int)) = ((58 - H.length : Nat) : Int) := (wrap_small (n := 58 - (H.length : Int)) (by omega) (by omega)).trans (by omega)
  have w2 : (0 : Int) ≤ ((58 - H.length : Nat) : Int) := by omega
  have w3 : ((58 - H.length : Nat) : Int) ≤ 1000000000 := by omega
  have w4 : H.length + (58 - H.length) = 58 := by omega
  have tkh := take_b1 H
  have tkp : (Q.map b1).take 58 = Q.map b1 := List.take_of_length_le (by simp; omega)
  have g11 := c65_2 (sumB Q)
  have hq : Q.length = 58 := hp
  have g12 := c63 [Q, be2 (sumB Q), be4 sq] (by simp) (by simp [be4, be2, hq]) (by simp [be4, be2, hq])
  have tkf : ((List.flatten [Q, be2 (sumB Q), be4 sq]).map b1).take (List.flatten [Q, be2 (sumB Q), be4 sq]).length = (List.flatten [Q, be2 (sumB Q), be4 sq]).map b1 := take_b1 _
  simp only [sv, List.map_cons, List.map_nil, s1, bv] at g12
  generalize List.flatten [Q, be2 (sumB Q), be4 sq] = R at *
  generalize sumB Q = z at *
  rw [pc_eq]; simp +contextual -implicitDefEqProofs (maxSteps := 2000000) only [go_sem, ↓reduceIte, Nat.reduceAdd, Nat.reduceMul, Nat.reduceSub, Nat.reduceEqDiff, Nat.reduceLeDiff, Nat.reduceDiv, Nat.reduceMod, Nat.reduceBEq, Nat.reduceBNe, reduceCtorEq, Int.reduceLE, Int.reduceLT, Int.reduceToNat, Int.reduceNeg, Nat.reduceLT, Int.reduceEq, Int.reduceSub, Int.reduceAdd, Int.reduceMul, Nat.reducePow, Int.reduceBEq, Int.reduceBNe, Int.reduceMod, E_35, A35, List.length_map, g1, g2, g3, g4, g5, g6, g7, g8, g9, g10, all_b1, scal_b1, List.isEmpty_cons, take_b1, scal1, tkw, w1, w2, w3, w4, tkh, hpe, gs, g11, g12, tkp, hp, tkf, List.length_replicate]
end Go.Proofs.Ytjmnepfdhkabfaa

namespace Go.Proofs.Ytjmnepfdhkabfaa
set_option maxRecDepth 100000
set_option maxHeartbeats 4000000
set_option linter.unusedSimpArgs false
set_option linter.unusedVariables false
open Go Go.Zv
theorem pad_seq (r : Rec) : ((pad r).drop 1).take 4 = be4 r.seq := by simp [pad, hd, be4]
theorem enc_of_pad {r s : Rec} (h : pad r = pad s) : enc r = enc s := by
  unfold enc; rw [h, ← pad_seq r, ← pad_seq s, h]
theorem set_same {l : List UInt8} {k : Nat} {x y : UInt8} (h : l[k]? = some x) (e : l.set k y = l) : y = x := by
  have hk := (List.getElem?_eq_some_iff.1 h).1
  have := List.getElem?_set_self (l := l) (i := k) (a := y) hk
  rw [e, h] at this
  exact (Option.some.inj this).symm
theorem flip_none {r : Rec} (hr : OKr r) {i : Nat} {x y : UInt8} (hx : (enc r)[i]? = some x) (hy : y ≠ x) : dec ((enc r).set i y) = none := by
  cases h : dec ((enc r).set i y) with
  | none => rfl
  | some s =>
    exfalso
    obtain ⟨hs, he⟩ := dec_some h
    have hi := (List.getElem?_eq_some_iff.1 hx).1
    rw [enc_len hr] at hi
    have lr := pad_len hr
    have ls := pad_len hs
    by_cases hi2 : i < 58
    · have hx' : (pad r)[i]? = some x := by
        unfold enc at hx; rwa [List.getElem?_append_left (by omega)] at hx
      unfold enc at he
      rw [List.set_append_left _ _ (by omega)] at he
      obtain ⟨e1, e2⟩ := List.append_inj he (by rw [List.length_set]; omega)
      obtain ⟨e3, e4⟩ := List.append_inj e2 (by simp [be2])
      have l1 := sumB_lt (pad s)
      have l2 := sumB_lt (pad r)
      have e5 := be2_inj l1.1 (by omega) l2.1 (by omega) e3
      rw [e1] at e5
      have e6 := sm_set (pad r) 0 i x y hx'
      unfold sumB at e5
      have bx : x.toNat < 256 := x.toNat_lt
      have by' : y.toNat < 256 := y.toNat_lt
      have hne : x.toNat ≠ y.toNat := fun e => hy (UInt8.toNat_inj.1 e).symm
      generalize sm (pad r) 0 = A at *
      generalize sm ((pad r).set i y) 0 = B at *
      have key : ∃ d : Int, (B : Int) = A + d ∧ d ≠ 0 ∧ -14790 ≤ d ∧ d ≤ 14790 := by
        refine ⟨((0 : Nat) + (i : Int) + 1) * (y.toNat - x.toNat), e6, ?_, ?_, ?_⟩
        · intro e
          rcases Int.mul_eq_zero.1 e with e | e <;> omega
        · have h1 : ((0 : Nat) + (i : Int) + 1) * (x.toNat - y.toNat : Int) ≤ ((i : Int) + 1) * 255 := by
            have : ((0 : Nat) + (i : Int) + 1) = (i : Int) + 1 := by omega
            rw [this]; exact Int.mul_le_mul_of_nonneg_left (by omega) (by omega)
          have h2 : ((0 : Nat) + (i : Int) + 1) * (y.toNat - x.toNat : Int) = -(((0 : Nat) + (i : Int) + 1) * (x.toNat - y.toNat : Int)) := by rw [← Int.mul_neg]; congr 1; omega
          rw [h2]; omega
        · have h1 : ((0 : Nat) + (i : Int) + 1) * (y.toNat - x.toNat : Int) ≤ ((i : Int) + 1) * 255 := by
            have : ((0 : Nat) + (i : Int) + 1) = (i : Int) + 1 := by omega
            rw [this]; exact Int.mul_le_mul_of_nonneg_left (by omega) (by omega)
          omega
      obtain ⟨d, k1, k2, k3, k4⟩ := key
      omega
    · have he2 := he
      unfold enc at he2
      rw [List.set_append_right _ _ (by omega)] at he2
      obtain ⟨e1, e2⟩ := List.append_inj he2 (by omega)
      rw [enc_of_pad e1] at he
      exact hy (set_same hx he.symm)
/-- the number at a sector's end -/
def es (b : List UInt8) : Int := n4 (b[60]?.getD 0) (b[61]?.getD 0) (b[62]?.getD 0) (b[63]?.getD 0)
theorem enc_tail {r : Rec} (h : OKr r) {j : Nat} (hj : j < 4) {v : UInt8} (hv : (be4 r.seq)[j]? = some v) : (enc r)[60 + j]? = some v := by
  have l3 := pad_len h
  have l4 : (be2 (sumB (pad r))).length = 2 := rfl
  unfold enc
  rw [List.getElem?_append_right (by omega), List.getElem?_append_right (by omega), l3, l4, show 60 + j - 58 - 2 = j by omega]; exact hv
theorem es_enc {r : Rec} (h : OKr r) : es (enc r) = r.seq := by
  have a0 := enc_tail h (j := 0) (v := by8 (r.seq / 16777216)) (by omega) rfl
  have a1 := enc_tail h (j := 1) (v := by8 (r.seq / 65536)) (by omega) rfl
  have a2 := enc_tail h (j := 2) (v := by8 (r.seq / 256)) (by omega) rfl
  have a3 := enc_tail h (j := 3) (v := by8 r.seq) (by omega) rfl
  simp only [Nat.reduceAdd] at a0 a1 a2 a3
  unfold es
  rw [a0, a1, a2, a3]
  simp only [Option.getD_some]
  exact n4_be _ (by have := h.seq; omega) (by have := h.seq; omega)
theorem es_dec {b r} (h : dec b = some r) : r.seq = es b := by
  obtain ⟨h1, h2⟩ := dec_some h
  rw [← h2, es_enc h1]
theorem es_nonneg (b) : 0 ≤ es b := by unfold es n4; omega
theorem es_torn {r : Rec} (h : OKr r) (hs : r.seq ≤ 255) {p : List UInt8} (hp : p.length = 64) (hq : es p ≤ 255) {k : Nat} (hk : k < 64) : es (over ((enc r).take k) p) = es p := by
  have l := enc_len h
  have g : ∀ j, (over ((enc r).take k) p)[j]? = if j < k then (enc r)[j]? else p[j]? := by
    intro j
    unfold over
    have l2 : ((enc r).take k).length = k := by rw [List.length_take]; omega
    rw [List.getElem?_append, l2]
    by_cases hj : j < k
    · rw [if_pos hj, if_pos hj, List.getElem?_take, if_pos hj]
    · rw [if_neg hj, if_neg hj, List.getElem?_drop]; congr 1; omega
  have a0 := enc_tail h (j := 0) (v := by8 (r.seq / 16777216)) (by omega) rfl
  have a1 := enc_tail h (j := 1) (v := by8 (r.seq / 65536)) (by omega) rfl
  have a2 := enc_tail h (j := 2) (v := by8 (r.seq / 256)) (by omega) rfl
  have hseq := h.seq
  have z0 : by8 (r.seq / 16777216) = 0 := by rw [show r.seq / 16777216 = 0 by omega]; rfl
  have z1 : by8 (r.seq / 65536) = 0 := by rw [show r.seq / 65536 = 0 by omega]; rfl
  have z2 : by8 (r.seq / 256) = 0 := by rw [show r.seq / 256 = 0 by omega]; rfl
  rw [z0] at a0; rw [z1] at a1; rw [z2] at a2
  simp only [Nat.reduceAdd] at a0 a1 a2
  have b0 : ∀ x : UInt8, x.toNat = 0 → x = 0 := fun x hx => UInt8.toNat_inj.1 hx
  unfold es at hq ⊢
  rw [g 60, g 61, g 62, g 63, if_neg (show ¬ 63 < k by omega)]
  have q0 : (p[60]?.getD 0) = 0 := b0 _ (by unfold n4 at hq; omega)
  have q1 : (p[61]?.getD 0) = 0 := b0 _ (by unfold n4 at hq; omega)
  have q2 : (p[62]?.getD 0) = 0 := b0 _ (by unfold n4 at hq; omega)
  have c0 : ((if 60 < k then (enc r)[60]? else p[60]?).getD 0) = (p[60]?.getD 0) := by split <;> simp [a0, q0]
  have c1 : ((if 61 < k then (enc r)[61]? else p[61]?).getD 0) = (p[61]?.getD 0) := by split <;> simp [a1, q1]
  have c2 : ((if 62 < k then (enc r)[62]? else p[62]?).getD 0) = (p[62]?.getD 0) := by split <;> simp [a2, q2]
  rw [c0, c1, c2]
theorem es_zs : es zs = 0 := by unfold es zs n4; simp
theorem dec_of_es0 {b} (h : es b = 0) : dec b = none := by
  cases hd : dec b with
  | none => rfl
  | some r =>
    have h1 := es_dec hd
    have h2 := (dec_some hd).1.seq
    omega
end Go.Proofs.Ytjmnepfdhkabfaa

namespace Go.Proofs.Ytjmnepfdhkabfaa
set_option maxRecDepth 100000
set_option maxHeartbeats 4000000
set_option linter.unusedSimpArgs false
set_option linter.unusedVariables false
open Go Go.Zv
def wrg (s : List (List UInt8)) (i : Nat) (x : List UInt8) : List (List UInt8) := s.set i (over x (s[i]?.getD []))
theorem wrg_len (s i x) : (wrg s i x).length = s.length := by simp [wrg]
theorem over_over (x y p : List UInt8) (h : x.length ≤ y.length) : over y (over x p) = over y p := by
  unfold over
  rw [List.drop_append, List.drop_of_length_le h, List.nil_append, List.drop_drop]
  congr 2; omega
theorem wrg_same (s : List (List UInt8)) (i : Nat) (x y) (hi : i < s.length) (h : x.length ≤ y.length) : wrg (wrg s i x) i y = wrg s i y := by
  unfold wrg
  rw [List.set_set, List.getElem?_set_self hi, List.getElem?_eq_getElem hi]
  simp only [Option.getD_some]
  rw [over_over _ _ _ h]
theorem wrg_comm (s : List (List UInt8)) (i j : Nat) (x y) (h : i ≠ j) : wrg (wrg s i x) j y = wrg (wrg s j y) i x := by
  unfold wrg
  rw [List.getElem?_set_ne h, List.getElem?_set_ne (Ne.symm h), List.set_comm _ _ h]
def okw (s : List (List UInt8)) (i : Int) (x : List UInt8) : Prop := 0 ≤ i ∧ i < s.length ∧ x.length ≤ 64
theorem wr_free (s : List (List UInt8)) (t : Int) (i : Int) (x : List UInt8) : (¬ okw s i x ∧ wr ⟨s, -1, t, false⟩ i x = (⟨s, -1, t, false⟩, 1)) ∨ (okw s i x ∧ wr ⟨s, -1, t, false⟩ i x = (⟨wrg s i.toNat x, -1, t, false⟩, 0)) := by
  rcases wr_cases ⟨s, -1, t, false⟩ i x with ⟨h1, h⟩ | ⟨_, h1, h⟩ | ⟨h1, _, h2, h⟩ | ⟨_, h1, h2, h⟩
  · cases h1
  · exact .inl ⟨h1, h⟩
  · simp at h2
  · exact .inr ⟨h1, by rw [h]; simp [wrg]⟩
theorem ok_free {d : Dsk} (h : OKd d) : OKd ⟨d.sec, -1, d.torn, false⟩ := ⟨h.len1, h.len2, h.all, .inl rfl, h.torn0, h.torn1⟩
end Go.Proofs.Ytjmnepfdhkabfaa

namespace Go.Proofs.Ytjmnepfdhkabfaa
set_option maxRecDepth 100000
set_option maxHeartbeats 4000000
set_option linter.unusedSimpArgs false
set_option linter.unusedVariables false
open Go Go.Zv
def zrec : Rec := ⟨0, 0, 0, 0, 0, 0, 0, 0, 0, 0, [], 0⟩
def rstep (n : Nat) (st : Rec × Int × Int) (i : Nat) (b : List UInt8) : Rec × Int × Int :=
  match dec b with
  | some r => if r.seq > st.1.seq then (r, r.seq + 1, (((i + 1) % n : Nat) : Int)) else st
  | none => st
def recL (n : Nat) : List (List UInt8) → Nat → Rec × Int × Int → Rec × Int × Int
  | [], _, st => st
  | b :: l, i, st => recL n l (i + 1) (rstep n st i b)
def recv (s : List (List UInt8)) : Rec × Int × Int := recL s.length s 0 (zrec, 1, 0)
theorem recL_cons (n b l i st) : recL n (b :: l) i st = recL n l (i + 1) (rstep n st i b) := rfl
theorem recL_none {n : Nat} : ∀ {l : List (List UInt8)} {i : Nat} {st}, (∀ b ∈ l, dec b = none) → recL n l i st = st
  | [], _, _, _ => rfl
  | b :: l, i, st, h => by
    have e : rstep n st i b = st := by unfold rstep; rw [h b (by simp)]
    rw [recL_cons, e]; exact recL_none fun c hc => h c (by simp [hc])
theorem recL_low {n : Nat} {r : Rec} {x y : Int} : ∀ {l : List (List UInt8)} {i : Nat}, (∀ b ∈ l, es b < r.seq) → recL n l i (r, x, y) = (r, x, y)
  | [], _, _ => rfl
  | b :: l, i, h => by
    have e : rstep n (r, x, y) i b = (r, x, y) := by
      unfold rstep
      cases hd : dec b with
      | none => rfl
      | some s =>
        have h1 := es_dec hd
        have h2 := h b (by simp)
        simp only
        rw [if_neg (by omega)]
    rw [recL_cons, e]; exact recL_low fun c hc => h c (by simp [hc])
theorem recL_find {n : Nat} {r : Rec} (hr : OKr r) : ∀ {l : List (List UInt8)} {i p : Nat} {st : Rec × Int × Int}, l[p]? = some (enc r) → (∀ j b, j ≠ p → l[j]? = some b → es b < r.seq) → st.1.seq < r.seq →
    recL n l i st = (r, r.seq + 1, (((i + p + 1) % n : Nat) : Int))
  | [], i, p, st, h, _, _ => by simp at h
  | b :: l, i, 0, st, h, ho, hs => by
    simp only [List.getElem?_cons_zero, Option.some.injEq] at h; subst h
    have e : rstep n st i (enc r) = (r, r.seq + 1, (((i + 1) % n : Nat) : Int)) := by unfold rstep; rw [dec_enc hr]; simp only; rw [if_pos hs]
    rw [recL_cons, e]
    exact recL_low fun c hc => by
      obtain ⟨j, hj⟩ := List.getElem?_of_mem hc
      exact ho (j + 1) c (by omega) (by simpa using hj)
  | b :: l, i, p + 1, st, h, ho, hs => by
    have h2 : (rstep n st i b).1.seq < r.seq := by
      unfold rstep
      cases hd : dec b with
      | none => exact hs
      | some s =>
        have h1 := es_dec hd
        have h3 := ho 0 b (by omega) rfl
        simp only
        split
        · simp only; omega
        · exact hs
    rw [recL_cons, recL_find hr (l := l) (i := i + 1) (p := p) (by simpa using h) (fun j c hj hc => ho (j + 1) c (by omega) (by simpa using hc)) h2]
    rw [show i + 1 + p + 1 = i + (p + 1) + 1 by omega]
/-- the journal and the last record that is whole -/
structure JI (d : Dsk) (nx at_ : Int) (last : Rec) : Prop where
  ok : OKd d
  nn : 0 ≤ last.seq
  zero : last.seq = 0 → last = zrec ∧ nx = 1 ∧ at_ = 0 ∧ ∀ b ∈ d.sec, es b = 0
  pos : last.seq ≠ 0 → OKr last ∧ nx = last.seq + 1 ∧ ∃ p, d.sec[p]? = some (enc last) ∧ at_ = (((p + 1) % d.sec.length : Nat) : Int) ∧ ∀ i b, i ≠ p → d.sec[i]? = some b → es b < last.seq
theorem JI.rec_ok {d nx at_ last} (h : JI d nx at_ last) : recv d.sec = (last, nx, at_) := by
  by_cases h0 : last.seq = 0
  · obtain ⟨rfl, rfl, rfl, hz⟩ := h.zero h0
    exact recL_none fun b hb => dec_of_es0 (hz b hb)
  · obtain ⟨h1, rfl, p, h2, rfl, h3⟩ := h.pos h0
    have hn := h.nn
    unfold recv
    rw [recL_find h1 h2 h3 (show zrec.seq < last.seq by have := h.nn; simp only [zrec]; omega), Nat.zero_add]
theorem JI.nx_eq {d nx at_ last} (h : JI d nx at_ last) : nx = last.seq + 1 := by
  by_cases h0 : last.seq = 0
  · obtain ⟨rfl, rfl, _⟩ := h.zero h0; rfl
  · exact (h.pos h0).2.1
theorem JI.at_lt {d nx at_ last} (h : JI d nx at_ last) : 0 ≤ at_ ∧ at_ < d.sec.length := by
  have hl := h.ok.len1
  by_cases h0 : last.seq = 0
  · obtain ⟨rfl, rfl, rfl, _⟩ := h.zero h0; omega
  · obtain ⟨_, _, p, _, rfl, _⟩ := h.pos h0
    have := Nat.mod_lt (p + 1) (show 0 < d.sec.length by omega)
    omega
theorem JI.es_le {d nx at_ last} (h : JI d nx at_ last) {i : Nat} {b : List UInt8} (hb : d.sec[i]? = some b) : es b ≤ last.seq := by
  by_cases h0 : last.seq = 0
  · have := (h.zero h0).2.2.2 b (List.mem_of_getElem? hb); omega
  · obtain ⟨h1, _, p, hp, _, h3⟩ := h.pos h0
    by_cases hi : i = p
    · subst hi; rw [hp] at hb; cases hb; rw [es_enc h1]; omega
    · have := h3 i b hi hb; omega
theorem over_full {x p : List UInt8} (h : p.length ≤ x.length) : over x p = x := by unfold over; rw [List.drop_of_length_le h, List.append_nil]
/-- a record that is written whole is the last one -/
theorem JI.put {d nx at_ last} (h : JI d nx at_ last) {x : Rec} (hx : OKr x) (hs : x.seq = nx) {f t : Int} {w : Bool} (hf : f = -1 ∨ (1 ≤ f ∧ f ≤ 1099511627776)) (ht : 0 ≤ t) (ht2 : t ≤ 64) (old : List UInt8) (ho : old.length = 64) :
    JI ⟨d.sec.set at_.toNat (over (enc x) old), f, t, w⟩ (nx + 1) (((at_.toNat + 1) % d.sec.length : Nat) : Int) x := by
  have hat := h.at_lt
  have hl := enc_len hx
  rw [over_full (by omega)]
  refine ⟨⟨by simp only [List.length_set]; exact h.ok.len1, by simp only [List.length_set]; exact h.ok.len2, fun s hs => ?_, hf, ht, ht2⟩, by have := hx.seq; omega, fun h0 => by have := hx.seq; omega, fun _ => ⟨hx, by rw [hs], at_.toNat, ?_, ?_, fun i b hi hb => ?_⟩⟩
  · rcases List.mem_or_eq_of_mem_set hs with h' | rfl
    · exact h.ok.all s h'
    · exact hl
  · simp only; exact List.getElem?_set_self (by omega)
  · simp only [List.length_set]
  · simp only at hb
    rw [List.getElem?_set_ne (by omega)] at hb
    have := h.es_le hb
    have := h.nx_eq
    omega
/-- a write that is torn leaves the last record -/
theorem JI.torn {d nx at_ last} (h : JI d nx at_ last) (h2 : 2 ≤ d.sec.length) {x : Rec} (hx : OKr x) (hs : x.seq ≤ 255) (hlast : last.seq ≤ 255) {k : Nat} (hk : k < 64) {f t : Int} {w : Bool} (hf : f = -1 ∨ (1 ≤ f ∧ f ≤ 1099511627776)) (ht : 0 ≤ t) (ht2 : t ≤ 64) :
    JI ⟨d.sec.set at_.toNat (over ((enc x).take k) (d.sec[at_.toNat]?.getD [])), f, t, w⟩ nx at_ last := by
  have hat := h.at_lt
  have hl := enc_len hx
  have hget : d.sec[at_.toNat]? = some (d.sec[at_.toNat]'(by omega)) := List.getElem?_eq_getElem _
  have hpl := h.ok.all _ (List.getElem_mem (l := d.sec) (n := at_.toNat) (by omega))
  have hes := h.es_le hget
  rw [hget, Option.getD_some]
  generalize d.sec[at_.toNat]'(by omega) = p at *
  have htorn := es_torn hx hs hpl (by omega) hk
  have hlen : (over ((enc x).take k) p).length = 64 := by rw [over_len (by rw [List.length_take]; omega), hpl]
  refine ⟨⟨by simp only [List.length_set]; exact h.ok.len1, by simp only [List.length_set]; exact h.ok.len2, fun s hs => ?_, hf, ht, ht2⟩, h.nn, fun h0 => ?_, fun h0 => ?_⟩
  · rcases List.mem_or_eq_of_mem_set hs with h' | rfl
    · exact h.ok.all s h'
    · exact hlen
  · obtain ⟨a1, a2, a3, a4⟩ := h.zero h0
    refine ⟨a1, a2, a3, fun b hb => ?_⟩
    rcases List.mem_or_eq_of_mem_set hb with h' | rfl
    · exact a4 b h'
    · rw [htorn]; exact a4 p (List.mem_of_getElem? hget)
  · obtain ⟨a1, a2, q, a3, a4, a5⟩ := h.pos h0
    have hq := (List.getElem?_eq_some_iff.1 a3).1
    have hne : at_.toNat ≠ q := by
      rw [a4, Int.toNat_natCast]
      by_cases hw : q + 1 < d.sec.length
      · rw [Nat.mod_eq_of_lt hw]; omega
      · have : q + 1 = d.sec.length := by omega
        rw [this, Nat.mod_self]; omega
    refine ⟨a1, a2, q, ?_, ?_, fun i b hi hb => ?_⟩
    · simp only; rw [List.getElem?_set_ne hne]; exact a3
    · simp only [List.length_set]; exact a4
    · simp only at hb
      by_cases hia : at_.toNat = i
      · subst hia
        rw [List.getElem?_set_self (by omega)] at hb
        cases hb
        rw [htorn]
        exact a5 _ p hi hget
      · rw [List.getElem?_set_ne hia] at hb
        exact a5 i b hi hb
theorem JI_new (n : Nat) (h1 : 1 ≤ n) (h2 : n ≤ 64) {f t : Int} (hf : f = -1 ∨ (1 ≤ f ∧ f ≤ 1099511627776)) (ht : 0 ≤ t) (ht2 : t ≤ 64) : JI ⟨(mk n).sec, f, t, false⟩ 1 0 zrec := by
  have h := ok_mk n h1 h2
  refine ⟨⟨h.len1, h.len2, h.all, hf, ht, ht2⟩, by simp [zrec], fun _ => ⟨rfl, rfl, rfl, fun b hb => ?_⟩, fun h => absurd rfl h⟩
  have := List.eq_of_mem_replicate (show b ∈ List.replicate n zs from hb)
  rw [this, es_zs]
theorem JI.up {d nx at_ last} (h : JI d nx at_ last) (f t : Int) (w : Bool) (hf : f = -1 ∨ (1 ≤ f ∧ f ≤ 1099511627776)) (ht : 0 ≤ t) (ht2 : t ≤ 64) : JI ⟨d.sec, f, t, w⟩ nx at_ last :=
  ⟨⟨h.ok.len1, h.ok.len2, h.ok.all, hf, ht, ht2⟩, h.nn, h.zero, h.pos⟩
end Go.Proofs.Ytjmnepfdhkabfaa

namespace Go.Proofs.Ytjmnepfdhkabfaa
set_option maxRecDepth 100000
set_option maxHeartbeats 4000000
set_option linter.unusedSimpArgs false
set_option linter.unusedVariables false
open Go Go.Zv
theorem wb0 (x : UInt8) : IntKind.i64.wrap (x.toNat : Int) = x.toNat := by have := x.toNat_lt; exact wrap_small (by omega) (by omega)
theorem wb1 (x : UInt8) : IntKind.i64.wrap ((x.toNat : Int) * 256) = x.toNat * 256 := by have := x.toNat_lt; exact wrap_small (by omega) (by omega)
theorem wb2 (x y : UInt8) : IntKind.i64.wrap (((x.toNat : Int) * 256 + y.toNat) * 256) = (x.toNat * 256 + y.toNat) * 256 := by have := x.toNat_lt; have := y.toNat_lt; exact wrap_small (by omega) (by omega)
theorem wb3 (x y z : UInt8) : IntKind.i64.wrap ((((x.toNat : Int) * 256 + y.toNat) * 256 + z.toNat) * 256) = ((x.toNat * 256 + y.toNat) * 256 + z.toNat) * 256 := by have := x.toNat_lt; have := y.toNat_lt; have := z.toNat_lt; exact wrap_small (by omega) (by omega)
theorem ob1 (x : UInt8) : IntKind.i64.wrap (((bits .i64 0 ||| bits .i64 (x.toNat : Int)).toNat : Nat) : Int) = x.toNat := by
  have := x.toNat_lt
  have h := or8 (x := 0) (y := x.toNat) (by omega) (by omega) (by omega) (by omega)
  simpa using h
theorem ob2 (x y : UInt8) : IntKind.i64.wrap (((bits .i64 ((x.toNat : Int) * 256) ||| bits .i64 (y.toNat : Int)).toNat : Nat) : Int) = x.toNat * 256 + y.toNat := by
  have := x.toNat_lt; have := y.toNat_lt
  exact or8 (by omega) (by omega) (by omega) (by omega)
theorem ob3 (x y z : UInt8) : IntKind.i64.wrap (((bits .i64 (((x.toNat : Int) * 256 + y.toNat) * 256) ||| bits .i64 (z.toNat : Int)).toNat : Nat) : Int) = (x.toNat * 256 + y.toNat) * 256 + z.toNat := by
  have := x.toNat_lt; have := y.toNat_lt; have := z.toNat_lt
  exact or8 (by omega) (by omega) (by omega) (by omega)
theorem ob4 (x y z w : UInt8) : IntKind.i64.wrap (((bits .i64 ((((x.toNat : Int) * 256 + y.toNat) * 256 + z.toNat) * 256) ||| bits .i64 (w.toNat : Int)).toNat : Nat) : Int) = ((x.toNat * 256 + y.toNat) * 256 + z.toNat) * 256 + w.toNat := by
  have := x.toNat_lt; have := y.toNat_lt; have := z.toNat_lt; have := w.toNat_lt
  exact or8 (by omega) (by omega) (by omega) (by omega)
theorem wbm (x : UInt8) (k : Int) (h : -100 ≤ k ∧ k ≤ 100) : IntKind.i64.wrap ((x.toNat : Int) - k) = x.toNat - k := by have := x.toNat_lt; exact wrap_small (by omega) (by omega)
def decR (b : List UInt8) : LV := match dec b with
  | some r => .tup [rv r, .int .i64 0]
  | none => .tup [rv zrec, .int .i64 4]
end Go.Proofs.Ytjmnepfdhkabfaa

namespace Go.Proofs.Ytjmnepfdhkabfaa
set_option maxRecDepth 100000
set_option maxHeartbeats 4000000
set_option linter.unusedSimpArgs false
set_option linter.unusedVariables false
open Go Go.Zv
theorem dec3 (T0 : List (List LV)) (sq st : Int) (d7 d8 d9 d10 d11 d12 d13 : List (List LV)) (x7 x8 x9 x10 x11 x12 : UInt8) (h7 : d7[0]? = some [.int .u8 x7.toNat]) (l7 : d7.length = 57) (e7 : d7.drop 1 = d8) (t7 : d7.take 57 = d7) (a7 : (d7.all fun x => x.length == 1) = true) (h8 : d8[0]? = some [.int .u8 x8.toNat]) (l8 : d8.length = 56) (e8 : d8.drop 1 = d9) (t8 : d8.take 56 = d8) (a8 : (d8.all fun x => x.length == 1) = true) (h9 : d9[0]? = some [.int .u8 x9.toNat]) (l9 : d9.length = 55) (e9 : d9.drop 1 = d10) (t9 : d9.take 55 = d9) (a9 : (d9.all fun x => x.length == 1) = true) (h10 : d10[0]? = some [.int .u8 x10.toNat]) (l10 : d10.length = 54) (e10 : d10.drop 1 = d11) (t10 : d10.take 54 = d10) (a10 : (d10.all fun x => x.length == 1) = true) (h11 : d11[0]? = some [.int .u8 x11.toNat]) (l11 : d11.length = 53) (e11 : d11.drop 1 = d12) (t11 : d11.take 53 = d11) (a11 : (d11.all fun x => x.length == 1) = true) (h12 : d12[0]? = some [.int .u8 x12.toNat]) (l12 : d12.length = 52) (e12 : d12.drop 1 = d13) (t12 : d12.take 52 = d12) (a12 : (d12.all fun x => x.length == 1) = true) :
    (K E A33_L3 ⟨[(0, .vs T0), (2, .ptr 512 0), (4, .fn (Fn.func 60) [.ptr 4096 0] []), (5, .ptr 1280 0), (26, .int .i64 0)], [], [(1280, .box [.int .i64 sq, .int .i64 st, .int .i64 0, .int .i64 0, .int .i64 0, .int .i64 0, .int .i64 0, .int .i64 0, .int .i64 0, .int .i64 0, .bs 1291 0 0, .int .i64 0]), (1291, .row 1 []), (4096, .box [.vs d7]), (512, .box [.int .i64 0, .int .i64 0, .int .i64 0, .int .i64 0, .int .i64 0, .int .i64 0, .int .i64 0, .int .i64 0, .int .i64 0, .int .i64 0, .bs 523 0 0, .int .i64 0]), (523, .row 1 [])], 0⟩).bind (blockR 0 (some [0, 2, 4, 5]) [6, 7, 35]) = some (.ex .nrm ⟨[(0, .vs T0), (2, .ptr 512 0), (4, .fn (Fn.func 60) [.ptr 4096 0] []), (5, .ptr 1280 0)], [], [(1280, .box [.int .i64 sq, .int .i64 st, .int .i64 (x7.toNat - 17), .int .i64 (x8.toNat - 17), .int .i64 (x9.toNat - 17), .int .i64 (x10.toNat - 17), .int .i64 (x11.toNat - 17), .int .i64 (x12.toNat - 17), .int .i64 0, .int .i64 0, .bs 1291 0 0, .int .i64 0]), (1291, .row 1 []), (4096, .box [.vs d13]), (512, .box [.int .i64 0, .int .i64 0, .int .i64 0, .int .i64 0, .int .i64 0, .int .i64 0, .int .i64 0, .int .i64 0, .int .i64 0, .int .i64 0, .bs 523 0 0, .int .i64 0]), (523, .row 1 [])], 0⟩) := by
  have w17 := fun x : UInt8 => wbm x 17 (by omega)
  rw [A33_L3_eq]
  simp +contextual -implicitDefEqProofs (maxSteps := 2000000) only [go_sem, ↓reduceIte, Nat.reduceAdd, Nat.reduceMul, Nat.reduceSub, Nat.reduceEqDiff, Nat.reduceLeDiff, Nat.reduceDiv, Nat.reduceMod, Nat.reduceBEq, Nat.reduceBNe, reduceCtorEq, Int.reduceLE, Int.reduceLT, Int.reduceToNat, Int.reduceNeg, Nat.reduceLT, Int.reduceEq, Int.reduceSub, Int.reduceAdd, Int.reduceMul, Nat.reducePow, Int.reduceBEq, Int.reduceBNe, Int.reduceMod, A33_L3_eq, A33_L3b, A33_L2_eq, A33_L2b, E_60, A60, A60_L0_eq, A60_L0b, wb0, ob1, shl8, Int.zero_mul, w17, h7, l7, e7, t7, a7, h8, l8, e8, t8, a8, h9, l9, e9, t9, a9, h10, l10, e10, t10, a10, h11, l11, e11, t11, a11, h12, l12, e12, t12, a12]
theorem dec1 (T0 : List (List LV)) (sq st q0 q1 q2 q3 q4 q5 : Int) (d13 d14 d15 : List (List LV)) (x13 x14 : UInt8) (h13 : d13[0]? = some [.int .u8 x13.toNat]) (l13 : d13.length = 51) (e13 : d13.drop 1 = d14) (t13 : d13.take 51 = d13) (a13 : (d13.all fun x => x.length == 1) = true) (h14 : d14[0]? = some [.int .u8 x14.toNat]) (l14 : d14.length = 50) (e14 : d14.drop 1 = d15) (t14 : d14.take 50 = d14) (a14 : (d14.all fun x => x.length == 1) = true) :
    (K E A33_L1 ⟨[(0, .vs T0), (2, .ptr 512 0), (4, .fn (Fn.func 60) [.ptr 4096 0] []), (5, .ptr 1280 0), (43, .int .i64 0)], [], [(1280, .box [.int .i64 sq, .int .i64 st, .int .i64 q0, .int .i64 q1, .int .i64 q2, .int .i64 q3, .int .i64 q4, .int .i64 q5, .int .i64 0, .int .i64 0, .bs 1291 0 0, .int .i64 0]), (1291, .row 1 []), (4096, .box [.vs d13]), (512, .box [.int .i64 0, .int .i64 0, .int .i64 0, .int .i64 0, .int .i64 0, .int .i64 0, .int .i64 0, .int .i64 0, .int .i64 0, .int .i64 0, .bs 523 0 0, .int .i64 0]), (523, .row 1 [])], 0⟩).bind (blockR 4 (some [0, 2, 4, 5]) [8, 48]) = some (.ex .nrm ⟨[(0, .vs T0), (2, .ptr 512 0), (4, .fn (Fn.func 60) [.ptr 4096 0] []), (5, .ptr 1280 0)], [], [(1280, .box [.int .i64 sq, .int .i64 st, .int .i64 q0, .int .i64 q1, .int .i64 q2, .int .i64 q3, .int .i64 q4, .int .i64 q5, .int .i64 (x13.toNat - 1), .int .i64 (x14.toNat - 1), .bs 1291 0 0, .int .i64 0]), (1291, .row 1 []), (4096, .box [.vs d15]), (512, .box [.int .i64 0, .int .i64 0, .int .i64 0, .int .i64 0, .int .i64 0, .int .i64 0, .int .i64 0, .int .i64 0, .int .i64 0, .int .i64 0, .bs 523 0 0, .int .i64 0]), (523, .row 1 [])], 0⟩) := by
  have w1_ := fun x : UInt8 => wbm x 1 (by omega)
  rw [A33_L1_eq]
  simp +contextual -implicitDefEqProofs (maxSteps := 2000000) only [go_sem, ↓reduceIte, Nat.reduceAdd, Nat.reduceMul, Nat.reduceSub, Nat.reduceEqDiff, Nat.reduceLeDiff, Nat.reduceDiv, Nat.reduceMod, Nat.reduceBEq, Nat.reduceBNe, reduceCtorEq, Int.reduceLE, Int.reduceLT, Int.reduceToNat, Int.reduceNeg, Nat.reduceLT, Int.reduceEq, Int.reduceSub, Int.reduceAdd, Int.reduceMul, Nat.reducePow, Int.reduceBEq, Int.reduceBNe, Int.reduceMod, A33_L1_eq, A33_L1b, E_60, A60, A60_L0_eq, A60_L0b, wb0, ob1, shl8, Int.zero_mul, w1_, h13, l13, e13, t13, a13, h14, l14, e14, t14, a14]
end Go.Proofs.Ytjmnepfdhkabfaa

namespace Go.Proofs.Ytjmnepfdhkabfaa
set_option maxRecDepth 100000
set_option maxHeartbeats 4000000
set_option linter.unusedSimpArgs false
set_option linter.unusedVariables false
open Go Go.Zv
def whk (t : List UInt8) (k : Nat) : List (List LV) := (t.take k).map fun x => c1 (x.toNat - 1)
theorem whk_len (t) (k : Nat) (h : k ≤ t.length) : (whk t k).length = k := by simp [whk]; omega
theorem whk_succ {t : List UInt8} {k : Nat} {p : UInt8} (h : t[k]? = some p) : whk t k ++ [[.int .i64 (p.toNat - 1)]] = whk t (k + 1) := by
  unfold whk
  rw [List.take_add_one, h]
  simp [c1]
theorem dec0 (T0 : List (List LV)) (sq st q0 q1 q2 q3 q4 q5 b0 b1' : Int) (m : Nat) (t : List UInt8) (hm : m ≤ t.length) (ht : t.length = 48) :
    (K E A33_L0 ⟨[(0, .vs T0), (2, .ptr 512 0), (4, .fn (Fn.func 60) [.ptr 4096 0] []), (5, .ptr 1280 0), (59, .int .i64 m), (60, .int .i64 0)], [], [(1280, .box [.int .i64 sq, .int .i64 st, .int .i64 q0, .int .i64 q1, .int .i64 q2, .int .i64 q3, .int .i64 q4, .int .i64 q5, .int .i64 b0, .int .i64 b1', .bs 1291 0 0, .int .i64 0]), (1291, .row 1 []), (4096, .box [.vs (t.map b1)]), (512, .box [.int .i64 0, .int .i64 0, .int .i64 0, .int .i64 0, .int .i64 0, .int .i64 0, .int .i64 0, .int .i64 0, .int .i64 0, .int .i64 0, .bs 523 0 0, .int .i64 0]), (523, .row 1 [])], 0⟩).bind (blockR 6 (some [0, 2, 4, 5]) [66, 68, 69]) =
    some (.ex .nrm ⟨[(0, .vs T0), (2, .ptr 512 0), (4, .fn (Fn.func 60) [.ptr 4096 0] []), (5, .ptr 1280 0)], [], [(1280, .box [.int .i64 sq, .int .i64 st, .int .i64 q0, .int .i64 q1, .int .i64 q2, .int .i64 q3, .int .i64 q4, .int .i64 q5, .int .i64 b0, .int .i64 b1', .bs 1291 0 m, .int .i64 0]), (1291, .row 1 (whk t m)), (4096, .box [.vs ((t.drop m).map b1)]), (512, .box [.int .i64 0, .int .i64 0, .int .i64 0, .int .i64 0, .int .i64 0, .int .i64 0, .int .i64 0, .int .i64 0, .int .i64 0, .int .i64 0, .bs 523 0 0, .int .i64 0]), (523, .row 1 [])], 0⟩) := by
  have h := loop_to (fun S => (K E A33_L0 S).bind (blockR 6 (some [0, 2, 4, 5]) [66, 68, 69])) (fun k => ⟨[(0, .vs T0), (2, .ptr 512 0), (4, .fn (Fn.func 60) [.ptr 4096 0] []), (5, .ptr 1280 0), (59, .int .i64 m), (60, .int .i64 k)], [], [(1280, .box [.int .i64 sq, .int .i64 st, .int .i64 q0, .int .i64 q1, .int .i64 q2, .int .i64 q3, .int .i64 q4, .int .i64 q5, .int .i64 b0, .int .i64 b1', .bs 1291 0 k, .int .i64 0]), (1291, .row 1 (whk t k)), (4096, .box [.vs ((t.drop k).map b1)]), (512, .box [.int .i64 0, .int .i64 0, .int .i64 0, .int .i64 0, .int .i64 0, .int .i64 0, .int .i64 0, .int .i64 0, .int .i64 0, .int .i64 0, .bs 523 0 0, .int .i64 0]), (523, .row 1 [])], 0⟩) m (fun k hk => by
    have hget : t[k]? = some (t[k]'(by omega)) := List.getElem?_eq_getElem _
    generalize t[k]'(by omega) = p at *
    have hd := drop_get hget
    have h0 : ((t.drop k).map b1)[0]? = some [.int .u8 p.toNat] := by rw [hd]; rfl
    have h1 : ((t.drop k).map b1).drop 1 = (t.drop (k + 1)).map b1 := by rw [hd]; rfl
    have h2 : ((t.drop k).map b1).length = 48 - k := by simp; omega
    have h3 : ((t.drop k).map b1).take (48 - k) = (t.drop k).map b1 := List.take_of_length_le (by omega)
    have h4 := all_b1 (t.drop k)
    have h5 : (1 : Int) ≤ ((48 - k : Nat) : Int) := by omega
    have hkm : (k : Int) < m := by omega
    have hw := wr_succ (n := k) (by omega)
    have w1_ := fun x : UInt8 => wbm x 1 (by omega)
    have e := whk_succ hget
    have wl := whk_len t k (by omega)
    have wt : (whk t k).take k = whk t k := List.take_of_length_le (by omega)
    have hb : k + 1 ≤ 1000000000 := by omega
    show (K E A33_L0 _).bind _ = (K E A33_L0 _).bind _
    conv => lhs; rw [A33_L0_eq]
    generalize (t.drop k).map b1 = dk at *
    generalize (t.drop (k + 1)).map b1 = dk1 at *
    simp +contextual -implicitDefEqProofs (maxSteps := 2000000) only [go_sem, ↓reduceIte, Nat.reduceAdd, Nat.reduceMul, Nat.reduceSub, Nat.reduceEqDiff, Nat.reduceLeDiff, Nat.reduceDiv, Nat.reduceMod, Nat.reduceBEq, Nat.reduceBNe, reduceCtorEq, Int.reduceLE, Int.reduceLT, Int.reduceToNat, Int.reduceNeg, Nat.reduceLT, Int.reduceEq, Int.reduceSub, Int.reduceAdd, Int.reduceMul, Nat.reducePow, Int.reduceBEq, Int.reduceBNe, Int.reduceMod, A33_L0b, E_60, A60, A60_L0_eq, A60_L0b, wb0, ob1, shl8, Int.zero_mul, w1_, h0, h1, h2, h3, h4, h5, hkm, hw, e, wl, wt, hb, Nat.le_refl])
  simp only [List.drop_zero, Int.natCast_zero, Int.ofNat_zero, show whk t 0 = [] from rfl] at h
  refine h.trans ?_
  show (K E A33_L0 _).bind _ = _
  rw [A33_L0_eq]
  simp +contextual -implicitDefEqProofs (maxSteps := 2000000) only [go_sem, ↓reduceIte, Nat.reduceAdd, Nat.reduceMul, Nat.reduceSub, Nat.reduceEqDiff, Nat.reduceLeDiff, Nat.reduceDiv, Nat.reduceMod, Nat.reduceBEq, Nat.reduceBNe, reduceCtorEq, Int.reduceLE, Int.reduceLT, Int.reduceToNat, Int.reduceNeg, Nat.reduceLT, Int.reduceEq, Int.reduceSub, Int.reduceAdd, Int.reduceMul, Nat.reducePow, Int.reduceBEq, Int.reduceBNe, Int.reduceMod, A33_L0b, Int.lt_irrefl]
end Go.Proofs.Ytjmnepfdhkabfaa
