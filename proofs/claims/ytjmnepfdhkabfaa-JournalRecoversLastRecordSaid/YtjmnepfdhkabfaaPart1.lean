/- Part of the proof: the evaluation of the program's code and its tie to the machine, or what functions of the program compute over it. -/
import Derived.Test.YtjmnepfdhkabfaaEng6
namespace Go.Proofs.Ytjmnepfdhkabfaa
open Go Go.Zv
set_option maxRecDepth 100000
def A3_L0b : ACode := 
  (.seq (
  (.seq (
  .reg none [
    ⟨some 84, .mv (.t 18), none, true⟩,
    ⟨some 85, .mv (.t 1), none, true⟩,
    ⟨some 86, .len 0 (.t 85), none, true⟩,
    ⟨some 87, .bin .lss (.t 84) (.t 86), none, true⟩] (some [1, 4, 11, 17, 18, 87]) []) (
  (.cond (.t 87) (
    .skip) (
    .exit 2))))) (
  (.seq (
  (.block 3 (
  (.seq (
  .reg (some [.dr [94, 95, 19] [], .dr [91, 19] [], .dr [91, 19] [], .dr [91, 19] [], .dr [91, 19] [], .dr [19] [], .dr [19] [], .dr [19] [], .dr [19] [], .dr [91, 94, 95, 96] [], .dr [] [19], .free]) [
    ⟨some 91, .load true 4 (.t 17), none, true⟩,
    ⟨some 92, .mv (.t 1), none, true⟩,
    ⟨some 93, .mv (.t 18), none, true⟩,
    ⟨some 94, .ias 5 (.t 92) (.t 93), none, true⟩,
    ⟨some 95, .load true 5 (.t 94), none, true⟩,
    ⟨some 96, .call 23 [.t 91, .t 95], none, true⟩,
    ⟨some 90, .mv (.t 96), none, true⟩,
    ⟨some 97, .ext (.t 90) 0, none, true⟩,
    ⟨some 98, .ext (.t 90) 1, none, true⟩,
    ⟨some 19, .alloc [.nils 1, .int .i64 0, .int .i64 0, .bool false], none, true⟩,
    ⟨none, .store 4 (.t 19) (.t 97), none, true⟩,
    ⟨some 20, .as (.t 98), none, true⟩] (some [1, 4, 11, 17, 18, 19, 20]) []) (
  (.seq (
  .reg (some [.dr [103, 104, 21] [], .dr [100, 21] [], .dr [100, 21] [], .dr [100, 21] [], .dr [100, 21] [], .dr [21] [], .dr [21] [], .dr [21] [], .dr [21] [], .dr [100, 103, 104, 105] [], .dr [] [21], .free]) [
    ⟨some 100, .load true 4 (.t 17), none, true⟩,
    ⟨some 101, .mv (.t 1), none, true⟩,
    ⟨some 102, .mv (.t 18), none, true⟩,
    ⟨some 103, .ias 5 (.t 101) (.t 102), none, true⟩,
    ⟨some 104, .load true 5 (.t 103), none, true⟩,
    ⟨some 105, .call 24 [.t 100, .t 104], none, true⟩,
    ⟨some 99, .mv (.t 105), none, true⟩,
    ⟨some 106, .ext (.t 99) 0, none, true⟩,
    ⟨some 107, .ext (.t 99) 1, none, true⟩,
    ⟨some 21, .alloc [.nils 1, .int .i64 0, .int .i64 0, .bool false], none, true⟩,
    ⟨none, .store 4 (.t 21) (.t 106), none, true⟩,
    ⟨some 22, .as (.t 107), none, true⟩] (some [1, 4, 11, 17, 18, 19, 20, 21, 22]) []) (
  (.seq (
  (.seq (
  .reg none [
    ⟨some 108, .mv (.t 20), none, true⟩,
    ⟨some 109, .mv (.t 22), none, true⟩,
    ⟨some 110, .bin .neq (.t 108) (.t 109), none, true⟩,
    ⟨some 111, .mv (.t 110), none, true⟩,
    ⟨some 112, .load true 4 (.t 19), some (111, false), true⟩,
    ⟨some 113, .load true 4 (.t 21), some (111, false), true⟩,
    ⟨some 114, .call 19 [.t 112, .t 113], some (111, false), true⟩,
    ⟨some 115, .un .not (.t 114), some (111, false), true⟩,
    ⟨some 116, .pick (.t 111) (.c (.bool true)) (.t 115), none, true⟩] (some [1, 4, 11, 17, 18, 21, 116]) [19]) (
  (.cond (.t 116) (
    (.seq (
    .reg none [
      ⟨some 10, .as (.c (.bool false)), none, true⟩] (some [10]) []) (
    .ret))) (
    .skip))))) (
  (.seq (
  .reg none [
    ⟨some 117, .load true 4 (.t 21), none, true⟩,
    ⟨none, .store 4 (.t 17) (.t 117), none, true⟩] (some [1, 4, 11, 17, 18]) [21]) (
  (.seq (
  .reg (some [.dr [122, 124] [], .dr [119] [], .dr [119] [], .dr [119] [], .dr [119] [], .dr [119] [], .free, .free, .dr [] [], .dr [] [], .dr [] [], .free]) [
    ⟨some 119, .load true 4 (.t 17), none, true⟩,
    ⟨some 120, .mv (.t 1), none, true⟩,
    ⟨some 121, .mv (.t 18), none, true⟩,
    ⟨some 122, .ias 5 (.t 120) (.t 121), none, true⟩,
    ⟨some 123, .fad 1 (.t 122), none, true⟩,
    ⟨some 124, .load false 1 (.t 123), none, true⟩,
    ⟨some 125, .call 25 [.t 119, .t 124], none, true⟩,
    ⟨some 118, .mv (.t 125), none, true⟩,
    ⟨some 126, .ext (.t 118) 0, none, true⟩,
    ⟨some 127, .ext (.t 118) 1, none, true⟩,
    ⟨some 23, .as (.t 126), none, true⟩,
    ⟨some 24, .as (.t 127), none, true⟩] (some [1, 4, 11, 17, 18, 23, 24]) []) (
  (.seq (
  .reg (some [.dr [132, 134] [], .dr [129] [], .dr [129] [], .dr [129] [], .dr [129] [], .dr [129] [], .free, .free, .dr [] [], .dr [] [], .dr [] [], .free]) [
    ⟨some 129, .load true 4 (.t 17), none, true⟩,
    ⟨some 130, .mv (.t 1), none, true⟩,
    ⟨some 131, .mv (.t 18), none, true⟩,
    ⟨some 132, .ias 5 (.t 130) (.t 131), none, true⟩,
    ⟨some 133, .fad 1 (.t 132), none, true⟩,
    ⟨some 134, .load false 1 (.t 133), none, true⟩,
    ⟨some 135, .call 26 [.t 129, .t 134], none, true⟩,
    ⟨some 128, .mv (.t 135), none, true⟩,
    ⟨some 136, .ext (.t 128) 0, none, true⟩,
    ⟨some 137, .ext (.t 128) 1, none, true⟩,
    ⟨some 25, .as (.t 136), none, true⟩,
    ⟨some 26, .as (.t 137), none, true⟩] (some [1, 4, 11, 17, 18, 23, 24, 25, 26]) []) (
  (.seq (
  .reg none [
    ⟨some 138, .mv (.t 24), none, true⟩,
    ⟨some 139, .mv (.t 26), none, true⟩,
    ⟨some 140, .bin .neq (.t 138) (.t 139), none, true⟩,
    ⟨some 141, .mv (.t 140), none, true⟩,
    ⟨some 142, .mv (.t 23), some (141, false), true⟩,
    ⟨some 143, .mv (.t 25), some (141, false), true⟩,
    ⟨some 144, .call 27 [.t 142, .t 143], some (141, false), true⟩,
    ⟨some 145, .un .not (.t 144), some (141, false), true⟩,
    ⟨some 146, .pick (.t 141) (.c (.bool true)) (.t 145), none, true⟩] (some [1, 4, 11, 17, 18, 146]) []) (
  (.cond (.t 146) (
    (.seq (
    .reg none [
      ⟨some 10, .as (.c (.bool false)), none, true⟩] (some [10]) []) (
    .ret))) (
    .skip))))))))))))))))) (some [1, 4, 11, 17, 18]) [10, 19, 20, 21, 22, 23, 24, 25, 26, 96, 105, 114, 125, 135, 144])) (
  .reg none [
    ⟨some 88, .mv (.t 18), none, true⟩,
    ⟨some 89, .bin .add (.t 88) (.c (.int .i64 1)), none, true⟩,
    ⟨some 18, .as (.t 89), none, true⟩] (some [1, 4, 11, 17, 18]) []))))
def A3_L0 : ACode := .loop A3_L0b (some [1, 4, 11, 17, 18]) [10, 19, 20, 21, 22, 23, 24, 25, 26, 96, 105, 114, 125, 135, 144]
def A3_L1b : ACode := 
  (.seq (
  (.seq (
  .reg none [
    ⟨some 41, .mv (.t 12), none, true⟩,
    ⟨some 42, .fad 0 (.t 7), none, true⟩,
    ⟨some 43, .load false 1 (.t 42), none, true⟩,
    ⟨some 44, .len 0 (.t 43), none, true⟩,
    ⟨some 45, .bin .lss (.t 41) (.t 44), none, true⟩] (some [0, 1, 3, 4, 7, 11, 12, 45]) []) (
  (.cond (.t 45) (
    .skip) (
    .exit 0))))) (
  (.seq (
  (.block 1 (
  (.seq (
  .reg none [
    ⟨some 48, .fad 0 (.t 7), none, true⟩,
    ⟨some 49, .load false 1 (.t 48), none, true⟩,
    ⟨some 50, .mv (.t 12), none, true⟩,
    ⟨some 51, .ias 1 (.t 49) (.t 50), none, true⟩,
    ⟨some 52, .load false 1 (.t 51), none, true⟩,
    ⟨some 53, .len 0 (.t 52), none, true⟩,
    ⟨some 54, .bin .gtr (.t 53) (.c (.int .i64 100)), none, true⟩] (some [0, 1, 3, 4, 7, 11, 12, 54]) []) (
  (.cond (.t 54) (
    (.seq (
    .reg none [
      ⟨some 55, .mv (.t 11), none, true⟩,
      ⟨some 10, .as (.t 55), none, true⟩] (some [10]) []) (
    .ret))) (
    .skip))))) (some [0, 1, 3, 4, 7, 11, 12]) [10])) (
  .reg none [
    ⟨some 46, .mv (.t 12), none, true⟩,
    ⟨some 47, .bin .add (.t 46) (.c (.int .i64 1)), none, true⟩,
    ⟨some 12, .as (.t 47), none, true⟩] (some [0, 1, 3, 4, 7, 11, 12]) []))))
def A3_L1 : ACode := .loop A3_L1b (some [0, 1, 3, 4, 7, 11, 12]) [10]
/-- ambidexter/ambidexterlaw30.DiskMatchesReference -/
def A3 : AFn := .code [.t 10] (
(.seq (
.reg none [
  ⟨some 7, .box (.t 2), none, true⟩,
  ⟨some 10, .as (.c (.bool false)), none, true⟩] (some [0, 1, 3, 4, 7]) []) (
(.seq (
.reg none [
  ⟨some 31, .call 15 [], none, true⟩,
  ⟨some 11, .as (.t 31), none, true⟩] (some [0, 1, 3, 4, 7, 11]) []) (
(.seq (
(.seq (
.reg none [
  ⟨some 32, .mv (.t 1), none, true⟩,
  ⟨some 33, .call 16 [.t 32], none, true⟩,
  ⟨some 34, .mv (.t 33), none, true⟩,
  ⟨some 35, .fad 0 (.t 7), some (34, false), true⟩,
  ⟨some 36, .load false 1 (.t 35), some (34, false), true⟩,
  ⟨some 37, .len 0 (.t 36), some (34, false), true⟩,
  ⟨some 38, .bin .gtr (.t 37) (.c (.int .i64 70)), some (34, false), true⟩,
  ⟨some 39, .pick (.t 34) (.c (.bool true)) (.t 38), none, true⟩] (some [0, 1, 3, 4, 7, 11, 39]) []) (
(.cond (.t 39) (
  (.seq (
  .reg none [
    ⟨some 40, .mv (.t 11), none, true⟩,
    ⟨some 10, .as (.t 40), none, true⟩] (some [10]) []) (
  .ret))) (
  .skip))))) (
(.seq (
(.seq (
.reg none [
  ⟨some 12, .as (.c (.int .i64 0)), none, true⟩] (some [0, 1, 3, 4, 7, 11, 12]) []) (
(.block 0 (
A3_L1) (some [0, 1, 3, 4, 7, 11]) [10, 12])))) (
(.seq (
.reg none [
  ⟨some 57, .mv (.t 3), none, true⟩,
  ⟨some 58, .call 17 [.t 57], none, true⟩,
  ⟨some 56, .mv (.t 58), none, true⟩,
  ⟨some 59, .ext (.t 56) 0, none, true⟩,
  ⟨some 60, .ext (.t 56) 1, none, true⟩,
  ⟨some 13, .alloc [.nils 1, .int .i64 0, .int .i64 0, .bool false], none, true⟩,
  ⟨none, .store 4 (.t 13) (.t 59), none, true⟩,
  ⟨some 14, .as (.t 60), none, true⟩] (some [0, 1, 3, 4, 7, 11, 13, 14]) []) (
(.seq (
.reg none [
  ⟨some 62, .mv (.t 3), none, true⟩,
  ⟨some 63, .call 18 [.t 62], none, true⟩,
  ⟨some 61, .mv (.t 63), none, true⟩,
  ⟨some 64, .ext (.t 61) 0, none, true⟩,
  ⟨some 65, .ext (.t 61) 1, none, true⟩,
  ⟨some 15, .alloc [.nils 1, .int .i64 0, .int .i64 0, .bool false], none, true⟩,
  ⟨none, .store 4 (.t 15) (.t 64), none, true⟩,
  ⟨some 16, .as (.t 65), none, true⟩] (some [0, 1, 4, 7, 11, 13, 14, 15, 16]) []) (
(.seq (
(.seq (
.reg (some [.dr [67] [], .dr [66] [], .free, .free, .free, .dr [] [], .dr [] [], .free, .free, .free, .dr [78] [], .dr [78] [], .dr [76, 77] [], .free, .free, .free]) [
  ⟨some 66, .load true 4 (.t 13), none, true⟩,
  ⟨some 67, .load true 4 (.t 15), none, true⟩,
  ⟨some 68, .call 19 [.t 66, .t 67], none, true⟩,
  ⟨some 69, .un .not (.t 68), none, true⟩,
  ⟨some 70, .mv (.t 69), none, true⟩,
  ⟨some 71, .mv (.t 14), some (70, false), true⟩,
  ⟨some 72, .mv (.t 16), some (70, false), true⟩,
  ⟨some 73, .bin .neq (.t 71) (.t 72), some (70, false), true⟩,
  ⟨some 74, .pick (.t 70) (.c (.bool true)) (.t 73), none, true⟩,
  ⟨some 75, .mv (.t 74), none, true⟩,
  ⟨some 76, .load true 4 (.t 7), some (75, false), true⟩,
  ⟨some 77, .call 20 [.t 76], some (75, false), true⟩,
  ⟨some 78, .load true 4 (.t 7), some (75, false), true⟩,
  ⟨some 79, .call 21 [.t 78], some (75, false), true⟩,
  ⟨some 80, .bib true (.t 77) (.t 79), some (75, false), true⟩,
  ⟨some 81, .pick (.t 75) (.c (.bool true)) (.t 80), none, true⟩] (some [0, 1, 4, 11, 81]) [7, 13, 15]) (
(.cond (.t 81) (
  (.seq (
  .reg none [
    ⟨some 10, .as (.c (.bool false)), none, true⟩] (some [10]) []) (
  .ret))) (
  .skip))))) (
(.seq (
.reg none [
  ⟨some 82, .mv (.t 0), none, true⟩,
  ⟨some 83, .call 22 [.t 82], none, true⟩,
  ⟨some 17, .alloc [.nils 1, .int .i64 0, .int .i64 0, .bool false], none, true⟩,
  ⟨none, .store 4 (.t 17) (.t 83), none, true⟩] (some [1, 4, 11, 17]) []) (
(.seq (
(.seq (
.reg none [
  ⟨some 18, .as (.c (.int .i64 0)), none, true⟩] (some [1, 4, 11, 17, 18]) []) (
(.block 2 (
A3_L0) (some [4, 11, 17]) [10, 18, 19, 20, 21, 22, 23, 24, 25, 26, 96, 105, 114, 125, 135, 144])))) (
(.seq (
.reg none [
  ⟨some 148, .load true 4 (.t 17), none, true⟩,
  ⟨some 149, .mv (.t 4), none, true⟩,
  ⟨some 150, .call 25 [.t 148, .t 149], none, true⟩,
  ⟨some 147, .mv (.t 150), none, true⟩,
  ⟨some 151, .ext (.t 147) 0, none, true⟩,
  ⟨some 152, .ext (.t 147) 1, none, true⟩,
  ⟨some 27, .as (.t 151), none, true⟩,
  ⟨some 28, .as (.t 152), none, true⟩] (some [4, 11, 17, 27, 28]) []) (
(.seq (
.reg none [
  ⟨some 154, .load true 4 (.t 17), none, true⟩,
  ⟨some 155, .mv (.t 4), none, true⟩,
  ⟨some 156, .call 26 [.t 154, .t 155], none, true⟩,
  ⟨some 153, .mv (.t 156), none, true⟩,
  ⟨some 157, .ext (.t 153) 0, none, true⟩,
  ⟨some 158, .ext (.t 153) 1, none, true⟩,
  ⟨some 29, .as (.t 157), none, true⟩,
  ⟨some 30, .as (.t 158), none, true⟩] (some [11, 27, 28, 29, 30]) [17]) (
(.seq (
.reg none [
  ⟨some 159, .mv (.t 11), none, true⟩,
  ⟨some 160, .mv (.t 159), none, true⟩,
  ⟨some 161, .mv (.t 28), some (160, true), true⟩,
  ⟨some 162, .mv (.t 30), some (160, true), true⟩,
  ⟨some 163, .bin .eql (.t 161) (.t 162), some (160, true), true⟩,
  ⟨some 164, .pick (.t 160) (.t 163) (.c (.bool false)), none, true⟩,
  ⟨some 165, .mv (.t 164), none, true⟩,
  ⟨some 166, .mv (.t 27), some (165, true), true⟩,
  ⟨some 167, .mv (.t 29), some (165, true), true⟩,
  ⟨some 168, .call 27 [.t 166, .t 167], some (165, true), true⟩,
  ⟨some 169, .pick (.t 165) (.t 168) (.c (.bool false)), none, true⟩,
  ⟨some 10, .as (.t 169), none, true⟩] (some [10]) []) (
.ret)))))))))))))))))))))))))
/-- ambidexter/ambidexterlaw30.DiskInvariant -/
def A4 : AFn := .code [.t 6] (
(.seq (
.reg none [
  ⟨some 5, .box (.t 2), none, true⟩,
  ⟨some 6, .as (.c (.bool false)), none, true⟩] (some [0, 1, 5]) []) (
(.seq (
.reg none [
  ⟨some 11, .call 15 [], none, true⟩,
  ⟨some 7, .as (.t 11), none, true⟩] (some [0, 1, 5, 7]) []) (
(.seq (
(.seq (
.reg none [
  ⟨some 12, .mv (.t 1), none, true⟩,
  ⟨some 13, .call 16 [.t 12], none, true⟩,
  ⟨some 14, .mv (.t 13), none, true⟩,
  ⟨some 15, .load true 5 (.t 5), some (14, false), true⟩,
  ⟨some 16, .bsl 5 1 [.int .u8 0, .int .i64 0, .int .u8 0, .int .u8 0, .nils 1] [(0, .t 15)], some (14, false), true⟩,
  ⟨some 17, .call 16 [.t 16], some (14, false), true⟩,
  ⟨some 18, .pick (.t 14) (.c (.bool true)) (.t 17), none, true⟩] (some [0, 1, 5, 7, 18]) []) (
(.cond (.t 18) (
  (.seq (
  .reg none [
    ⟨some 19, .mv (.t 7), none, true⟩,
    ⟨some 6, .as (.t 19), none, true⟩] (some [6]) []) (
  .ret))) (
  .skip))))) (
(.seq (
.reg none [
  ⟨some 20, .mv (.t 0), none, true⟩,
  ⟨some 21, .mv (.t 1), none, true⟩,
  ⟨some 22, .call 28 [.t 20, .t 21], none, true⟩,
  ⟨some 8, .alloc [.nils 1, .int .i64 0, .int .i64 0, .bool false], none, true⟩,
  ⟨none, .store 4 (.t 8) (.t 22), none, true⟩] (some [5, 7, 8]) []) (
(.seq (
.reg none [
  ⟨some 24, .load true 4 (.t 8), none, true⟩,
  ⟨some 25, .load true 5 (.t 5), none, true⟩,
  ⟨some 26, .call 23 [.t 24, .t 25], none, true⟩,
  ⟨some 23, .mv (.t 26), none, true⟩,
  ⟨some 27, .ext (.t 23) 0, none, true⟩,
  ⟨some 28, .ext (.t 23) 1, none, true⟩,
  ⟨some 9, .alloc [.nils 1, .int .i64 0, .int .i64 0, .bool false], none, true⟩,
  ⟨none, .store 4 (.t 9) (.t 27), none, true⟩,
  ⟨some 10, .as (.t 28), none, true⟩] (some [7, 8, 9, 10]) [5]) (
(.seq (
(.seq (
.reg none [
  ⟨some 29, .load true 4 (.t 8), none, true⟩,
  ⟨some 30, .call 20 [.t 29], none, true⟩,
  ⟨some 31, .un .not (.t 30), none, true⟩,
  ⟨some 32, .mv (.t 31), none, true⟩,
  ⟨some 33, .load true 4 (.t 9), some (32, false), true⟩,
  ⟨some 34, .call 20 [.t 33], some (32, false), true⟩,
  ⟨some 35, .un .not (.t 34), some (32, false), true⟩,
  ⟨some 36, .pick (.t 32) (.c (.bool true)) (.t 35), none, true⟩,
  ⟨some 37, .mv (.t 36), none, true⟩,
  ⟨some 38, .fad 0 (.t 9), some (37, false), true⟩,
  ⟨some 39, .load false 1 (.t 38), some (37, false), true⟩,
  ⟨some 40, .len 0 (.t 39), some (37, false), true⟩,
  ⟨some 41, .fad 0 (.t 8), some (37, false), true⟩,
  ⟨some 42, .load false 1 (.t 41), some (37, false), true⟩,
  ⟨some 43, .len 0 (.t 42), some (37, false), true⟩,
  ⟨some 44, .bin .neq (.t 40) (.t 43), some (37, false), true⟩,
  ⟨some 45, .pick (.t 37) (.c (.bool true)) (.t 44), none, true⟩] (some [7, 8, 9, 10, 45]) []) (
(.cond (.t 45) (
  (.seq (
  .reg none [
    ⟨some 6, .as (.c (.bool false)), none, true⟩] (some [6]) []) (
  .ret))) (
  .skip))))) (
(.seq (
(.seq (
.reg none [
  ⟨some 46, .mv (.t 10), none, true⟩,
  ⟨some 47, .bin .eql (.t 46) (.c (.int .i64 1)), none, true⟩,
  ⟨some 48, .mv (.t 47), none, true⟩,
  ⟨some 49, .fad 3 (.t 8), some (48, false), true⟩,
  ⟨some 50, .load false 1 (.t 49), some (48, false), true⟩,
  ⟨some 51, .mv (.t 50), some (48, false), true⟩,
  ⟨some 52, .mv (.t 10), some (51, true), true⟩,
  ⟨some 53, .bin .eql (.t 52) (.c (.int .i64 300)), some (51, true), true⟩,
  ⟨some 54, .pick (.t 51) (.t 53) (.c (.bool false)), some (48, false), true⟩,
  ⟨some 55, .pick (.t 48) (.c (.bool true)) (.t 54), none, true⟩] (some [7, 8, 9, 10, 55]) []) (
(.cond (.t 55) (
  (.seq (
  .reg none [
    ⟨some 56, .mv (.t 7), none, true⟩,
    ⟨some 57, .mv (.t 56), none, true⟩,
    ⟨some 58, .load true 4 (.t 9), some (57, true), true⟩,
    ⟨some 59, .load true 4 (.t 8), some (57, true), true⟩,
    ⟨some 60, .call 19 [.t 58, .t 59], some (57, true), true⟩,
    ⟨some 61, .pick (.t 57) (.t 60) (.c (.bool false)), none, true⟩,
    ⟨some 6, .as (.t 61), none, true⟩] (some [6]) [8, 9]) (
  .ret))) (
  .skip))))) (
(.seq (
.reg none [
  ⟨some 62, .mv (.t 7), none, true⟩,
  ⟨some 63, .mv (.t 62), none, true⟩,
  ⟨some 64, .mv (.t 10), some (63, true), true⟩,
  ⟨some 65, .bin .eql (.t 64) (.c (.int .i64 0)), some (63, true), true⟩,
  ⟨some 66, .mv (.t 65), some (63, true), true⟩,
  ⟨some 67, .fad 3 (.t 9), some (66, false), true⟩,
  ⟨some 68, .load false 1 (.t 67), some (66, false), true⟩,
  ⟨some 69, .mv (.t 68), some (66, false), true⟩,
  ⟨some 70, .fad 3 (.t 8), some (69, true), true⟩,
  ⟨some 71, .load false 1 (.t 70), some (69, true), true⟩,
  ⟨some 72, .un .not (.t 71), some (69, true), true⟩,
  ⟨some 73, .pick (.t 69) (.t 72) (.c (.bool false)), some (66, false), true⟩,
  ⟨some 74, .pick (.t 66) (.c (.bool true)) (.t 73), some (63, true), true⟩,
  ⟨some 75, .pick (.t 63) (.t 74) (.c (.bool false)), none, true⟩,
  ⟨some 6, .as (.t 75), none, true⟩] (some [6]) [8, 9]) (
.ret)))))))))))))))))
def A5_L0b : ACode := 
  (.seq (
  (.seq (
  .reg none [
    ⟨some 50, .mv (.t 11), none, true⟩,
    ⟨some 51, .fad 0 (.t 8), none, true⟩,
    ⟨some 52, .load false 1 (.t 51), none, true⟩,
    ⟨some 53, .len 0 (.t 52), none, true⟩,
    ⟨some 54, .bin .lss (.t 50) (.t 53), none, true⟩] (some [5, 7, 8, 9, 11, 54]) []) (
  (.cond (.t 54) (
    .skip) (
    .exit 0))))) (
  (.seq (
  (.block 1 (
  (.seq (
  .reg none [
    ⟨some 58, .load true 4 (.t 8), none, true⟩,
    ⟨some 59, .mv (.t 11), none, true⟩,
    ⟨some 60, .call 25 [.t 58, .t 59], none, true⟩,
    ⟨some 57, .mv (.t 60), none, true⟩,
    ⟨some 61, .ext (.t 57) 0, none, true⟩,
    ⟨some 62, .ext (.t 57) 1, none, true⟩,
    ⟨some 12, .as (.t 61), none, true⟩,
    ⟨some 13, .as (.t 62), none, true⟩] (some [5, 7, 8, 9, 11, 12, 13]) []) (
  (.seq (
  .reg none [
    ⟨some 64, .load true 4 (.t 9), none, true⟩,
    ⟨some 65, .mv (.t 11), none, true⟩,
    ⟨some 66, .call 25 [.t 64, .t 65], none, true⟩,
    ⟨some 63, .mv (.t 66), none, true⟩,
    ⟨some 67, .ext (.t 63) 0, none, true⟩,
    ⟨some 68, .ext (.t 63) 1, none, true⟩,
    ⟨some 14, .as (.t 67), none, true⟩,
    ⟨some 15, .as (.t 68), none, true⟩] (some [5, 7, 8, 9, 11, 12, 13, 14, 15]) []) (
  (.seq (
  (.seq (
  .reg none [
    ⟨some 69, .mv (.t 13), none, true⟩,
    ⟨some 70, .bin .neq (.t 69) (.c (.int .i64 0)), none, true⟩,
    ⟨some 71, .mv (.t 70), none, true⟩,
    ⟨some 72, .mv (.t 15), some (71, false), true⟩,
    ⟨some 73, .bin .neq (.t 72) (.c (.int .i64 0)), some (71, false), true⟩,
    ⟨some 74, .pick (.t 71) (.c (.bool true)) (.t 73), none, true⟩,
    ⟨some 75, .mv (.t 74), none, true⟩,
    ⟨some 76, .mv (.t 12), some (75, false), true⟩,
    ⟨some 77, .len 0 (.t 76), some (75, false), true⟩,
    ⟨some 78, .bin .neq (.t 77) (.c (.int .i64 64)), some (75, false), true⟩,
    ⟨some 79, .pick (.t 75) (.c (.bool true)) (.t 78), none, true⟩,
    ⟨some 80, .mv (.t 79), none, true⟩,
    ⟨some 81, .mv (.t 14), some (80, false), true⟩,
    ⟨some 82, .len 0 (.t 81), some (80, false), true⟩,
    ⟨some 83, .bin .neq (.t 82) (.c (.int .i64 64)), some (80, false), true⟩,
    ⟨some 84, .pick (.t 80) (.c (.bool true)) (.t 83), none, true⟩] (some [5, 7, 8, 9, 11, 12, 14, 84]) []) (
  (.cond (.t 84) (
    (.seq (
    .reg none [
      ⟨some 6, .as (.c (.bool false)), none, true⟩] (some [6]) []) (
    .ret))) (
    .skip))))) (
  (.seq (
  .reg (some [.dr [87] [], .dr [] [], .dr [] [], .free, .free, .dr [92, 93, 96] [], .dr [96] [], .dr [96] [], .dr [96] [], .dr [96] [], .dr [92, 93, 94] [], .dr [92, 93, 94] [], .free, .free, .free, .dr [102, 103, 107, 108, 109] [], .dr [107, 108, 109] [], .dr [107, 108, 109] [], .dr [107, 108, 109] [], .dr [107, 108, 109] [], .dr [102, 103, 104, 107, 108] [], .dr [102, 103, 104] [], .dr [102, 103, 104] [], .dr [102, 103, 104] [], .dr [102, 103, 104] [], .free, .free, .free, .free, .free, .dr [117] [], .dr [] [], .dr [] [], .free, .free, .dr [] [], .dr [] [], .free, .free, .free, .free]) [
    ⟨some 85, .mv (.t 11), none, true⟩,
    ⟨some 86, .fad 1 (.t 5), none, true⟩,
    ⟨some 87, .load false 1 (.t 86), none, true⟩,
    ⟨some 88, .bin .eql (.t 85) (.t 87), none, true⟩,
    ⟨some 89, .mv (.t 88), none, true⟩,
    ⟨some 90, .mv (.t 14), some (89, true), true⟩,
    ⟨some 91, .fad 4 (.t 5), some (89, true), true⟩,
    ⟨some 92, .load false 1 (.t 91), some (89, true), true⟩,
    ⟨some 93, .len 0 (.t 92), some (89, true), true⟩,
    ⟨some 94, .sls 1 (.t 90) none (some (.t 93)), some (89, true), true⟩,
    ⟨some 95, .fad 4 (.t 5), some (89, true), true⟩,
    ⟨some 96, .load false 1 (.t 95), some (89, true), true⟩,
    ⟨some 97, .call 27 [.t 94, .t 96], some (89, true), true⟩,
    ⟨some 98, .un .not (.t 97), some (89, true), true⟩,
    ⟨some 99, .mv (.t 98), some (89, true), true⟩,
    ⟨some 100, .mv (.t 14), some (99, false), true⟩,
    ⟨some 101, .fad 4 (.t 5), some (99, false), true⟩,
    ⟨some 102, .load false 1 (.t 101), some (99, false), true⟩,
    ⟨some 103, .len 0 (.t 102), some (99, false), true⟩,
    ⟨some 104, .sls 1 (.t 100) (some (.t 103)) none, some (99, false), true⟩,
    ⟨some 105, .mv (.t 12), some (99, false), true⟩,
    ⟨some 106, .fad 4 (.t 5), some (99, false), true⟩,
    ⟨some 107, .load false 1 (.t 106), some (99, false), true⟩,
    ⟨some 108, .len 0 (.t 107), some (99, false), true⟩,
    ⟨some 109, .sls 1 (.t 105) (some (.t 108)) none, some (99, false), true⟩,
    ⟨some 110, .call 27 [.t 104, .t 109], some (99, false), true⟩,
    ⟨some 111, .un .not (.t 110), some (99, false), true⟩,
    ⟨some 112, .pick (.t 99) (.c (.bool true)) (.t 111), some (89, true), true⟩,
    ⟨some 113, .pick (.t 89) (.t 112) (.c (.bool false)), none, true⟩,
    ⟨some 114, .mv (.t 113), none, true⟩,
    ⟨some 115, .mv (.t 11), some (114, false), true⟩,
    ⟨some 116, .fad 1 (.t 5), some (114, false), true⟩,
    ⟨some 117, .load false 1 (.t 116), some (114, false), true⟩,
    ⟨some 118, .bin .neq (.t 115) (.t 117), some (114, false), true⟩,
    ⟨some 119, .mv (.t 118), some (114, false), true⟩,
    ⟨some 120, .mv (.t 12), some (119, true), true⟩,
    ⟨some 121, .mv (.t 14), some (119, true), true⟩,
    ⟨some 122, .call 27 [.t 120, .t 121], some (119, true), true⟩,
    ⟨some 123, .un .not (.t 122), some (119, true), true⟩,
    ⟨some 124, .pick (.t 119) (.t 123) (.c (.bool false)), some (114, false), true⟩,
    ⟨some 125, .pick (.t 114) (.c (.bool true)) (.t 124), none, true⟩] (some [5, 7, 8, 9, 11, 125]) []) (
  (.cond (.t 125) (
    (.seq (
    .reg none [
      ⟨some 6, .as (.c (.bool false)), none, true⟩] (some [6]) []) (
    .ret))) (
    .skip))))))))))) (some [5, 7, 8, 9, 11]) [6, 12, 13, 14, 15, 60, 66, 97, 110, 122])) (
  .reg none [
    ⟨some 55, .mv (.t 11), none, true⟩,
    ⟨some 56, .bin .add (.t 55) (.c (.int .i64 1)), none, true⟩,
    ⟨some 11, .as (.t 56), none, true⟩] (some [5, 7, 8, 9, 11]) []))))
def A5_L0 : ACode := .loop A5_L0b (some [5, 7, 8, 9, 11]) [6, 12, 13, 14, 15, 60, 66, 97, 110, 122]
/-- ambidexter/ambidexterlaw30.DiskDurable -/
def A5 : AFn := .code [.t 6] (
(.seq (
.reg none [
  ⟨some 5, .box (.t 2), none, true⟩,
  ⟨some 6, .as (.c (.bool false)), none, true⟩] (some [0, 1, 5]) []) (
(.seq (
.reg none [
  ⟨some 18, .call 15 [], none, true⟩,
  ⟨some 7, .as (.t 18), none, true⟩] (some [0, 1, 5, 7]) []) (
(.seq (
(.seq (
.reg none [
  ⟨some 19, .mv (.t 1), none, true⟩,
  ⟨some 20, .call 16 [.t 19], none, true⟩,
  ⟨some 21, .mv (.t 20), none, true⟩,
  ⟨some 22, .load true 5 (.t 5), some (21, false), true⟩,
  ⟨some 23, .bsl 5 1 [.int .u8 0, .int .i64 0, .int .u8 0, .int .u8 0, .nils 1] [(0, .t 22)], some (21, false), true⟩,
  ⟨some 24, .call 16 [.t 23], some (21, false), true⟩,
  ⟨some 25, .pick (.t 21) (.c (.bool true)) (.t 24), none, true⟩] (some [0, 1, 5, 7, 25]) []) (
(.cond (.t 25) (
  (.seq (
  .reg none [
    ⟨some 26, .mv (.t 7), none, true⟩,
    ⟨some 6, .as (.t 26), none, true⟩] (some [6]) []) (
  .ret))) (
  .skip))))) (
(.seq (
.reg none [
  ⟨some 27, .mv (.t 0), none, true⟩,
  ⟨some 28, .mv (.t 1), none, true⟩,
  ⟨some 29, .call 28 [.t 27, .t 28], none, true⟩,
  ⟨some 8, .alloc [.nils 1, .int .i64 0, .int .i64 0, .bool false], none, true⟩,
  ⟨none, .store 4 (.t 8) (.t 29), none, true⟩] (some [5, 7, 8]) []) (
(.seq (
.reg none [
  ⟨some 31, .load true 4 (.t 8), none, true⟩,
  ⟨some 32, .fad 1 (.t 5), none, true⟩,
  ⟨some 33, .load false 1 (.t 32), none, true⟩,
  ⟨some 34, .fad 4 (.t 5), none, true⟩,
  ⟨some 35, .load false 1 (.t 34), none, true⟩,
  ⟨some 36, .call 29 [.t 31, .t 33, .t 35], none, true⟩,
  ⟨some 30, .mv (.t 36), none, true⟩,
  ⟨some 37, .ext (.t 30) 0, none, true⟩,
  ⟨some 38, .ext (.t 30) 1, none, true⟩,
  ⟨some 9, .alloc [.nils 1, .int .i64 0, .int .i64 0, .bool false], none, true⟩,
  ⟨none, .store 4 (.t 9) (.t 37), none, true⟩,
  ⟨some 10, .as (.t 38), none, true⟩] (some [5, 7, 8, 9, 10]) []) (
(.seq (
(.seq (
.reg none [
  ⟨some 39, .mv (.t 10), none, true⟩,
  ⟨some 40, .bin .neq (.t 39) (.c (.int .i64 0)), none, true⟩] (some [5, 7, 8, 9, 10, 40]) []) (
(.cond (.t 40) (
  (.seq (
  .reg none [
    ⟨some 41, .mv (.t 7), none, true⟩,
    ⟨some 42, .mv (.t 41), none, true⟩,
    ⟨some 43, .mv (.t 10), some (42, true), true⟩,
    ⟨some 44, .bin .eql (.t 43) (.c (.int .i64 1)), some (42, true), true⟩,
    ⟨some 45, .mv (.t 44), some (42, true), true⟩,
    ⟨some 46, .mv (.t 10), some (45, false), true⟩,
    ⟨some 47, .bin .eql (.t 46) (.c (.int .i64 300)), some (45, false), true⟩,
    ⟨some 48, .pick (.t 45) (.c (.bool true)) (.t 47), some (42, true), true⟩,
    ⟨some 49, .pick (.t 42) (.t 48) (.c (.bool false)), none, true⟩,
    ⟨some 6, .as (.t 49), none, true⟩] (some [6]) []) (
  .ret))) (
  .skip))))) (
(.seq (
(.seq (
.reg none [
  ⟨some 11, .as (.c (.int .i64 0)), none, true⟩] (some [5, 7, 8, 9, 11]) []) (
(.block 0 (
A5_L0) (some [5, 7, 8, 9]) [6, 11, 12, 13, 14, 15, 60, 66, 97, 110, 122])))) (
(.seq (
.reg none [
  ⟨some 127, .load true 4 (.t 9), none, true⟩,
  ⟨some 128, .fad 0 (.t 8), none, true⟩,
  ⟨some 129, .load false 1 (.t 128), none, true⟩,
  ⟨some 130, .len 0 (.t 129), none, true⟩,
  ⟨some 131, .call 25 [.t 127, .t 130], none, true⟩,
  ⟨some 126, .mv (.t 131), none, true⟩,
  ⟨some 132, .ext (.t 126) 0, none, true⟩,
  ⟨some 133, .ext (.t 126) 1, none, true⟩,
  ⟨some 16, .as (.t 132), none, true⟩,
  ⟨some 17, .as (.t 133), none, true⟩] (some [5, 7, 8, 17]) [9]) (
(.seq (
.reg none [
  ⟨some 134, .mv (.t 7), none, true⟩,
  ⟨some 135, .mv (.t 134), none, true⟩,
  ⟨some 136, .mv (.t 17), some (135, true), true⟩,
  ⟨some 137, .bin .eql (.t 136) (.c (.int .i64 1)), some (135, true), true⟩,
  ⟨some 138, .pick (.t 135) (.t 137) (.c (.bool false)), none, true⟩,
  ⟨some 139, .mv (.t 138), none, true⟩,
  ⟨some 140, .fad 1 (.t 5), some (139, true), true⟩,
  ⟨some 141, .load false 1 (.t 140), some (139, true), true⟩,
  ⟨some 142, .bin .geq (.t 141) (.c (.int .i64 0)), some (139, true), true⟩,
  ⟨some 143, .pick (.t 139) (.t 142) (.c (.bool false)), none, true⟩,
  ⟨some 144, .mv (.t 143), none, true⟩,
  ⟨some 145, .fad 1 (.t 5), some (144, true), true⟩,
  ⟨some 146, .load false 1 (.t 145), some (144, true), true⟩,
  ⟨some 147, .fad 0 (.t 8), some (144, true), true⟩,
  ⟨some 148, .load false 1 (.t 147), some (144, true), true⟩,
  ⟨some 149, .len 0 (.t 148), some (144, true), true⟩,
  ⟨some 150, .bin .lss (.t 146) (.t 149), some (144, true), true⟩,
  ⟨some 151, .pick (.t 144) (.t 150) (.c (.bool false)), none, true⟩,
  ⟨some 6, .as (.t 151), none, true⟩] (some [6]) [5, 8]) (
.ret)))))))))))))))))))
def A6_L0b : ACode := 
  (.seq (
  (.seq (
  .reg none [
    ⟨some 81, .mv (.t 12), none, true⟩,
    ⟨some 82, .fad 0 (.t 8), none, true⟩,
    ⟨some 83, .load false 1 (.t 82), none, true⟩,
    ⟨some 84, .len 0 (.t 83), none, true⟩,
    ⟨some 85, .bin .lss (.t 81) (.t 84), none, true⟩] (some [5, 7, 8, 11, 12, 85]) []) (
  (.cond (.t 85) (
    .skip) (
    .exit 0))))) (
  (.seq (
  (.block 1 (
  (.seq (
  .reg none [
    ⟨some 89, .load true 4 (.t 8), none, true⟩,
    ⟨some 90, .mv (.t 12), none, true⟩,
    ⟨some 91, .call 25 [.t 89, .t 90], none, true⟩,
    ⟨some 88, .mv (.t 91), none, true⟩,
    ⟨some 92, .ext (.t 88) 0, none, true⟩,
    ⟨some 93, .ext (.t 88) 1, none, true⟩,
    ⟨some 13, .as (.t 92), none, true⟩,
    ⟨some 14, .as (.t 93), none, true⟩] (some [5, 7, 8, 11, 12, 13, 14]) []) (
  (.seq (
  .reg none [
    ⟨some 95, .load true 4 (.t 11), none, true⟩,
    ⟨some 96, .mv (.t 12), none, true⟩,
    ⟨some 97, .call 25 [.t 95, .t 96], none, true⟩,
    ⟨some 94, .mv (.t 97), none, true⟩,
    ⟨some 98, .ext (.t 94) 0, none, true⟩,
    ⟨some 99, .ext (.t 94) 1, none, true⟩,
    ⟨some 15, .as (.t 98), none, true⟩,
    ⟨some 16, .as (.t 99), none, true⟩] (some [5, 7, 8, 11, 12, 13, 14, 15, 16]) []) (
  (.seq (
  (.seq (
  .reg none [
    ⟨some 100, .mv (.t 14), none, true⟩,
    ⟨some 101, .bin .neq (.t 100) (.c (.int .i64 0)), none, true⟩,
    ⟨some 102, .mv (.t 101), none, true⟩,
    ⟨some 103, .mv (.t 16), some (102, false), true⟩,
    ⟨some 104, .bin .neq (.t 103) (.c (.int .i64 0)), some (102, false), true⟩,
    ⟨some 105, .pick (.t 102) (.c (.bool true)) (.t 104), none, true⟩,
    ⟨some 106, .mv (.t 105), none, true⟩,
    ⟨some 107, .mv (.t 13), some (106, false), true⟩,
    ⟨some 108, .len 0 (.t 107), some (106, false), true⟩,
    ⟨some 109, .bin .neq (.t 108) (.c (.int .i64 64)), some (106, false), true⟩,
    ⟨some 110, .pick (.t 106) (.c (.bool true)) (.t 109), none, true⟩,
    ⟨some 111, .mv (.t 110), none, true⟩,
    ⟨some 112, .mv (.t 15), some (111, false), true⟩,
    ⟨some 113, .len 0 (.t 112), some (111, false), true⟩,
    ⟨some 114, .bin .neq (.t 113) (.c (.int .i64 64)), some (111, false), true⟩,
    ⟨some 115, .pick (.t 111) (.c (.bool true)) (.t 114), none, true⟩] (some [5, 7, 8, 11, 12, 13, 15, 115]) []) (
  (.cond (.t 115) (
    (.seq (
    .reg none [
      ⟨some 6, .as (.c (.bool false)), none, true⟩] (some [6]) []) (
    .ret))) (
    .skip))))) (
  (.seq (
  .reg none [
    ⟨some 17, .as (.c (.int .i64 0)), none, true⟩] (some [5, 7, 8, 11, 12, 13, 15, 17]) []) (
  (.seq (
  (.seq (
  .reg none [
    ⟨some 116, .mv (.t 12), none, true⟩,
    ⟨some 117, .fad 1 (.t 5), none, true⟩,
    ⟨some 118, .load false 1 (.t 117), none, true⟩,
    ⟨some 119, .bin .eql (.t 116) (.t 118), none, true⟩] (some [5, 7, 8, 11, 12, 13, 15, 17, 119]) []) (
  (.cond (.t 119) (
    .reg none [
      ⟨some 120, .fad 2 (.t 8), none, true⟩,
      ⟨some 121, .load false 1 (.t 120), none, true⟩,
      ⟨some 122, .fad 4 (.t 5), none, true⟩,
      ⟨some 123, .load false 1 (.t 122), none, true⟩,
      ⟨some 124, .len 0 (.t 123), none, true⟩,
      ⟨some 125, .mn [.t 121, .t 124], none, true⟩,
      ⟨some 17, .as (.t 125), none, true⟩] (some [5, 7, 8, 11, 12, 13, 15, 17]) []) (
    .skip))))) (
  (.seq (
  .reg (some [.dr [130, 132] [], .dr [130, 132] [], .dr [130, 132] [], .dr [128] [], .dr [128] [], .dr [128, 130] [], .dr [128] [], .free, .free, .free, .dr [141] [], .dr [141] [], .dr [141] [], .dr [138] [], .dr [138] [], .dr [138] [], .free, .free, .free]) [
    ⟨some 126, .mv (.t 15), none, true⟩,
    ⟨some 127, .mv (.t 17), none, true⟩,
    ⟨some 128, .sls 1 (.t 126) none (some (.t 127)), none, true⟩,
    ⟨some 129, .fad 4 (.t 5), none, true⟩,
    ⟨some 130, .load false 1 (.t 129), none, true⟩,
    ⟨some 131, .mv (.t 17), none, true⟩,
    ⟨some 132, .sls 1 (.t 130) none (some (.t 131)), none, true⟩,
    ⟨some 133, .call 27 [.t 128, .t 132], none, true⟩,
    ⟨some 134, .un .not (.t 133), none, true⟩,
    ⟨some 135, .mv (.t 134), none, true⟩,
    ⟨some 136, .mv (.t 15), some (135, false), true⟩,
    ⟨some 137, .mv (.t 17), some (135, false), true⟩,
    ⟨some 138, .sls 1 (.t 136) (some (.t 137)) none, some (135, false), true⟩,
    ⟨some 139, .mv (.t 13), some (135, false), true⟩,
    ⟨some 140, .mv (.t 17), some (135, false), true⟩,
    ⟨some 141, .sls 1 (.t 139) (some (.t 140)) none, some (135, false), true⟩,
    ⟨some 142, .call 27 [.t 138, .t 141], some (135, false), true⟩,
    ⟨some 143, .un .not (.t 142), some (135, false), true⟩,
    ⟨some 144, .pick (.t 135) (.c (.bool true)) (.t 143), none, true⟩] (some [5, 7, 8, 11, 12, 144]) []) (
  (.cond (.t 144) (
    (.seq (
    .reg none [
      ⟨some 6, .as (.c (.bool false)), none, true⟩] (some [6]) []) (
    .ret))) (
    .skip))))))))))))))) (some [5, 7, 8, 11, 12]) [6, 13, 14, 15, 16, 17, 91, 97, 133, 142])) (
  .reg none [
    ⟨some 86, .mv (.t 12), none, true⟩,
    ⟨some 87, .bin .add (.t 86) (.c (.int .i64 1)), none, true⟩,
    ⟨some 12, .as (.t 87), none, true⟩] (some [5, 7, 8, 11, 12]) []))))
def A6_L0 : ACode := .loop A6_L0b (some [5, 7, 8, 11, 12]) [6, 13, 14, 15, 16, 17, 91, 97, 133, 142]
/-- ambidexter/ambidexterlaw30.DiskTorn -/
def A6 : AFn := .code [.t 6] (
(.seq (
.reg none [
  ⟨some 5, .box (.t 2), none, true⟩,
  ⟨some 6, .as (.c (.bool false)), none, true⟩] (some [0, 1, 5]) []) (
(.seq (
.reg none [
  ⟨some 18, .call 15 [], none, true⟩,
  ⟨some 7, .as (.t 18), none, true⟩] (some [0, 1, 5, 7]) []) (
(.seq (
(.seq (
.reg none [
  ⟨some 19, .mv (.t 1), none, true⟩,
  ⟨some 20, .call 16 [.t 19], none, true⟩,
  ⟨some 21, .mv (.t 20), none, true⟩,
  ⟨some 22, .load true 5 (.t 5), some (21, false), true⟩,
  ⟨some 23, .bsl 5 1 [.int .u8 0, .int .i64 0, .int .u8 0, .int .u8 0, .nils 1] [(0, .t 22)], some (21, false), true⟩,
  ⟨some 24, .call 16 [.t 23], some (21, false), true⟩,
  ⟨some 25, .pick (.t 21) (.c (.bool true)) (.t 24), none, true⟩] (some [0, 1, 5, 7, 25]) []) (
(.cond (.t 25) (
  (.seq (
  .reg none [
    ⟨some 26, .mv (.t 7), none, true⟩,
    ⟨some 6, .as (.t 26), none, true⟩] (some [6]) []) (
  .ret))) (
  .skip))))) (
(.seq (
.reg none [
  ⟨some 27, .mv (.t 0), none, true⟩,
  ⟨some 28, .mv (.t 1), none, true⟩,
  ⟨some 29, .call 28 [.t 27, .t 28], none, true⟩,
  ⟨some 8, .alloc [.nils 1, .int .i64 0, .int .i64 0, .bool false], none, true⟩,
  ⟨none, .store 4 (.t 8) (.t 29), none, true⟩] (some [5, 7, 8]) []) (
(.seq (
.reg none [
  ⟨some 30, .fad 3 (.t 8), none, true⟩,
  ⟨none, .store 1 (.t 30) (.c (.bool false)), none, true⟩] (some [5, 7, 8]) []) (
(.seq (
.reg none [
  ⟨some 31, .fad 1 (.t 8), none, true⟩,
  ⟨none, .store 1 (.t 31) (.c (.int .i64 1)), none, true⟩] (some [5, 7, 8]) []) (
(.seq (
.reg none [
  ⟨some 32, .fad 3 (.t 5), none, true⟩,
  ⟨some 33, .load false 1 (.t 32), none, true⟩,
  ⟨some 34, .conv .i64 (.t 33), none, true⟩,
  ⟨some 35, .bin .rem (.t 34) (.c (.int .i64 65)), none, true⟩,
  ⟨some 36, .fad 2 (.t 8), none, true⟩,
  ⟨none, .store 1 (.t 36) (.t 35), none, true⟩] (some [5, 7, 8]) []) (
(.seq (
.reg none [
  ⟨some 38, .load true 4 (.t 8), none, true⟩,
  ⟨some 39, .fad 1 (.t 5), none, true⟩,
  ⟨some 40, .load false 1 (.t 39), none, true⟩,
  ⟨some 41, .fad 4 (.t 5), none, true⟩,
  ⟨some 42, .load false 1 (.t 41), none, true⟩,
  ⟨some 43, .call 29 [.t 38, .t 40, .t 42], none, true⟩,
  ⟨some 37, .mv (.t 43), none, true⟩,
  ⟨some 44, .ext (.t 37) 0, none, true⟩,
  ⟨some 45, .ext (.t 37) 1, none, true⟩,
  ⟨some 9, .alloc [.nils 1, .int .i64 0, .int .i64 0, .bool false], none, true⟩,
  ⟨none, .store 4 (.t 9) (.t 44), none, true⟩,
  ⟨some 10, .as (.t 45), none, true⟩] (some [5, 7, 8, 9, 10]) []) (
(.seq (
(.seq (
.reg none [
  ⟨some 46, .mv (.t 10), none, true⟩,
  ⟨some 47, .bin .eql (.t 46) (.c (.int .i64 1)), none, true⟩] (some [5, 7, 8, 9, 10, 47]) []) (
(.cond (.t 47) (
  (.seq (
  .reg none [
    ⟨some 48, .mv (.t 7), none, true⟩,
    ⟨some 49, .mv (.t 48), none, true⟩,
    ⟨some 50, .load true 4 (.t 9), some (49, true), true⟩,
    ⟨some 51, .load true 4 (.t 8), some (49, true), true⟩,
    ⟨some 52, .call 19 [.t 50, .t 51], some (49, true), true⟩,
    ⟨some 53, .pick (.t 49) (.t 52) (.c (.bool false)), none, true⟩,
    ⟨some 6, .as (.t 53), none, true⟩] (some [6]) [8, 9]) (
  .ret))) (
  .skip))))) (
(.seq (
.reg none [
  ⟨some 54, .load true 4 (.t 9), none, true⟩,
  ⟨some 55, .call 30 [.t 54], none, true⟩,
  ⟨some 11, .alloc [.nils 1, .int .i64 0, .int .i64 0, .bool false], none, true⟩,
  ⟨none, .store 4 (.t 11) (.t 55), none, true⟩] (some [5, 7, 8, 9, 10, 11]) []) (
(.seq (
(.seq (
.reg none [
  ⟨some 56, .mv (.t 10), none, true⟩,
  ⟨some 57, .bin .neq (.t 56) (.c (.int .i64 300)), none, true⟩,
  ⟨some 58, .mv (.t 57), none, true⟩,
  ⟨some 59, .fad 3 (.t 9), some (58, false), true⟩,
  ⟨some 60, .load false 1 (.t 59), some (58, false), true⟩,
  ⟨some 61, .un .not (.t 60), some (58, false), true⟩,
  ⟨some 62, .pick (.t 58) (.c (.bool true)) (.t 61), none, true⟩,
  ⟨some 63, .mv (.t 62), none, true⟩,
  ⟨some 64, .fad 3 (.t 11), some (63, false), true⟩,
  ⟨some 65, .load false 1 (.t 64), some (63, false), true⟩,
  ⟨some 66, .pick (.t 63) (.c (.bool true)) (.t 65), none, true⟩,
  ⟨some 67, .mv (.t 66), none, true⟩,
  ⟨some 68, .fad 1 (.t 11), some (67, false), true⟩,
  ⟨some 69, .load false 1 (.t 68), some (67, false), true⟩,
  ⟨some 70, .bin .neq (.t 69) (.c (.int .i64 (-1))), some (67, false), true⟩,
  ⟨some 71, .pick (.t 67) (.c (.bool true)) (.t 70), none, true⟩,
  ⟨some 72, .mv (.t 71), none, true⟩,
  ⟨some 73, .fad 0 (.t 11), some (72, false), true⟩,
  ⟨some 74, .load false 1 (.t 73), some (72, false), true⟩,
  ⟨some 75, .len 0 (.t 74), some (72, false), true⟩,
  ⟨some 76, .fad 0 (.t 8), some (72, false), true⟩,
  ⟨some 77, .load false 1 (.t 76), some (72, false), true⟩,
  ⟨some 78, .len 0 (.t 77), some (72, false), true⟩,
  ⟨some 79, .bin .neq (.t 75) (.t 78), some (72, false), true⟩,
  ⟨some 80, .pick (.t 72) (.c (.bool true)) (.t 79), none, true⟩] (some [5, 7, 8, 11, 80]) [9]) (
(.cond (.t 80) (
  (.seq (
  .reg none [
    ⟨some 6, .as (.c (.bool false)), none, true⟩] (some [6]) []) (
  .ret))) (
  .skip))))) (
(.seq (
(.seq (
.reg none [
  ⟨some 12, .as (.c (.int .i64 0)), none, true⟩] (some [5, 7, 8, 11, 12]) []) (
(.block 0 (
A6_L0) (some [7]) [6, 12, 13, 14, 15, 16, 17, 91, 97, 133, 142])))) (
(.seq (
.reg none [
  ⟨some 145, .mv (.t 7), none, true⟩,
  ⟨some 6, .as (.t 145), none, true⟩] (some [6]) []) (
.ret)))))))))))))))))))))))))))
def A7_L0b : ACode := 
  (.seq (
  (.seq (
  .reg none [
    ⟨some 37, .mv (.t 11), none, true⟩,
    ⟨some 38, .bin .lss (.t 37) (.c (.int .i64 20)), none, true⟩] (some [7, 8, 9, 10, 11, 38]) []) (
  (.cond (.t 38) (
    .skip) (
    .exit 0))))) (
  (.seq (
  (.block 1 (
  (.seq (
  .reg (some [.dr [45, 46, 50, 12] [], .dr [42, 45, 46, 50, 12] [], .dr [42, 50, 12] [], .dr [42, 50, 12] [], .dr [42, 50, 12] [], .dr [42, 50, 12] [], .dr [42, 45, 46, 12] [], .dr [42, 45, 46, 12] [], .dr [42, 45, 46, 12] [], .dr [12] [], .dr [12] [], .dr [12] [], .dr [12] [], .dr [42, 45, 46, 50, 51] [], .dr [] [12], .free]) [
    ⟨some 42, .load true 4 (.t 8), none, true⟩,
    ⟨some 43, .mv (.t 11), none, true⟩,
    ⟨some 44, .fad 0 (.t 8), none, true⟩,
    ⟨some 45, .load false 1 (.t 44), none, true⟩,
    ⟨some 46, .len 0 (.t 45), none, true⟩,
    ⟨some 47, .bin .rem (.t 43) (.t 46), none, true⟩,
    ⟨some 48, .mv (.t 11), none, true⟩,
    ⟨some 49, .conv .u8 (.t 48), none, true⟩,
    ⟨some 50, .bsl 1 1 [.int .u8 0] [(0, .t 49)], none, false⟩,
    ⟨some 51, .call 29 [.t 42, .t 47, .t 50], none, true⟩,
    ⟨some 41, .mv (.t 51), none, true⟩,
    ⟨some 52, .ext (.t 41) 0, none, true⟩,
    ⟨some 53, .ext (.t 41) 1, none, true⟩,
    ⟨some 12, .alloc [.nils 1, .int .i64 0, .int .i64 0, .bool false], none, true⟩,
    ⟨none, .store 4 (.t 12) (.t 52), none, true⟩,
    ⟨some 13, .as (.t 53), none, true⟩] (some [7, 8, 9, 10, 11, 12, 13]) []) (
  (.seq (
  .reg (some [.dr [58, 59, 63, 14] [], .dr [55, 58, 59, 63, 14] [], .dr [55, 63, 14] [], .dr [55, 63, 14] [], .dr [55, 63, 14] [], .dr [55, 63, 14] [], .dr [55, 58, 59, 14] [], .dr [55, 58, 59, 14] [], .dr [55, 58, 59, 14] [], .dr [14] [], .dr [14] [], .dr [14] [], .dr [14] [], .dr [55, 58, 59, 63, 64] [], .dr [] [14], .free]) [
    ⟨some 55, .load true 4 (.t 10), none, true⟩,
    ⟨some 56, .mv (.t 11), none, true⟩,
    ⟨some 57, .fad 0 (.t 10), none, true⟩,
    ⟨some 58, .load false 1 (.t 57), none, true⟩,
    ⟨some 59, .len 0 (.t 58), none, true⟩,
    ⟨some 60, .bin .rem (.t 56) (.t 59), none, true⟩,
    ⟨some 61, .mv (.t 11), none, true⟩,
    ⟨some 62, .conv .u8 (.t 61), none, true⟩,
    ⟨some 63, .bsl 1 1 [.int .u8 0] [(0, .t 62)], none, false⟩,
    ⟨some 64, .call 29 [.t 55, .t 60, .t 63], none, true⟩,
    ⟨some 54, .mv (.t 64), none, true⟩,
    ⟨some 65, .ext (.t 54) 0, none, true⟩,
    ⟨some 66, .ext (.t 54) 1, none, true⟩,
    ⟨some 14, .alloc [.nils 1, .int .i64 0, .int .i64 0, .bool false], none, true⟩,
    ⟨none, .store 4 (.t 14) (.t 65), none, true⟩,
    ⟨some 15, .as (.t 66), none, true⟩] (some [7, 8, 9, 10, 11, 12, 13, 14, 15]) []) (
  (.seq (
  (.seq (
  .reg none [
    ⟨some 67, .mv (.t 13), none, true⟩,
    ⟨some 68, .bin .eql (.t 67) (.c (.int .i64 0)), none, true⟩,
    ⟨some 69, .mv (.t 11), none, true⟩,
    ⟨some 70, .mv (.t 9), none, true⟩,
    ⟨some 71, .bin .lss (.t 69) (.t 70), none, true⟩,
    ⟨some 72, .bib true (.t 68) (.t 71), none, true⟩,
    ⟨some 73, .mv (.t 72), none, true⟩,
    ⟨some 74, .mv (.t 13), some (73, false), true⟩,
    ⟨some 75, .bin .neq (.t 74) (.c (.int .i64 0)), some (73, false), true⟩,
    ⟨some 76, .mv (.t 75), some (73, false), true⟩,
    ⟨some 77, .mv (.t 13), some (76, true), true⟩,
    ⟨some 78, .bin .neq (.t 77) (.c (.int .i64 300)), some (76, true), true⟩,
    ⟨some 79, .pick (.t 76) (.t 78) (.c (.bool false)), some (73, false), true⟩,
    ⟨some 80, .pick (.t 73) (.c (.bool true)) (.t 79), none, true⟩,
    ⟨some 81, .mv (.t 80), none, true⟩,
    ⟨some 82, .mv (.t 15), some (81, false), true⟩,
    ⟨some 83, .bin .neq (.t 82) (.c (.int .i64 0)), some (81, false), true⟩,
    ⟨some 84, .pick (.t 81) (.c (.bool true)) (.t 83), none, true⟩,
    ⟨some 85, .mv (.t 84), none, true⟩,
    ⟨some 86, .fad 0 (.t 12), some (85, false), true⟩,
    ⟨some 87, .load false 1 (.t 86), some (85, false), true⟩,
    ⟨some 88, .len 0 (.t 87), some (85, false), true⟩,
    ⟨some 89, .fad 0 (.t 8), some (85, false), true⟩,
    ⟨some 90, .load false 1 (.t 89), some (85, false), true⟩,
    ⟨some 91, .len 0 (.t 90), some (85, false), true⟩,
    ⟨some 92, .bin .neq (.t 88) (.t 91), some (85, false), true⟩,
    ⟨some 93, .pick (.t 85) (.c (.bool true)) (.t 92), none, true⟩,
    ⟨some 94, .mv (.t 93), none, true⟩,
    ⟨some 95, .fad 0 (.t 14), some (94, false), true⟩,
    ⟨some 96, .load false 1 (.t 95), some (94, false), true⟩,
    ⟨some 97, .len 0 (.t 96), some (94, false), true⟩,
    ⟨some 98, .fad 0 (.t 10), some (94, false), true⟩,
    ⟨some 99, .load false 1 (.t 98), some (94, false), true⟩,
    ⟨some 100, .len 0 (.t 99), some (94, false), true⟩,
    ⟨some 101, .bin .neq (.t 97) (.t 100), some (94, false), true⟩,
    ⟨some 102, .pick (.t 94) (.c (.bool true)) (.t 101), none, true⟩] (some [7, 8, 9, 10, 11, 12, 14, 102]) []) (
  (.cond (.t 102) (
    (.seq (
    .reg none [
      ⟨some 6, .as (.c (.bool false)), none, true⟩] (some [6]) []) (
    .ret))) (
    .skip))))) (
  (.seq (
  .reg none [
    ⟨some 103, .load true 4 (.t 12), none, true⟩,
    ⟨none, .store 4 (.t 8) (.t 103), none, true⟩] (some [7, 8, 9, 10, 11, 14]) [12]) (
  .reg none [
    ⟨some 104, .load true 4 (.t 14), none, true⟩,
    ⟨none, .store 4 (.t 10) (.t 104), none, true⟩] (some [7, 8, 9, 10, 11]) [14]))))))))) (some [7, 8, 9, 10, 11]) [6, 12, 13, 14, 15, 50, 51, 63, 64])) (
  .reg none [
    ⟨some 39, .mv (.t 11), none, true⟩,
    ⟨some 40, .bin .add (.t 39) (.c (.int .i64 1)), none, true⟩,
    ⟨some 11, .as (.t 40), none, true⟩] (some [7, 8, 9, 10, 11]) []))))
def A7_L0 : ACode := .loop A7_L0b (some [7, 8, 9, 10, 11]) [6, 12, 13, 14, 15, 50, 51, 63, 64]
/-- ambidexter/ambidexterlaw30.DiskFuse -/
def A7 : AFn := .code [.t 6] (
(.seq (
.reg none [
  ⟨some 6, .as (.c (.bool false)), none, true⟩] (some [0, 1, 2]) []) (
(.seq (
.reg none [
  ⟨some 18, .call 15 [], none, true⟩,
  ⟨some 7, .as (.t 18), none, true⟩] (some [0, 1, 2, 7]) []) (
(.seq (
(.seq (
.reg none [
  ⟨some 19, .mv (.t 1), none, true⟩,
  ⟨some 20, .call 16 [.t 19], none, true⟩] (some [0, 1, 2, 7, 20]) []) (
(.cond (.t 20) (
  (.seq (
  .reg none [
    ⟨some 21, .mv (.t 7), none, true⟩,
    ⟨some 6, .as (.t 21), none, true⟩] (some [6]) []) (
  .ret))) (
  .skip))))) (
(.seq (
.reg none [
  ⟨some 22, .mv (.t 0), none, true⟩,
  ⟨some 23, .mv (.t 1), none, true⟩,
  ⟨some 24, .call 28 [.t 22, .t 23], none, true⟩,
  ⟨some 8, .alloc [.nils 1, .int .i64 0, .int .i64 0, .bool false], none, true⟩,
  ⟨none, .store 4 (.t 8) (.t 24), none, true⟩] (some [2, 7, 8]) []) (
(.seq (
.reg none [
  ⟨some 25, .fad 3 (.t 8), none, true⟩,
  ⟨none, .store 1 (.t 25) (.c (.bool false)), none, true⟩] (some [2, 7, 8]) []) (
(.seq (
.reg none [
  ⟨some 26, .mv (.t 2), none, true⟩,
  ⟨some 27, .conv .i64 (.t 26), none, true⟩,
  ⟨some 28, .bin .rem (.t 27) (.c (.int .i64 20)), none, true⟩,
  ⟨some 29, .bin .add (.c (.int .i64 1)) (.t 28), none, true⟩,
  ⟨some 30, .fad 1 (.t 8), none, true⟩,
  ⟨none, .store 1 (.t 30) (.t 29), none, true⟩] (some [7, 8]) []) (
(.seq (
.reg none [
  ⟨some 31, .fad 2 (.t 8), none, true⟩,
  ⟨none, .store 1 (.t 31) (.c (.int .i64 0)), none, true⟩] (some [7, 8]) []) (
(.seq (
.reg none [
  ⟨some 32, .fad 1 (.t 8), none, true⟩,
  ⟨some 33, .load false 1 (.t 32), none, true⟩,
  ⟨some 34, .bin .sub (.t 33) (.c (.int .i64 1)), none, true⟩,
  ⟨some 9, .as (.t 34), none, true⟩] (some [7, 8, 9]) []) (
(.seq (
.reg none [
  ⟨some 35, .load true 4 (.t 8), none, true⟩,
  ⟨some 10, .alloc [.nils 1, .int .i64 0, .int .i64 0, .bool false], none, true⟩,
  ⟨none, .store 4 (.t 10) (.t 35), none, true⟩] (some [7, 8, 9, 10]) []) (
(.seq (
.reg none [
  ⟨some 36, .fad 1 (.t 10), none, true⟩,
  ⟨none, .store 1 (.t 36) (.c (.int .i64 (-1))), none, true⟩] (some [7, 8, 9, 10]) []) (
(.seq (
(.seq (
.reg none [
  ⟨some 11, .as (.c (.int .i64 0)), none, true⟩] (some [7, 8, 9, 10, 11]) []) (
(.block 0 (
A7_L0) (some [7, 8, 10]) [6, 11, 12, 13, 14, 15, 50, 51, 63, 64])))) (
(.seq (
.reg none [
  ⟨some 106, .load true 4 (.t 8), none, true⟩,
  ⟨some 107, .call 30 [.t 106], none, true⟩,
  ⟨some 108, .bsl 1 1 [.int .u8 0] [(0, .c (.int .u8 9))], none, true⟩,
  ⟨some 109, .call 29 [.t 107, .c (.int .i64 0), .t 108], none, true⟩,
  ⟨some 105, .mv (.t 109), none, true⟩,
  ⟨some 110, .ext (.t 105) 0, none, true⟩,
  ⟨some 111, .ext (.t 105) 1, none, true⟩,
  ⟨some 16, .alloc [.nils 1, .int .i64 0, .int .i64 0, .bool false], none, true⟩,
  ⟨none, .store 4 (.t 16) (.t 110), none, true⟩,
  ⟨some 17, .as (.t 111), none, true⟩] (some [7, 10, 16, 17]) [8]) (
(.seq (
.reg none [
  ⟨some 112, .mv (.t 7), none, true⟩,
  ⟨some 113, .mv (.t 112), none, true⟩,
  ⟨some 114, .fad 1 (.t 10), some (113, true), true⟩,
  ⟨some 115, .load false 1 (.t 114), some (113, true), true⟩,
  ⟨some 116, .bin .eql (.t 115) (.c (.int .i64 (-1))), some (113, true), true⟩,
  ⟨some 117, .pick (.t 113) (.t 116) (.c (.bool false)), none, true⟩,
  ⟨some 118, .mv (.t 117), none, true⟩,
  ⟨some 119, .mv (.t 17), some (118, true), true⟩,
  ⟨some 120, .bin .eql (.t 119) (.c (.int .i64 0)), some (118, true), true⟩,
  ⟨some 121, .pick (.t 118) (.t 120) (.c (.bool false)), none, true⟩,
  ⟨some 122, .mv (.t 121), none, true⟩,
  ⟨some 123, .fad 1 (.t 16), some (122, true), true⟩,
  ⟨some 124, .load false 1 (.t 123), some (122, true), true⟩,
  ⟨some 125, .bin .eql (.t 124) (.c (.int .i64 (-1))), some (122, true), true⟩,
  ⟨some 126, .pick (.t 122) (.t 125) (.c (.bool false)), none, true⟩,
  ⟨some 6, .as (.t 126), none, true⟩] (some [6]) [10, 16]) (
.ret)))))))))))))))))))))))))))
/-- ambidexter/ambidexterlaw30.DiskCommute -/
def A8 : AFn := .code [.t 8] (
(.seq (
.reg none [
  ⟨some 6, .box (.t 2), none, true⟩,
  ⟨some 7, .box (.t 3), none, true⟩,
  ⟨some 8, .as (.c (.bool false)), none, true⟩] (some [0, 1, 6, 7]) []) (
(.seq (
.reg none [
  ⟨some 21, .call 15 [], none, true⟩,
  ⟨some 9, .as (.t 21), none, true⟩] (some [0, 1, 6, 7, 9]) []) (
(.seq (
(.seq (
.reg none [
  ⟨some 22, .mv (.t 1), none, true⟩,
  ⟨some 23, .call 16 [.t 22], none, true⟩,
  ⟨some 24, .mv (.t 23), none, true⟩,
  ⟨some 25, .load true 5 (.t 6), some (24, false), true⟩,
  ⟨some 26, .load true 5 (.t 7), some (24, false), true⟩,
  ⟨some 27, .bsl 5 2 [.int .u8 0, .int .i64 0, .int .u8 0, .int .u8 0, .nils 1] [(0, .t 25), (1, .t 26)], some (24, false), true⟩,
  ⟨some 28, .call 16 [.t 27], some (24, false), true⟩,
  ⟨some 29, .pick (.t 24) (.c (.bool true)) (.t 28), none, true⟩] (some [0, 1, 6, 7, 9, 29]) []) (
(.cond (.t 29) (
  (.seq (
  .reg none [
    ⟨some 30, .mv (.t 9), none, true⟩,
    ⟨some 8, .as (.t 30), none, true⟩] (some [8]) []) (
  .ret))) (
  .skip))))) (
(.seq (
.reg none [
  ⟨some 31, .mv (.t 0), none, true⟩,
  ⟨some 32, .mv (.t 1), none, true⟩,
  ⟨some 33, .call 28 [.t 31, .t 32], none, true⟩,
  ⟨some 10, .alloc [.nils 1, .int .i64 0, .int .i64 0, .bool false], none, true⟩,
  ⟨none, .store 4 (.t 10) (.t 33), none, true⟩] (some [6, 7, 9, 10]) []) (
(.seq (
.reg none [
  ⟨some 34, .fad 3 (.t 10), none, true⟩,
  ⟨none, .store 1 (.t 34) (.c (.bool false)), none, true⟩] (some [6, 7, 9, 10]) []) (
(.seq (
.reg none [
  ⟨some 35, .fad 1 (.t 10), none, true⟩,
  ⟨none, .store 1 (.t 35) (.c (.int .i64 (-1))), none, true⟩] (some [6, 7, 9, 10]) []) (
(.seq (
.reg none [
  ⟨some 37, .load true 4 (.t 10), none, true⟩,
  ⟨some 38, .fad 1 (.t 6), none, true⟩,
  ⟨some 39, .load false 1 (.t 38), none, true⟩,
  ⟨some 40, .fad 4 (.t 6), none, true⟩,
  ⟨some 41, .load false 1 (.t 40), none, true⟩,
  ⟨some 42, .call 29 [.t 37, .t 39, .t 41], none, true⟩,
  ⟨some 36, .mv (.t 42), none, true⟩,
  ⟨some 43, .ext (.t 36) 0, none, true⟩,
  ⟨some 44, .ext (.t 36) 1, none, true⟩,
  ⟨some 11, .alloc [.nils 1, .int .i64 0, .int .i64 0, .bool false], none, true⟩,
  ⟨none, .store 4 (.t 11) (.t 43), none, true⟩,
  ⟨some 12, .as (.t 44), none, true⟩] (some [6, 7, 9, 10, 11, 12]) []) (
(.seq (
.reg none [
  ⟨some 46, .load true 4 (.t 10), none, true⟩,
  ⟨some 47, .fad 1 (.t 7), none, true⟩,
  ⟨some 48, .load false 1 (.t 47), none, true⟩,
  ⟨some 49, .fad 4 (.t 7), none, true⟩,
  ⟨some 50, .load false 1 (.t 49), none, true⟩,
  ⟨some 51, .call 29 [.t 46, .t 48, .t 50], none, true⟩,
  ⟨some 45, .mv (.t 51), none, true⟩,
  ⟨some 52, .ext (.t 45) 0, none, true⟩,
  ⟨some 53, .ext (.t 45) 1, none, true⟩,
  ⟨some 13, .alloc [.nils 1, .int .i64 0, .int .i64 0, .bool false], none, true⟩,
  ⟨none, .store 4 (.t 13) (.t 52), none, true⟩,
  ⟨some 14, .as (.t 53), none, true⟩] (some [6, 7, 9, 10, 11, 12, 13, 14]) []) (
(.seq (
(.seq (
.reg none [
  ⟨some 54, .mv (.t 12), none, true⟩,
  ⟨some 55, .bin .neq (.t 54) (.c (.int .i64 0)), none, true⟩,
  ⟨some 56, .mv (.t 55), none, true⟩,
  ⟨some 57, .mv (.t 14), some (56, false), true⟩,
  ⟨some 58, .bin .neq (.t 57) (.c (.int .i64 0)), some (56, false), true⟩,
  ⟨some 59, .pick (.t 56) (.c (.bool true)) (.t 58), none, true⟩] (some [6, 7, 9, 10, 11, 12, 13, 14, 59]) []) (
(.cond (.t 59) (
  (.seq (
  .reg none [
    ⟨some 60, .mv (.t 9), none, true⟩,
    ⟨some 61, .mv (.t 60), none, true⟩,
    ⟨some 62, .mv (.t 12), some (61, true), true⟩,
    ⟨some 63, .bin .eql (.t 62) (.c (.int .i64 0)), some (61, true), true⟩,
    ⟨some 64, .mv (.t 63), some (61, true), true⟩,
    ⟨some 65, .load true 4 (.t 11), some (64, false), true⟩,
    ⟨some 66, .load true 4 (.t 10), some (64, false), true⟩,
    ⟨some 67, .call 19 [.t 65, .t 66], some (64, false), true⟩,
    ⟨some 68, .pick (.t 64) (.c (.bool true)) (.t 67), some (61, true), true⟩,
    ⟨some 69, .pick (.t 61) (.t 68) (.c (.bool false)), none, true⟩,
    ⟨some 70, .mv (.t 69), none, true⟩,
    ⟨some 71, .mv (.t 14), some (70, true), true⟩,
    ⟨some 72, .bin .eql (.t 71) (.c (.int .i64 0)), some (70, true), true⟩,
    ⟨some 73, .mv (.t 72), some (70, true), true⟩,
    ⟨some 74, .load true 4 (.t 13), some (73, false), true⟩,
    ⟨some 75, .load true 4 (.t 10), some (73, false), true⟩,
    ⟨some 76, .call 19 [.t 74, .t 75], some (73, false), true⟩,
    ⟨some 77, .pick (.t 73) (.c (.bool true)) (.t 76), some (70, true), true⟩,
    ⟨some 78, .pick (.t 70) (.t 77) (.c (.bool false)), none, true⟩,
    ⟨some 8, .as (.t 78), none, true⟩] (some [8]) [10, 11, 13]) (
  .ret))) (
  .skip))))) (
(.seq (
.reg none [
  ⟨some 80, .load true 4 (.t 11), none, true⟩,
  ⟨some 81, .fad 1 (.t 7), none, true⟩,
  ⟨some 82, .load false 1 (.t 81), none, true⟩,
  ⟨some 83, .fad 4 (.t 7), none, true⟩,
  ⟨some 84, .load false 1 (.t 83), none, true⟩,
  ⟨some 85, .call 29 [.t 80, .t 82, .t 84], none, true⟩,
  ⟨some 79, .mv (.t 85), none, true⟩,
  ⟨some 86, .ext (.t 79) 0, none, true⟩,
  ⟨some 87, .ext (.t 79) 1, none, true⟩,
  ⟨some 15, .alloc [.nils 1, .int .i64 0, .int .i64 0, .bool false], none, true⟩,
  ⟨none, .store 4 (.t 15) (.t 86), none, true⟩,
  ⟨some 16, .as (.t 87), none, true⟩] (some [6, 7, 9, 11, 13, 15, 16]) []) (
(.seq (
.reg none [
  ⟨some 89, .load true 4 (.t 13), none, true⟩,
  ⟨some 90, .fad 1 (.t 6), none, true⟩,
  ⟨some 91, .load false 1 (.t 90), none, true⟩,
  ⟨some 92, .fad 4 (.t 6), none, true⟩,
  ⟨some 93, .load false 1 (.t 92), none, true⟩,
  ⟨some 94, .call 29 [.t 89, .t 91, .t 93], none, true⟩,
  ⟨some 88, .mv (.t 94), none, true⟩,
  ⟨some 95, .ext (.t 88) 0, none, true⟩,
  ⟨some 96, .ext (.t 88) 1, none, true⟩,
  ⟨some 17, .alloc [.nils 1, .int .i64 0, .int .i64 0, .bool false], none, true⟩,
  ⟨none, .store 4 (.t 17) (.t 95), none, true⟩,
  ⟨some 18, .as (.t 96), none, true⟩] (some [6, 7, 9, 11, 13, 15, 16, 17, 18]) []) (
(.seq (
.reg none [
  ⟨some 98, .load true 4 (.t 11), none, true⟩,
  ⟨some 99, .fad 1 (.t 6), none, true⟩,
  ⟨some 100, .load false 1 (.t 99), none, true⟩,
  ⟨some 101, .fad 4 (.t 6), none, true⟩,
  ⟨some 102, .load false 1 (.t 101), none, true⟩,
  ⟨some 103, .call 29 [.t 98, .t 100, .t 102], none, true⟩,
  ⟨some 97, .mv (.t 103), none, true⟩,
  ⟨some 104, .ext (.t 97) 0, none, true⟩,
  ⟨some 105, .ext (.t 97) 1, none, true⟩,
  ⟨some 19, .alloc [.nils 1, .int .i64 0, .int .i64 0, .bool false], none, true⟩,
  ⟨none, .store 4 (.t 19) (.t 104), none, true⟩,
  ⟨some 20, .as (.t 105), none, true⟩] (some [6, 7, 9, 11, 13, 15, 16, 17, 18, 19, 20]) []) (
(.seq (
(.seq (
.reg none [
  ⟨some 106, .mv (.t 16), none, true⟩,
  ⟨some 107, .bin .neq (.t 106) (.c (.int .i64 0)), none, true⟩,
  ⟨some 108, .mv (.t 107), none, true⟩,
  ⟨some 109, .mv (.t 18), some (108, false), true⟩,
  ⟨some 110, .bin .neq (.t 109) (.c (.int .i64 0)), some (108, false), true⟩,
  ⟨some 111, .pick (.t 108) (.c (.bool true)) (.t 110), none, true⟩,
  ⟨some 112, .mv (.t 111), none, true⟩,
  ⟨some 113, .mv (.t 20), some (112, false), true⟩,
  ⟨some 114, .bin .neq (.t 113) (.c (.int .i64 0)), some (112, false), true⟩,
  ⟨some 115, .pick (.t 112) (.c (.bool true)) (.t 114), none, true⟩,
  ⟨some 116, .mv (.t 115), none, true⟩,
  ⟨some 117, .load true 4 (.t 19), some (116, false), true⟩,
  ⟨some 118, .load true 4 (.t 11), some (116, false), true⟩,
  ⟨some 119, .call 19 [.t 117, .t 118], some (116, false), true⟩,
  ⟨some 120, .un .not (.t 119), some (116, false), true⟩,
  ⟨some 121, .pick (.t 116) (.c (.bool true)) (.t 120), none, true⟩] (some [6, 7, 9, 13, 15, 17, 121]) [11, 19]) (
(.cond (.t 121) (
  (.seq (
  .reg none [
    ⟨some 8, .as (.c (.bool false)), none, true⟩] (some [8]) []) (
  .ret))) (
  .skip))))) (
(.seq (
(.seq (
.reg none [
  ⟨some 122, .fad 1 (.t 6), none, true⟩,
  ⟨some 123, .load false 1 (.t 122), none, true⟩,
  ⟨some 124, .fad 1 (.t 7), none, true⟩,
  ⟨some 125, .load false 1 (.t 124), none, true⟩,
  ⟨some 126, .bin .neq (.t 123) (.t 125), none, true⟩] (some [6, 7, 9, 13, 15, 17, 126]) []) (
(.cond (.t 126) (
  (.seq (
  .reg none [
    ⟨some 127, .mv (.t 9), none, true⟩,
    ⟨some 128, .mv (.t 127), none, true⟩,
    ⟨some 129, .load true 4 (.t 15), some (128, true), true⟩,
    ⟨some 130, .load true 4 (.t 17), some (128, true), true⟩,
    ⟨some 131, .call 19 [.t 129, .t 130], some (128, true), true⟩,
    ⟨some 132, .pick (.t 128) (.t 131) (.c (.bool false)), none, true⟩,
    ⟨some 8, .as (.t 132), none, true⟩] (some [8]) [15, 17]) (
  .ret))) (
  .skip))))) (
(.seq (
.reg none [
  ⟨some 133, .mv (.t 9), none, true⟩,
  ⟨some 134, .mv (.t 133), none, true⟩,
  ⟨some 135, .fad 4 (.t 7), some (134, true), true⟩,
  ⟨some 136, .load false 1 (.t 135), some (134, true), true⟩,
  ⟨some 137, .len 0 (.t 136), some (134, true), true⟩,
  ⟨some 138, .fad 4 (.t 6), some (134, true), true⟩,
  ⟨some 139, .load false 1 (.t 138), some (134, true), true⟩,
  ⟨some 140, .len 0 (.t 139), some (134, true), true⟩,
  ⟨some 141, .bin .lss (.t 137) (.t 140), some (134, true), true⟩,
  ⟨some 142, .mv (.t 141), some (134, true), true⟩,
  ⟨some 143, .load true 4 (.t 15), some (142, false), true⟩,
  ⟨some 144, .load true 4 (.t 13), some (142, false), true⟩,
  ⟨some 145, .call 19 [.t 143, .t 144], some (142, false), true⟩,
  ⟨some 146, .pick (.t 142) (.c (.bool true)) (.t 145), some (134, true), true⟩,
  ⟨some 147, .pick (.t 134) (.t 146) (.c (.bool false)), none, true⟩,
  ⟨some 8, .as (.t 147), none, true⟩] (some [8]) [6, 7, 13, 15]) (
.ret)))))))))))))))))))))))))))))))
/-- ambidexter/ambidexterlaw31.JournalRoundTrip -/
def A9 : AFn := .code [.t 6] (
(.seq (
.reg none [
  ⟨some 3, .box (.t 0), none, true⟩,
  ⟨some 4, .box (.t 1), none, true⟩,
  ⟨some 6, .as (.c (.bool false)), none, true⟩] (some [2, 3, 4]) []) (
(.seq (
.reg none [
  ⟨some 14, .call 31 [], none, true⟩,
  ⟨some 7, .as (.t 14), none, true⟩] (some [2, 3, 4, 7]) []) (
(.seq (
(.seq (
.reg none [
  ⟨some 15, .load true 12 (.t 3), none, true⟩,
  ⟨some 16, .call 32 [.t 15], none, true⟩,
  ⟨some 17, .mv (.t 16), none, true⟩,
  ⟨some 18, .load true 12 (.t 4), some (17, false), true⟩,
  ⟨some 19, .call 32 [.t 18], some (17, false), true⟩,
  ⟨some 20, .pick (.t 17) (.c (.bool true)) (.t 19), none, true⟩,
  ⟨some 21, .mv (.t 20), none, true⟩,
  ⟨some 22, .mv (.t 2), some (21, false), true⟩,
  ⟨some 23, .len 0 (.t 22), some (21, false), true⟩,
  ⟨some 24, .bin .gtr (.t 23) (.c (.int .i64 200)), some (21, false), true⟩,
  ⟨some 25, .pick (.t 21) (.c (.bool true)) (.t 24), none, true⟩] (some [2, 3, 4, 7, 25]) []) (
(.cond (.t 25) (
  (.seq (
  .reg none [
    ⟨some 26, .mv (.t 7), none, true⟩,
    ⟨some 6, .as (.t 26), none, true⟩] (some [6]) []) (
  .ret))) (
  .skip))))) (
(.seq (
.reg none [
  ⟨some 28, .mv (.t 2), none, true⟩,
  ⟨some 29, .call 33 [.t 28], none, true⟩,
  ⟨some 27, .mv (.t 29), none, true⟩,
  ⟨some 30, .ext (.t 27) 0, none, true⟩,
  ⟨some 31, .ext (.t 27) 1, none, true⟩,
  ⟨some 8, .alloc [.int .i64 0, .int .i64 0, .int .i64 0, .int .i64 0, .int .i64 0, .int .i64 0, .int .i64 0, .int .i64 0, .int .i64 0, .int .i64 0, .nils 1, .int .i64 0], none, true⟩,
  ⟨none, .store 12 (.t 8) (.t 30), none, true⟩,
  ⟨some 9, .as (.t 31), none, true⟩] (some [2, 3, 4, 7, 8, 9]) []) (
(.seq (
(.seq (
.reg none [
  ⟨some 32, .mv (.t 9), none, true⟩,
  ⟨some 33, .bin .eql (.t 32) (.c (.int .i64 0)), none, true⟩,
  ⟨some 34, .mv (.t 33), none, true⟩,
  ⟨some 35, .load true 12 (.t 8), some (34, true), true⟩,
  ⟨some 36, .call 35 [.t 35], some (34, true), true⟩,
  ⟨some 37, .mv (.t 2), some (34, true), true⟩,
  ⟨some 38, .call 34 [.t 36, .t 37], some (34, true), true⟩,
  ⟨some 39, .un .not (.t 38), some (34, true), true⟩,
  ⟨some 40, .pick (.t 34) (.t 39) (.c (.bool false)), none, true⟩,
  ⟨some 41, .mv (.t 40), none, true⟩,
  ⟨some 42, .mv (.t 9), some (41, false), true⟩,
  ⟨some 43, .bin .neq (.t 42) (.c (.int .i64 0)), some (41, false), true⟩,
  ⟨some 44, .mv (.t 43), some (41, false), true⟩,
  ⟨some 45, .load true 12 (.t 8), some (44, true), true⟩,
  ⟨some 46, .build [.int .i64 0, .int .i64 0, .int .i64 0, .int .i64 0, .int .i64 0, .int .i64 0, .int .i64 0, .int .i64 0, .int .i64 0, .int .i64 0, .nils 1, .int .i64 0] [], some (44, true), true⟩,
  ⟨some 47, .call 36 [.t 45, .t 46], some (44, true), true⟩,
  ⟨some 48, .un .not (.t 47), some (44, true), true⟩,
  ⟨some 49, .pick (.t 44) (.t 48) (.c (.bool false)), some (41, false), true⟩,
  ⟨some 50, .pick (.t 41) (.c (.bool true)) (.t 49), none, true⟩] (some [3, 4, 7, 50]) [8]) (
(.cond (.t 50) (
  (.seq (
  .reg none [
    ⟨some 6, .as (.c (.bool false)), none, true⟩] (some [6]) []) (
  .ret))) (
  .skip))))) (
(.seq (
(.seq (
.reg none [
  ⟨some 51, .load true 12 (.t 3), none, true⟩,
  ⟨some 52, .call 37 [.t 51], none, true⟩,
  ⟨some 53, .un .not (.t 52), none, true⟩,
  ⟨some 54, .mv (.t 53), none, true⟩,
  ⟨some 55, .load true 12 (.t 4), some (54, false), true⟩,
  ⟨some 56, .call 37 [.t 55], some (54, false), true⟩,
  ⟨some 57, .un .not (.t 56), some (54, false), true⟩,
  ⟨some 58, .pick (.t 54) (.c (.bool true)) (.t 57), none, true⟩] (some [3, 4, 7, 58]) []) (
(.cond (.t 58) (
  (.seq (
  .reg none [
    ⟨some 59, .mv (.t 7), none, true⟩,
    ⟨some 6, .as (.t 59), none, true⟩] (some [6]) []) (
  .ret))) (
  .skip))))) (
(.seq (
.reg (some [.dr [62] [], .dr [62] [], .dr [60, 61] [], .free, .free, .free]) [
  ⟨some 60, .load true 12 (.t 3), none, true⟩,
  ⟨some 61, .call 35 [.t 60], none, true⟩,
  ⟨some 62, .load true 12 (.t 4), none, true⟩,
  ⟨some 63, .call 35 [.t 62], none, true⟩,
  ⟨some 10, .as (.t 61), none, true⟩,
  ⟨some 11, .as (.t 63), none, true⟩] (some [3, 4, 7, 10, 11]) []) (
(.seq (
.reg none [
  ⟨some 65, .mv (.t 10), none, true⟩,
  ⟨some 66, .call 33 [.t 65], none, true⟩,
  ⟨some 64, .mv (.t 66), none, true⟩,
  ⟨some 67, .ext (.t 64) 0, none, true⟩,
  ⟨some 68, .ext (.t 64) 1, none, true⟩,
  ⟨some 12, .alloc [.int .i64 0, .int .i64 0, .int .i64 0, .int .i64 0, .int .i64 0, .int .i64 0, .int .i64 0, .int .i64 0, .int .i64 0, .int .i64 0, .nils 1, .int .i64 0], none, true⟩,
  ⟨none, .store 12 (.t 12) (.t 67), none, true⟩,
  ⟨some 13, .as (.t 68), none, true⟩] (some [3, 4, 7, 10, 11, 12, 13]) []) (
(.seq (
.reg (some [.free, .free, .free, .free, .free, .free, .free, .free, .free, .free, .free, .dr [81] [], .dr [80] [], .free, .free, .free, .dr [88, 89] [], .dr [88, 89] [], .dr [88, 89] [], .dr [87, 89] [], .dr [87, 88] [], .free, .free, .free, .free]) [
  ⟨some 69, .mv (.t 7), none, true⟩,
  ⟨some 70, .mv (.t 69), none, true⟩,
  ⟨some 71, .mv (.t 10), some (70, true), true⟩,
  ⟨some 72, .len 0 (.t 71), some (70, true), true⟩,
  ⟨some 73, .bin .eql (.t 72) (.c (.int .i64 64)), some (70, true), true⟩,
  ⟨some 74, .pick (.t 70) (.t 73) (.c (.bool false)), none, true⟩,
  ⟨some 75, .mv (.t 74), none, true⟩,
  ⟨some 76, .mv (.t 13), some (75, true), true⟩,
  ⟨some 77, .bin .eql (.t 76) (.c (.int .i64 0)), some (75, true), true⟩,
  ⟨some 78, .pick (.t 75) (.t 77) (.c (.bool false)), none, true⟩,
  ⟨some 79, .mv (.t 78), none, true⟩,
  ⟨some 80, .load true 12 (.t 12), some (79, true), true⟩,
  ⟨some 81, .load true 12 (.t 3), some (79, true), true⟩,
  ⟨some 82, .call 36 [.t 80, .t 81], some (79, true), true⟩,
  ⟨some 83, .pick (.t 79) (.t 82) (.c (.bool false)), none, true⟩,
  ⟨some 84, .mv (.t 83), none, true⟩,
  ⟨some 85, .mv (.t 10), some (84, true), true⟩,
  ⟨some 86, .mv (.t 11), some (84, true), true⟩,
  ⟨some 87, .call 34 [.t 85, .t 86], some (84, true), true⟩,
  ⟨some 88, .load true 12 (.t 3), some (84, true), true⟩,
  ⟨some 89, .load true 12 (.t 4), some (84, true), true⟩,
  ⟨some 90, .call 36 [.t 88, .t 89], some (84, true), true⟩,
  ⟨some 91, .bib false (.t 87) (.t 90), some (84, true), true⟩,
  ⟨some 92, .pick (.t 84) (.t 91) (.c (.bool false)), none, true⟩,
  ⟨some 6, .as (.t 92), none, true⟩] (some [6]) [3, 4, 12]) (
.ret)))))))))))))))))))
/-- ambidexter/ambidexterlaw31.JournalDetectsCorruption -/
def A10 : AFn := .code [.t 6] (
(.seq (
.reg none [
  ⟨some 3, .box (.t 0), none, true⟩,
  ⟨some 6, .as (.c (.bool false)), none, true⟩] (some [1, 2, 3]) []) (
(.seq (
.reg none [
  ⟨some 15, .call 31 [], none, true⟩,
  ⟨some 7, .as (.t 15), none, true⟩] (some [1, 2, 3, 7]) []) (
(.seq (
(.seq (
.reg none [
  ⟨some 16, .load true 12 (.t 3), none, true⟩,
  ⟨some 17, .call 32 [.t 16], none, true⟩,
  ⟨some 18, .mv (.t 17), none, true⟩,
  ⟨some 19, .load true 12 (.t 3), some (18, false), true⟩,
  ⟨some 20, .call 37 [.t 19], some (18, false), true⟩,
  ⟨some 21, .un .not (.t 20), some (18, false), true⟩,
  ⟨some 22, .pick (.t 18) (.c (.bool true)) (.t 21), none, true⟩,
  ⟨some 23, .mv (.t 22), none, true⟩,
  ⟨some 24, .mv (.t 2), some (23, false), true⟩,
  ⟨some 25, .bin .eql (.t 24) (.c (.int .u8 0)), some (23, false), true⟩,
  ⟨some 26, .pick (.t 23) (.c (.bool true)) (.t 25), none, true⟩] (some [1, 2, 3, 7, 26]) []) (
(.cond (.t 26) (
  (.seq (
  .reg none [
    ⟨some 27, .mv (.t 7), none, true⟩,
    ⟨some 6, .as (.t 27), none, true⟩] (some [6]) []) (
  .ret))) (
  .skip))))) (
(.seq (
.reg none [
  ⟨some 28, .bsl 1 0 [.int .u8 0] [], none, true⟩,
  ⟨some 29, .load true 12 (.t 3), none, true⟩,
  ⟨some 30, .call 35 [.t 29], none, true⟩,
  ⟨some 31, .app 1 (.t 28) (.t 30), none, true⟩,
  ⟨some 8, .as (.t 31), none, true⟩] (some [1, 2, 7, 8]) [3]) (
(.seq (
(.seq (
.reg none [
  ⟨some 32, .mv (.t 8), none, true⟩,
  ⟨some 33, .len 0 (.t 32), none, true⟩,
  ⟨some 34, .bin .neq (.t 33) (.c (.int .i64 64)), none, true⟩] (some [1, 2, 7, 8, 34]) []) (
(.cond (.t 34) (
  (.seq (
  .reg none [
    ⟨some 6, .as (.c (.bool false)), none, true⟩] (some [6]) []) (
  .ret))) (
  .skip))))) (
(.seq (
.reg none [
  ⟨some 36, .mv (.t 8), none, true⟩,
  ⟨some 37, .mv (.t 1), none, true⟩,
  ⟨some 38, .conv .i64 (.t 37), none, true⟩,
  ⟨some 39, .bin .rem (.t 38) (.c (.int .i64 64)), none, true⟩,
  ⟨some 40, .sls 1 (.t 36) none (some (.t 39)), none, true⟩,
  ⟨some 41, .call 33 [.t 40], none, true⟩,
  ⟨some 35, .mv (.t 41), none, true⟩,
  ⟨some 42, .ext (.t 35) 0, none, true⟩,
  ⟨some 43, .ext (.t 35) 1, none, true⟩,
  ⟨some 9, .alloc [.int .i64 0, .int .i64 0, .int .i64 0, .int .i64 0, .int .i64 0, .int .i64 0, .int .i64 0, .int .i64 0, .int .i64 0, .int .i64 0, .nils 1, .int .i64 0], none, true⟩,
  ⟨none, .store 12 (.t 9) (.t 42), none, true⟩,
  ⟨some 10, .as (.t 43), none, true⟩] (some [1, 2, 7, 8, 10]) [9]) (
(.seq (
.reg none [
  ⟨some 45, .bsl 1 0 [.int .u8 0] [], none, true⟩,
  ⟨some 46, .mv (.t 8), none, true⟩,
  ⟨some 47, .app 1 (.t 45) (.t 46), none, true⟩,
  ⟨some 48, .bsl 1 1 [.int .u8 0] [(0, .c (.int .u8 0))], none, true⟩,
  ⟨some 49, .app 1 (.t 47) (.t 48), none, true⟩,
  ⟨some 50, .call 33 [.t 49], none, true⟩,
  ⟨some 44, .mv (.t 50), none, true⟩,
  ⟨some 51, .ext (.t 44) 0, none, true⟩,
  ⟨some 52, .ext (.t 44) 1, none, true⟩,
  ⟨some 11, .alloc [.int .i64 0, .int .i64 0, .int .i64 0, .int .i64 0, .int .i64 0, .int .i64 0, .int .i64 0, .int .i64 0, .int .i64 0, .int .i64 0, .nils 1, .int .i64 0], none, true⟩,
  ⟨none, .store 12 (.t 11) (.t 51), none, true⟩,
  ⟨some 12, .as (.t 52), none, true⟩] (some [1, 2, 7, 8, 10, 12]) [11]) (
(.seq (
.reg none [
  ⟨some 53, .mv (.t 8), none, true⟩,
  ⟨some 54, .mv (.t 1), none, true⟩,
  ⟨some 55, .conv .i64 (.t 54), none, true⟩,
  ⟨some 56, .bin .rem (.t 55) (.c (.int .i64 64)), none, true⟩,
  ⟨some 57, .mv (.t 8), none, true⟩,
  ⟨some 58, .mv (.t 1), none, true⟩,
  ⟨some 59, .conv .i64 (.t 58), none, true⟩,
  ⟨some 60, .bin .rem (.t 59) (.c (.int .i64 64)), none, true⟩,
  ⟨some 61, .ias 1 (.t 57) (.t 60), none, true⟩,
  ⟨some 62, .load false 1 (.t 61), none, true⟩,
  ⟨some 63, .mv (.t 2), none, true⟩,
  ⟨some 64, .bin .xor (.t 62) (.t 63), none, true⟩,
  ⟨some 65, .ias 1 (.t 53) (.t 56), none, true⟩,
  ⟨none, .store 1 (.t 65) (.t 64), none, true⟩] (some [7, 8, 10, 12]) []) (
(.seq (
.reg none [
  ⟨some 67, .mv (.t 8), none, true⟩,
  ⟨some 68, .call 33 [.t 67], none, true⟩,
  ⟨some 66, .mv (.t 68), none, true⟩,
  ⟨some 69, .ext (.t 66) 0, none, true⟩,
  ⟨some 70, .ext (.t 66) 1, none, true⟩,
  ⟨some 13, .alloc [.int .i64 0, .int .i64 0, .int .i64 0, .int .i64 0, .int .i64 0, .int .i64 0, .int .i64 0, .int .i64 0, .int .i64 0, .int .i64 0, .nils 1, .int .i64 0], none, true⟩,
  ⟨none, .store 12 (.t 13) (.t 69), none, true⟩,
  ⟨some 14, .as (.t 70), none, true⟩] (some [7, 10, 12, 14]) [13]) (
(.seq (
.reg none [
  ⟨some 71, .mv (.t 7), none, true⟩,
  ⟨some 72, .mv (.t 71), none, true⟩,
  ⟨some 73, .mv (.t 10), some (72, true), true⟩,
  ⟨some 74, .bin .eql (.t 73) (.c (.int .i64 4)), some (72, true), true⟩,
  ⟨some 75, .pick (.t 72) (.t 74) (.c (.bool false)), none, true⟩,
  ⟨some 76, .mv (.t 75), none, true⟩,
  ⟨some 77, .mv (.t 12), some (76, true), true⟩,
  ⟨some 78, .bin .eql (.t 77) (.c (.int .i64 4)), some (76, true), true⟩,
  ⟨some 79, .pick (.t 76) (.t 78) (.c (.bool false)), none, true⟩,
  ⟨some 80, .mv (.t 79), none, true⟩,
  ⟨some 81, .mv (.t 14), some (80, true), true⟩,
  ⟨some 82, .bin .eql (.t 81) (.c (.int .i64 4)), some (80, true), true⟩,
  ⟨some 83, .pick (.t 80) (.t 82) (.c (.bool false)), none, true⟩,
  ⟨some 6, .as (.t 83), none, true⟩] (some [6]) []) (
.ret)))))))))))))))))))))
def A11_L0b : ACode := 
  (.seq (
  (.seq (
  .reg none [
    ⟨some 26, .mv (.t 8), none, true⟩,
    ⟨some 27, .mv (.t 1), none, true⟩,
    ⟨some 28, .len 0 (.t 27), none, true⟩,
    ⟨some 29, .bin .lss (.t 26) (.t 28), none, true⟩] (some [1, 5, 6, 7, 8, 29]) []) (
  (.cond (.t 29) (
    .skip) (
    .exit 0))))) (
  (.seq (
  (.block 1 (
  (.seq (
  (.seq (
  .reg none [
    ⟨some 32, .mv (.t 1), none, true⟩,
    ⟨some 33, .mv (.t 8), none, true⟩,
    ⟨some 34, .ias 12 (.t 32) (.t 33), none, true⟩,
    ⟨some 35, .load true 12 (.t 34), none, true⟩,
    ⟨some 36, .call 32 [.t 35], none, true⟩] (some [1, 5, 6, 7, 8, 36]) []) (
  (.cond (.t 36) (
    (.seq (
    .reg none [
      ⟨some 37, .mv (.t 5), none, true⟩,
      ⟨some 4, .as (.t 37), none, true⟩] (some [4]) []) (
    .ret))) (
    .skip))))) (
  (.seq (
  .reg (some [.dr [42, 43, 9] [], .dr [39, 9] [], .dr [39, 9] [], .dr [39, 9] [], .dr [39, 9] [], .dr [9] [], .dr [9] [], .dr [9] [], .dr [9] [], .dr [39, 42, 43, 44] [], .dr [] [9], .free]) [
    ⟨some 39, .load true 6 (.t 6), none, true⟩,
    ⟨some 40, .mv (.t 1), none, true⟩,
    ⟨some 41, .mv (.t 8), none, true⟩,
    ⟨some 42, .ias 12 (.t 40) (.t 41), none, true⟩,
    ⟨some 43, .load true 12 (.t 42), none, true⟩,
    ⟨some 44, .call 40 [.t 39, .t 43], none, true⟩,
    ⟨some 38, .mv (.t 44), none, true⟩,
    ⟨some 45, .ext (.t 38) 0, none, true⟩,
    ⟨some 46, .ext (.t 38) 1, none, true⟩,
    ⟨some 9, .alloc [.nils 1, .int .i64 0, .int .i64 0, .bool false, .int .i64 0, .int .i64 0], none, true⟩,
    ⟨none, .store 6 (.t 9) (.t 45), none, true⟩,
    ⟨some 10, .as (.t 46), none, true⟩] (some [1, 5, 6, 7, 8, 9, 10]) []) (
  (.seq (
  (.seq (
  .reg none [
    ⟨some 47, .mv (.t 10), none, true⟩,
    ⟨some 48, .bin .eql (.t 47) (.c (.int .i64 0)), none, true⟩] (some [1, 5, 6, 7, 8, 9, 10, 48]) []) (
  (.cond (.t 48) (
    (.seq (
    .reg none [
      ⟨some 49, .mv (.t 1), none, true⟩,
      ⟨some 50, .mv (.t 8), none, true⟩,
      ⟨some 51, .ias 12 (.t 49) (.t 50), none, true⟩,
      ⟨some 52, .load true 12 (.t 51), none, true⟩,
      ⟨none, .store 12 (.t 7) (.t 52), none, true⟩] (some [1, 5, 6, 7, 8, 9, 10]) []) (
    .reg none [
      ⟨some 53, .fad 4 (.t 6), none, true⟩,
      ⟨some 54, .load false 1 (.t 53), none, true⟩,
      ⟨some 55, .fad 0 (.t 7), none, true⟩,
      ⟨none, .store 1 (.t 55) (.t 54), none, true⟩] (some [1, 5, 6, 7, 8, 9, 10]) []))) (
    .skip))))) (
  (.seq (
  (.seq (
  .reg none [
    ⟨some 56, .mv (.t 10), none, true⟩,
    ⟨some 57, .bin .neq (.t 56) (.c (.int .i64 0)), none, true⟩,
    ⟨some 58, .mv (.t 57), none, true⟩,
    ⟨some 59, .mv (.t 10), some (58, true), true⟩,
    ⟨some 60, .bin .neq (.t 59) (.c (.int .i64 1)), some (58, true), true⟩,
    ⟨some 61, .mv (.t 60), some (58, true), true⟩,
    ⟨some 62, .load true 6 (.t 9), some (61, false), true⟩,
    ⟨some 63, .load true 6 (.t 6), some (61, false), true⟩,
    ⟨some 64, .call 41 [.t 62, .t 63], some (61, false), true⟩,
    ⟨some 65, .un .not (.t 64), some (61, false), true⟩,
    ⟨some 66, .pick (.t 61) (.c (.bool true)) (.t 65), some (58, true), true⟩,
    ⟨some 67, .pick (.t 58) (.t 66) (.c (.bool false)), none, true⟩,
    ⟨some 68, .mv (.t 67), none, true⟩,
    ⟨some 69, .mv (.t 10), some (68, false), true⟩,
    ⟨some 70, .bin .eql (.t 69) (.c (.int .i64 0)), some (68, false), true⟩,
    ⟨some 71, .mv (.t 70), some (68, false), true⟩,
    ⟨some 72, .fad 4 (.t 9), some (71, true), true⟩,
    ⟨some 73, .load false 1 (.t 72), some (71, true), true⟩,
    ⟨some 74, .fad 4 (.t 6), some (71, true), true⟩,
    ⟨some 75, .load false 1 (.t 74), some (71, true), true⟩,
    ⟨some 76, .bin .add (.t 75) (.c (.int .i64 1)), some (71, true), true⟩,
    ⟨some 77, .bin .neq (.t 73) (.t 76), some (71, true), true⟩,
    ⟨some 78, .pick (.t 71) (.t 77) (.c (.bool false)), some (68, false), true⟩,
    ⟨some 79, .pick (.t 68) (.c (.bool true)) (.t 78), none, true⟩] (some [1, 5, 6, 7, 8, 9, 79]) []) (
  (.cond (.t 79) (
    (.seq (
    .reg none [
      ⟨some 4, .as (.c (.bool false)), none, true⟩] (some [4]) []) (
    .ret))) (
    .skip))))) (
  (.seq (
  .reg none [
    ⟨some 80, .load true 6 (.t 9), none, true⟩,
    ⟨none, .store 6 (.t 6) (.t 80), none, true⟩] (some [1, 5, 6, 7, 8]) [9]) (
  (.seq (
  .reg none [
    ⟨some 82, .fad 0 (.t 6), none, true⟩,
    ⟨some 83, .load true 4 (.t 82), none, true⟩,
    ⟨some 84, .call 42 [.t 83], none, true⟩,
    ⟨some 81, .mv (.t 84), none, true⟩,
    ⟨some 85, .ext (.t 81) 0, none, true⟩,
    ⟨some 86, .ext (.t 81) 1, none, true⟩,
    ⟨some 87, .ext (.t 81) 2, none, true⟩,
    ⟨some 11, .alloc [.nils 1, .int .i64 0, .int .i64 0, .bool false, .int .i64 0, .int .i64 0], none, true⟩,
    ⟨some 12, .alloc [.int .i64 0, .int .i64 0, .int .i64 0, .int .i64 0, .int .i64 0, .int .i64 0, .int .i64 0, .int .i64 0, .int .i64 0, .int .i64 0, .nils 1, .int .i64 0], none, true⟩,
    ⟨none, .store 6 (.t 11) (.t 85), none, true⟩,
    ⟨none, .store 12 (.t 12) (.t 86), none, true⟩,
    ⟨some 13, .as (.t 87), none, true⟩] (some [1, 5, 6, 7, 8, 11, 12, 13]) []) (
  (.seq (
  .reg none [
    ⟨some 88, .mv (.t 13), none, true⟩,
    ⟨some 89, .fad 0 (.t 7), none, true⟩,
    ⟨some 90, .load false 1 (.t 89), none, true⟩,
    ⟨some 91, .bin .gtr (.t 90) (.c (.int .i64 0)), none, true⟩,
    ⟨some 92, .bib true (.t 88) (.t 91), none, true⟩,
    ⟨some 93, .mv (.t 92), none, true⟩,
    ⟨some 94, .load true 12 (.t 12), some (93, false), true⟩,
    ⟨some 95, .load true 12 (.t 7), some (93, false), true⟩,
    ⟨some 96, .call 36 [.t 94, .t 95], some (93, false), true⟩,
    ⟨some 97, .un .not (.t 96), some (93, false), true⟩,
    ⟨some 98, .pick (.t 93) (.c (.bool true)) (.t 97), none, true⟩,
    ⟨some 99, .mv (.t 98), none, true⟩,
    ⟨some 100, .load true 6 (.t 11), some (99, false), true⟩,
    ⟨some 101, .load true 6 (.t 6), some (99, false), true⟩,
    ⟨some 102, .call 41 [.t 100, .t 101], some (99, false), true⟩,
    ⟨some 103, .un .not (.t 102), some (99, false), true⟩,
    ⟨some 104, .pick (.t 99) (.c (.bool true)) (.t 103), none, true⟩] (some [1, 5, 6, 7, 8, 104]) [11, 12]) (
  (.cond (.t 104) (
    (.seq (
    .reg none [
      ⟨some 4, .as (.c (.bool false)), none, true⟩] (some [4]) []) (
    .ret))) (
    .skip))))))))))))))))) (some [1, 5, 6, 7, 8]) [4, 9, 10, 11, 12, 13, 36, 44, 64, 84, 96, 102])) (
  .reg none [
    ⟨some 30, .mv (.t 8), none, true⟩,
    ⟨some 31, .bin .add (.t 30) (.c (.int .i64 1)), none, true⟩,
    ⟨some 8, .as (.t 31), none, true⟩] (some [1, 5, 6, 7, 8]) []))))
def A11_L0 : ACode := .loop A11_L0b (some [1, 5, 6, 7, 8]) [4, 9, 10, 11, 12, 13, 36, 44, 64, 84, 96, 102]
/-- ambidexter/ambidexterlaw31.JournalRecoversLastRecord -/
def A11 : AFn := .code [.t 4] (
(.seq (
.reg none [
  ⟨some 4, .as (.c (.bool false)), none, true⟩] (some [0, 1]) []) (
(.seq (
.reg none [
  ⟨some 14, .call 31 [], none, true⟩,
  ⟨some 5, .as (.t 14), none, true⟩] (some [0, 1, 5]) []) (
(.seq (
(.seq (
.reg none [
  ⟨some 15, .mv (.t 1), none, true⟩,
  ⟨some 16, .len 0 (.t 15), none, true⟩,
  ⟨some 17, .bin .gtr (.t 16) (.c (.int .i64 100)), none, true⟩] (some [0, 1, 5, 17]) []) (
(.cond (.t 17) (
  (.seq (
  .reg none [
    ⟨some 18, .mv (.t 5), none, true⟩,
    ⟨some 4, .as (.t 18), none, true⟩] (some [4]) []) (
  .ret))) (
  .skip))))) (
(.seq (
.reg none [
  ⟨some 19, .mv (.t 0), none, true⟩,
  ⟨some 20, .conv .i64 (.t 19), none, true⟩,
  ⟨some 21, .bin .rem (.t 20) (.c (.int .i64 64)), none, true⟩,
  ⟨some 22, .bin .add (.c (.int .i64 1)) (.t 21), none, true⟩,
  ⟨some 23, .call 39 [.t 22], none, true⟩,
  ⟨some 24, .call 38 [.t 23], none, true⟩,
  ⟨some 6, .alloc [.nils 1, .int .i64 0, .int .i64 0, .bool false, .int .i64 0, .int .i64 0], none, true⟩,
  ⟨none, .store 6 (.t 6) (.t 24), none, true⟩] (some [1, 5, 6]) [1001537]) (
(.seq (
.reg none [
  ⟨some 25, .build [.int .i64 0, .int .i64 0, .int .i64 0, .int .i64 0, .int .i64 0, .int .i64 0, .int .i64 0, .int .i64 0, .int .i64 0, .int .i64 0, .nils 1, .int .i64 0] [], none, true⟩,
  ⟨some 7, .alloc [.int .i64 0, .int .i64 0, .int .i64 0, .int .i64 0, .int .i64 0, .int .i64 0, .int .i64 0, .int .i64 0, .int .i64 0, .int .i64 0, .nils 1, .int .i64 0], none, true⟩,
  ⟨none, .store 12 (.t 7) (.t 25), none, true⟩] (some [1, 5, 6, 7]) [1001803]) (
(.seq (
(.seq (
.reg none [
  ⟨some 8, .as (.c (.int .i64 0)), none, true⟩] (some [1, 5, 6, 7, 8]) []) (
(.block 0 (
A11_L0) (some [5]) [4, 8, 9, 10, 11, 12, 13, 36, 44, 64, 84, 96, 102])))) (
(.seq (
.reg none [
  ⟨some 105, .mv (.t 5), none, true⟩,
  ⟨some 4, .as (.t 105), none, true⟩] (some [4]) []) (
.ret)))))))))))))))
def A12_L0b : ACode := 
  (.seq (
  (.seq (
  .reg none [
    ⟨some 45, .mv (.t 13), none, true⟩,
    ⟨some 46, .mv (.t 1), none, true⟩,
    ⟨some 47, .len 0 (.t 46), none, true⟩,
    ⟨some 48, .bin .lss (.t 45) (.t 47), none, true⟩] (some [1, 9, 10, 11, 12, 13, 48]) []) (
  (.cond (.t 48) (
    .skip) (
    .exit 0))))) (
  (.seq (
  (.block 1 (
  (.seq (
  (.seq (
  .reg none [
    ⟨some 51, .mv (.t 1), none, true⟩,
    ⟨some 52, .mv (.t 13), none, true⟩,
    ⟨some 53, .ias 12 (.t 51) (.t 52), none, true⟩,
    ⟨some 54, .load true 12 (.t 53), none, true⟩,
    ⟨some 55, .call 32 [.t 54], none, true⟩] (some [1, 9, 10, 11, 12, 13, 55]) []) (
  (.cond (.t 55) (
    (.seq (
    .reg none [
      ⟨some 56, .mv (.t 9), none, true⟩,
      ⟨some 8, .as (.t 56), none, true⟩] (some [8]) []) (
    .ret))) (
    .skip))))) (
  (.seq (
  .reg none [
    ⟨some 57, .mv (.t 1), none, true⟩,
    ⟨some 58, .mv (.t 13), none, true⟩,
    ⟨some 59, .ias 12 (.t 57) (.t 58), none, true⟩,
    ⟨some 60, .load true 12 (.t 59), none, true⟩,
    ⟨some 14, .alloc [.int .i64 0, .int .i64 0, .int .i64 0, .int .i64 0, .int .i64 0, .int .i64 0, .int .i64 0, .int .i64 0, .int .i64 0, .int .i64 0, .nils 1, .int .i64 0], none, true⟩,
    ⟨none, .store 12 (.t 14) (.t 60), none, true⟩] (some [1, 9, 10, 11, 12, 13, 14]) []) (
  (.seq (
  .reg none [
    ⟨some 61, .fad 4 (.t 11), none, true⟩,
    ⟨some 62, .load false 1 (.t 61), none, true⟩,
    ⟨some 63, .fad 0 (.t 14), none, true⟩,
    ⟨none, .store 1 (.t 63) (.t 62), none, true⟩] (some [1, 9, 10, 11, 12, 13, 14]) []) (
  (.seq (
  .reg (some [.dr [68, 69, 15] [], .dr [65, 15] [], .dr [65, 15] [], .dr [65, 15] [], .dr [65, 15] [], .dr [15] [], .dr [15] [], .dr [15] [], .dr [15] [], .dr [65, 68, 69, 70] [], .dr [] [15], .free]) [
    ⟨some 65, .load true 6 (.t 11), none, true⟩,
    ⟨some 66, .mv (.t 1), none, true⟩,
    ⟨some 67, .mv (.t 13), none, true⟩,
    ⟨some 68, .ias 12 (.t 66) (.t 67), none, true⟩,
    ⟨some 69, .load true 12 (.t 68), none, true⟩,
    ⟨some 70, .call 40 [.t 65, .t 69], none, true⟩,
    ⟨some 64, .mv (.t 70), none, true⟩,
    ⟨some 71, .ext (.t 64) 0, none, true⟩,
    ⟨some 72, .ext (.t 64) 1, none, true⟩,
    ⟨some 15, .alloc [.nils 1, .int .i64 0, .int .i64 0, .bool false, .int .i64 0, .int .i64 0], none, true⟩,
    ⟨none, .store 6 (.t 15) (.t 71), none, true⟩,
    ⟨some 16, .as (.t 72), none, true⟩] (some [1, 9, 10, 11, 12, 13, 14, 15, 16]) []) (
  (.seq (
  (.seq (
  .reg none [
    ⟨some 73, .mv (.t 16), none, true⟩,
    ⟨some 74, .bin .eql (.t 73) (.c (.int .i64 0)), none, true⟩] (some [1, 9, 10, 11, 12, 13, 14, 15, 16, 74]) []) (
  (.cond (.t 74) (
    .reg none [
      ⟨some 75, .load true 12 (.t 14), none, true⟩,
      ⟨none, .store 12 (.t 12) (.t 75), none, true⟩] (some [1, 9, 10, 11, 12, 13, 14, 15, 16]) []) (
    .skip))))) (
  (.seq (
  (.seq (
  .reg none [
    ⟨some 76, .mv (.t 16), none, true⟩,
    ⟨some 77, .bin .neq (.t 76) (.c (.int .i64 300)), none, true⟩] (some [1, 9, 10, 11, 12, 13, 14, 15, 77]) []) (
  (.cond (.t 77) (
    (.seq (
    .reg none [
      ⟨some 78, .load true 6 (.t 15), none, true⟩,
      ⟨none, .store 6 (.t 11) (.t 78), none, true⟩] (some [1, 9, 10, 11, 12, 13]) [15]) (
    .exit 1))) (
    .skip))))) (
  (.seq (
  .reg none [
    ⟨some 80, .fad 0 (.t 15), none, true⟩,
    ⟨some 81, .load true 4 (.t 80), none, true⟩,
    ⟨some 82, .call 30 [.t 81], none, true⟩,
    ⟨some 83, .call 42 [.t 82], none, true⟩,
    ⟨some 79, .mv (.t 83), none, true⟩,
    ⟨some 84, .ext (.t 79) 0, none, true⟩,
    ⟨some 85, .ext (.t 79) 1, none, true⟩,
    ⟨some 86, .ext (.t 79) 2, none, true⟩,
    ⟨some 17, .alloc [.nils 1, .int .i64 0, .int .i64 0, .bool false, .int .i64 0, .int .i64 0], none, true⟩,
    ⟨some 18, .alloc [.int .i64 0, .int .i64 0, .int .i64 0, .int .i64 0, .int .i64 0, .int .i64 0, .int .i64 0, .int .i64 0, .int .i64 0, .int .i64 0, .nils 1, .int .i64 0], none, true⟩,
    ⟨none, .store 6 (.t 17) (.t 84), none, true⟩,
    ⟨none, .store 12 (.t 18) (.t 85), none, true⟩,
    ⟨some 19, .as (.t 86), none, true⟩] (some [9, 10, 12, 14, 17, 18, 19]) [15]) (
  (.seq (
  .reg none [
    ⟨some 87, .load true 12 (.t 18), none, true⟩,
    ⟨some 88, .load true 12 (.t 12), none, true⟩,
    ⟨some 89, .call 36 [.t 87, .t 88], none, true⟩,
    ⟨some 90, .mv (.t 89), none, true⟩,
    ⟨some 91, .mv (.t 19), some (90, true), true⟩,
    ⟨some 92, .fad 0 (.t 12), some (90, true), true⟩,
    ⟨some 93, .load false 1 (.t 92), some (90, true), true⟩,
    ⟨some 94, .bin .gtr (.t 93) (.c (.int .i64 0)), some (90, true), true⟩,
    ⟨some 95, .bib false (.t 91) (.t 94), some (90, true), true⟩,
    ⟨some 96, .pick (.t 90) (.t 95) (.c (.bool false)), none, true⟩,
    ⟨some 20, .as (.t 96), none, true⟩] (some [9, 10, 14, 17, 18, 19, 20]) [12]) (
  (.seq (
  .reg none [
    ⟨some 97, .load true 12 (.t 18), none, true⟩,
    ⟨some 98, .load true 12 (.t 14), none, true⟩,
    ⟨some 99, .call 36 [.t 97, .t 98], none, true⟩,
    ⟨some 100, .mv (.t 99), none, true⟩,
    ⟨some 101, .mv (.t 19), some (100, true), true⟩,
    ⟨some 102, .pick (.t 100) (.t 101) (.c (.bool false)), none, true⟩,
    ⟨some 21, .as (.t 102), none, true⟩] (some [9, 10, 17, 18, 20, 21]) [14]) (
  (.seq (
  .reg none [
    ⟨some 103, .fad 2 (.t 10), none, true⟩,
    ⟨some 104, .load false 1 (.t 103), none, true⟩,
    ⟨some 105, .bin .eql (.t 104) (.c (.int .i64 64)), none, true⟩,
    ⟨some 22, .as (.t 105), none, true⟩] (some [9, 10, 17, 18, 20, 21, 22]) []) (
  (.seq (
  .reg none [
    ⟨some 106, .mv (.t 9), none, true⟩,
    ⟨some 107, .mv (.t 106), none, true⟩,
    ⟨some 108, .mv (.t 20), some (107, true), true⟩,
    ⟨some 109, .mv (.t 108), some (107, true), true⟩,
    ⟨some 110, .mv (.t 21), some (109, false), true⟩,
    ⟨some 111, .pick (.t 109) (.c (.bool true)) (.t 110), some (107, true), true⟩,
    ⟨some 112, .pick (.t 107) (.t 111) (.c (.bool false)), none, true⟩,
    ⟨some 113, .mv (.t 112), none, true⟩,
    ⟨some 114, .mv (.t 22), some (113, true), true⟩,
    ⟨some 115, .un .not (.t 114), some (113, true), true⟩,
    ⟨some 116, .mv (.t 115), some (113, true), true⟩,
    ⟨some 117, .mv (.t 21), some (116, false), true⟩,
    ⟨some 118, .pick (.t 116) (.c (.bool true)) (.t 117), some (113, true), true⟩,
    ⟨some 119, .pick (.t 113) (.t 118) (.c (.bool false)), none, true⟩,
    ⟨some 120, .mv (.t 119), none, true⟩,
    ⟨some 121, .fad 4 (.t 17), some (120, true), true⟩,
    ⟨some 122, .load false 1 (.t 121), some (120, true), true⟩,
    ⟨some 123, .fad 0 (.t 18), some (120, true), true⟩,
    ⟨some 124, .load false 1 (.t 123), some (120, true), true⟩,
    ⟨some 125, .bin .add (.t 124) (.c (.int .i64 1)), some (120, true), true⟩,
    ⟨some 126, .bin .eql (.t 122) (.t 125), some (120, true), true⟩,
    ⟨some 127, .pick (.t 120) (.t 126) (.c (.bool false)), none, true⟩,
    ⟨some 128, .mv (.t 127), none, true⟩,
    ⟨some 129, .fad 5 (.t 17), some (128, true), true⟩,
    ⟨some 130, .load false 1 (.t 129), some (128, true), true⟩,
    ⟨some 131, .fad 0 (.t 10), some (128, true), true⟩,
    ⟨some 132, .load false 1 (.t 131), some (128, true), true⟩,
    ⟨some 133, .len 0 (.t 132), some (128, true), true⟩,
    ⟨some 134, .bin .lss (.t 130) (.t 133), some (128, true), true⟩,
    ⟨some 135, .pick (.t 128) (.t 134) (.c (.bool false)), none, true⟩,
    ⟨some 8, .as (.t 135), none, true⟩] (some [8]) [10, 17, 18]) (
  .ret))))))))))))))))))))))) (some [1, 9, 10, 11, 12, 13]) [8, 14, 15, 16, 17, 18, 19, 20, 21, 22, 55, 70, 82, 83, 89, 99])) (
  .reg none [
    ⟨some 49, .mv (.t 13), none, true⟩,
    ⟨some 50, .bin .add (.t 49) (.c (.int .i64 1)), none, true⟩,
    ⟨some 13, .as (.t 50), none, true⟩] (some [1, 9, 10, 11, 12, 13]) []))))
def A12_L0 : ACode := .loop A12_L0b (some [1, 9, 10, 11, 12, 13]) [8, 14, 15, 16, 17, 18, 19, 20, 21, 22, 55, 70, 82, 83, 89, 99]
/-- ambidexter/ambidexterlaw31.JournalSurvivesTornWrites -/
def A12 : AFn := .code [.t 8] (
(.seq (
.reg none [
  ⟨some 8, .as (.c (.bool false)), none, true⟩] (some [0, 1, 2, 3]) []) (
(.seq (
.reg none [
  ⟨some 23, .call 31 [], none, true⟩,
  ⟨some 9, .as (.t 23), none, true⟩] (some [0, 1, 2, 3, 9]) []) (
(.seq (
(.seq (
.reg none [
  ⟨some 24, .mv (.t 1), none, true⟩,
  ⟨some 25, .len 0 (.t 24), none, true⟩,
  ⟨some 26, .bin .gtr (.t 25) (.c (.int .i64 100)), none, true⟩] (some [0, 1, 2, 3, 9, 26]) []) (
(.cond (.t 26) (
  (.seq (
  .reg none [
    ⟨some 27, .mv (.t 9), none, true⟩,
    ⟨some 8, .as (.t 27), none, true⟩] (some [8]) []) (
  .ret))) (
  .skip))))) (
(.seq (
.reg none [
  ⟨some 28, .mv (.t 0), none, true⟩,
  ⟨some 29, .conv .i64 (.t 28), none, true⟩,
  ⟨some 30, .bin .rem (.t 29) (.c (.int .i64 63)), none, true⟩,
  ⟨some 31, .bin .add (.c (.int .i64 2)) (.t 30), none, true⟩,
  ⟨some 32, .call 39 [.t 31], none, true⟩,
  ⟨some 10, .alloc [.nils 1, .int .i64 0, .int .i64 0, .bool false], none, true⟩,
  ⟨none, .store 4 (.t 10) (.t 32), none, true⟩] (some [1, 2, 3, 9, 10]) [1002561]) (
(.seq (
.reg none [
  ⟨some 33, .mv (.t 2), none, true⟩,
  ⟨some 34, .conv .i64 (.t 33), none, true⟩,
  ⟨some 35, .bin .rem (.t 34) (.c (.int .i64 100)), none, true⟩,
  ⟨some 36, .bin .add (.c (.int .i64 1)) (.t 35), none, true⟩,
  ⟨some 37, .fad 1 (.t 10), none, true⟩,
  ⟨none, .store 1 (.t 37) (.t 36), none, true⟩] (some [1, 3, 9, 10]) []) (
(.seq (
.reg none [
  ⟨some 38, .mv (.t 3), none, true⟩,
  ⟨some 39, .conv .i64 (.t 38), none, true⟩,
  ⟨some 40, .bin .rem (.t 39) (.c (.int .i64 65)), none, true⟩,
  ⟨some 41, .fad 2 (.t 10), none, true⟩,
  ⟨none, .store 1 (.t 41) (.t 40), none, true⟩] (some [1, 9, 10]) []) (
(.seq (
.reg none [
  ⟨some 42, .load true 4 (.t 10), none, true⟩,
  ⟨some 43, .call 38 [.t 42], none, true⟩,
  ⟨some 11, .alloc [.nils 1, .int .i64 0, .int .i64 0, .bool false, .int .i64 0, .int .i64 0], none, true⟩,
  ⟨none, .store 6 (.t 11) (.t 43), none, true⟩] (some [1, 9, 10, 11]) [1002817]) (
(.seq (
.reg none [
  ⟨some 44, .build [.int .i64 0, .int .i64 0, .int .i64 0, .int .i64 0, .int .i64 0, .int .i64 0, .int .i64 0, .int .i64 0, .int .i64 0, .int .i64 0, .nils 1, .int .i64 0] [], none, true⟩,
  ⟨some 12, .alloc [.int .i64 0, .int .i64 0, .int .i64 0, .int .i64 0, .int .i64 0, .int .i64 0, .int .i64 0, .int .i64 0, .int .i64 0, .int .i64 0, .nils 1, .int .i64 0], none, true⟩,
  ⟨none, .store 12 (.t 12) (.t 44), none, true⟩] (some [1, 9, 10, 11, 12]) [1003083]) (
(.seq (
(.seq (
.reg none [
  ⟨some 13, .as (.c (.int .i64 0)), none, true⟩] (some [1, 9, 10, 11, 12, 13]) []) (
(.block 0 (
A12_L0) (some [9]) [8, 13, 14, 15, 16, 17, 18, 19, 20, 21, 22, 55, 70, 82, 83, 89, 99])))) (
(.seq (
.reg none [
  ⟨some 136, .mv (.t 9), none, true⟩,
  ⟨some 8, .as (.t 136), none, true⟩] (some [8]) []) (
.ret)))))))))))))))))))))
def A13_L0b : ACode := 
    (.seq (
    (.seq (
    .reg none [
      ⟨some 116, .mv (.t 19), none, true⟩,
      ⟨some 117, .mv (.t 9), none, true⟩,
      ⟨some 118, .len 0 (.t 117), none, true⟩,
      ⟨some 119, .bin .lss (.t 116) (.t 118), none, true⟩] (some [1, 2, 7, 8, 9, 10, 11, 15, 16, 17, 18, 19, 119]) []) (
    (.cond (.t 119) (
      .skip) (
      .exit 2))))) (
    (.seq (
    (.block 3 (
    .reg (some [.free, .free, .free, .free, .dr [130] [], .dr [130] [], .dr [130] [], .dr [130] [], .dr [128, 129] [], .free, .free, .free, .free]) [
      ⟨some 122, .mv (.t 18), none, true⟩,
      ⟨some 123, .mv (.t 122), none, true⟩,
      ⟨some 124, .mv (.t 17), some (123, false), true⟩,
      ⟨some 125, .mv (.t 124), some (123, false), true⟩,
      ⟨some 126, .mv (.t 9), some (125, true), true⟩,
      ⟨some 127, .mv (.t 19), some (125, true), true⟩,
      ⟨some 128, .ias 12 (.t 126) (.t 127), some (125, true), true⟩,
      ⟨some 129, .load true 12 (.t 128), some (125, true), true⟩,
      ⟨some 130, .load true 12 (.t 16), some (125, true), true⟩,
      ⟨some 131, .call 36 [.t 129, .t 130], some (125, true), true⟩,
      ⟨some 132, .pick (.t 125) (.t 131) (.c (.bool false)), some (123, false), true⟩,
      ⟨some 133, .pick (.t 123) (.c (.bool true)) (.t 132), none, true⟩,
      ⟨some 18, .as (.t 133), none, true⟩] (some [1, 2, 7, 8, 9, 10, 11, 15, 16, 17, 18, 19]) []) (some [1, 2, 7, 8, 9, 10, 11, 15, 16, 17, 18, 19]) [])) (
    .reg none [
      ⟨some 120, .mv (.t 19), none, true⟩,
      ⟨some 121, .bin .add (.t 120) (.c (.int .i64 1)), none, true⟩,
      ⟨some 19, .as (.t 121), none, true⟩] (some [1, 2, 7, 8, 9, 10, 11, 15, 16, 17, 18, 19]) []))))
def A13_L0 : ACode := .loop A13_L0b (some [1, 2, 7, 8, 9, 10, 11, 15, 16, 17, 18, 19]) []
def A13_L1b : ACode := 
  (.seq (
  (.seq (
  .reg none [
    ⟨some 37, .mv (.t 11), none, true⟩,
    ⟨some 38, .mv (.t 1), none, true⟩,
    ⟨some 39, .len 0 (.t 38), none, true⟩,
    ⟨some 40, .bin .lss (.t 37) (.t 39), none, true⟩] (some [1, 2, 7, 8, 9, 10, 11, 40]) []) (
  (.cond (.t 40) (
    .skip) (
    .exit 0))))) (
  (.seq (
  (.block 1 (
  (.seq (
  (.seq (
  .reg none [
    ⟨some 43, .mv (.t 1), none, true⟩,
    ⟨some 44, .mv (.t 11), none, true⟩,
    ⟨some 45, .ias 12 (.t 43) (.t 44), none, true⟩,
    ⟨some 46, .load true 12 (.t 45), none, true⟩,
    ⟨some 47, .call 32 [.t 46], none, true⟩] (some [1, 2, 7, 8, 9, 10, 11, 47]) []) (
  (.cond (.t 47) (
    (.seq (
    .reg none [
      ⟨some 48, .mv (.t 7), none, true⟩,
      ⟨some 6, .as (.t 48), none, true⟩] (some [6]) []) (
    .ret))) (
    .skip))))) (
  (.seq (
  (.seq (
  .reg none [
    ⟨some 49, .mv (.t 11), none, true⟩,
    ⟨some 50, .mv (.t 2), none, true⟩,
    ⟨some 51, .len 0 (.t 50), none, true⟩,
    ⟨some 52, .bin .lss (.t 49) (.t 51), none, true⟩,
    ⟨some 53, .mv (.t 52), none, true⟩,
    ⟨some 54, .mv (.t 2), some (53, true), true⟩,
    ⟨some 55, .mv (.t 11), some (53, true), true⟩,
    ⟨some 56, .ias 2 (.t 54) (.t 55), some (53, true), true⟩,
    ⟨some 57, .iaa 2 1 (.t 56) (.c (.int .i64 0)), some (53, true), true⟩,
    ⟨some 58, .load false 1 (.t 57), some (53, true), true⟩,
    ⟨some 59, .bin .rem (.t 58) (.c (.int .u8 3)), some (53, true), true⟩,
    ⟨some 60, .bin .eql (.t 59) (.c (.int .u8 0)), some (53, true), true⟩,
    ⟨some 61, .pick (.t 53) (.t 60) (.c (.bool false)), none, true⟩] (some [1, 2, 7, 8, 9, 10, 11, 61]) []) (
  (.cond (.t 61) (
    (.seq (
    .reg none [
      ⟨some 62, .fad 0 (.t 8), none, true⟩,
      ⟨some 63, .fad 1 (.t 62), none, true⟩,
      ⟨none, .store 1 (.t 63) (.c (.int .i64 1)), none, true⟩] (some [1, 2, 7, 8, 9, 10, 11]) []) (
    .reg none [
      ⟨some 64, .mv (.t 2), none, true⟩,
      ⟨some 65, .mv (.t 11), none, true⟩,
      ⟨some 66, .ias 2 (.t 64) (.t 65), none, true⟩,
      ⟨some 67, .iaa 2 1 (.t 66) (.c (.int .i64 1)), none, true⟩,
      ⟨some 68, .load false 1 (.t 67), none, true⟩,
      ⟨some 69, .conv .i64 (.t 68), none, true⟩,
      ⟨some 70, .bin .rem (.t 69) (.c (.int .i64 65)), none, true⟩,
      ⟨some 71, .fad 0 (.t 8), none, true⟩,
      ⟨some 72, .fad 2 (.t 71), none, true⟩,
      ⟨none, .store 1 (.t 72) (.t 70), none, true⟩] (some [1, 2, 7, 8, 9, 10, 11]) []))) (
    .skip))))) (
  (.seq (
  .reg none [
    ⟨some 73, .mv (.t 1), none, true⟩,
    ⟨some 74, .mv (.t 11), none, true⟩,
    ⟨some 75, .ias 12 (.t 73) (.t 74), none, true⟩,
    ⟨some 76, .load true 12 (.t 75), none, true⟩,
    ⟨some 12, .alloc [.int .i64 0, .int .i64 0, .int .i64 0, .int .i64 0, .int .i64 0, .int .i64 0, .int .i64 0, .int .i64 0, .int .i64 0, .int .i64 0, .nils 1, .int .i64 0], none, true⟩,
    ⟨none, .store 12 (.t 12) (.t 76), none, true⟩] (some [1, 2, 7, 8, 9, 10, 11, 12]) []) (
  (.seq (
  .reg none [
    ⟨some 77, .fad 4 (.t 8), none, true⟩,
    ⟨some 78, .load false 1 (.t 77), none, true⟩,
    ⟨some 79, .fad 0 (.t 12), none, true⟩,
    ⟨none, .store 1 (.t 79) (.t 78), none, true⟩] (some [1, 2, 7, 8, 9, 10, 11, 12]) []) (
  (.seq (
  .reg (some [.dr [84, 85, 13] [], .dr [81, 13] [], .dr [81, 13] [], .dr [81, 13] [], .dr [81, 13] [], .dr [13] [], .dr [13] [], .dr [13] [], .dr [13] [], .dr [81, 84, 85, 86] [], .dr [] [13], .free]) [
    ⟨some 81, .load true 6 (.t 8), none, true⟩,
    ⟨some 82, .mv (.t 1), none, true⟩,
    ⟨some 83, .mv (.t 11), none, true⟩,
    ⟨some 84, .ias 12 (.t 82) (.t 83), none, true⟩,
    ⟨some 85, .load true 12 (.t 84), none, true⟩,
    ⟨some 86, .call 40 [.t 81, .t 85], none, true⟩,
    ⟨some 80, .mv (.t 86), none, true⟩,
    ⟨some 87, .ext (.t 80) 0, none, true⟩,
    ⟨some 88, .ext (.t 80) 1, none, true⟩,
    ⟨some 13, .alloc [.nils 1, .int .i64 0, .int .i64 0, .bool false, .int .i64 0, .int .i64 0], none, true⟩,
    ⟨none, .store 6 (.t 13) (.t 87), none, true⟩,
    ⟨some 14, .as (.t 88), none, true⟩] (some [1, 2, 7, 8, 9, 10, 11, 12, 13, 14]) []) (
  (.seq (
  (.seq (
  .reg none [
    ⟨some 89, .mv (.t 14), none, true⟩,
    ⟨some 90, .bin .eql (.t 89) (.c (.int .i64 0)), none, true⟩] (some [1, 2, 7, 8, 9, 10, 11, 12, 13, 14, 90]) []) (
  (.cond (.t 90) (
    .reg none [
      ⟨some 91, .fad 0 (.t 12), none, true⟩,
      ⟨some 92, .load false 1 (.t 91), none, true⟩,
      ⟨some 10, .as (.t 92), none, true⟩] (some [1, 2, 7, 8, 9, 10, 11, 12, 13, 14]) []) (
    .skip))))) (
  (.seq (
  (.seq (
  .reg none [
    ⟨some 93, .mv (.t 14), none, true⟩,
    ⟨some 94, .bin .neq (.t 93) (.c (.int .i64 1)), none, true⟩] (some [1, 2, 7, 8, 9, 10, 11, 12, 13, 14, 94]) []) (
  (.cond (.t 94) (
    .reg none [
      ⟨some 95, .mv (.t 9), none, true⟩,
      ⟨some 96, .load true 12 (.t 12), none, true⟩,
      ⟨some 97, .bsl 12 1 [.int .i64 0, .int .i64 0, .int .i64 0, .int .i64 0, .int .i64 0, .int .i64 0, .int .i64 0, .int .i64 0, .int .i64 0, .int .i64 0, .nils 1, .int .i64 0] [(0, .t 96)], none, true⟩,
      ⟨some 98, .app 12 (.t 95) (.t 97), none, true⟩,
      ⟨some 9, .as (.t 98), none, true⟩] (some [1, 2, 7, 8, 9, 10, 11, 13, 14]) [12]) (
    .skip))))) (
  (.seq (
  .reg none [
    ⟨some 99, .load true 6 (.t 13), none, true⟩,
    ⟨none, .store 6 (.t 8) (.t 99), none, true⟩] (some [1, 2, 7, 8, 9, 10, 11, 13, 14]) []) (
  (.seq (
  (.seq (
  .reg none [
    ⟨some 100, .mv (.t 14), none, true⟩,
    ⟨some 101, .bin .neq (.t 100) (.c (.int .i64 300)), none, true⟩] (some [1, 2, 7, 8, 9, 10, 11, 13, 101]) []) (
  (.cond (.t 101) (
    .exit 1) (
    .skip))))) (
  (.seq (
  .reg none [
    ⟨some 103, .fad 0 (.t 13), none, true⟩,
    ⟨some 104, .load true 4 (.t 103), none, true⟩,
    ⟨some 105, .call 30 [.t 104], none, true⟩,
    ⟨some 106, .call 42 [.t 105], none, true⟩,
    ⟨some 102, .mv (.t 106), none, true⟩,
    ⟨some 107, .ext (.t 102) 0, none, true⟩,
    ⟨some 108, .ext (.t 102) 1, none, true⟩,
    ⟨some 109, .ext (.t 102) 2, none, true⟩,
    ⟨some 15, .alloc [.nils 1, .int .i64 0, .int .i64 0, .bool false, .int .i64 0, .int .i64 0], none, true⟩,
    ⟨some 16, .alloc [.int .i64 0, .int .i64 0, .int .i64 0, .int .i64 0, .int .i64 0, .int .i64 0, .int .i64 0, .int .i64 0, .int .i64 0, .int .i64 0, .nils 1, .int .i64 0], none, true⟩,
    ⟨none, .store 6 (.t 15) (.t 107), none, true⟩,
    ⟨none, .store 12 (.t 16) (.t 108), none, true⟩,
    ⟨some 17, .as (.t 109), none, true⟩] (some [1, 2, 7, 8, 9, 10, 11, 15, 16, 17]) [13]) (
  (.seq (
  .reg none [
    ⟨some 110, .mv (.t 17), none, true⟩,
    ⟨some 111, .un .not (.t 110), none, true⟩,
    ⟨some 112, .mv (.t 111), none, true⟩,
    ⟨some 113, .mv (.t 10), some (112, true), true⟩,
    ⟨some 114, .bin .eql (.t 113) (.c (.int .i64 0)), some (112, true), true⟩,
    ⟨some 115, .pick (.t 112) (.t 114) (.c (.bool false)), none, true⟩,
    ⟨some 18, .as (.t 115), none, true⟩] (some [1, 2, 7, 8, 9, 10, 11, 15, 16, 17, 18]) []) (
  (.seq (
  (.seq (
  .reg none [
    ⟨some 19, .as (.c (.int .i64 0)), none, true⟩] (some [1, 2, 7, 8, 9, 10, 11, 15, 16, 17, 18, 19]) []) (
  (.block 2 (
  A13_L0) (some [1, 2, 7, 8, 9, 10, 11, 15, 16, 18]) [19])))) (
  (.seq (
  (.seq (
  .reg none [
    ⟨some 134, .mv (.t 18), none, true⟩,
    ⟨some 135, .un .not (.t 134), none, true⟩,
    ⟨some 136, .mv (.t 135), none, true⟩,
    ⟨some 137, .fad 0 (.t 16), some (136, false), true⟩,
    ⟨some 138, .load false 1 (.t 137), some (136, false), true⟩,
    ⟨some 139, .mv (.t 10), some (136, false), true⟩,
    ⟨some 140, .bin .lss (.t 138) (.t 139), some (136, false), true⟩,
    ⟨some 141, .pick (.t 136) (.c (.bool true)) (.t 140), none, true⟩,
    ⟨some 142, .mv (.t 141), none, true⟩,
    ⟨some 143, .fad 4 (.t 15), some (142, false), true⟩,
    ⟨some 144, .load false 1 (.t 143), some (142, false), true⟩,
    ⟨some 145, .fad 0 (.t 16), some (142, false), true⟩,
    ⟨some 146, .load false 1 (.t 145), some (142, false), true⟩,
    ⟨some 147, .bin .add (.t 146) (.c (.int .i64 1)), some (142, false), true⟩,
    ⟨some 148, .bin .neq (.t 144) (.t 147), some (142, false), true⟩,
    ⟨some 149, .pick (.t 142) (.c (.bool true)) (.t 148), none, true⟩,
    ⟨some 150, .mv (.t 149), none, true⟩,
    ⟨some 151, .fad 5 (.t 15), some (150, false), true⟩,
    ⟨some 152, .load false 1 (.t 151), some (150, false), true⟩,
    ⟨some 153, .bin .lss (.t 152) (.c (.int .i64 0)), some (150, false), true⟩,
    ⟨some 154, .pick (.t 150) (.c (.bool true)) (.t 153), none, true⟩,
    ⟨some 155, .mv (.t 154), none, true⟩,
    ⟨some 156, .fad 5 (.t 15), some (155, false), true⟩,
    ⟨some 157, .load false 1 (.t 156), some (155, false), true⟩,
    ⟨some 158, .fad 0 (.t 8), some (155, false), true⟩,
    ⟨some 159, .fad 0 (.t 158), some (155, false), true⟩,
    ⟨some 160, .load false 1 (.t 159), some (155, false), true⟩,
    ⟨some 161, .len 0 (.t 160), some (155, false), true⟩,
    ⟨some 162, .bin .geq (.t 157) (.t 161), some (155, false), true⟩,
    ⟨some 163, .pick (.t 155) (.c (.bool true)) (.t 162), none, true⟩] (some [1, 2, 7, 8, 9, 11, 15, 16, 163]) []) (
  (.cond (.t 163) (
    (.seq (
    .reg none [
      ⟨some 6, .as (.c (.bool false)), none, true⟩] (some [6]) []) (
    .ret))) (
    .skip))))) (
  (.seq (
  .reg none [
    ⟨some 164, .fad 0 (.t 16), none, true⟩,
    ⟨some 165, .load false 1 (.t 164), none, true⟩,
    ⟨some 10, .as (.t 165), none, true⟩] (some [1, 2, 7, 8, 9, 10, 11, 15]) [16]) (
  .reg none [
    ⟨some 166, .load true 6 (.t 15), none, true⟩,
    ⟨none, .store 6 (.t 8) (.t 166), none, true⟩] (some [1, 2, 7, 8, 9, 10, 11]) [15]))))))))))))))))))))))))))))) (some [1, 2, 7, 8, 9, 10, 11]) [6, 12, 13, 14, 15, 16, 17, 18, 19, 47, 86, 97, 105, 106, 131])) (
  .reg none [
    ⟨some 41, .mv (.t 11), none, true⟩,
    ⟨some 42, .bin .add (.t 41) (.c (.int .i64 1)), none, true⟩,
    ⟨some 11, .as (.t 42), none, true⟩] (some [1, 2, 7, 8, 9, 10, 11]) []))))
def A13_L1 : ACode := .loop A13_L1b (some [1, 2, 7, 8, 9, 10, 11]) [6, 12, 13, 14, 15, 16, 17, 18, 19, 47, 86, 97, 105, 106, 131]
/-- ambidexter/ambidexterlaw31.JournalSurvivesRepeatedCrashes -/
def A13 : AFn := .code [.t 6] (
(.seq (
.reg none [
  ⟨some 6, .as (.c (.bool false)), none, true⟩] (some [0, 1, 2]) []) (
(.seq (
.reg none [
  ⟨some 20, .call 31 [], none, true⟩,
  ⟨some 7, .as (.t 20), none, true⟩] (some [0, 1, 2, 7]) []) (
(.seq (
(.seq (
.reg none [
  ⟨some 21, .mv (.t 1), none, true⟩,
  ⟨some 22, .len 0 (.t 21), none, true⟩,
  ⟨some 23, .bin .gtr (.t 22) (.c (.int .i64 100)), none, true⟩,
  ⟨some 24, .mv (.t 23), none, true⟩,
  ⟨some 25, .mv (.t 2), some (24, false), true⟩,
  ⟨some 26, .len 0 (.t 25), some (24, false), true⟩,
  ⟨some 27, .bin .gtr (.t 26) (.c (.int .i64 100)), some (24, false), true⟩,
  ⟨some 28, .pick (.t 24) (.c (.bool true)) (.t 27), none, true⟩] (some [0, 1, 2, 7, 28]) []) (
(.cond (.t 28) (
  (.seq (
  .reg none [
    ⟨some 29, .mv (.t 7), none, true⟩,
    ⟨some 6, .as (.t 29), none, true⟩] (some [6]) []) (
  .ret))) (
  .skip))))) (
(.seq (
.reg none [
  ⟨some 30, .mv (.t 0), none, true⟩,
  ⟨some 31, .conv .i64 (.t 30), none, true⟩,
  ⟨some 32, .bin .rem (.t 31) (.c (.int .i64 7)), none, true⟩,
  ⟨some 33, .bin .add (.c (.int .i64 2)) (.t 32), none, true⟩,
  ⟨some 34, .call 39 [.t 33], none, true⟩,
  ⟨some 35, .call 38 [.t 34], none, true⟩,
  ⟨some 8, .alloc [.nils 1, .int .i64 0, .int .i64 0, .bool false, .int .i64 0, .int .i64 0], none, true⟩,
  ⟨none, .store 6 (.t 8) (.t 35), none, true⟩] (some [1, 2, 7, 8]) [1002049]) (
(.seq (
.reg none [
  ⟨some 36, .bsl 12 0 [.int .i64 0, .int .i64 0, .int .i64 0, .int .i64 0, .int .i64 0, .int .i64 0, .int .i64 0, .int .i64 0, .int .i64 0, .int .i64 0, .nils 1, .int .i64 0] [], none, true⟩,
  ⟨some 9, .as (.t 36), none, true⟩] (some [1, 2, 7, 8, 9]) []) (
(.seq (
.reg none [
  ⟨some 10, .as (.c (.int .i64 0)), none, true⟩] (some [1, 2, 7, 8, 9, 10]) []) (
(.seq (
(.seq (
.reg none [
  ⟨some 11, .as (.c (.int .i64 0)), none, true⟩] (some [1, 2, 7, 8, 9, 10, 11]) []) (
(.block 0 (
A13_L1) (some [7]) [6, 9, 10, 11, 12, 13, 14, 15, 16, 17, 18, 19, 47, 86, 97, 98, 105, 106, 131])))) (
(.seq (
.reg none [
  ⟨some 167, .mv (.t 7), none, true⟩,
  ⟨some 6, .as (.t 167), none, true⟩] (some [6]) []) (
.ret)))))))))))))))))
/-- ambidexter/ambidexterlaw30.head -/
def A15 : AFn := .code [.t 0] (
(.seq (
.reg none [
  ⟨some 0, .as (.c (.bool false)), none, true⟩] (some []) []) (
(.seq (
.reg none [
  ⟨some 14, .call 17 [.c (.int .i64 2)], none, true⟩,
  ⟨some 13, .mv (.t 14), none, true⟩,
  ⟨some 15, .ext (.t 13) 0, none, true⟩,
  ⟨some 16, .ext (.t 13) 1, none, true⟩,
  ⟨some 1, .alloc [.nils 1, .int .i64 0, .int .i64 0, .bool false], none, true⟩,
  ⟨none, .store 4 (.t 1) (.t 15), none, true⟩,
  ⟨some 2, .as (.t 16), none, true⟩] (some [1, 2]) []) (
(.seq (
.reg none [
  ⟨some 17, .fad 1 (.t 1), none, true⟩,
  ⟨none, .store 1 (.t 17) (.c (.int .i64 1)), none, true⟩] (some [1, 2]) []) (
(.seq (
.reg none [
  ⟨some 18, .fad 2 (.t 1), none, true⟩,
  ⟨none, .store 1 (.t 18) (.c (.int .i64 1)), none, true⟩] (some [1, 2]) []) (
(.seq (
.reg none [
  ⟨some 20, .load true 4 (.t 1), none, true⟩,
  ⟨some 21, .bsl 1 2 [.int .u8 0] [(0, .c (.int .u8 7)), (1, .c (.int .u8 8))], none, true⟩,
  ⟨some 22, .call 29 [.t 20, .c (.int .i64 0), .t 21], none, true⟩,
  ⟨some 19, .mv (.t 22), none, true⟩,
  ⟨some 23, .ext (.t 19) 0, none, true⟩,
  ⟨some 24, .ext (.t 19) 1, none, true⟩,
  ⟨some 3, .alloc [.nils 1, .int .i64 0, .int .i64 0, .bool false], none, true⟩,
  ⟨none, .store 4 (.t 3) (.t 23), none, true⟩,
  ⟨some 4, .as (.t 24), none, true⟩] (some [1, 2, 3, 4]) []) (
(.seq (
.reg none [
  ⟨some 26, .load true 4 (.t 3), none, true⟩,
  ⟨some 27, .call 25 [.t 26, .c (.int .i64 0)], none, true⟩,
  ⟨some 25, .mv (.t 27), none, true⟩,
  ⟨some 28, .ext (.t 25) 0, none, true⟩,
  ⟨some 29, .ext (.t 25) 1, none, true⟩,
  ⟨some 5, .as (.t 28), none, true⟩,
  ⟨some 6, .as (.t 29), none, true⟩] (some [1, 2, 3, 4, 6]) []) (
(.seq (
.reg none [
  ⟨some 31, .load true 4 (.t 3), none, true⟩,
  ⟨some 32, .call 30 [.t 31], none, true⟩,
  ⟨some 33, .call 25 [.t 32, .c (.int .i64 0)], none, true⟩,
  ⟨some 30, .mv (.t 33), none, true⟩,
  ⟨some 34, .ext (.t 30) 0, none, true⟩,
  ⟨some 35, .ext (.t 30) 1, none, true⟩,
  ⟨some 7, .as (.t 34), none, true⟩,
  ⟨some 8, .as (.t 35), none, true⟩] (some [1, 2, 3, 4, 6, 7, 8]) []) (
(.seq (
.reg none [
  ⟨some 37, .call 17 [.c (.int .i64 65)], none, true⟩,
  ⟨some 36, .mv (.t 37), none, true⟩,
  ⟨some 38, .ext (.t 36) 0, none, true⟩,
  ⟨some 39, .ext (.t 36) 1, none, true⟩,
  ⟨some 9, .alloc [.nils 1, .int .i64 0, .int .i64 0, .bool false], none, true⟩,
  ⟨none, .store 4 (.t 9) (.t 38), none, true⟩,
  ⟨some 10, .as (.t 39), none, true⟩] (some [1, 2, 3, 4, 6, 7, 8, 10]) [9]) (
(.seq (
.reg none [
  ⟨some 41, .load true 4 (.t 3), none, true⟩,
  ⟨some 42, .call 30 [.t 41], none, true⟩,
  ⟨some 43, .call 29 [.t 42, .c (.int .i64 2), .c (.nul)], none, true⟩,
  ⟨some 40, .mv (.t 43), none, true⟩,
  ⟨some 44, .ext (.t 40) 0, none, true⟩,
  ⟨some 45, .ext (.t 40) 1, none, true⟩,
  ⟨some 11, .alloc [.nils 1, .int .i64 0, .int .i64 0, .bool false], none, true⟩,
  ⟨none, .store 4 (.t 11) (.t 44), none, true⟩,
  ⟨some 12, .as (.t 45), none, true⟩] (some [1, 2, 3, 4, 6, 7, 8, 10, 12]) [11]) (
(.seq (
(.seq (
.reg none [
  ⟨some 46, .mv (.t 7), none, true⟩,
  ⟨some 47, .len 0 (.t 46), none, true⟩,
  ⟨some 48, .bin .neq (.t 47) (.c (.int .i64 64)), none, true⟩] (some [1, 2, 3, 4, 6, 7, 8, 10, 12, 48]) []) (
(.cond (.t 48) (
  (.seq (
  .reg none [
    ⟨some 0, .as (.c (.bool false)), none, true⟩] (some [0]) []) (
  .ret))) (
  .skip))))) (
(.seq (
.reg none [
  ⟨some 49, .mv (.t 2), none, true⟩,
  ⟨some 50, .bin .eql (.t 49) (.c (.int .i64 0)), none, true⟩,
  ⟨some 51, .mv (.t 50), none, true⟩,
  ⟨some 52, .fad 0 (.t 1), some (51, true), true⟩,
  ⟨some 53, .load false 1 (.t 52), some (51, true), true⟩,
  ⟨some 54, .len 0 (.t 53), some (51, true), true⟩,
  ⟨some 55, .bin .eql (.t 54) (.c (.int .i64 2)), some (51, true), true⟩,
  ⟨some 56, .pick (.t 51) (.t 55) (.c (.bool false)), none, true⟩,
  ⟨some 57, .mv (.t 56), none, true⟩,
  ⟨some 58, .mv (.t 4), some (57, true), true⟩,
  ⟨some 59, .bin .eql (.t 58) (.c (.int .i64 300)), some (57, true), true⟩,
  ⟨some 60, .pick (.t 57) (.t 59) (.c (.bool false)), none, true⟩,
  ⟨some 61, .mv (.t 60), none, true⟩,
  ⟨some 62, .fad 3 (.t 3), some (61, true), true⟩,
  ⟨some 63, .load false 1 (.t 62), some (61, true), true⟩,
  ⟨some 64, .pick (.t 61) (.t 63) (.c (.bool false)), none, true⟩,
  ⟨some 65, .mv (.t 64), none, true⟩,
  ⟨some 66, .fad 1 (.t 3), some (65, true), true⟩,
  ⟨some 67, .load false 1 (.t 66), some (65, true), true⟩,
  ⟨some 68, .bin .eql (.t 67) (.c (.int .i64 (-1))), some (65, true), true⟩,
  ⟨some 69, .pick (.t 65) (.t 68) (.c (.bool false)), none, true⟩,
  ⟨some 70, .mv (.t 69), none, true⟩,
  ⟨some 71, .fad 2 (.t 3), some (70, true), true⟩,
  ⟨some 72, .load false 1 (.t 71), some (70, true), true⟩,
  ⟨some 73, .bin .eql (.t 72) (.c (.int .i64 0)), some (70, true), true⟩,
  ⟨some 74, .pick (.t 70) (.t 73) (.c (.bool false)), none, true⟩,
  ⟨some 75, .mv (.t 74), none, true⟩,
  ⟨some 76, .mv (.t 6), some (75, true), true⟩,
  ⟨some 77, .bin .eql (.t 76) (.c (.int .i64 300)), some (75, true), true⟩,
  ⟨some 78, .pick (.t 75) (.t 77) (.c (.bool false)), none, true⟩,
  ⟨some 79, .mv (.t 78), none, true⟩,
  ⟨some 80, .mv (.t 7), some (79, true), true⟩,
  ⟨some 81, .ias 1 (.t 80) (.c (.int .i64 0)), some (79, true), true⟩,
  ⟨some 82, .load false 1 (.t 81), some (79, true), true⟩,
  ⟨some 83, .bin .eql (.t 82) (.c (.int .u8 7)), some (79, true), true⟩,
  ⟨some 84, .pick (.t 79) (.t 83) (.c (.bool false)), none, true⟩,
  ⟨some 85, .mv (.t 84), none, true⟩,
  ⟨some 86, .mv (.t 7), some (85, true), true⟩,
  ⟨some 87, .ias 1 (.t 86) (.c (.int .i64 1)), some (85, true), true⟩,
  ⟨some 88, .load false 1 (.t 87), some (85, true), true⟩,
  ⟨some 89, .bin .eql (.t 88) (.c (.int .u8 0)), some (85, true), true⟩,
  ⟨some 90, .pick (.t 85) (.t 89) (.c (.bool false)), none, true⟩,
  ⟨some 91, .mv (.t 90), none, true⟩,
  ⟨some 92, .mv (.t 8), some (91, true), true⟩,
  ⟨some 93, .bin .eql (.t 92) (.c (.int .i64 0)), some (91, true), true⟩,
  ⟨some 94, .pick (.t 91) (.t 93) (.c (.bool false)), none, true⟩,
  ⟨some 95, .mv (.t 94), none, true⟩,
  ⟨some 96, .mv (.t 10), some (95, true), true⟩,
  ⟨some 97, .bin .eql (.t 96) (.c (.int .i64 1)), some (95, true), true⟩,
  ⟨some 98, .pick (.t 95) (.t 97) (.c (.bool false)), none, true⟩,
  ⟨some 99, .mv (.t 98), none, true⟩,
  ⟨some 100, .mv (.t 12), some (99, true), true⟩,
  ⟨some 101, .bin .eql (.t 100) (.c (.int .i64 1)), some (99, true), true⟩,
  ⟨some 102, .pick (.t 99) (.t 101) (.c (.bool false)), none, true⟩,
  ⟨some 103, .mv (.t 102), none, true⟩,
  ⟨some 104, .load true 4 (.t 3), some (103, true), true⟩,
  ⟨some 105, .call 20 [.t 104], some (103, true), true⟩,
  ⟨some 106, .pick (.t 103) (.t 105) (.c (.bool false)), none, true⟩,
  ⟨some 107, .mv (.t 106), none, true⟩,
  ⟨some 108, .build [.nils 1, .int .i64 0, .int .i64 0, .bool false] [], some (107, true), true⟩,
  ⟨some 109, .call 20 [.t 108], some (107, true), true⟩,
  ⟨some 110, .un .not (.t 109), some (107, true), true⟩,
  ⟨some 111, .pick (.t 107) (.t 110) (.c (.bool false)), none, true⟩,
  ⟨some 0, .as (.t 111), none, true⟩] (some [0]) [1, 3]) (
.ret)))))))))))))))))))))))
def A16_L0b : ACode := 
  (.seq (
  (.seq (
  .reg none [
    ⟨some 7, .mv (.t 3), none, true⟩,
    ⟨some 8, .mv (.t 0), none, true⟩,
    ⟨some 9, .len 0 (.t 8), none, true⟩,
    ⟨some 10, .bin .lss (.t 7) (.t 9), none, true⟩] (some [0, 3, 10]) []) (
  (.cond (.t 10) (
    .skip) (
    .exit 0))))) (
  (.seq (
  (.block 1 (
  (.seq (
  .reg none [
    ⟨some 13, .mv (.t 0), none, true⟩,
    ⟨some 14, .mv (.t 3), none, true⟩,
    ⟨some 15, .ias 5 (.t 13) (.t 14), none, true⟩,
    ⟨some 16, .fad 4 (.t 15), none, true⟩,
    ⟨some 17, .load false 1 (.t 16), none, true⟩,
    ⟨some 18, .len 0 (.t 17), none, true⟩,
    ⟨some 19, .bin .gtr (.t 18) (.c (.int .i64 100)), none, true⟩] (some [0, 3, 19]) []) (
  (.cond (.t 19) (
    (.seq (
    .reg none [
      ⟨some 2, .as (.c (.bool true)), none, true⟩] (some [2]) []) (
    .ret))) (
    .skip))))) (some [0, 3]) [2])) (
  .reg none [
    ⟨some 11, .mv (.t 3), none, true⟩,
    ⟨some 12, .bin .add (.t 11) (.c (.int .i64 1)), none, true⟩,
    ⟨some 3, .as (.t 12), none, true⟩] (some [0, 3]) []))))
def A16_L0 : ACode := .loop A16_L0b (some [0, 3]) [2]
/-- ambidexter/ambidexterlaw30.Great -/
def A16 : AFn := .code [.t 2] (
(.seq (
.reg none [
  ⟨some 2, .as (.c (.bool false)), none, true⟩] (some [0]) []) (
(.seq (
(.seq (
.reg none [
  ⟨some 4, .mv (.t 0), none, true⟩,
  ⟨some 5, .len 0 (.t 4), none, true⟩,
  ⟨some 6, .bin .gtr (.t 5) (.c (.int .i64 60)), none, true⟩] (some [0, 6]) []) (
(.cond (.t 6) (
  (.seq (
  .reg none [
    ⟨some 2, .as (.c (.bool true)), none, true⟩] (some [2]) []) (
  .ret))) (
  .skip))))) (
(.seq (
(.seq (
.reg none [
  ⟨some 3, .as (.c (.int .i64 0)), none, true⟩] (some [0, 3]) []) (
(.block 0 (
A16_L0) (some []) [2, 3])))) (
(.seq (
.reg none [
  ⟨some 2, .as (.c (.bool false)), none, true⟩] (some [2]) []) (
.ret)))))))))
def A17_L0b : ACode := 
  (.seq (
  .reg none [
    ⟨some 20, .bin .lss (.t 19) (.t 18), none, true⟩] (some [2, 4, 18, 19, 20]) []) (
  (.seq (
  (.cond (.t 20) (
    .skip) (
    .exit 0))) (
  (.seq (
  (.block 1 (
  (.seq (
  .reg none [
    ⟨some 21, .mv (.t 19), none, true⟩,
    ⟨some 5, .as (.t 21), none, true⟩] (some [2, 4, 5, 18, 19]) []) (
  .reg (some [.dr [25] [], .dr [25] [], .dr [23, 25] [], .dr [23] [], .free, .free]) [
    ⟨some 22, .fad 0 (.t 4), none, true⟩,
    ⟨some 23, .load false 1 (.t 22), none, true⟩,
    ⟨some 24, .mv (.t 5), none, true⟩,
    ⟨some 25, .mks 1 [.int .u8 0] (.c (.int .i64 64)) (.c (.int .i64 64)), none, true⟩,
    ⟨some 26, .ias 1 (.t 23) (.t 24), none, true⟩,
    ⟨none, .store 1 (.t 26) (.t 25), none, true⟩] (some [2, 4, 18, 19]) []))) (some [2, 4, 18, 19]) [5, 25])) (
  .reg none [
    ⟨some 27, .bin .add (.t 19) (.c (.int .i64 1)), none, true⟩,
    ⟨some 19, .mv (.t 27), none, true⟩] (some [2, 4, 18, 19]) []))))))
def A17_L0 : ACode := .loop A17_L0b (some [2, 4, 18, 19]) [5, 25]
/-- ambidexter/disk.New -/
def A17 : AFn := .code [.cell true 4 2, .t 3] (
(.seq (
.reg none [
  ⟨some 2, .alloc [.nils 1, .int .i64 0, .int .i64 0, .bool false], none, true⟩,
  ⟨some 3, .as (.c (.int .i64 0)), none, true⟩] (some [0, 2]) []) (
(.seq (
(.seq (
.reg none [
  ⟨some 6, .mv (.t 0), none, true⟩,
  ⟨some 7, .bin .lss (.t 6) (.c (.int .i64 1)), none, true⟩,
  ⟨some 8, .mv (.t 7), none, true⟩,
  ⟨some 9, .mv (.t 0), some (8, false), true⟩,
  ⟨some 10, .bin .gtr (.t 9) (.c (.int .i64 64)), some (8, false), true⟩,
  ⟨some 11, .pick (.t 8) (.c (.bool true)) (.t 10), none, true⟩] (some [0, 2, 11]) []) (
(.cond (.t 11) (
  (.seq (
  .reg none [
    ⟨some 12, .build [.nils 1, .int .i64 0, .int .i64 0, .bool false] [], none, true⟩,
    ⟨none, .store 4 (.t 2) (.t 12), none, true⟩,
    ⟨some 3, .as (.c (.int .i64 1)), none, true⟩] (some [2, 3]) []) (
  .ret))) (
  .skip))))) (
(.seq (
.reg none [
  ⟨some 13, .mv (.t 0), none, true⟩,
  ⟨some 14, .mks 1 [.nils 1] (.t 13) (.t 13), none, true⟩,
  ⟨some 15, .build [.nils 1, .int .i64 0, .int .i64 0, .bool false] [(1, 1, .c (.int .i64 (-1))), (0, 1, .t 14)], none, true⟩,
  ⟨some 4, .alloc [.nils 1, .int .i64 0, .int .i64 0, .bool false], none, true⟩,
  ⟨none, .store 4 (.t 4) (.t 15), none, true⟩] (some [2, 4]) []) (
(.seq (
(.seq (
.reg none [
  ⟨some 16, .fad 0 (.t 4), none, true⟩,
  ⟨some 17, .load false 1 (.t 16), none, true⟩,
  ⟨some 18, .len 0 (.t 17), none, true⟩,
  ⟨some 19, .mv (.c (.int .i64 0)), none, true⟩] (some [2, 4, 18, 19]) []) (
(.block 0 (
A17_L0) (some [2, 4]) [5, 25])))) (
(.seq (
.reg none [
  ⟨some 28, .load true 4 (.t 4), none, true⟩,
  ⟨none, .store 4 (.t 2) (.t 28), none, true⟩,
  ⟨some 3, .as (.c (.int .i64 0)), none, true⟩] (some [2, 3]) [4]) (
.ret)))))))))))
def A18_L0b : ACode := 
  (.seq (
  (.seq (
  .reg none [
    ⟨some 14, .mv (.t 5), none, true⟩,
    ⟨some 15, .mv (.t 0), none, true⟩,
    ⟨some 16, .bin .lss (.t 14) (.t 15), none, true⟩] (some [0, 2, 4, 5, 16]) []) (
  (.cond (.t 16) (
    .skip) (
    .exit 0))))) (
  (.seq (
  (.block 1 (
  .reg (some [.dr [21, 22] [], .dr [21, 22] [], .dr [20] [], .dr [20] [], .free, .free, .free]) [
    ⟨some 19, .fad 0 (.t 4), none, true⟩,
    ⟨some 20, .load false 1 (.t 19), none, true⟩,
    ⟨some 21, .mks 1 [.int .u8 0] (.c (.int .i64 64)) (.c (.int .i64 64)), none, false⟩,
    ⟨some 22, .bsl 1 1 [.nils 1] [(0, .t 21)], none, true⟩,
    ⟨some 23, .app 1 (.t 20) (.t 22), none, true⟩,
    ⟨some 24, .fad 0 (.t 4), none, true⟩,
    ⟨none, .store 1 (.t 24) (.t 23), none, true⟩] (some [0, 2, 4, 5]) []) (some [0, 2, 4, 5]) [21, 22, 23])) (
  .reg none [
    ⟨some 17, .mv (.t 5), none, true⟩,
    ⟨some 18, .bin .add (.t 17) (.c (.int .i64 1)), none, true⟩,
    ⟨some 5, .as (.t 18), none, true⟩] (some [0, 2, 4, 5]) []))))
def A18_L0 : ACode := .loop A18_L0b (some [0, 2, 4, 5]) [21, 22, 23]
/-- ambidexter/ambidexterref30.New -/
def A18 : AFn := .code [.cell true 4 2, .t 3] (
(.seq (
.reg none [
  ⟨some 2, .alloc [.nils 1, .int .i64 0, .int .i64 0, .bool false], none, true⟩,
  ⟨some 3, .as (.c (.int .i64 0)), none, true⟩] (some [0, 2]) []) (
(.seq (
.reg none [
  ⟨some 6, .build [.nils 1, .int .i64 0, .int .i64 0, .bool false] [(1, 1, .c (.int .i64 (-1)))], none, true⟩,
  ⟨some 4, .alloc [.nils 1, .int .i64 0, .int .i64 0, .bool false], none, true⟩,
  ⟨none, .store 4 (.t 4) (.t 6), none, true⟩] (some [0, 2, 4]) []) (
(.seq (
(.seq (
.reg none [
  ⟨some 7, .mv (.t 0), none, true⟩,
  ⟨some 8, .bin .lss (.t 7) (.c (.int .i64 1)), none, true⟩,
  ⟨some 9, .mv (.t 8), none, true⟩,
  ⟨some 10, .mv (.t 0), some (9, false), true⟩,
  ⟨some 11, .bin .gtr (.t 10) (.c (.int .i64 64)), some (9, false), true⟩,
  ⟨some 12, .pick (.t 9) (.c (.bool true)) (.t 11), none, true⟩] (some [0, 2, 4, 12]) []) (
(.cond (.t 12) (
  (.seq (
  .reg none [
    ⟨some 13, .build [.nils 1, .int .i64 0, .int .i64 0, .bool false] [], none, true⟩,
    ⟨none, .store 4 (.t 2) (.t 13), none, true⟩,
    ⟨some 3, .as (.c (.int .i64 1)), none, true⟩] (some [2, 3]) []) (
  .ret))) (
  .skip))))) (
(.seq (
(.seq (
.reg none [
  ⟨some 5, .as (.c (.int .i64 0)), none, true⟩] (some [0, 2, 4, 5]) []) (
(.block 0 (
A18_L0) (some [2, 4]) [5, 21, 22, 23])))) (
(.seq (
.reg none [
  ⟨some 25, .load true 4 (.t 4), none, true⟩,
  ⟨none, .store 4 (.t 2) (.t 25), none, true⟩,
  ⟨some 3, .as (.c (.int .i64 0)), none, true⟩] (some [2, 3]) [4]) (
.ret)))))))))))
def A19_L0b : ACode := 
  (.seq (
  (.seq (
  .reg none [
    ⟨some 34, .mv (.t 5), none, true⟩,
    ⟨some 35, .fad 0 (.t 2), none, true⟩,
    ⟨some 36, .load false 1 (.t 35), none, true⟩,
    ⟨some 37, .len 0 (.t 36), none, true⟩,
    ⟨some 38, .bin .lss (.t 34) (.t 37), none, true⟩] (some [2, 3, 5, 38]) []) (
  (.cond (.t 38) (
    .skip) (
    .exit 0))))) (
  (.seq (
  (.block 1 (
  (.seq (
  .reg (some [.dr [47, 49, 50] [], .dr [47, 49, 50] [], .dr [42, 47, 49, 50] [], .dr [47, 49, 50] [], .dr [47, 49, 50] [], .dr [42, 44, 45] [], .dr [42, 44, 45] [], .dr [42, 44, 45, 47] [], .dr [42, 44, 45] [], .dr [42, 44, 45] [], .free, .free]) [
    ⟨some 41, .fad 0 (.t 2), none, true⟩,
    ⟨some 42, .load false 1 (.t 41), none, true⟩,
    ⟨some 43, .mv (.t 5), none, true⟩,
    ⟨some 44, .ias 1 (.t 42) (.t 43), none, true⟩,
    ⟨some 45, .load false 1 (.t 44), none, true⟩,
    ⟨some 46, .fad 0 (.t 3), none, true⟩,
    ⟨some 47, .load false 1 (.t 46), none, true⟩,
    ⟨some 48, .mv (.t 5), none, true⟩,
    ⟨some 49, .ias 1 (.t 47) (.t 48), none, true⟩,
    ⟨some 50, .load false 1 (.t 49), none, true⟩,
    ⟨some 51, .call 27 [.t 45, .t 50], none, true⟩,
    ⟨some 52, .un .not (.t 51), none, true⟩] (some [2, 3, 5, 52]) []) (
  (.cond (.t 52) (
    (.seq (
    .reg none [
      ⟨some 4, .as (.c (.bool false)), none, true⟩] (some [4]) []) (
    .ret))) (
    .skip))))) (some [2, 3, 5]) [4, 51])) (
  .reg none [
    ⟨some 39, .mv (.t 5), none, true⟩,
    ⟨some 40, .bin .add (.t 39) (.c (.int .i64 1)), none, true⟩,
    ⟨some 5, .as (.t 40), none, true⟩] (some [2, 3, 5]) []))))
def A19_L0 : ACode := .loop A19_L0b (some [2, 3, 5]) [4, 51]
/-- ambidexter/ambidexterref30.Same -/
def A19 : AFn := .code [.t 4] (
(.seq (
.reg none [
  ⟨some 2, .box (.t 0), none, true⟩,
  ⟨some 3, .box (.t 1), none, true⟩,
  ⟨some 4, .as (.c (.bool false)), none, true⟩] (some [2, 3]) []) (
(.seq (
(.seq (
.reg none [
  ⟨some 6, .fad 0 (.t 2), none, true⟩,
  ⟨some 7, .load false 1 (.t 6), none, true⟩,
  ⟨some 8, .len 0 (.t 7), none, true⟩,
  ⟨some 9, .fad 0 (.t 3), none, true⟩,
  ⟨some 10, .load false 1 (.t 9), none, true⟩,
  ⟨some 11, .len 0 (.t 10), none, true⟩,
  ⟨some 12, .bin .neq (.t 8) (.t 11), none, true⟩,
  ⟨some 13, .mv (.t 12), none, true⟩,
  ⟨some 14, .fad 1 (.t 2), some (13, false), true⟩,
  ⟨some 15, .load false 1 (.t 14), some (13, false), true⟩,
  ⟨some 16, .fad 1 (.t 3), some (13, false), true⟩,
  ⟨some 17, .load false 1 (.t 16), some (13, false), true⟩,
  ⟨some 18, .bin .neq (.t 15) (.t 17), some (13, false), true⟩,
  ⟨some 19, .pick (.t 13) (.c (.bool true)) (.t 18), none, true⟩,
  ⟨some 20, .mv (.t 19), none, true⟩,
  ⟨some 21, .fad 2 (.t 2), some (20, false), true⟩,
  ⟨some 22, .load false 1 (.t 21), some (20, false), true⟩,
  ⟨some 23, .fad 2 (.t 3), some (20, false), true⟩,
  ⟨some 24, .load false 1 (.t 23), some (20, false), true⟩,
  ⟨some 25, .bin .neq (.t 22) (.t 24), some (20, false), true⟩,
  ⟨some 26, .pick (.t 20) (.c (.bool true)) (.t 25), none, true⟩,
  ⟨some 27, .mv (.t 26), none, true⟩,
  ⟨some 28, .fad 3 (.t 2), some (27, false), true⟩,
  ⟨some 29, .load false 1 (.t 28), some (27, false), true⟩,
  ⟨some 30, .fad 3 (.t 3), some (27, false), true⟩,
  ⟨some 31, .load false 1 (.t 30), some (27, false), true⟩,
  ⟨some 32, .bib true (.t 29) (.t 31), some (27, false), true⟩,
  ⟨some 33, .pick (.t 27) (.c (.bool true)) (.t 32), none, true⟩] (some [2, 3, 33]) []) (
(.cond (.t 33) (
  (.seq (
  .reg none [
    ⟨some 4, .as (.c (.bool false)), none, true⟩] (some [4]) []) (
  .ret))) (
  .skip))))) (
(.seq (
(.seq (
.reg none [
  ⟨some 5, .as (.c (.int .i64 0)), none, true⟩] (some [2, 3, 5]) []) (
(.block 0 (
A19_L0) (some []) [4, 5, 51])))) (
(.seq (
.reg none [
  ⟨some 4, .as (.c (.bool true)), none, true⟩] (some [4]) []) (
.ret)))))))))
/-- ambidexter/disk.Valid -/
def A20 : AFn := .code [.t 2] (
(.seq (
.reg none [
  ⟨some 1, .box (.t 0), none, true⟩,
  ⟨some 2, .as (.c (.bool false)), none, true⟩] (some [1]) []) (
(.seq (
(.seq (
.reg none [
  ⟨some 3, .fad 0 (.t 1), none, true⟩,
  ⟨some 4, .load false 1 (.t 3), none, true⟩,
  ⟨some 5, .len 0 (.t 4), none, true⟩,
  ⟨some 6, .bin .eql (.t 5) (.c (.int .i64 0)), none, true⟩,
  ⟨some 7, .mv (.t 6), none, true⟩,
  ⟨some 8, .fad 0 (.t 1), some (7, false), true⟩,
  ⟨some 9, .load false 1 (.t 8), some (7, false), true⟩,
  ⟨some 10, .len 0 (.t 9), some (7, false), true⟩,
  ⟨some 11, .bin .gtr (.t 10) (.c (.int .i64 64)), some (7, false), true⟩,
  ⟨some 12, .pick (.t 7) (.c (.bool true)) (.t 11), none, true⟩,
  ⟨some 13, .mv (.t 12), none, true⟩,
  ⟨some 14, .fad 2 (.t 1), some (13, false), true⟩,
  ⟨some 15, .load false 1 (.t 14), some (13, false), true⟩,
  ⟨some 16, .bin .lss (.t 15) (.c (.int .i64 0)), some (13, false), true⟩,
  ⟨some 17, .pick (.t 13) (.c (.bool true)) (.t 16), none, true⟩,
  ⟨some 18, .mv (.t 17), none, true⟩,
  ⟨some 19, .fad 2 (.t 1), some (18, false), true⟩,
  ⟨some 20, .load false 1 (.t 19), some (18, false), true⟩,
  ⟨some 21, .bin .gtr (.t 20) (.c (.int .i64 64)), some (18, false), true⟩,
  ⟨some 22, .pick (.t 18) (.c (.bool true)) (.t 21), none, true⟩] (some [1, 22]) []) (
(.cond (.t 22) (
  (.seq (
  .reg none [
    ⟨some 2, .as (.c (.bool false)), none, true⟩] (some [2]) []) (
  .ret))) (
  .skip))))) (
(.seq (
(.seq (
.reg none [
  ⟨some 23, .fad 1 (.t 1), none, true⟩,
  ⟨some 24, .load false 1 (.t 23), none, true⟩,
  ⟨some 25, .bin .lss (.t 24) (.c (.int .i64 (-1))), none, true⟩,
  ⟨some 26, .mv (.t 25), none, true⟩,
  ⟨some 27, .fad 1 (.t 1), some (26, false), true⟩,
  ⟨some 28, .load false 1 (.t 27), some (26, false), true⟩,
  ⟨some 29, .bin .eql (.t 28) (.c (.int .i64 0)), some (26, false), true⟩,
  ⟨some 30, .pick (.t 26) (.c (.bool true)) (.t 29), none, true⟩,
  ⟨some 31, .mv (.t 30), none, true⟩,
  ⟨some 32, .fad 1 (.t 1), some (31, false), true⟩,
  ⟨some 33, .load false 1 (.t 32), some (31, false), true⟩,
  ⟨some 34, .bin .gtr (.t 33) (.c (.int .i64 1099511627776)), some (31, false), true⟩,
  ⟨some 35, .pick (.t 31) (.c (.bool true)) (.t 34), none, true⟩] (some [1, 35]) []) (
(.cond (.t 35) (
  (.seq (
  .reg none [
    ⟨some 2, .as (.c (.bool false)), none, true⟩] (some [2]) []) (
  .ret))) (
  .skip))))) (
(.seq (
.reg none [
  ⟨some 36, .fad 0 (.t 1), none, true⟩,
  ⟨some 37, .load false 1 (.t 36), none, true⟩,
  ⟨some 38, .call 48 [.t 37, .fu 49], none, true⟩,
  ⟨some 39, .un .not (.t 38), none, true⟩,
  ⟨some 2, .as (.t 39), none, true⟩] (some [2]) [1]) (
.ret)))))))))
def A21_L0b : ACode := 
  (.seq (
  (.seq (
  .reg none [
    ⟨some 39, .mv (.t 3), none, true⟩,
    ⟨some 40, .fad 0 (.t 1), none, true⟩,
    ⟨some 41, .load false 1 (.t 40), none, true⟩,
    ⟨some 42, .len 0 (.t 41), none, true⟩,
    ⟨some 43, .bin .lss (.t 39) (.t 42), none, true⟩] (some [1, 3, 43]) []) (
  (.cond (.t 43) (
    .skip) (
    .exit 0))))) (
  (.seq (
  (.block 1 (
  (.seq (
  .reg none [
    ⟨some 46, .fad 0 (.t 1), none, true⟩,
    ⟨some 47, .load false 1 (.t 46), none, true⟩,
    ⟨some 48, .mv (.t 3), none, true⟩,
    ⟨some 49, .ias 1 (.t 47) (.t 48), none, true⟩,
    ⟨some 50, .load false 1 (.t 49), none, true⟩,
    ⟨some 51, .len 0 (.t 50), none, true⟩,
    ⟨some 52, .bin .neq (.t 51) (.c (.int .i64 64)), none, true⟩] (some [1, 3, 52]) []) (
  (.cond (.t 52) (
    (.seq (
    .reg none [
      ⟨some 2, .as (.c (.bool false)), none, true⟩] (some [2]) []) (
    .ret))) (
    .skip))))) (some [1, 3]) [2])) (
  .reg none [
    ⟨some 44, .mv (.t 3), none, true⟩,
    ⟨some 45, .bin .add (.t 44) (.c (.int .i64 1)), none, true⟩,
    ⟨some 3, .as (.t 45), none, true⟩] (some [1, 3]) []))))
def A21_L0 : ACode := .loop A21_L0b (some [1, 3]) [2]
/-- ambidexter/ambidexterref30.Right -/
def A21 : AFn := .code [.t 2] (
(.seq (
.reg none [
  ⟨some 1, .box (.t 0), none, true⟩,
  ⟨some 2, .as (.c (.bool false)), none, true⟩] (some [1]) []) (
(.seq (
(.seq (
.reg none [
  ⟨some 4, .fad 0 (.t 1), none, true⟩,
  ⟨some 5, .load false 1 (.t 4), none, true⟩,
  ⟨some 6, .len 0 (.t 5), none, true⟩,
  ⟨some 7, .bin .lss (.t 6) (.c (.int .i64 1)), none, true⟩,
  ⟨some 8, .mv (.t 7), none, true⟩,
  ⟨some 9, .fad 0 (.t 1), some (8, false), true⟩,
  ⟨some 10, .load false 1 (.t 9), some (8, false), true⟩,
  ⟨some 11, .len 0 (.t 10), some (8, false), true⟩,
  ⟨some 12, .bin .gtr (.t 11) (.c (.int .i64 64)), some (8, false), true⟩,
  ⟨some 13, .pick (.t 8) (.c (.bool true)) (.t 12), none, true⟩,
  ⟨some 14, .mv (.t 13), none, true⟩,
  ⟨some 15, .fad 1 (.t 1), some (14, false), true⟩,
  ⟨some 16, .load false 1 (.t 15), some (14, false), true⟩,
  ⟨some 17, .bin .neq (.t 16) (.c (.int .i64 (-1))), some (14, false), true⟩,
  ⟨some 18, .mv (.t 17), some (14, false), true⟩,
  ⟨some 19, .fad 1 (.t 1), some (18, true), true⟩,
  ⟨some 20, .load false 1 (.t 19), some (18, true), true⟩,
  ⟨some 21, .bin .lss (.t 20) (.c (.int .i64 1)), some (18, true), true⟩,
  ⟨some 22, .mv (.t 21), some (18, true), true⟩,
  ⟨some 23, .fad 1 (.t 1), some (22, false), true⟩,
  ⟨some 24, .load false 1 (.t 23), some (22, false), true⟩,
  ⟨some 25, .bin .gtr (.t 24) (.c (.int .i64 1099511627776)), some (22, false), true⟩,
  ⟨some 26, .pick (.t 22) (.c (.bool true)) (.t 25), some (18, true), true⟩,
  ⟨some 27, .pick (.t 18) (.t 26) (.c (.bool false)), some (14, false), true⟩,
  ⟨some 28, .pick (.t 14) (.c (.bool true)) (.t 27), none, true⟩,
  ⟨some 29, .mv (.t 28), none, true⟩,
  ⟨some 30, .fad 2 (.t 1), some (29, false), true⟩,
  ⟨some 31, .load false 1 (.t 30), some (29, false), true⟩,
  ⟨some 32, .bin .lss (.t 31) (.c (.int .i64 0)), some (29, false), true⟩,
  ⟨some 33, .pick (.t 29) (.c (.bool true)) (.t 32), none, true⟩,
  ⟨some 34, .mv (.t 33), none, true⟩,
  ⟨some 35, .fad 2 (.t 1), some (34, false), true⟩,
  ⟨some 36, .load false 1 (.t 35), some (34, false), true⟩,
  ⟨some 37, .bin .gtr (.t 36) (.c (.int .i64 64)), some (34, false), true⟩,
  ⟨some 38, .pick (.t 34) (.c (.bool true)) (.t 37), none, true⟩] (some [1, 38]) []) (
(.cond (.t 38) (
  (.seq (
  .reg none [
    ⟨some 2, .as (.c (.bool false)), none, true⟩] (some [2]) []) (
  .ret))) (
  .skip))))) (
(.seq (
(.seq (
.reg none [
  ⟨some 3, .as (.c (.int .i64 0)), none, true⟩] (some [1, 3]) []) (
(.block 0 (
A21_L0) (some []) [2, 3])))) (
(.seq (
.reg none [
  ⟨some 2, .as (.c (.bool true)), none, true⟩] (some [2]) []) (
.ret)))))))))
/-- ambidexter/ambidexterlaw30.Start -/
def A22 : AFn := .code [.cell true 4 2] (
(.seq (
.reg none [
  ⟨some 2, .alloc [.nils 1, .int .i64 0, .int .i64 0, .bool false], none, true⟩] (some [0, 2]) []) (
(.seq (
.reg none [
  ⟨some 6, .mv (.t 0), none, true⟩,
  ⟨some 7, .conv .i64 (.t 6), none, true⟩,
  ⟨some 8, .bin .rem (.t 7) (.c (.int .i64 6)), none, true⟩,
  ⟨some 9, .bin .add (.c (.int .i64 1)) (.t 8), none, true⟩,
  ⟨some 10, .call 18 [.t 9], none, true⟩,
  ⟨some 5, .mv (.t 10), none, true⟩,
  ⟨some 11, .ext (.t 5) 0, none, true⟩,
  ⟨some 12, .ext (.t 5) 1, none, true⟩,
  ⟨some 3, .alloc [.nils 1, .int .i64 0, .int .i64 0, .bool false], none, true⟩,
  ⟨none, .store 4 (.t 3) (.t 11), none, true⟩,
  ⟨some 4, .as (.t 12), none, true⟩] (some [2, 3]) []) (
(.seq (
.reg none [
  ⟨some 13, .load true 4 (.t 3), none, true⟩,
  ⟨none, .store 4 (.t 2) (.t 13), none, true⟩] (some [2]) [3]) (
.ret)))))))
/-- ambidexter/ambidexterlaw30.own -/
def A23 : AFn := .code [.cell true 4 4, .t 5] (
(.seq (
.reg none [
  ⟨some 2, .box (.t 0), none, true⟩,
  ⟨some 3, .box (.t 1), none, true⟩,
  ⟨some 4, .alloc [.nils 1, .int .i64 0, .int .i64 0, .bool false], none, true⟩,
  ⟨some 5, .as (.c (.int .i64 0)), none, true⟩] (some [2, 3, 4]) []) (
(.seq (
(.seq (
.reg none [
  ⟨some 8, .fad 0 (.t 3), none, true⟩,
  ⟨some 9, .load false 1 (.t 8), none, true⟩,
  ⟨some 10, .bin .rem (.t 9) (.c (.int .u8 6)), none, true⟩] (some [2, 3, 4, 10]) []) (
(.block 0 (
(.seq (
.reg none [
  ⟨some 12, .bin .eql (.t 10) (.c (.int .u8 0)), none, true⟩,
  ⟨some 11, .as (.t 12), none, true⟩] (some [2, 3, 4, 10, 11]) []) (
(.cond (.t 11) (
  (.seq (
  .reg none [
    ⟨some 13, .load true 4 (.t 2), none, true⟩,
    ⟨some 14, .call 30 [.t 13], none, true⟩,
    ⟨none, .store 4 (.t 4) (.t 14), none, true⟩,
    ⟨some 5, .as (.c (.int .i64 0)), none, true⟩] (some [4, 5]) [2]) (
  .ret))) (
  (.seq (
  .reg none [
    ⟨some 16, .bin .eql (.t 10) (.c (.int .u8 1)), none, true⟩,
    ⟨some 15, .as (.t 16), none, true⟩] (some [2, 3, 4, 15]) []) (
  (.cond (.t 15) (
    (.seq (
    .reg none [
      ⟨some 17, .load true 4 (.t 2), none, true⟩,
      ⟨some 18, .load true 5 (.t 3), none, true⟩,
      ⟨some 19, .call 50 [.t 17, .t 18], none, true⟩,
      ⟨none, .store 4 (.t 4) (.t 19), none, true⟩,
      ⟨some 5, .as (.c (.int .i64 0)), none, true⟩] (some [4, 5]) [2, 3]) (
    .ret))) (
    .skip))))))))) (some [2, 3, 4]) [5, 11, 15])))) (
(.seq (
.reg none [
  ⟨some 21, .load true 4 (.t 2), none, true⟩,
  ⟨some 22, .fad 1 (.t 3), none, true⟩,
  ⟨some 23, .load false 1 (.t 22), none, true⟩,
  ⟨some 24, .fad 4 (.t 3), none, true⟩,
  ⟨some 25, .load false 1 (.t 24), none, true⟩,
  ⟨some 26, .call 29 [.t 21, .t 23, .t 25], none, true⟩,
  ⟨some 20, .mv (.t 26), none, true⟩,
  ⟨some 27, .ext (.t 20) 0, none, true⟩,
  ⟨some 28, .ext (.t 20) 1, none, true⟩,
  ⟨some 6, .alloc [.nils 1, .int .i64 0, .int .i64 0, .bool false], none, true⟩,
  ⟨none, .store 4 (.t 6) (.t 27), none, true⟩,
  ⟨some 7, .as (.t 28), none, true⟩] (some [4, 6, 7]) [2, 3]) (
(.seq (
.reg none [
  ⟨some 29, .load true 4 (.t 6), none, true⟩,
  ⟨some 30, .mv (.t 7), none, true⟩,
  ⟨none, .store 4 (.t 4) (.t 29), none, true⟩,
  ⟨some 5, .as (.t 30), none, true⟩] (some [4, 5]) [6]) (
.ret)))))))))
/-- ambidexter/ambidexterlaw30.Done -/
def A24 : AFn := .code [.cell true 4 4, .t 5] (
(.seq (
.reg none [
  ⟨some 2, .box (.t 0), none, true⟩,
  ⟨some 3, .box (.t 1), none, true⟩,
  ⟨some 4, .alloc [.nils 1, .int .i64 0, .int .i64 0, .bool false], none, true⟩,
  ⟨some 5, .as (.c (.int .i64 0)), none, true⟩] (some [2, 3, 4]) []) (
(.seq (
(.seq (
.reg none [
  ⟨some 8, .fad 0 (.t 3), none, true⟩,
  ⟨some 9, .load false 1 (.t 8), none, true⟩,
  ⟨some 10, .bin .rem (.t 9) (.c (.int .u8 6)), none, true⟩] (some [2, 3, 4, 10]) []) (
(.block 0 (
(.seq (
.reg none [
  ⟨some 12, .bin .eql (.t 10) (.c (.int .u8 0)), none, true⟩,
  ⟨some 11, .as (.t 12), none, true⟩] (some [2, 3, 4, 10, 11]) []) (
(.cond (.t 11) (
  (.seq (
  .reg none [
    ⟨some 13, .load true 4 (.t 2), none, true⟩,
    ⟨some 14, .call 51 [.t 13], none, true⟩,
    ⟨none, .store 4 (.t 4) (.t 14), none, true⟩,
    ⟨some 5, .as (.c (.int .i64 0)), none, true⟩] (some [4, 5]) [2]) (
  .ret))) (
  (.seq (
  .reg none [
    ⟨some 16, .bin .eql (.t 10) (.c (.int .u8 1)), none, true⟩,
    ⟨some 15, .as (.t 16), none, true⟩] (some [2, 3, 4, 15]) []) (
  (.cond (.t 15) (
    (.seq (
    .reg none [
      ⟨some 17, .load true 4 (.t 2), none, true⟩,
      ⟨some 18, .load true 5 (.t 3), none, true⟩,
      ⟨some 19, .call 50 [.t 17, .t 18], none, true⟩,
      ⟨none, .store 4 (.t 4) (.t 19), none, true⟩,
      ⟨some 5, .as (.c (.int .i64 0)), none, true⟩] (some [4, 5]) [2, 3]) (
    .ret))) (
    .skip))))))))) (some [2, 3, 4]) [5, 11, 15])))) (
(.seq (
.reg none [
  ⟨some 21, .load true 4 (.t 2), none, true⟩,
  ⟨some 22, .fad 1 (.t 3), none, true⟩,
  ⟨some 23, .load false 1 (.t 22), none, true⟩,
  ⟨some 24, .fad 4 (.t 3), none, true⟩,
  ⟨some 25, .load false 1 (.t 24), none, true⟩,
  ⟨some 26, .call 52 [.t 21, .t 23, .t 25], none, true⟩,
  ⟨some 20, .mv (.t 26), none, true⟩,
  ⟨some 27, .ext (.t 20) 0, none, true⟩,
  ⟨some 28, .ext (.t 20) 1, none, true⟩,
  ⟨some 6, .alloc [.nils 1, .int .i64 0, .int .i64 0, .bool false], none, true⟩,
  ⟨none, .store 4 (.t 6) (.t 27), none, true⟩,
  ⟨some 7, .as (.t 28), none, true⟩] (some [4, 6, 7]) [2, 3]) (
(.seq (
.reg none [
  ⟨some 29, .load true 4 (.t 6), none, true⟩,
  ⟨some 30, .mv (.t 7), none, true⟩,
  ⟨none, .store 4 (.t 4) (.t 29), none, true⟩,
  ⟨some 5, .as (.t 30), none, true⟩] (some [4, 5]) [6]) (
.ret)))))))))
/-- ambidexter/disk.Read -/
def A25 : AFn := .code [.t 4, .t 5] (
(.seq (
.reg none [
  ⟨some 2, .box (.t 0), none, true⟩,
  ⟨some 4, .as (.c (.nils 1)), none, true⟩,
  ⟨some 5, .as (.c (.int .i64 0)), none, true⟩] (some [1, 2]) []) (
(.seq (
(.block 0 (
(.seq (
.reg none [
  ⟨some 7, .fad 3 (.t 2), none, true⟩,
  ⟨some 8, .load false 1 (.t 7), none, true⟩,
  ⟨some 6, .as (.t 8), none, true⟩] (some [1, 2, 6]) []) (
(.cond (.t 6) (
  (.seq (
  .reg none [
    ⟨some 4, .as (.c (.nils 1)), none, true⟩,
    ⟨some 5, .as (.c (.int .i64 300)), none, true⟩] (some [4, 5]) []) (
  .ret))) (
  (.seq (
  .reg none [
    ⟨some 10, .load true 4 (.t 2), none, true⟩,
    ⟨some 11, .mv (.t 1), none, true⟩,
    ⟨some 12, .call 53 [.t 10, .t 11], none, true⟩,
    ⟨some 13, .un .not (.t 12), none, true⟩,
    ⟨some 9, .as (.t 13), none, true⟩] (some [1, 2, 9]) []) (
  (.cond (.t 9) (
    (.seq (
    .reg none [
      ⟨some 4, .as (.c (.nils 1)), none, true⟩,
      ⟨some 5, .as (.c (.int .i64 1)), none, true⟩] (some [4, 5]) []) (
    .ret))) (
    .skip))))))))) (some [1, 2]) [4, 5, 6, 9, 12])) (
(.seq (
.reg none [
  ⟨some 14, .fad 0 (.t 2), none, true⟩,
  ⟨some 15, .load false 1 (.t 14), none, true⟩,
  ⟨some 16, .mv (.t 1), none, true⟩,
  ⟨some 17, .ias 1 (.t 15) (.t 16), none, true⟩,
  ⟨some 18, .load false 1 (.t 17), none, true⟩,
  ⟨some 4, .as (.t 18), none, true⟩,
  ⟨some 5, .as (.c (.int .i64 0)), none, true⟩] (some [4, 5]) [2]) (
.ret)))))))
/-- ambidexter/ambidexterref30.Read -/
def A26 : AFn := .code [.t 4, .t 5] (
(.seq (
.reg none [
  ⟨some 2, .box (.t 0), none, true⟩,
  ⟨some 4, .as (.c (.nils 1)), none, true⟩,
  ⟨some 5, .as (.c (.int .i64 0)), none, true⟩] (some [1, 2]) []) (
(.seq (
(.seq (
.reg none [
  ⟨some 6, .fad 3 (.t 2), none, true⟩,
  ⟨some 7, .load false 1 (.t 6), none, true⟩] (some [1, 2, 7]) []) (
(.cond (.t 7) (
  (.seq (
  .reg none [
    ⟨some 4, .as (.c (.nils 1)), none, true⟩,
    ⟨some 5, .as (.c (.int .i64 300)), none, true⟩] (some [4, 5]) []) (
  .ret))) (
  .skip))))) (
(.seq (
(.seq (
.reg none [
  ⟨some 8, .mv (.t 1), none, true⟩,
  ⟨some 9, .bin .lss (.t 8) (.c (.int .i64 0)), none, true⟩,
  ⟨some 10, .mv (.t 9), none, true⟩,
  ⟨some 11, .mv (.t 1), some (10, false), true⟩,
  ⟨some 12, .fad 0 (.t 2), some (10, false), true⟩,
  ⟨some 13, .load false 1 (.t 12), some (10, false), true⟩,
  ⟨some 14, .len 0 (.t 13), some (10, false), true⟩,
  ⟨some 15, .bin .geq (.t 11) (.t 14), some (10, false), true⟩,
  ⟨some 16, .pick (.t 10) (.c (.bool true)) (.t 15), none, true⟩] (some [1, 2, 16]) []) (
(.cond (.t 16) (
  (.seq (
  .reg none [
    ⟨some 4, .as (.c (.nils 1)), none, true⟩,
    ⟨some 5, .as (.c (.int .i64 1)), none, true⟩] (some [4, 5]) []) (
  .ret))) (
  .skip))))) (
(.seq (
.reg none [
  ⟨some 17, .fad 0 (.t 2), none, true⟩,
  ⟨some 18, .load false 1 (.t 17), none, true⟩,
  ⟨some 19, .mv (.t 1), none, true⟩,
  ⟨some 20, .ias 1 (.t 18) (.t 19), none, true⟩,
  ⟨some 21, .load false 1 (.t 20), none, true⟩,
  ⟨some 4, .as (.t 21), none, true⟩,
  ⟨some 5, .as (.c (.int .i64 0)), none, true⟩] (some [4, 5]) [2]) (
.ret)))))))))
/-- ambidexter/ambidexterref30.Bytes -/
def A27 : AFn := .code [.t 4] (
(.seq (
.reg none [
  ⟨some 4, .as (.c (.bool false)), none, true⟩] (some [0, 1]) []) (
(.seq (
.reg none [
  ⟨some 5, .mv (.t 0), none, true⟩,
  ⟨some 6, .b2s (.t 5), none, true⟩,
  ⟨some 7, .mv (.t 1), none, true⟩,
  ⟨some 8, .b2s (.t 7), none, true⟩,
  ⟨some 9, .bin .eql (.t 6) (.t 8), none, true⟩,
  ⟨some 4, .as (.t 9), none, true⟩] (some [4]) []) (
.ret)))))
def A28_L0b : ACode := 
  (.seq (
  (.seq (
  .reg none [
    ⟨some 11, .mv (.t 6), none, true⟩,
    ⟨some 12, .mv (.t 1), none, true⟩,
    ⟨some 13, .len 0 (.t 12), none, true⟩,
    ⟨some 14, .bin .lss (.t 11) (.t 13), none, true⟩] (some [1, 4, 5, 6, 14]) []) (
  (.cond (.t 14) (
    .skip) (
    .exit 0))))) (
  (.seq (
  (.block 1 (
  (.seq (
  .reg (some [.dr [21, 22, 7] [], .dr [18, 7] [], .dr [18, 7] [], .dr [18, 7] [], .dr [18, 7] [], .dr [7] [], .dr [7] [], .dr [7] [], .dr [7] [], .dr [18, 21, 22, 23] [], .dr [] [7], .free]) [
    ⟨some 18, .load true 4 (.t 5), none, true⟩,
    ⟨some 19, .mv (.t 1), none, true⟩,
    ⟨some 20, .mv (.t 6), none, true⟩,
    ⟨some 21, .ias 5 (.t 19) (.t 20), none, true⟩,
    ⟨some 22, .load true 5 (.t 21), none, true⟩,
    ⟨some 23, .call 24 [.t 18, .t 22], none, true⟩,
    ⟨some 17, .mv (.t 23), none, true⟩,
    ⟨some 24, .ext (.t 17) 0, none, true⟩,
    ⟨some 25, .ext (.t 17) 1, none, true⟩,
    ⟨some 7, .alloc [.nils 1, .int .i64 0, .int .i64 0, .bool false], none, true⟩,
    ⟨none, .store 4 (.t 7) (.t 24), none, true⟩,
    ⟨some 8, .as (.t 25), none, true⟩] (some [1, 4, 5, 6, 7]) []) (
  .reg none [
    ⟨some 26, .load true 4 (.t 7), none, true⟩,
    ⟨none, .store 4 (.t 5) (.t 26), none, true⟩] (some [1, 4, 5, 6]) [7]))) (some [1, 4, 5, 6]) [7, 8, 23])) (
  .reg none [
    ⟨some 15, .mv (.t 6), none, true⟩,
    ⟨some 16, .bin .add (.t 15) (.c (.int .i64 1)), none, true⟩,
    ⟨some 6, .as (.t 16), none, true⟩] (some [1, 4, 5, 6]) []))))
def A28_L0 : ACode := .loop A28_L0b (some [1, 4, 5, 6]) [7, 8, 23]
/-- ambidexter/ambidexterlaw30.Made -/
def A28 : AFn := .code [.cell true 4 4] (
(.seq (
.reg none [
  ⟨some 4, .alloc [.nils 1, .int .i64 0, .int .i64 0, .bool false], none, true⟩] (some [0, 1, 4]) []) (
(.seq (
.reg none [
  ⟨some 9, .mv (.t 0), none, true⟩,
  ⟨some 10, .call 22 [.t 9], none, true⟩,
  ⟨some 5, .alloc [.nils 1, .int .i64 0, .int .i64 0, .bool false], none, true⟩,
  ⟨none, .store 4 (.t 5) (.t 10), none, true⟩] (some [1, 4, 5]) []) (
(.seq (
(.seq (
.reg none [
  ⟨some 6, .as (.c (.int .i64 0)), none, true⟩] (some [1, 4, 5, 6]) []) (
(.block 0 (
A28_L0) (some [4, 5]) [6, 7, 8, 23])))) (
(.seq (
.reg none [
  ⟨some 27, .load true 4 (.t 5), none, true⟩,
  ⟨none, .store 4 (.t 4) (.t 27), none, true⟩] (some [4]) [5]) (
.ret)))))))))
/-- ambidexter/disk.Write -/
def A29 : AFn := .code [.cell true 4 6, .t 7] (
(.seq (
.reg none [
  ⟨some 3, .box (.t 0), none, true⟩,
  ⟨some 4, .box (.t 1), none, true⟩,
  ⟨some 5, .box (.t 2), none, true⟩,
  ⟨some 6, .alloc [.nils 1, .int .i64 0, .int .i64 0, .bool false], none, true⟩,
  ⟨some 7, .as (.c (.int .i64 0)), none, true⟩] (some [3, 4, 5, 6]) []) (
(.seq (
.reg none [
  ⟨some 13, .mkf (.func 54) [] [.t 3], none, true⟩,
  ⟨some 8, .as (.t 13), none, true⟩] (some [3, 4, 5, 6, 8]) []) (
(.seq (
.reg none [
  ⟨some 14, .mkf (.func 55) [] [.t 3, .t 4, .t 5], none, true⟩,
  ⟨some 9, .as (.t 14), none, true⟩] (some [3, 4, 5, 6, 8, 9]) []) (
(.seq (
(.seq (
.reg none [
  ⟨some 15, .mv (.t 8), none, true⟩,
  ⟨some 16, .mv (.t 9), none, true⟩,
  ⟨some 17, .bsl 1 2 [.nilf] [(0, .t 15), (1, .t 16)], none, true⟩,
  ⟨some 18, .call 56 [.t 17], none, true⟩,
  ⟨some 10, .as (.t 18), none, true⟩] (some [3, 4, 5, 6, 10]) []) (
(.seq (
.reg none [
  ⟨some 19, .mv (.t 10), none, true⟩,
  ⟨some 20, .bin .neq (.t 19) (.c (.int .i64 0)), none, true⟩] (some [3, 4, 5, 6, 10, 20]) []) (
(.cond (.t 20) (
  (.seq (
  .reg none [
    ⟨some 21, .load true 4 (.t 3), none, true⟩,
    ⟨some 22, .mv (.t 10), none, true⟩,
    ⟨none, .store 4 (.t 6) (.t 21), none, true⟩,
    ⟨some 7, .as (.t 22), none, true⟩] (some [6, 7]) []) (
  .ret))) (
  .skip))))))) (
(.seq (
.reg none [
  ⟨some 23, .fad 1 (.t 3), none, true⟩,
  ⟨some 24, .load false 1 (.t 23), none, true⟩,
  ⟨some 25, .bin .eql (.t 24) (.c (.int .i64 1)), none, true⟩,
  ⟨some 11, .as (.t 25), none, true⟩] (some [3, 4, 5, 6, 11]) []) (
(.seq (
(.seq (
.reg none [
  ⟨some 26, .mv (.t 11), none, true⟩] (some [3, 4, 5, 6, 11, 26]) []) (
(.cond (.t 26) (
  .reg none [
    ⟨some 27, .load false 1 (.t 5), none, true⟩,
    ⟨some 28, .fad 2 (.t 3), none, true⟩,
    ⟨some 29, .load false 1 (.t 28), none, true⟩,
    ⟨some 30, .load false 1 (.t 5), none, true⟩,
    ⟨some 31, .len 0 (.t 30), none, true⟩,
    ⟨some 32, .mn [.t 29, .t 31], none, true⟩,
    ⟨some 33, .sls 1 (.t 27) none (some (.t 32)), none, true⟩,
    ⟨none, .store 1 (.t 5) (.t 33), none, true⟩] (some [3, 4, 5, 6, 11]) []) (
  .skip))))) (
(.seq (
.reg none [
  ⟨some 34, .fad 0 (.t 3), none, true⟩,
  ⟨some 35, .load false 1 (.t 34), none, true⟩,
  ⟨some 36, .load false 1 (.t 4), none, true⟩,
  ⟨some 37, .ias 1 (.t 35) (.t 36), none, true⟩,
  ⟨some 38, .load false 1 (.t 37), none, true⟩,
  ⟨some 39, .call 57 [.t 38], none, true⟩,
  ⟨some 12, .as (.t 39), none, true⟩] (some [3, 4, 5, 6, 11, 12]) []) (
(.seq (
.reg none [
  ⟨some 40, .mv (.t 12), none, true⟩,
  ⟨some 41, .load false 1 (.t 5), none, true⟩,
  ⟨some 42, .cpy 1 (.t 40) (.t 41), none, true⟩] (some [3, 4, 6, 11, 12]) []) (
(.seq (
.reg none [
  ⟨some 43, .fad 0 (.t 3), none, true⟩,
  ⟨some 44, .load false 1 (.t 43), none, true⟩,
  ⟨some 45, .load false 1 (.t 4), none, true⟩,
  ⟨some 46, .mv (.t 12), none, true⟩,
  ⟨some 47, .call 58 [.t 44, .t 45, .t 46], none, true⟩,
  ⟨some 48, .fad 0 (.t 3), none, true⟩,
  ⟨none, .store 1 (.t 48) (.t 47), none, true⟩] (some [3, 6, 11]) []) (
(.seq (
(.block 0 (
(.seq (
.reg none [
  ⟨some 50, .mv (.t 11), none, true⟩,
  ⟨some 49, .as (.t 50), none, true⟩] (some [3, 6, 49]) []) (
(.cond (.t 49) (
  (.seq (
  .reg none [
    ⟨some 51, .fad 1 (.t 3), none, true⟩,
    ⟨none, .store 1 (.t 51) (.c (.int .i64 (-1))), none, true⟩,
    ⟨some 52, .fad 2 (.t 3), none, true⟩,
    ⟨none, .store 1 (.t 52) (.c (.int .i64 0)), none, true⟩,
    ⟨some 53, .fad 3 (.t 3), none, true⟩,
    ⟨none, .store 1 (.t 53) (.c (.bool true)), none, true⟩] (some [3, 6]) []) (
  (.seq (
  .reg none [
    ⟨some 54, .load true 4 (.t 3), none, true⟩,
    ⟨none, .store 4 (.t 6) (.t 54), none, true⟩,
    ⟨some 7, .as (.c (.int .i64 300)), none, true⟩] (some [6, 7]) []) (
  .ret))))) (
  (.seq (
  .reg none [
    ⟨some 56, .fad 1 (.t 3), none, true⟩,
    ⟨some 57, .load false 1 (.t 56), none, true⟩,
    ⟨some 58, .bin .gtr (.t 57) (.c (.int .i64 1)), none, true⟩,
    ⟨some 55, .as (.t 58), none, true⟩] (some [3, 6, 55]) []) (
  (.cond (.t 55) (
    .reg none [
      ⟨some 59, .fad 1 (.t 3), none, true⟩,
      ⟨some 60, .load false 1 (.t 59), none, true⟩,
      ⟨some 61, .bin .sub (.t 60) (.c (.int .i64 1)), none, true⟩,
      ⟨some 62, .fad 1 (.t 3), none, true⟩,
      ⟨none, .store 1 (.t 62) (.t 61), none, true⟩] (some [3, 6]) []) (
    .skip))))))))) (some [3, 6]) [7, 49, 55])) (
(.seq (
.reg none [
  ⟨some 63, .load true 4 (.t 3), none, true⟩,
  ⟨none, .store 4 (.t 6) (.t 63), none, true⟩,
  ⟨some 7, .as (.c (.int .i64 0)), none, true⟩] (some [6, 7]) []) (
.ret)))))))))))))))))))))))
/-- ambidexter/disk.PowerOn -/
def A30 : AFn := .code [.cell true 4 2] (
(.seq (
.reg none [
  ⟨some 1, .box (.t 0), none, true⟩,
  ⟨some 2, .alloc [.nils 1, .int .i64 0, .int .i64 0, .bool false], none, true⟩] (some [1, 2]) []) (
(.seq (
.reg none [
  ⟨some 3, .fad 3 (.t 1), none, true⟩,
  ⟨none, .store 1 (.t 3) (.c (.bool false)), none, true⟩] (some [1, 2]) []) (
(.seq (
.reg none [
  ⟨some 4, .load true 4 (.t 1), none, true⟩,
  ⟨none, .store 4 (.t 2) (.t 4), none, true⟩] (some [2]) [1]) (
.ret)))))))
/-- ambidexter/ambidexterlaw31.head -/
def A31 : AFn := .code [.t 0] (
(.seq (
.reg none [
  ⟨some 0, .as (.c (.bool false)), none, true⟩] (some []) []) (
(.seq (
.reg none [
  ⟨some 22, .call 17 [.c (.int .i64 2)], none, true⟩,
  ⟨some 21, .mv (.t 22), none, true⟩,
  ⟨some 23, .ext (.t 21) 0, none, true⟩,
  ⟨some 24, .ext (.t 21) 1, none, true⟩,
  ⟨some 1, .alloc [.nils 1, .int .i64 0, .int .i64 0, .bool false], none, true⟩,
  ⟨none, .store 4 (.t 1) (.t 23), none, true⟩,
  ⟨some 2, .as (.t 24), none, true⟩] (some [1, 2]) []) (
(.seq (
.reg none [
  ⟨some 26, .load true 4 (.t 1), none, true⟩,
  ⟨some 27, .call 38 [.t 26], none, true⟩,
  ⟨some 28, .call 59 [.c (.int .i64 5)], none, true⟩,
  ⟨some 29, .call 40 [.t 27, .t 28], none, true⟩,
  ⟨some 25, .mv (.t 29), none, true⟩,
  ⟨some 30, .ext (.t 25) 0, none, true⟩,
  ⟨some 31, .ext (.t 25) 1, none, true⟩,
  ⟨some 3, .alloc [.nils 1, .int .i64 0, .int .i64 0, .bool false, .int .i64 0, .int .i64 0], none, true⟩,
  ⟨none, .store 6 (.t 3) (.t 30), none, true⟩,
  ⟨some 4, .as (.t 31), none, true⟩] (some [1, 2, 3, 4]) []) (
(.seq (
.reg none [
  ⟨some 32, .fad 0 (.t 3), none, true⟩,
  ⟨some 33, .fad 1 (.t 32), none, true⟩,
  ⟨none, .store 1 (.t 33) (.c (.int .i64 1)), none, true⟩,
  ⟨some 34, .fad 0 (.t 3), none, true⟩,
  ⟨some 35, .fad 2 (.t 34), none, true⟩,
  ⟨none, .store 1 (.t 35) (.c (.int .i64 30)), none, true⟩] (some [1, 2, 3, 4]) []) (
(.seq (
.reg (some [.dr [38, 5] [], .dr [37, 5] [], .dr [5] [], .dr [5] [], .dr [5] [], .dr [5] [], .dr [37, 38, 39] [], .dr [] [5], .free]) [
  ⟨some 37, .load true 6 (.t 3), none, true⟩,
  ⟨some 38, .call 59 [.c (.int .i64 6)], none, true⟩,
  ⟨some 39, .call 40 [.t 37, .t 38], none, true⟩,
  ⟨some 36, .mv (.t 39), none, true⟩,
  ⟨some 40, .ext (.t 36) 0, none, true⟩,
  ⟨some 41, .ext (.t 36) 1, none, true⟩,
  ⟨some 5, .alloc [.nils 1, .int .i64 0, .int .i64 0, .bool false, .int .i64 0, .int .i64 0], none, true⟩,
  ⟨none, .store 6 (.t 5) (.t 40), none, true⟩,
  ⟨some 6, .as (.t 41), none, true⟩] (some [1, 2, 3, 4, 5, 6]) []) (
(.seq (
.reg none [
  ⟨some 43, .fad 0 (.t 5), none, true⟩,
  ⟨some 44, .load true 4 (.t 43), none, true⟩,
  ⟨some 45, .call 30 [.t 44], none, true⟩,
  ⟨some 46, .call 42 [.t 45], none, true⟩,
  ⟨some 42, .mv (.t 46), none, true⟩,
  ⟨some 47, .ext (.t 42) 0, none, true⟩,
  ⟨some 48, .ext (.t 42) 1, none, true⟩,
  ⟨some 49, .ext (.t 42) 2, none, true⟩,
  ⟨some 7, .alloc [.nils 1, .int .i64 0, .int .i64 0, .bool false, .int .i64 0, .int .i64 0], none, true⟩,
  ⟨some 8, .alloc [.int .i64 0, .int .i64 0, .int .i64 0, .int .i64 0, .int .i64 0, .int .i64 0, .int .i64 0, .int .i64 0, .int .i64 0, .int .i64 0, .nils 1, .int .i64 0], none, true⟩,
  ⟨none, .store 6 (.t 7) (.t 47), none, true⟩,
  ⟨none, .store 12 (.t 8) (.t 48), none, true⟩,
  ⟨some 9, .as (.t 49), none, true⟩] (some [1, 2, 3, 4, 6, 7, 8, 9]) [5]) (
(.seq (
.reg none [
  ⟨some 51, .load true 4 (.t 1), none, true⟩,
  ⟨some 52, .call 42 [.t 51], none, true⟩,
  ⟨some 50, .mv (.t 52), none, true⟩,
  ⟨some 53, .ext (.t 50) 0, none, true⟩,
  ⟨some 54, .ext (.t 50) 1, none, true⟩,
  ⟨some 55, .ext (.t 50) 2, none, true⟩,
  ⟨some 10, .alloc [.nils 1, .int .i64 0, .int .i64 0, .bool false, .int .i64 0, .int .i64 0], none, true⟩,
  ⟨some 11, .alloc [.int .i64 0, .int .i64 0, .int .i64 0, .int .i64 0, .int .i64 0, .int .i64 0, .int .i64 0, .int .i64 0, .int .i64 0, .int .i64 0, .nils 1, .int .i64 0], none, true⟩,
  ⟨none, .store 6 (.t 10) (.t 53), none, true⟩,
  ⟨none, .store 12 (.t 11) (.t 54), none, true⟩,
  ⟨some 12, .as (.t 55), none, true⟩] (some [2, 3, 4, 6, 7, 8, 9, 11, 12]) [1, 10]) (
(.seq (
.reg none [
  ⟨some 56, .call 59 [.c (.int .i64 5)], none, true⟩,
  ⟨some 57, .call 35 [.t 56], none, true⟩,
  ⟨some 13, .as (.t 57), none, true⟩] (some [2, 3, 4, 6, 7, 8, 9, 11, 12, 13]) []) (
(.seq (
.reg none [
  ⟨some 59, .mv (.t 13), none, true⟩,
  ⟨some 60, .call 33 [.t 59], none, true⟩,
  ⟨some 58, .mv (.t 60), none, true⟩,
  ⟨some 61, .ext (.t 58) 0, none, true⟩,
  ⟨some 62, .ext (.t 58) 1, none, true⟩,
  ⟨some 14, .alloc [.int .i64 0, .int .i64 0, .int .i64 0, .int .i64 0, .int .i64 0, .int .i64 0, .int .i64 0, .int .i64 0, .int .i64 0, .int .i64 0, .nils 1, .int .i64 0], none, true⟩,
  ⟨none, .store 12 (.t 14) (.t 61), none, true⟩,
  ⟨some 15, .as (.t 62), none, true⟩] (some [2, 3, 4, 6, 7, 8, 9, 11, 12, 13, 14, 15]) []) (
(.seq (
.reg none [
  ⟨some 64, .call 33 [.c (.nul)], none, true⟩,
  ⟨some 63, .mv (.t 64), none, true⟩,
  ⟨some 65, .ext (.t 63) 0, none, true⟩,
  ⟨some 66, .ext (.t 63) 1, none, true⟩,
  ⟨some 16, .alloc [.int .i64 0, .int .i64 0, .int .i64 0, .int .i64 0, .int .i64 0, .int .i64 0, .int .i64 0, .int .i64 0, .int .i64 0, .int .i64 0, .nils 1, .int .i64 0], none, true⟩,
  ⟨none, .store 12 (.t 16) (.t 65), none, true⟩,
  ⟨some 17, .as (.t 66), none, true⟩] (some [2, 3, 4, 6, 7, 8, 9, 11, 12, 13, 14, 15, 17]) [16]) (
(.seq (
.reg none [
  ⟨some 67, .call 59 [.c (.int .i64 5)], none, true⟩,
  ⟨some 18, .alloc [.int .i64 0, .int .i64 0, .int .i64 0, .int .i64 0, .int .i64 0, .int .i64 0, .int .i64 0, .int .i64 0, .int .i64 0, .int .i64 0, .nils 1, .int .i64 0], none, true⟩,
  ⟨none, .store 12 (.t 18) (.t 67), none, true⟩] (some [2, 3, 4, 6, 7, 8, 9, 11, 12, 13, 14, 15, 17, 18]) []) (
(.seq (
.reg none [
  ⟨some 68, .fad 11 (.t 18), none, true⟩,
  ⟨none, .store 1 (.t 68) (.c (.int .i64 6)), none, true⟩] (some [2, 3, 4, 6, 7, 8, 9, 11, 12, 13, 14, 15, 17, 18]) []) (
(.seq (
.reg none [
  ⟨some 70, .load true 6 (.t 3), none, true⟩,
  ⟨some 71, .load true 12 (.t 18), none, true⟩,
  ⟨some 72, .call 40 [.t 70, .t 71], none, true⟩,
  ⟨some 69, .mv (.t 72), none, true⟩,
  ⟨some 73, .ext (.t 69) 0, none, true⟩,
  ⟨some 74, .ext (.t 69) 1, none, true⟩,
  ⟨some 19, .alloc [.nils 1, .int .i64 0, .int .i64 0, .bool false, .int .i64 0, .int .i64 0], none, true⟩,
  ⟨none, .store 6 (.t 19) (.t 73), none, true⟩,
  ⟨some 20, .as (.t 74), none, true⟩] (some [2, 4, 6, 7, 8, 9, 11, 12, 13, 14, 15, 17, 20]) [3, 18, 19]) (
(.seq (
(.seq (
.reg none [
  ⟨some 75, .mv (.t 13), none, true⟩,
  ⟨some 76, .len 0 (.t 75), none, true⟩,
  ⟨some 77, .bin .neq (.t 76) (.c (.int .i64 64)), none, true⟩] (some [2, 4, 6, 7, 8, 9, 11, 12, 13, 14, 15, 17, 20, 77]) []) (
(.cond (.t 77) (
  (.seq (
  .reg none [
    ⟨some 0, .as (.c (.bool false)), none, true⟩] (some [0]) []) (
  .ret))) (
  .skip))))) (
(.seq (
.reg (some [.free, .free, .free, .free, .free, .free, .free, .free, .free, .free, .free, .free, .free, .free, .free, .free, .free, .free, .free, .free, .free, .free, .free, .free, .free, .free, .free, .free, .free, .free, .free, .free, .free, .free, .free, .free, .free, .free, .free, .free, .free, .free, .free, .free, .free, .free, .free, .free, .free, .free, .free, .free, .free, .free, .free, .free, .free, .free, .free, .free, .free, .free, .dr [141] [], .dr [140] [], .free, .free, .free, .free, .free, .free, .free, .free, .free, .free, .free, .free, .free, .free, .free]) [
  ⟨some 78, .mv (.t 2), none, true⟩,
  ⟨some 79, .bin .eql (.t 78) (.c (.int .i64 0)), none, true⟩,
  ⟨some 80, .mv (.t 79), none, true⟩,
  ⟨some 81, .mv (.t 4), some (80, true), true⟩,
  ⟨some 82, .bin .eql (.t 81) (.c (.int .i64 0)), some (80, true), true⟩,
  ⟨some 83, .pick (.t 80) (.t 82) (.c (.bool false)), none, true⟩,
  ⟨some 84, .mv (.t 83), none, true⟩,
  ⟨some 85, .mv (.t 6), some (84, true), true⟩,
  ⟨some 86, .bin .eql (.t 85) (.c (.int .i64 300)), some (84, true), true⟩,
  ⟨some 87, .pick (.t 84) (.t 86) (.c (.bool false)), none, true⟩,
  ⟨some 88, .mv (.t 87), none, true⟩,
  ⟨some 89, .mv (.t 9), some (88, true), true⟩,
  ⟨some 90, .pick (.t 88) (.t 89) (.c (.bool false)), none, true⟩,
  ⟨some 91, .mv (.t 90), none, true⟩,
  ⟨some 92, .fad 1 (.t 8), some (91, true), true⟩,
  ⟨some 93, .load false 1 (.t 92), some (91, true), true⟩,
  ⟨some 94, .bin .eql (.t 93) (.c (.int .i64 5)), some (91, true), true⟩,
  ⟨some 95, .pick (.t 91) (.t 94) (.c (.bool false)), none, true⟩,
  ⟨some 96, .mv (.t 95), none, true⟩,
  ⟨some 97, .fad 4 (.t 7), some (96, true), true⟩,
  ⟨some 98, .load false 1 (.t 97), some (96, true), true⟩,
  ⟨some 99, .bin .eql (.t 98) (.c (.int .i64 2)), some (96, true), true⟩,
  ⟨some 100, .pick (.t 96) (.t 99) (.c (.bool false)), none, true⟩,
  ⟨some 101, .mv (.t 100), none, true⟩,
  ⟨some 102, .fad 5 (.t 7), some (101, true), true⟩,
  ⟨some 103, .load false 1 (.t 102), some (101, true), true⟩,
  ⟨some 104, .bin .eql (.t 103) (.c (.int .i64 1)), some (101, true), true⟩,
  ⟨some 105, .pick (.t 101) (.t 104) (.c (.bool false)), none, true⟩,
  ⟨some 106, .mv (.t 105), none, true⟩,
  ⟨some 107, .mv (.t 12), some (106, true), true⟩,
  ⟨some 108, .un .not (.t 107), some (106, true), true⟩,
  ⟨some 109, .pick (.t 106) (.t 108) (.c (.bool false)), none, true⟩,
  ⟨some 110, .mv (.t 109), none, true⟩,
  ⟨some 111, .fad 0 (.t 11), some (110, true), true⟩,
  ⟨some 112, .load false 1 (.t 111), some (110, true), true⟩,
  ⟨some 113, .bin .eql (.t 112) (.c (.int .i64 0)), some (110, true), true⟩,
  ⟨some 114, .pick (.t 110) (.t 113) (.c (.bool false)), none, true⟩,
  ⟨some 115, .mv (.t 114), none, true⟩,
  ⟨some 116, .mv (.t 13), some (115, true), true⟩,
  ⟨some 117, .ias 1 (.t 116) (.c (.int .i64 0)), some (115, true), true⟩,
  ⟨some 118, .load false 1 (.t 117), some (115, true), true⟩,
  ⟨some 119, .bin .eql (.t 118) (.c (.int .u8 74)), some (115, true), true⟩,
  ⟨some 120, .pick (.t 115) (.t 119) (.c (.bool false)), none, true⟩,
  ⟨some 121, .mv (.t 120), none, true⟩,
  ⟨some 122, .mv (.t 13), some (121, true), true⟩,
  ⟨some 123, .ias 1 (.t 122) (.c (.int .i64 4)), some (121, true), true⟩,
  ⟨some 124, .load false 1 (.t 123), some (121, true), true⟩,
  ⟨some 125, .bin .eql (.t 124) (.c (.int .u8 1)), some (121, true), true⟩,
  ⟨some 126, .pick (.t 121) (.t 125) (.c (.bool false)), none, true⟩,
  ⟨some 127, .mv (.t 126), none, true⟩,
  ⟨some 128, .mv (.t 13), some (127, true), true⟩,
  ⟨some 129, .ias 1 (.t 128) (.c (.int .i64 63)), some (127, true), true⟩,
  ⟨some 130, .load false 1 (.t 129), some (127, true), true⟩,
  ⟨some 131, .bin .eql (.t 130) (.c (.int .u8 1)), some (127, true), true⟩,
  ⟨some 132, .pick (.t 127) (.t 131) (.c (.bool false)), none, true⟩,
  ⟨some 133, .mv (.t 132), none, true⟩,
  ⟨some 134, .mv (.t 13), some (133, true), true⟩,
  ⟨some 135, .ias 1 (.t 134) (.c (.int .i64 6)), some (133, true), true⟩,
  ⟨some 136, .load false 1 (.t 135), some (133, true), true⟩,
  ⟨some 137, .bin .eql (.t 136) (.c (.int .u8 5)), some (133, true), true⟩,
  ⟨some 138, .pick (.t 133) (.t 137) (.c (.bool false)), none, true⟩,
  ⟨some 139, .mv (.t 138), none, true⟩,
  ⟨some 140, .load true 12 (.t 14), some (139, true), true⟩,
  ⟨some 141, .call 59 [.c (.int .i64 5)], some (139, true), true⟩,
  ⟨some 142, .call 36 [.t 140, .t 141], some (139, true), true⟩,
  ⟨some 143, .pick (.t 139) (.t 142) (.c (.bool false)), none, true⟩,
  ⟨some 144, .mv (.t 143), none, true⟩,
  ⟨some 145, .mv (.t 15), some (144, true), true⟩,
  ⟨some 146, .bin .eql (.t 145) (.c (.int .i64 0)), some (144, true), true⟩,
  ⟨some 147, .pick (.t 144) (.t 146) (.c (.bool false)), none, true⟩,
  ⟨some 148, .mv (.t 147), none, true⟩,
  ⟨some 149, .mv (.t 17), some (148, true), true⟩,
  ⟨some 150, .bin .eql (.t 149) (.c (.int .i64 4)), some (148, true), true⟩,
  ⟨some 151, .pick (.t 148) (.t 150) (.c (.bool false)), none, true⟩,
  ⟨some 152, .mv (.t 151), none, true⟩,
  ⟨some 153, .mv (.t 20), some (152, true), true⟩,
  ⟨some 154, .bin .eql (.t 153) (.c (.int .i64 1)), some (152, true), true⟩,
  ⟨some 155, .pick (.t 152) (.t 154) (.c (.bool false)), none, true⟩,
  ⟨some 0, .as (.t 155), none, true⟩] (some [0]) [7, 8, 11, 14]) (
.ret)))))))))))))))))))))))))))))))
/-- ambidexter/ambidexterlaw31.great -/
def A32 : AFn := .code [.t 2] (
(.seq (
.reg none [
  ⟨some 1, .box (.t 0), none, true⟩,
  ⟨some 2, .as (.c (.bool false)), none, true⟩] (some [1]) []) (
(.seq (
.reg none [
  ⟨some 3, .fad 2 (.t 1), none, true⟩,
  ⟨some 4, .fad 8 (.t 3), none, true⟩,
  ⟨some 5, .load false 1 (.t 4), none, true⟩,
  ⟨some 6, .len 0 (.t 5), none, true⟩,
  ⟨some 7, .bin .gtr (.t 6) (.c (.int .i64 100)), none, true⟩,
  ⟨some 2, .as (.t 7), none, true⟩] (some [2]) [1]) (
.ret)))))
def A33_L0b : ACode := 
  (.seq (
  .reg none [
    ⟨some 61, .bin .lss (.t 60) (.t 59), none, true⟩] (some [0, 2, 4, 5, 59, 60, 61]) []) (
  (.seq (
  (.cond (.t 61) (
    .skip) (
    .exit 6))) (
  (.seq (
  (.block 7 (
  .reg (some [.alt [0, 1, 3] [[2, 4, 5, 6, 7, 8, 9, 10], [4, 2, 5, 6, 7, 8, 9, 10], [4, 5, 2, 6, 7, 8, 9, 10], [4, 5, 6, 2, 7, 8, 9, 10]]]) [
    ⟨some 62, .fad 2 (.t 5), none, true⟩,
    ⟨some 63, .fad 8 (.t 62), none, true⟩,
    ⟨some 64, .load false 1 (.t 63), none, true⟩,
    ⟨some 65, .mv (.t 4), none, true⟩,
    ⟨some 66, .cal (.t 65) [.c (.int .i64 1)], none, true⟩,
    ⟨some 67, .bin .sub (.t 66) (.c (.int .i64 1)), none, true⟩,
    ⟨some 68, .bsl 1 1 [.int .i64 0] [(0, .t 67)], none, true⟩,
    ⟨some 69, .app 1 (.t 64) (.t 68), none, true⟩,
    ⟨some 70, .fad 2 (.t 5), none, true⟩,
    ⟨some 71, .fad 8 (.t 70), none, true⟩,
    ⟨none, .store 1 (.t 71) (.t 69), none, true⟩] (some [0, 2, 4, 5, 59, 60]) []) (some [0, 2, 4, 5, 59, 60]) [66, 68, 69])) (
  .reg none [
    ⟨some 72, .bin .add (.t 60) (.c (.int .i64 1)), none, true⟩,
    ⟨some 60, .mv (.t 72), none, true⟩] (some [0, 2, 4, 5, 59, 60]) []))))))
def A33_L0 : ACode := .loop A33_L0b (some [0, 2, 4, 5, 59, 60]) [66, 68, 69]
def A33_L1b : ACode := 
  (.seq (
  .reg none [
    ⟨some 44, .bin .lss (.t 43) (.c (.int .i64 2)), none, true⟩] (some [0, 2, 4, 5, 43, 44]) []) (
  (.seq (
  (.cond (.t 44) (
    .skip) (
    .exit 4))) (
  (.seq (
  (.block 5 (
  (.seq (
  .reg none [
    ⟨some 45, .mv (.t 43), none, true⟩,
    ⟨some 8, .as (.t 45), none, true⟩] (some [0, 2, 4, 5, 8, 43]) []) (
  .reg none [
    ⟨some 46, .mv (.t 8), none, true⟩,
    ⟨some 47, .mv (.t 4), none, true⟩,
    ⟨some 48, .cal (.t 47) [.c (.int .i64 1)], none, true⟩,
    ⟨some 49, .bin .sub (.t 48) (.c (.int .i64 1)), none, true⟩,
    ⟨some 50, .fad 2 (.t 5), none, true⟩,
    ⟨some 51, .fad 6 (.t 50), none, true⟩,
    ⟨some 52, .iaa 2 1 (.t 51) (.t 46), none, true⟩,
    ⟨none, .store 1 (.t 52) (.t 49), none, true⟩] (some [0, 2, 4, 5, 43]) []))) (some [0, 2, 4, 5, 43]) [8, 48])) (
  .reg none [
    ⟨some 53, .bin .add (.t 43) (.c (.int .i64 1)), none, true⟩,
    ⟨some 43, .mv (.t 53), none, true⟩] (some [0, 2, 4, 5, 43]) []))))))
def A33_L1 : ACode := .loop A33_L1b (some [0, 2, 4, 5, 43]) [8, 48]
def A33_L2b : ACode := 
    (.seq (
    .reg none [
      ⟨some 30, .bin .lss (.t 29) (.c (.int .i64 3)), none, true⟩] (some [0, 2, 4, 5, 6, 26, 29, 30]) []) (
    (.seq (
    (.cond (.t 30) (
      .skip) (
      .exit 2))) (
    (.seq (
    (.block 3 (
    (.seq (
    .reg none [
      ⟨some 31, .mv (.t 29), none, true⟩,
      ⟨some 7, .as (.t 31), none, true⟩] (some [0, 2, 4, 5, 6, 7, 26, 29]) []) (
    .reg (some [.loc, .loc, .loc, .loc, .loc, .loc, .free, .free, .free, .free]) [
      ⟨some 32, .mv (.t 6), none, true⟩,
      ⟨some 33, .mv (.t 7), none, true⟩,
      ⟨some 34, .mv (.t 4), none, true⟩,
      ⟨some 37, .fad 2 (.t 5), none, true⟩,
      ⟨some 38, .fad 0 (.t 37), none, true⟩,
      ⟨some 39, .iaa 2 3 (.t 38) (.t 32), none, true⟩,
      ⟨some 35, .cal (.t 34) [.c (.int .i64 1)], none, true⟩,
      ⟨some 36, .bin .sub (.t 35) (.c (.int .i64 17)), none, true⟩,
      ⟨some 40, .iaa 3 1 (.t 39) (.t 33), none, true⟩,
      ⟨none, .store 1 (.t 40) (.t 36), none, true⟩] (some [0, 2, 4, 5, 6, 26, 29]) []))) (some [0, 2, 4, 5, 6, 26, 29]) [7, 35])) (
    .reg none [
      ⟨some 41, .bin .add (.t 29) (.c (.int .i64 1)), none, true⟩,
      ⟨some 29, .mv (.t 41), none, true⟩] (some [0, 2, 4, 5, 6, 26, 29]) []))))))
def A33_L2 : ACode := .loop A33_L2b (some [0, 2, 4, 5, 6, 26, 29]) [7, 35]
def A33_L3b : ACode := 
  (.seq (
  .reg none [
    ⟨some 27, .bin .lss (.t 26) (.c (.int .i64 2)), none, true⟩] (some [0, 2, 4, 5, 26, 27]) []) (
  (.seq (
  (.cond (.t 27) (
    .skip) (
    .exit 0))) (
  (.seq (
  (.block 1 (
  (.seq (
  .reg none [
    ⟨some 28, .mv (.t 26), none, true⟩,
    ⟨some 6, .as (.t 28), none, true⟩] (some [0, 2, 4, 5, 6, 26]) []) (
  (.seq (
  .reg none [
    ⟨some 29, .mv (.c (.int .i64 0)), none, true⟩] (some [0, 2, 4, 5, 6, 26, 29]) []) (
  (.block 2 (
  A33_L2) (some [0, 2, 4, 5, 26]) [7, 35])))))) (some [0, 2, 4, 5, 26]) [6, 7, 35])) (
  .reg none [
    ⟨some 42, .bin .add (.t 26) (.c (.int .i64 1)), none, true⟩,
    ⟨some 26, .mv (.t 42), none, true⟩] (some [0, 2, 4, 5, 26]) []))))))
def A33_L3 : ACode := .loop A33_L3b (some [0, 2, 4, 5, 26]) [6, 7, 35]
/-- ambidexter/journal.Decode -/
def A33 : AFn := .code [.cell true 12 2, .t 3] (
(.seq (
.reg none [
  ⟨some 2, .alloc [.int .i64 0, .int .i64 0, .int .i64 0, .int .i64 0, .int .i64 0, .int .i64 0, .int .i64 0, .int .i64 0, .int .i64 0, .int .i64 0, .nils 1, .int .i64 0], none, true⟩,
  ⟨some 3, .as (.c (.int .i64 0)), none, true⟩] (some [0, 2]) []) (
(.seq (
(.seq (
.reg none [
  ⟨some 10, .mv (.t 0), none, true⟩,
  ⟨some 11, .len 0 (.t 10), none, true⟩,
  ⟨some 12, .bin .neq (.t 11) (.c (.int .i64 64)), none, true⟩] (some [0, 2, 12]) []) (
(.cond (.t 12) (
  (.seq (
  .reg none [
    ⟨some 13, .build [.int .i64 0, .int .i64 0, .int .i64 0, .int .i64 0, .int .i64 0, .int .i64 0, .int .i64 0, .int .i64 0, .int .i64 0, .int .i64 0, .nils 1, .int .i64 0] [], none, true⟩,
    ⟨none, .store 12 (.t 2) (.t 13), none, true⟩,
    ⟨some 3, .as (.c (.int .i64 4)), none, true⟩] (some [2, 3]) []) (
  .ret))) (
  .skip))))) (
(.seq (
.reg none [
  ⟨some 14, .mv (.t 0), none, true⟩,
  ⟨some 15, .build [.nils 1] [(0, 1, .t 14)], none, true⟩,
  ⟨some 16, .box (.t 15), none, true⟩,
  ⟨some 17, .mkf (.func 60) [.t 16] [], none, true⟩,
  ⟨some 4, .as (.t 17), none, true⟩] (some [0, 2, 4]) []) (
(.seq (
.reg none [
  ⟨some 5, .alloc [.int .i64 0, .int .i64 0, .int .i64 0, .int .i64 0, .int .i64 0, .int .i64 0, .int .i64 0, .int .i64 0, .int .i64 0, .int .i64 0, .nils 1, .int .i64 0], none, true⟩] (some [0, 2, 4, 5]) []) (
(.seq (
.reg none [
  ⟨some 18, .mv (.t 4), none, true⟩,
  ⟨some 19, .cal (.t 18) [.c (.int .i64 1)], none, true⟩] (some [0, 2, 4, 5]) []) (
(.seq (
.reg none [
  ⟨some 20, .mv (.t 4), none, true⟩,
  ⟨some 21, .cal (.t 20) [.c (.int .i64 4)], none, true⟩,
  ⟨some 22, .mv (.t 4), none, true⟩,
  ⟨some 23, .cal (.t 22) [.c (.int .i64 2)], none, true⟩,
  ⟨some 24, .fad 0 (.t 5), none, true⟩,
  ⟨none, .store 1 (.t 24) (.t 21), none, true⟩,
  ⟨some 25, .fad 1 (.t 5), none, true⟩,
  ⟨none, .store 1 (.t 25) (.t 23), none, true⟩] (some [0, 2, 4, 5]) []) (
(.seq (
(.seq (
.reg none [
  ⟨some 26, .mv (.c (.int .i64 0)), none, true⟩] (some [0, 2, 4, 5, 26]) []) (
(.block 0 (
A33_L3) (some [0, 2, 4, 5]) [6, 7, 35])))) (
(.seq (
(.seq (
.reg none [
  ⟨some 43, .mv (.c (.int .i64 0)), none, true⟩] (some [0, 2, 4, 5, 43]) []) (
(.block 4 (
A33_L1) (some [0, 2, 4, 5]) [8, 48])))) (
(.seq (
.reg none [
  ⟨some 54, .mv (.t 4), none, true⟩,
  ⟨some 55, .cal (.t 54) [.c (.int .i64 1)], none, true⟩,
  ⟨some 9, .as (.t 55), none, true⟩] (some [0, 2, 4, 5, 9]) []) (
(.seq (
(.seq (
.reg none [
  ⟨some 56, .mv (.t 9), none, true⟩,
  ⟨some 57, .bin .gtr (.t 56) (.c (.int .i64 8)), none, true⟩] (some [0, 2, 4, 5, 9, 57]) []) (
(.cond (.t 57) (
  (.seq (
  .reg none [
    ⟨some 58, .build [.int .i64 0, .int .i64 0, .int .i64 0, .int .i64 0, .int .i64 0, .int .i64 0, .int .i64 0, .int .i64 0, .int .i64 0, .int .i64 0, .nils 1, .int .i64 0] [], none, true⟩,
    ⟨none, .store 12 (.t 2) (.t 58), none, true⟩,
    ⟨some 3, .as (.c (.int .i64 4)), none, true⟩] (some [2, 3]) []) (
  .ret))) (
  .skip))))) (
(.seq (
(.seq (
.reg none [
  ⟨some 59, .mv (.t 9), none, true⟩,
  ⟨some 60, .mv (.c (.int .i64 0)), none, true⟩] (some [0, 2, 4, 5, 59, 60]) []) (
(.block 6 (
A33_L0) (some [0, 2, 4, 5]) [66, 68, 69])))) (
(.seq (
.reg none [
  ⟨some 73, .mv (.t 4), none, true⟩,
  ⟨some 74, .cal (.t 73) [.c (.int .i64 1)], none, true⟩,
  ⟨some 75, .fad 11 (.t 5), none, true⟩,
  ⟨none, .store 1 (.t 75) (.t 74), none, true⟩] (some [0, 2, 5]) []) (
(.seq (
(.seq (
.reg none [
  ⟨some 76, .load true 12 (.t 5), none, true⟩,
  ⟨some 77, .call 61 [.t 76], none, true⟩,
  ⟨some 78, .un .not (.t 77), none, true⟩,
  ⟨some 79, .mv (.t 78), none, true⟩,
  ⟨some 80, .load true 12 (.t 5), some (79, false), true⟩,
  ⟨some 81, .call 35 [.t 80], some (79, false), true⟩,
  ⟨some 82, .mv (.t 0), some (79, false), true⟩,
  ⟨some 83, .call 62 [.t 81, .t 82], some (79, false), true⟩,
  ⟨some 84, .un .not (.t 83), some (79, false), true⟩,
  ⟨some 85, .pick (.t 79) (.c (.bool true)) (.t 84), none, true⟩] (some [2, 5, 85]) []) (
(.cond (.t 85) (
  (.seq (
  .reg none [
    ⟨some 86, .build [.int .i64 0, .int .i64 0, .int .i64 0, .int .i64 0, .int .i64 0, .int .i64 0, .int .i64 0, .int .i64 0, .int .i64 0, .int .i64 0, .nils 1, .int .i64 0] [], none, true⟩,
    ⟨none, .store 12 (.t 2) (.t 86), none, true⟩,
    ⟨some 3, .as (.c (.int .i64 4)), none, true⟩] (some [2, 3]) []) (
  .ret))) (
  .skip))))) (
(.seq (
.reg none [
  ⟨some 87, .load true 12 (.t 5), none, true⟩,
  ⟨none, .store 12 (.t 2) (.t 87), none, true⟩,
  ⟨some 3, .as (.c (.int .i64 0)), none, true⟩] (some [2, 3]) [5]) (
.ret)))))))))))))))))))))))))))))
def A34_L0b : ACode := 
  (.seq (
  (.seq (
  .reg none [
    ⟨some 11, .mv (.t 5), none, true⟩,
    ⟨some 12, .mv (.t 0), none, true⟩,
    ⟨some 13, .len 0 (.t 12), none, true⟩,
    ⟨some 14, .bin .lss (.t 11) (.t 13), none, true⟩] (some [0, 1, 5, 14]) []) (
  (.cond (.t 14) (
    .skip) (
    .exit 0))))) (
  (.seq (
  (.block 1 (
  (.seq (
  .reg (some [.dr [23, 24] [], .dr [23, 24] [], .dr [23, 24] [], .dr [23, 24] [], .dr [19, 20] [], .dr [19, 20] [], .dr [19, 20] [], .dr [19, 20] [], .free]) [
    ⟨some 17, .mv (.t 0), none, true⟩,
    ⟨some 18, .mv (.t 5), none, true⟩,
    ⟨some 19, .ias 1 (.t 17) (.t 18), none, true⟩,
    ⟨some 20, .load false 1 (.t 19), none, true⟩,
    ⟨some 21, .mv (.t 1), none, true⟩,
    ⟨some 22, .mv (.t 5), none, true⟩,
    ⟨some 23, .ias 1 (.t 21) (.t 22), none, true⟩,
    ⟨some 24, .load false 1 (.t 23), none, true⟩,
    ⟨some 25, .bin .neq (.t 20) (.t 24), none, true⟩] (some [0, 1, 5, 25]) []) (
  (.cond (.t 25) (
    (.seq (
    .reg none [
      ⟨some 4, .as (.c (.bool false)), none, true⟩] (some [4]) []) (
    .ret))) (
    .skip))))) (some [0, 1, 5]) [4])) (
  .reg none [
    ⟨some 15, .mv (.t 5), none, true⟩,
    ⟨some 16, .bin .add (.t 15) (.c (.int .i64 1)), none, true⟩,
    ⟨some 5, .as (.t 16), none, true⟩] (some [0, 1, 5]) []))))
def A34_L0 : ACode := .loop A34_L0b (some [0, 1, 5]) [4]
/-- ambidexter/ambidexterref31.Same -/
def A34 : AFn := .code [.t 4] (
(.seq (
.reg none [
  ⟨some 4, .as (.c (.bool false)), none, true⟩] (some [0, 1]) []) (
(.seq (
(.seq (
.reg none [
  ⟨some 6, .mv (.t 0), none, true⟩,
  ⟨some 7, .len 0 (.t 6), none, true⟩,
  ⟨some 8, .mv (.t 1), none, true⟩,
  ⟨some 9, .len 0 (.t 8), none, true⟩,
  ⟨some 10, .bin .neq (.t 7) (.t 9), none, true⟩] (some [0, 1, 10]) []) (
(.cond (.t 10) (
  (.seq (
  .reg none [
    ⟨some 4, .as (.c (.bool false)), none, true⟩] (some [4]) []) (
  .ret))) (
  .skip))))) (
(.seq (
(.seq (
.reg none [
  ⟨some 5, .as (.c (.int .i64 0)), none, true⟩] (some [0, 1, 5]) []) (
(.block 0 (
A34_L0) (some []) [4, 5])))) (
(.seq (
.reg none [
  ⟨some 4, .as (.c (.bool true)), none, true⟩] (some [4]) []) (
.ret)))))))))
/-- ambidexter/journal.Encode -/
def A35 : AFn := .code [.t 2] (
(.seq (
.reg none [
  ⟨some 1, .box (.t 0), none, true⟩,
  ⟨some 2, .as (.c (.nils 1)), none, true⟩] (some [1]) []) (
(.seq (
.reg (some [.dr [7, 10, 28, 29, 30, 34, 37, 38] [], .dr [7, 10, 28, 29, 30, 34, 37, 38] [], .dr [4, 5, 10, 28, 29, 30, 34, 37, 38] [], .dr [4, 5, 10, 28, 29, 30, 34, 37, 38] [], .dr [10, 28, 29, 30, 34, 37, 38] [], .dr [4, 5, 7, 8, 28, 29, 30, 34, 37, 38] [], .dr [4, 5, 7, 8, 28, 29, 30, 34, 37, 38] [], .dr [28, 29, 30, 34, 37, 38] [], .dr [4, 5, 7, 8, 10, 11, 28, 29, 30, 34, 37, 38] [], .dr [4, 5, 7, 8, 10, 11, 28, 29, 30, 34, 37, 38] [], .dr [4, 5, 7, 8, 10, 11, 28, 29, 30, 34, 37, 38] [], .dr [4, 5, 7, 8, 10, 11, 28, 29, 30, 34, 37, 38] [], .dr [28, 29, 30, 34, 37, 38] [], .dr [4, 5, 7, 8, 10, 11, 16, 28, 29, 30, 34, 37, 38] [], .dr [4, 5, 7, 8, 10, 11, 16, 28, 29, 30, 34, 37, 38] [], .dr [4, 5, 7, 8, 10, 11, 16, 28, 29, 30, 34, 37, 38] [], .dr [4, 5, 7, 8, 10, 11, 16, 28, 29, 30, 34, 37, 38] [], .dr [28, 29, 30, 34, 37, 38] [], .dr [4, 5, 7, 8, 10, 11, 16, 21, 28, 29, 30, 34, 37, 38] [], .dr [4, 5, 7, 8, 10, 11, 16, 21, 28, 29, 30, 34, 37, 38] [], .dr [4, 5, 7, 8, 10, 11, 16, 21, 28, 29, 30, 34, 37, 38] [], .dr [28, 29, 30, 34, 37, 38] [], .dr [4, 5, 7, 8, 10, 11, 16, 21, 25, 34, 37, 38] [], .dr [4, 5, 7, 8, 10, 11, 16, 21, 25, 34, 37, 38] [], .dr [4, 5, 7, 8, 10, 11, 16, 21, 25, 34, 37, 38] [], .dr [4, 5, 7, 8, 10, 11, 16, 21, 25, 34, 37, 38] [], .dr [4, 5, 7, 8, 10, 11, 16, 21, 25, 34, 37, 38] [], .dr [34, 37, 38] [], .dr [4, 5, 7, 8, 10, 11, 16, 21, 25, 28, 29, 30, 31, 37, 38] [], .dr [4, 5, 7, 8, 10, 11, 16, 21, 25, 28, 29, 30, 31, 37, 38] [], .dr [4, 5, 7, 8, 10, 11, 16, 21, 25, 28, 29, 30, 31, 37, 38] [], .dr [37, 38] [], .dr [4, 5, 7, 8, 10, 11, 16, 21, 25, 28, 29, 30, 31, 34, 35] [], .dr [4, 5, 7, 8, 10, 11, 16, 21, 25, 28, 29, 30, 31, 34, 35] [], .dr [4, 5, 7, 8, 10, 11, 16, 21, 25, 28, 29, 30, 31, 34, 35] [], .free, .free, .free, .free]) [
  ⟨some 4, .bsl 1 1 [.int .i64 0] [(0, .c (.int .i64 74))], none, false⟩,
  ⟨some 5, .call 64 [.c (.int .i64 0), .t 4], none, true⟩,
  ⟨some 6, .fad 0 (.t 1), none, true⟩,
  ⟨some 7, .load false 1 (.t 6), none, true⟩,
  ⟨some 8, .call 65 [.t 7, .c (.int .i64 4)], none, true⟩,
  ⟨some 9, .fad 1 (.t 1), none, true⟩,
  ⟨some 10, .load false 1 (.t 9), none, true⟩,
  ⟨some 11, .call 65 [.t 10, .c (.int .i64 2)], none, true⟩,
  ⟨some 12, .fad 2 (.t 1), none, true⟩,
  ⟨some 13, .fad 0 (.t 12), none, true⟩,
  ⟨some 14, .iaa 2 3 (.t 13) (.c (.int .i64 0)), none, true⟩,
  ⟨some 15, .sla 3 1 (.t 14) none none, none, true⟩,
  ⟨some 16, .call 64 [.c (.int .i64 17), .t 15], none, true⟩,
  ⟨some 17, .fad 2 (.t 1), none, true⟩,
  ⟨some 18, .fad 0 (.t 17), none, true⟩,
  ⟨some 19, .iaa 2 3 (.t 18) (.c (.int .i64 1)), none, true⟩,
  ⟨some 20, .sla 3 1 (.t 19) none none, none, true⟩,
  ⟨some 21, .call 64 [.c (.int .i64 17), .t 20], none, true⟩,
  ⟨some 22, .fad 2 (.t 1), none, true⟩,
  ⟨some 23, .fad 6 (.t 22), none, true⟩,
  ⟨some 24, .sla 2 1 (.t 23) none none, none, true⟩,
  ⟨some 25, .call 64 [.c (.int .i64 1), .t 24], none, true⟩,
  ⟨some 26, .fad 2 (.t 1), none, true⟩,
  ⟨some 27, .fad 8 (.t 26), none, true⟩,
  ⟨some 28, .load false 1 (.t 27), none, true⟩,
  ⟨some 29, .len 0 (.t 28), none, true⟩,
  ⟨some 30, .bsl 1 1 [.int .i64 0] [(0, .t 29)], none, false⟩,
  ⟨some 31, .call 64 [.c (.int .i64 0), .t 30], none, true⟩,
  ⟨some 32, .fad 2 (.t 1), none, true⟩,
  ⟨some 33, .fad 8 (.t 32), none, true⟩,
  ⟨some 34, .load false 1 (.t 33), none, true⟩,
  ⟨some 35, .call 64 [.c (.int .i64 1), .t 34], none, true⟩,
  ⟨some 36, .fad 11 (.t 1), none, true⟩,
  ⟨some 37, .load false 1 (.t 36), none, true⟩,
  ⟨some 38, .bsl 1 1 [.int .i64 0] [(0, .t 37)], none, false⟩,
  ⟨some 39, .call 64 [.c (.int .i64 0), .t 38], none, true⟩,
  ⟨some 40, .bsl 1 9 [.nils 1] [(0, .t 5), (1, .t 8), (2, .t 11), (3, .t 16), (4, .t 21), (5, .t 25), (6, .t 31), (7, .t 35), (8, .t 39)], none, true⟩,
  ⟨some 41, .call 63 [.t 40], none, true⟩,
  ⟨some 3, .as (.t 41), none, true⟩] (some [1, 3]) []) (
(.seq (
.reg none [
  ⟨some 42, .mv (.t 3), none, true⟩,
  ⟨some 43, .mv (.t 3), none, true⟩,
  ⟨some 44, .len 0 (.t 43), none, true⟩,
  ⟨some 45, .bin .sub (.c (.int .i64 58)) (.t 44), none, true⟩,
  ⟨some 46, .apz 1 [.int .u8 0] (.t 42) (.t 45), none, true⟩,
  ⟨some 3, .as (.t 46), none, true⟩] (some [1, 3]) []) (
(.seq (
.reg (some [.loc, .loc, .loc, .dr [52] [], .dr [52] [], .dr [49, 50] [], .free, .free, .free, .free]) [
  ⟨some 47, .mv (.t 3), none, true⟩,
  ⟨some 48, .mv (.t 3), none, true⟩,
  ⟨some 51, .fad 0 (.t 1), none, true⟩,
  ⟨some 49, .call 66 [.t 48], none, true⟩,
  ⟨some 50, .call 65 [.t 49, .c (.int .i64 2)], none, true⟩,
  ⟨some 52, .load false 1 (.t 51), none, true⟩,
  ⟨some 53, .call 65 [.t 52, .c (.int .i64 4)], none, true⟩,
  ⟨some 54, .bsl 1 3 [.nils 1] [(0, .t 47), (1, .t 50), (2, .t 53)], none, true⟩,
  ⟨some 55, .call 63 [.t 54], none, true⟩,
  ⟨some 2, .as (.t 55), none, true⟩] (some [2]) []) (
.ret)))))))))
def A36_L0b : ACode := 
  (.seq (
  (.seq (
  .reg none [
    ⟨some 54, .mv (.t 5), none, true⟩,
    ⟨some 55, .fad 2 (.t 2), none, true⟩,
    ⟨some 56, .fad 8 (.t 55), none, true⟩,
    ⟨some 57, .load false 1 (.t 56), none, true⟩,
    ⟨some 58, .len 0 (.t 57), none, true⟩,
    ⟨some 59, .bin .lss (.t 54) (.t 58), none, true⟩] (some [2, 3, 5, 59]) []) (
  (.cond (.t 59) (
    .skip) (
    .exit 0))))) (
  (.seq (
  (.block 1 (
  (.seq (
  .reg (some [.dr [70, 72, 73] [], .dr [70, 72, 73] [], .dr [70, 72, 73] [], .dr [64, 70, 72, 73] [], .dr [70, 72, 73] [], .dr [70, 72, 73] [], .dr [64, 66, 67] [], .dr [64, 66, 67] [], .dr [64, 66, 67] [], .dr [64, 66, 67, 70] [], .dr [64, 66, 67] [], .dr [64, 66, 67] [], .free]) [
    ⟨some 62, .fad 2 (.t 2), none, true⟩,
    ⟨some 63, .fad 8 (.t 62), none, true⟩,
    ⟨some 64, .load false 1 (.t 63), none, true⟩,
    ⟨some 65, .mv (.t 5), none, true⟩,
    ⟨some 66, .ias 1 (.t 64) (.t 65), none, true⟩,
    ⟨some 67, .load false 1 (.t 66), none, true⟩,
    ⟨some 68, .fad 2 (.t 3), none, true⟩,
    ⟨some 69, .fad 8 (.t 68), none, true⟩,
    ⟨some 70, .load false 1 (.t 69), none, true⟩,
    ⟨some 71, .mv (.t 5), none, true⟩,
    ⟨some 72, .ias 1 (.t 70) (.t 71), none, true⟩,
    ⟨some 73, .load false 1 (.t 72), none, true⟩,
    ⟨some 74, .bin .neq (.t 67) (.t 73), none, true⟩] (some [2, 3, 5, 74]) []) (
  (.cond (.t 74) (
    (.seq (
    .reg none [
      ⟨some 4, .as (.c (.bool false)), none, true⟩] (some [4]) []) (
    .ret))) (
    .skip))))) (some [2, 3, 5]) [4])) (
  .reg none [
    ⟨some 60, .mv (.t 5), none, true⟩,
    ⟨some 61, .bin .add (.t 60) (.c (.int .i64 1)), none, true⟩,
    ⟨some 5, .as (.t 61), none, true⟩] (some [2, 3, 5]) []))))
def A36_L0 : ACode := .loop A36_L0b (some [2, 3, 5]) [4]
/-- ambidexter/ambidexterref31.SameRecord -/
def A36 : AFn := .code [.t 4] (
(.seq (
.reg none [
  ⟨some 2, .box (.t 0), none, true⟩,
  ⟨some 3, .box (.t 1), none, true⟩,
  ⟨some 4, .as (.c (.bool false)), none, true⟩] (some [2, 3]) []) (
(.seq (
(.seq (
.reg none [
  ⟨some 6, .fad 0 (.t 2), none, true⟩,
  ⟨some 7, .load false 1 (.t 6), none, true⟩,
  ⟨some 8, .fad 0 (.t 3), none, true⟩,
  ⟨some 9, .load false 1 (.t 8), none, true⟩,
  ⟨some 10, .bin .neq (.t 7) (.t 9), none, true⟩,
  ⟨some 11, .mv (.t 10), none, true⟩,
  ⟨some 12, .fad 1 (.t 2), some (11, false), true⟩,
  ⟨some 13, .load false 1 (.t 12), some (11, false), true⟩,
  ⟨some 14, .fad 1 (.t 3), some (11, false), true⟩,
  ⟨some 15, .load false 1 (.t 14), some (11, false), true⟩,
  ⟨some 16, .bin .neq (.t 13) (.t 15), some (11, false), true⟩,
  ⟨some 17, .pick (.t 11) (.c (.bool true)) (.t 16), none, true⟩,
  ⟨some 18, .mv (.t 17), none, true⟩,
  ⟨some 19, .fad 11 (.t 2), some (18, false), true⟩,
  ⟨some 20, .load false 1 (.t 19), some (18, false), true⟩,
  ⟨some 21, .fad 11 (.t 3), some (18, false), true⟩,
  ⟨some 22, .load false 1 (.t 21), some (18, false), true⟩,
  ⟨some 23, .bin .neq (.t 20) (.t 22), some (18, false), true⟩,
  ⟨some 24, .pick (.t 18) (.c (.bool true)) (.t 23), none, true⟩,
  ⟨some 25, .mv (.t 24), none, true⟩,
  ⟨some 26, .fad 2 (.t 2), some (25, false), true⟩,
  ⟨some 27, .fad 0 (.t 26), some (25, false), true⟩,
  ⟨some 28, .load true 6 (.t 27), some (25, false), true⟩,
  ⟨some 29, .fad 2 (.t 3), some (25, false), true⟩,
  ⟨some 30, .fad 0 (.t 29), some (25, false), true⟩,
  ⟨some 31, .load true 6 (.t 30), some (25, false), true⟩,
  ⟨some 32, .eqa true [0, 0, 0, 0, 0, 0] (.t 28) (.t 31), some (25, false), true⟩,
  ⟨some 33, .pick (.t 25) (.c (.bool true)) (.t 32), none, true⟩,
  ⟨some 34, .mv (.t 33), none, true⟩,
  ⟨some 35, .fad 2 (.t 2), some (34, false), true⟩,
  ⟨some 36, .fad 6 (.t 35), some (34, false), true⟩,
  ⟨some 37, .load true 2 (.t 36), some (34, false), true⟩,
  ⟨some 38, .fad 2 (.t 3), some (34, false), true⟩,
  ⟨some 39, .fad 6 (.t 38), some (34, false), true⟩,
  ⟨some 40, .load true 2 (.t 39), some (34, false), true⟩,
  ⟨some 41, .eqa true [0, 0] (.t 37) (.t 40), some (34, false), true⟩,
  ⟨some 42, .pick (.t 34) (.c (.bool true)) (.t 41), none, true⟩,
  ⟨some 43, .mv (.t 42), none, true⟩,
  ⟨some 44, .fad 2 (.t 2), some (43, false), true⟩,
  ⟨some 45, .fad 8 (.t 44), some (43, false), true⟩,
  ⟨some 46, .load false 1 (.t 45), some (43, false), true⟩,
  ⟨some 47, .len 0 (.t 46), some (43, false), true⟩,
  ⟨some 48, .fad 2 (.t 3), some (43, false), true⟩,
  ⟨some 49, .fad 8 (.t 48), some (43, false), true⟩,
  ⟨some 50, .load false 1 (.t 49), some (43, false), true⟩,
  ⟨some 51, .len 0 (.t 50), some (43, false), true⟩,
  ⟨some 52, .bin .neq (.t 47) (.t 51), some (43, false), true⟩,
  ⟨some 53, .pick (.t 43) (.c (.bool true)) (.t 52), none, true⟩] (some [2, 3, 53]) []) (
(.cond (.t 53) (
  (.seq (
  .reg none [
    ⟨some 4, .as (.c (.bool false)), none, true⟩] (some [4]) []) (
  .ret))) (
  .skip))))) (
(.seq (
(.seq (
.reg none [
  ⟨some 5, .as (.c (.int .i64 0)), none, true⟩] (some [2, 3, 5]) []) (
(.block 0 (
A36_L0) (some []) [4, 5])))) (
(.seq (
.reg none [
  ⟨some 4, .as (.c (.bool true)), none, true⟩] (some [4]) []) (
.ret)))))))))
def A37_L0b : ACode := 
  (.seq (
  (.seq (
  .reg none [
    ⟨some 30, .mv (.t 5), none, true⟩,
    ⟨some 31, .fad 2 (.t 1), none, true⟩,
    ⟨some 32, .fad 8 (.t 31), none, true⟩,
    ⟨some 33, .load false 1 (.t 32), none, true⟩,
    ⟨some 34, .len 0 (.t 33), none, true⟩,
    ⟨some 35, .bin .lss (.t 30) (.t 34), none, true⟩] (some [1, 5, 35]) []) (
  (.cond (.t 35) (
    .skip) (
    .exit 4))))) (
  (.seq (
  (.block 5 (
  (.seq (
  .reg none [
    ⟨some 38, .fad 2 (.t 1), none, true⟩,
    ⟨some 39, .fad 8 (.t 38), none, true⟩,
    ⟨some 40, .load false 1 (.t 39), none, true⟩,
    ⟨some 41, .mv (.t 5), none, true⟩,
    ⟨some 42, .ias 1 (.t 40) (.t 41), none, true⟩,
    ⟨some 43, .load false 1 (.t 42), none, true⟩,
    ⟨some 44, .call 67 [.t 43, .c (.int .i64 (-1)), .c (.int .i64 15)], none, true⟩,
    ⟨some 45, .un .not (.t 44), none, true⟩] (some [1, 5, 45]) []) (
  (.cond (.t 45) (
    (.seq (
    .reg none [
      ⟨some 2, .as (.c (.bool false)), none, true⟩] (some [2]) []) (
    .ret))) (
    .skip))))) (some [1, 5]) [2, 44])) (
  .reg none [
    ⟨some 36, .mv (.t 5), none, true⟩,
    ⟨some 37, .bin .add (.t 36) (.c (.int .i64 1)), none, true⟩,
    ⟨some 5, .as (.t 37), none, true⟩] (some [1, 5]) []))))
def A37_L0 : ACode := .loop A37_L0b (some [1, 5]) [2, 44]
def A37_L1b : ACode := 
    (.seq (
    (.seq (
    .reg none [
      ⟨some 10, .mv (.t 4), none, true⟩,
      ⟨some 11, .bin .lss (.t 10) (.c (.int .i64 3)), none, true⟩] (some [1, 3, 4, 11]) []) (
    (.cond (.t 11) (
      .skip) (
      .exit 2))))) (
    (.seq (
    (.block 3 (
    (.seq (
    .reg none [
      ⟨some 14, .mv (.t 3), none, true⟩,
      ⟨some 15, .mv (.t 4), none, true⟩,
      ⟨some 16, .fad 2 (.t 1), none, true⟩,
      ⟨some 17, .fad 0 (.t 16), none, true⟩,
      ⟨some 18, .iaa 2 3 (.t 17) (.t 14), none, true⟩,
      ⟨some 19, .iaa 3 1 (.t 18) (.t 15), none, true⟩,
      ⟨some 20, .load false 1 (.t 19), none, true⟩,
      ⟨some 21, .call 67 [.t 20, .c (.int .i64 (-17)), .c (.int .i64 18)], none, true⟩,
      ⟨some 22, .un .not (.t 21), none, true⟩] (some [1, 3, 4, 22]) []) (
    (.cond (.t 22) (
      (.seq (
      .reg none [
        ⟨some 2, .as (.c (.bool false)), none, true⟩] (some [2]) []) (
      .ret))) (
      .skip))))) (some [1, 3, 4]) [2, 21])) (
    .reg none [
      ⟨some 12, .mv (.t 4), none, true⟩,
      ⟨some 13, .bin .add (.t 12) (.c (.int .i64 1)), none, true⟩,
      ⟨some 4, .as (.t 13), none, true⟩] (some [1, 3, 4]) []))))
def A37_L1 : ACode := .loop A37_L1b (some [1, 3, 4]) [2, 21]
def A37_L2b : ACode := 
  (.seq (
  (.seq (
  .reg none [
    ⟨some 6, .mv (.t 3), none, true⟩,
    ⟨some 7, .bin .lss (.t 6) (.c (.int .i64 2)), none, true⟩] (some [1, 3, 7]) []) (
  (.cond (.t 7) (
    .skip) (
    .exit 0))))) (
  (.seq (
  (.block 1 (
  (.seq (
  (.seq (
  .reg none [
    ⟨some 4, .as (.c (.int .i64 0)), none, true⟩] (some [1, 3, 4]) []) (
  (.block 2 (
  A37_L1) (some [1, 3]) [2, 4, 21])))) (
  (.seq (
  .reg none [
    ⟨some 23, .mv (.t 3), none, true⟩,
    ⟨some 24, .fad 2 (.t 1), none, true⟩,
    ⟨some 25, .fad 6 (.t 24), none, true⟩,
    ⟨some 26, .iaa 2 1 (.t 25) (.t 23), none, true⟩,
    ⟨some 27, .load false 1 (.t 26), none, true⟩,
    ⟨some 28, .call 67 [.t 27, .c (.int .i64 (-1)), .c (.int .i64 7)], none, true⟩,
    ⟨some 29, .un .not (.t 28), none, true⟩] (some [1, 3, 29]) []) (
  (.cond (.t 29) (
    (.seq (
    .reg none [
      ⟨some 2, .as (.c (.bool false)), none, true⟩] (some [2]) []) (
    .ret))) (
    .skip))))))) (some [1, 3]) [2, 4, 21, 28])) (
  .reg none [
    ⟨some 8, .mv (.t 3), none, true⟩,
    ⟨some 9, .bin .add (.t 8) (.c (.int .i64 1)), none, true⟩,
    ⟨some 3, .as (.t 9), none, true⟩] (some [1, 3]) []))))
def A37_L2 : ACode := .loop A37_L2b (some [1, 3]) [2, 4, 21, 28]
/-- ambidexter/ambidexterref31.May -/
def A37 : AFn := .code [.t 2] (
(.seq (
.reg none [
  ⟨some 1, .box (.t 0), none, true⟩,
  ⟨some 2, .as (.c (.bool false)), none, true⟩] (some [1]) []) (
(.seq (
(.seq (
.reg none [
  ⟨some 3, .as (.c (.int .i64 0)), none, true⟩] (some [1, 3]) []) (
(.block 0 (
A37_L2) (some [1]) [2, 3, 4, 21, 28])))) (
(.seq (
(.seq (
.reg none [
  ⟨some 5, .as (.c (.int .i64 0)), none, true⟩] (some [1, 5]) []) (
(.block 4 (
A37_L0) (some [1]) [2, 5, 44])))) (
(.seq (
.reg none [
  ⟨some 46, .fad 0 (.t 1), none, true⟩,
  ⟨some 47, .load false 1 (.t 46), none, true⟩,
  ⟨some 48, .call 67 [.t 47, .c (.int .i64 1), .c (.int .i64 1073741824)], none, true⟩,
  ⟨some 49, .mv (.t 48), none, true⟩,
  ⟨some 50, .fad 1 (.t 1), some (49, true), true⟩,
  ⟨some 51, .load false 1 (.t 50), some (49, true), true⟩,
  ⟨some 52, .call 67 [.t 51, .c (.int .i64 0), .c (.int .i64 300)], some (49, true), true⟩,
  ⟨some 53, .pick (.t 49) (.t 52) (.c (.bool false)), none, true⟩,
  ⟨some 54, .mv (.t 53), none, true⟩,
  ⟨some 55, .fad 2 (.t 1), some (54, true), true⟩,
  ⟨some 56, .fad 8 (.t 55), some (54, true), true⟩,
  ⟨some 57, .load false 1 (.t 56), some (54, true), true⟩,
  ⟨some 58, .len 0 (.t 57), some (54, true), true⟩,
  ⟨some 59, .bin .leq (.t 58) (.c (.int .i64 8)), some (54, true), true⟩,
  ⟨some 60, .pick (.t 54) (.t 59) (.c (.bool false)), none, true⟩,
  ⟨some 61, .mv (.t 60), none, true⟩,
  ⟨some 62, .fad 11 (.t 1), some (61, true), true⟩,
  ⟨some 63, .load false 1 (.t 62), some (61, true), true⟩,
  ⟨some 64, .call 67 [.t 63, .c (.int .i64 1), .c (.int .i64 5)], some (61, true), true⟩,
  ⟨some 65, .pick (.t 61) (.t 64) (.c (.bool false)), none, true⟩,
  ⟨some 2, .as (.t 65), none, true⟩] (some [2]) [1]) (
.ret)))))))))
/-- ambidexter/journal.New -/
def A38 : AFn := .code [.cell true 6 2] (
(.seq (
.reg none [
  ⟨some 1, .box (.t 0), none, true⟩,
  ⟨some 2, .alloc [.nils 1, .int .i64 0, .int .i64 0, .bool false, .int .i64 0, .int .i64 0], none, true⟩] (some [1, 2]) []) (
(.seq (
.reg none [
  ⟨some 3, .load true 4 (.t 1), none, true⟩,
  ⟨some 4, .build [.nils 1, .int .i64 0, .int .i64 0, .bool false, .int .i64 0, .int .i64 0] [(0, 4, .t 3), (4, 1, .c (.int .i64 1))], none, true⟩,
  ⟨none, .store 6 (.t 2) (.t 4), none, true⟩] (some [2]) [1]) (
.ret)))))
/-- ambidexter/ambidexterlaw31.empty -/
def A39 : AFn := .code [.cell true 4 2] (
(.seq (
.reg none [
  ⟨some 2, .alloc [.nils 1, .int .i64 0, .int .i64 0, .bool false], none, true⟩] (some [0, 2]) []) (
(.seq (
.reg none [
  ⟨some 6, .mv (.t 0), none, true⟩,
  ⟨some 7, .call 17 [.t 6], none, true⟩,
  ⟨some 5, .mv (.t 7), none, true⟩,
  ⟨some 8, .ext (.t 5) 0, none, true⟩,
  ⟨some 9, .ext (.t 5) 1, none, true⟩,
  ⟨some 3, .alloc [.nils 1, .int .i64 0, .int .i64 0, .bool false], none, true⟩,
  ⟨none, .store 4 (.t 3) (.t 8), none, true⟩,
  ⟨some 4, .as (.t 9), none, true⟩] (some [2, 3]) []) (
(.seq (
.reg none [
  ⟨some 10, .load true 4 (.t 3), none, true⟩,
  ⟨none, .store 4 (.t 2) (.t 10), none, true⟩] (some [2]) [3]) (
.ret)))))))
/-- ambidexter/journal.Append -/
def A40 : AFn := .code [.cell true 6 4, .t 5] (
(.seq (
.reg none [
  ⟨some 2, .box (.t 0), none, true⟩,
  ⟨some 3, .box (.t 1), none, true⟩,
  ⟨some 4, .alloc [.nils 1, .int .i64 0, .int .i64 0, .bool false, .int .i64 0, .int .i64 0], none, true⟩,
  ⟨some 5, .as (.c (.int .i64 0)), none, true⟩] (some [2, 3, 4]) []) (
(.seq (
.reg none [
  ⟨some 8, .fad 0 (.t 3), none, true⟩,
  ⟨none, .store 1 (.t 8) (.c (.int .i64 1)), none, true⟩] (some [2, 3, 4]) []) (
(.seq (
(.seq (
.reg none [
  ⟨some 9, .load true 12 (.t 3), none, true⟩,
  ⟨some 10, .call 61 [.t 9], none, true⟩,
  ⟨some 11, .un .not (.t 10), none, true⟩] (some [2, 3, 4, 11]) []) (
(.cond (.t 11) (
  (.seq (
  .reg none [
    ⟨some 12, .load true 6 (.t 2), none, true⟩,
    ⟨none, .store 6 (.t 4) (.t 12), none, true⟩,
    ⟨some 5, .as (.c (.int .i64 1)), none, true⟩] (some [4, 5]) [2]) (
  .ret))) (
  .skip))))) (
(.seq (
(.seq (
.reg none [
  ⟨some 13, .fad 4 (.t 2), none, true⟩,
  ⟨some 14, .load false 1 (.t 13), none, true⟩,
  ⟨some 15, .bin .gtr (.t 14) (.c (.int .i64 1073741824)), none, true⟩] (some [2, 3, 4, 15]) []) (
(.cond (.t 15) (
  (.seq (
  .reg none [
    ⟨some 16, .load true 6 (.t 2), none, true⟩,
    ⟨none, .store 6 (.t 4) (.t 16), none, true⟩,
    ⟨some 5, .as (.c (.int .i64 310)), none, true⟩] (some [4, 5]) [2]) (
  .ret))) (
  .skip))))) (
(.seq (
.reg none [
  ⟨some 17, .fad 4 (.t 2), none, true⟩,
  ⟨some 18, .load false 1 (.t 17), none, true⟩,
  ⟨some 19, .fad 0 (.t 3), none, true⟩,
  ⟨none, .store 1 (.t 19) (.t 18), none, true⟩] (some [2, 3, 4]) []) (
(.seq (
.reg (some [.dr [24, 25, 26, 6] [], .dr [24, 25, 26, 6] [], .dr [22, 25, 26, 6] [], .dr [22, 25, 26, 6] [], .dr [22, 24, 6] [], .dr [22, 24, 6] [], .dr [6] [], .dr [6] [], .dr [6] [], .dr [6] [], .dr [22, 24, 25, 26, 27] [], .dr [] [6], .free]) [
  ⟨some 21, .fad 0 (.t 2), none, true⟩,
  ⟨some 22, .load true 4 (.t 21), none, true⟩,
  ⟨some 23, .fad 5 (.t 2), none, true⟩,
  ⟨some 24, .load false 1 (.t 23), none, true⟩,
  ⟨some 25, .load true 12 (.t 3), none, true⟩,
  ⟨some 26, .call 35 [.t 25], none, false⟩,
  ⟨some 27, .call 29 [.t 22, .t 24, .t 26], none, true⟩,
  ⟨some 20, .mv (.t 27), none, true⟩,
  ⟨some 28, .ext (.t 20) 0, none, true⟩,
  ⟨some 29, .ext (.t 20) 1, none, true⟩,
  ⟨some 6, .alloc [.nils 1, .int .i64 0, .int .i64 0, .bool false], none, true⟩,
  ⟨none, .store 4 (.t 6) (.t 28), none, true⟩,
  ⟨some 7, .as (.t 29), none, true⟩] (some [2, 4, 6, 7]) [3]) (
(.seq (
.reg none [
  ⟨some 30, .load true 4 (.t 6), none, true⟩,
  ⟨some 31, .fad 0 (.t 2), none, true⟩,
  ⟨none, .store 4 (.t 31) (.t 30), none, true⟩] (some [2, 4, 6, 7]) []) (
(.seq (
(.seq (
.reg none [
  ⟨some 32, .mv (.t 7), none, true⟩,
  ⟨some 33, .bin .neq (.t 32) (.c (.int .i64 0)), none, true⟩] (some [2, 4, 6, 7, 33]) []) (
(.cond (.t 33) (
  (.seq (
  .reg none [
    ⟨some 34, .load true 6 (.t 2), none, true⟩,
    ⟨some 35, .mv (.t 7), none, true⟩,
    ⟨none, .store 6 (.t 4) (.t 34), none, true⟩,
    ⟨some 5, .as (.t 35), none, true⟩] (some [4, 5]) [2]) (
  .ret))) (
  .skip))))) (
(.seq (
.reg (some [.dr [39, 41, 42] [], .dr [39, 41, 42] [], .dr [39, 41, 42] [], .dr [37, 41] [], .dr [37, 39] [], .dr [37, 39] [], .dr [37] [], .dr [39, 42] [], .free, .free, .free]) [
  ⟨some 36, .fad 4 (.t 2), none, true⟩,
  ⟨some 37, .load false 1 (.t 36), none, true⟩,
  ⟨some 38, .bin .add (.t 37) (.c (.int .i64 1)), none, true⟩,
  ⟨some 39, .load true 4 (.t 6), none, true⟩,
  ⟨some 40, .fad 5 (.t 2), none, true⟩,
  ⟨some 41, .load false 1 (.t 40), none, true⟩,
  ⟨some 42, .call 68 [.t 39, .t 41], none, true⟩,
  ⟨some 43, .fad 4 (.t 2), none, true⟩,
  ⟨none, .store 1 (.t 43) (.t 38), none, true⟩,
  ⟨some 44, .fad 5 (.t 2), none, true⟩,
  ⟨none, .store 1 (.t 44) (.t 42), none, true⟩] (some [2, 4]) [6]) (
(.seq (
.reg none [
  ⟨some 45, .load true 6 (.t 2), none, true⟩,
  ⟨none, .store 6 (.t 4) (.t 45), none, true⟩,
  ⟨some 5, .as (.c (.int .i64 0)), none, true⟩] (some [4, 5]) [2]) (
.ret)))))))))))))))))))))
def A41_L0b : ACode := 
  (.seq (
  (.seq (
  .reg none [
    ⟨some 56, .mv (.t 5), none, true⟩,
    ⟨some 57, .fad 0 (.t 2), none, true⟩,
    ⟨some 58, .fad 0 (.t 57), none, true⟩,
    ⟨some 59, .load false 1 (.t 58), none, true⟩,
    ⟨some 60, .len 0 (.t 59), none, true⟩,
    ⟨some 61, .bin .lss (.t 56) (.t 60), none, true⟩] (some [2, 3, 5, 61]) []) (
  (.cond (.t 61) (
    .skip) (
    .exit 0))))) (
  (.seq (
  (.block 1 (
  (.seq (
  .reg (some [.dr [72, 74, 75] [], .dr [72, 74, 75] [], .dr [72, 74, 75] [], .dr [66, 72, 74, 75] [], .dr [72, 74, 75] [], .dr [72, 74, 75] [], .dr [66, 68, 69] [], .dr [66, 68, 69] [], .dr [66, 68, 69] [], .dr [66, 68, 69, 72] [], .dr [66, 68, 69] [], .dr [66, 68, 69] [], .free, .free]) [
    ⟨some 64, .fad 0 (.t 2), none, true⟩,
    ⟨some 65, .fad 0 (.t 64), none, true⟩,
    ⟨some 66, .load false 1 (.t 65), none, true⟩,
    ⟨some 67, .mv (.t 5), none, true⟩,
    ⟨some 68, .ias 1 (.t 66) (.t 67), none, true⟩,
    ⟨some 69, .load false 1 (.t 68), none, true⟩,
    ⟨some 70, .fad 0 (.t 3), none, true⟩,
    ⟨some 71, .fad 0 (.t 70), none, true⟩,
    ⟨some 72, .load false 1 (.t 71), none, true⟩,
    ⟨some 73, .mv (.t 5), none, true⟩,
    ⟨some 74, .ias 1 (.t 72) (.t 73), none, true⟩,
    ⟨some 75, .load false 1 (.t 74), none, true⟩,
    ⟨some 76, .call 34 [.t 69, .t 75], none, true⟩,
    ⟨some 77, .un .not (.t 76), none, true⟩] (some [2, 3, 5, 77]) []) (
  (.cond (.t 77) (
    (.seq (
    .reg none [
      ⟨some 4, .as (.c (.bool false)), none, true⟩] (some [4]) []) (
    .ret))) (
    .skip))))) (some [2, 3, 5]) [4, 76])) (
  .reg none [
    ⟨some 62, .mv (.t 5), none, true⟩,
    ⟨some 63, .bin .add (.t 62) (.c (.int .i64 1)), none, true⟩,
    ⟨some 5, .as (.t 63), none, true⟩] (some [2, 3, 5]) []))))
def A41_L0 : ACode := .loop A41_L0b (some [2, 3, 5]) [4, 76]

end Go.Proofs.Ytjmnepfdhkabfaa
