/- Part of the proof: the evaluation of the program's code and its tie to the machine, or what functions of the program compute over it. -/
import Derived.Test.YtcdpfcdlnbbegaaEng6
import Derived.KernelRfl
namespace Go.Proofs.Ytcdpfcdlnbbegaa
open Go Go.Zv
set_option maxRecDepth 100000
/-- gosem.cut.init -/
def A2 : AFn := .code [] (
.reg none [
  ⟨some 0, .call 1 [], none, true⟩] (some []) [])
def A3_L0b : ACode := 
  (.seq (
  (.seq (
  .reg none [
    ⟨some 35, .mv (.t 15), none, true⟩,
    ⟨some 36, .mv (.t 12), none, true⟩,
    ⟨some 37, .len 0 (.t 36), none, true⟩,
    ⟨some 38, .bin .lss (.t 35) (.t 37), none, true⟩] (some [9, 10, 11, 12, 14, 15, 38]) []) (
  (.cond (.t 38) (
    .skip) (
    .exit 0))))) (
  (.seq (
  (.block 1 (
  .reg none [
    ⟨some 41, .mv (.t 14), none, true⟩,
    ⟨some 42, .mv (.t 12), none, true⟩,
    ⟨some 43, .mv (.t 15), none, true⟩,
    ⟨some 44, .ias 1 (.t 42) (.t 43), none, true⟩,
    ⟨some 45, .load false 1 (.t 44), none, true⟩,
    ⟨some 46, .un .neg (.t 45), none, true⟩,
    ⟨some 47, .bsl 1 1 [.int .i64 0] [(0, .t 46)], none, true⟩,
    ⟨some 48, .app 1 (.t 41) (.t 47), none, true⟩,
    ⟨some 14, .as (.t 48), none, true⟩] (some [9, 10, 11, 12, 14, 15]) []) (some [9, 10, 11, 12, 14, 15]) [47])) (
  .reg none [
    ⟨some 39, .mv (.t 15), none, true⟩,
    ⟨some 40, .bin .add (.t 39) (.c (.int .i64 1)), none, true⟩,
    ⟨some 15, .as (.t 40), none, true⟩] (some [9, 10, 11, 12, 14, 15]) []))))
def A3_L0 : ACode := .loop A3_L0b (some [9, 10, 11, 12, 14, 15]) [47]
/-- ambidexter/ambidextertop.TopReversedProfile -/
def A3 : AFn := .code [.t 8] (
(.seq (
.reg none [
  ⟨some 8, .as (.c (.bool false)), none, true⟩] (some [0, 1, 2, 3]) []) (
(.seq (
.reg none [
  ⟨some 18, .call 4 [], none, true⟩,
  ⟨some 9, .as (.t 18), none, true⟩] (some [0, 1, 2, 3, 9]) []) (
(.seq (
.reg none [
  ⟨some 19, .mv (.t 0), none, true⟩,
  ⟨some 20, .mv (.t 1), none, true⟩,
  ⟨some 21, .mv (.t 2), none, true⟩,
  ⟨some 22, .call 5 [.t 19, .t 20, .t 21], none, true⟩,
  ⟨some 10, .alloc [.int .i64 0, .int .i64 0, .int .i64 0], none, true⟩,
  ⟨none, .store 3 (.t 10) (.t 22), none, true⟩] (some [3, 9, 10]) []) (
(.seq (
.reg none [
  ⟨some 23, .mv (.t 3), none, true⟩,
  ⟨some 24, .conv .i64 (.t 23), none, true⟩,
  ⟨some 25, .bin .rem (.t 24) (.c (.int .i64 421)), none, true⟩,
  ⟨some 11, .as (.t 25), none, true⟩] (some [9, 10, 11]) []) (
(.seq (
.reg none [
  ⟨some 27, .load true 3 (.t 10), none, true⟩,
  ⟨some 28, .mv (.t 11), none, true⟩,
  ⟨some 29, .call 6 [.t 27, .t 28], none, true⟩,
  ⟨some 26, .mv (.t 29), none, true⟩,
  ⟨some 30, .ext (.t 26) 0, none, true⟩,
  ⟨some 31, .ext (.t 26) 1, none, true⟩,
  ⟨some 12, .as (.t 30), none, true⟩,
  ⟨some 13, .as (.t 31), none, true⟩] (some [9, 10, 11, 12, 13]) []) (
(.seq (
(.seq (
.reg none [
  ⟨some 32, .mv (.t 13), none, true⟩,
  ⟨some 33, .un .not (.t 32), none, true⟩] (some [9, 10, 11, 12, 33]) []) (
(.cond (.t 33) (
  (.seq (
  .reg none [
    ⟨some 34, .mv (.t 9), none, true⟩,
    ⟨some 8, .as (.t 34), none, true⟩] (some [8]) []) (
  .ret))) (
  .skip))))) (
(.seq (
.reg none [
  ⟨some 14, .as (.c (.nils 1)), none, true⟩] (some [9, 10, 11, 12, 14]) []) (
(.seq (
(.seq (
.reg none [
  ⟨some 15, .as (.c (.int .i64 0)), none, true⟩] (some [9, 10, 11, 12, 14, 15]) []) (
(.block 0 (
A3_L0) (some [9, 10, 11, 12, 14]) [15, 47])))) (
(.seq (
.reg none [
  ⟨some 49, .build [.int .i64 0, .int .i64 0, .int .i64 0] [], none, true⟩,
  ⟨some 50, .mv (.t 12), none, true⟩,
  ⟨some 51, .call 7 [.t 49, .t 50], none, true⟩,
  ⟨some 16, .alloc [.int .i64 0, .int .i64 0, .int .i64 0], none, true⟩,
  ⟨none, .store 3 (.t 16) (.t 51), none, true⟩] (some [9, 10, 11, 14, 16]) []) (
(.seq (
.reg none [
  ⟨some 52, .load true 3 (.t 16), none, true⟩,
  ⟨some 53, .mv (.t 14), none, true⟩,
  ⟨some 54, .call 7 [.t 52, .t 53], none, true⟩,
  ⟨some 17, .alloc [.int .i64 0, .int .i64 0, .int .i64 0], none, true⟩,
  ⟨none, .store 3 (.t 17) (.t 54), none, true⟩] (some [9, 10, 11, 14, 16, 17]) []) (
(.seq (
.reg none [
  ⟨some 55, .mv (.t 9), none, true⟩,
  ⟨some 56, .mv (.t 55), none, true⟩,
  ⟨some 57, .fad 0 (.t 16), some (56, true), true⟩,
  ⟨some 58, .load false 1 (.t 57), some (56, true), true⟩,
  ⟨some 59, .mv (.t 11), some (56, true), true⟩,
  ⟨some 60, .bin .eql (.t 58) (.t 59), some (56, true), true⟩,
  ⟨some 61, .pick (.t 56) (.t 60) (.c (.bool false)), none, true⟩,
  ⟨some 62, .mv (.t 61), none, true⟩,
  ⟨some 63, .load true 3 (.t 17), some (62, true), true⟩,
  ⟨some 64, .build [.int .i64 0, .int .i64 0, .int .i64 0] [], some (62, true), true⟩,
  ⟨some 65, .eqa false [0, 0, 0] (.t 63) (.t 64), some (62, true), true⟩,
  ⟨some 66, .pick (.t 62) (.t 65) (.c (.bool false)), none, true⟩,
  ⟨some 67, .mv (.t 66), none, true⟩,
  ⟨some 68, .load true 3 (.t 10), some (67, true), true⟩,
  ⟨some 69, .load true 3 (.t 16), some (67, true), true⟩,
  ⟨some 70, .mv (.t 14), some (67, true), true⟩,
  ⟨some 71, .call 8 [.t 68, .t 69, .t 70], some (67, true), true⟩,
  ⟨some 72, .pick (.t 67) (.t 71) (.c (.bool false)), none, true⟩,
  ⟨some 8, .as (.t 72), none, true⟩] (some [8]) [10, 16, 17]) (
.ret)))))))))))))))))))))))
/-- ambidexter/ambidextertop.head25 -/
def A4 : AFn := .code [.t 0] (
(.seq (
.reg none [
  ⟨some 0, .as (.c (.bool false)), none, true⟩] (some []) []) (
(.seq (
.reg none [
  ⟨some 11, .build [.int .i64 0, .int .i64 0, .int .i64 0] [(0, 1, .c (.int .i64 8)), (1, 1, .c (.int .i64 4)), (2, 1, .c (.int .i64 2))], none, true⟩,
  ⟨some 1, .alloc [.int .i64 0, .int .i64 0, .int .i64 0], none, true⟩,
  ⟨none, .store 3 (.t 1) (.t 11), none, true⟩] (some [1]) []) (
(.seq (
.reg none [
  ⟨some 13, .load true 3 (.t 1), none, true⟩,
  ⟨some 14, .call 6 [.t 13, .c (.int .i64 12)], none, true⟩,
  ⟨some 12, .mv (.t 14), none, true⟩,
  ⟨some 15, .ext (.t 12) 0, none, true⟩,
  ⟨some 16, .ext (.t 12) 1, none, true⟩,
  ⟨some 2, .as (.t 15), none, true⟩,
  ⟨some 3, .as (.t 16), none, true⟩] (some [1, 2, 3]) []) (
(.seq (
.reg none [
  ⟨some 18, .load true 3 (.t 1), none, true⟩,
  ⟨some 19, .call 9 [.t 18, .c (.int .i64 12)], none, true⟩,
  ⟨some 17, .mv (.t 19), none, true⟩,
  ⟨some 20, .ext (.t 17) 0, none, true⟩,
  ⟨some 21, .ext (.t 17) 1, none, true⟩,
  ⟨some 4, .as (.t 20), none, true⟩,
  ⟨some 5, .as (.t 21), none, true⟩] (some [1, 2, 3, 4, 5]) []) (
(.seq (
.reg none [
  ⟨some 22, .build [.int .i64 0, .int .i64 0, .int .i64 0] [], none, true⟩,
  ⟨some 23, .mv (.t 2), none, true⟩,
  ⟨some 24, .call 7 [.t 22, .t 23], none, true⟩,
  ⟨some 6, .alloc [.int .i64 0, .int .i64 0, .int .i64 0], none, true⟩,
  ⟨none, .store 3 (.t 6) (.t 24), none, true⟩] (some [1, 2, 3, 4, 5, 6]) []) (
(.seq (
.reg none [
  ⟨some 26, .call 11 [.c (.int .i64 5)], none, true⟩,
  ⟨some 27, .call 10 [.t 26, .c (.int .i64 1), .c (.int .i64 0), .c (.int .i64 3)], none, true⟩,
  ⟨some 25, .mv (.t 27), none, true⟩,
  ⟨some 28, .ext (.t 25) 0, none, true⟩,
  ⟨some 29, .ext (.t 25) 1, none, true⟩,
  ⟨some 7, .alloc [.int .i64 0, .int .i64 0, .int .i64 0, .int .i64 0, .bool false], none, true⟩,
  ⟨none, .store 5 (.t 7) (.t 28), none, true⟩,
  ⟨some 8, .as (.t 29), none, true⟩] (some [1, 2, 3, 4, 5, 6, 7, 8]) []) (
(.seq (
.reg none [
  ⟨some 31, .load true 5 (.t 7), none, true⟩,
  ⟨some 32, .call 10 [.t 31, .c (.int .i64 2), .c (.int .i64 0), .c (.int .i64 3)], none, true⟩,
  ⟨some 30, .mv (.t 32), none, true⟩,
  ⟨some 33, .ext (.t 30) 0, none, true⟩,
  ⟨some 34, .ext (.t 30) 1, none, true⟩,
  ⟨some 9, .alloc [.int .i64 0, .int .i64 0, .int .i64 0, .int .i64 0, .bool false], none, true⟩,
  ⟨none, .store 5 (.t 9) (.t 33), none, true⟩,
  ⟨some 10, .as (.t 34), none, true⟩] (some [1, 2, 3, 4, 5, 6, 8, 10]) [7, 9]) (
(.seq (
.reg none [
  ⟨some 35, .mv (.t 3), none, true⟩,
  ⟨some 36, .mv (.t 35), none, true⟩,
  ⟨some 37, .mv (.t 5), some (36, true), true⟩,
  ⟨some 38, .pick (.t 36) (.t 37) (.c (.bool false)), none, true⟩,
  ⟨some 39, .mv (.t 38), none, true⟩,
  ⟨some 40, .mv (.t 4), some (39, true), true⟩,
  ⟨some 41, .mv (.t 2), some (39, true), true⟩,
  ⟨some 42, .len 0 (.t 41), some (39, true), true⟩,
  ⟨some 43, .bin .eql (.t 40) (.t 42), some (39, true), true⟩,
  ⟨some 44, .pick (.t 39) (.t 43) (.c (.bool false)), none, true⟩,
  ⟨some 45, .mv (.t 44), none, true⟩,
  ⟨some 46, .mv (.t 4), some (45, true), true⟩,
  ⟨some 47, .bin .gtr (.t 46) (.c (.int .i64 0)), some (45, true), true⟩,
  ⟨some 48, .pick (.t 45) (.t 47) (.c (.bool false)), none, true⟩,
  ⟨some 49, .mv (.t 48), none, true⟩,
  ⟨some 50, .load true 3 (.t 6), some (49, true), true⟩,
  ⟨some 51, .build [.int .i64 0, .int .i64 0, .int .i64 0] [(0, 1, .c (.int .i64 12))], some (49, true), true⟩,
  ⟨some 52, .eqa false [0, 0, 0] (.t 50) (.t 51), some (49, true), true⟩,
  ⟨some 53, .pick (.t 49) (.t 52) (.c (.bool false)), none, true⟩,
  ⟨some 54, .mv (.t 53), none, true⟩,
  ⟨some 55, .load true 3 (.t 1), some (54, true), true⟩,
  ⟨some 56, .build [.int .i64 0, .int .i64 0, .int .i64 0] [], some (54, true), true⟩,
  ⟨some 57, .mv (.t 2), some (54, true), true⟩,
  ⟨some 58, .call 8 [.t 55, .t 56, .t 57], some (54, true), true⟩,
  ⟨some 59, .pick (.t 54) (.t 58) (.c (.bool false)), none, true⟩,
  ⟨some 60, .mv (.t 59), none, true⟩,
  ⟨some 61, .mv (.t 8), some (60, true), true⟩,
  ⟨some 62, .bin .eql (.t 61) (.c (.int .i64 48)), some (60, true), true⟩,
  ⟨some 63, .pick (.t 60) (.t 62) (.c (.bool false)), none, true⟩,
  ⟨some 64, .mv (.t 63), none, true⟩,
  ⟨some 65, .mv (.t 10), some (64, true), true⟩,
  ⟨some 66, .bin .eql (.t 65) (.c (.int .i64 0)), some (64, true), true⟩,
  ⟨some 67, .pick (.t 64) (.t 66) (.c (.bool false)), none, true⟩,
  ⟨some 68, .mv (.t 67), none, true⟩,
  ⟨some 69, .call 12 [.c (.int .i64 (-1))], some (68, true), true⟩,
  ⟨some 70, .bin .eql (.t 69) (.c (.int .i64 (-1))), some (68, true), true⟩,
  ⟨some 71, .pick (.t 68) (.t 70) (.c (.bool false)), none, true⟩,
  ⟨some 72, .mv (.t 71), none, true⟩,
  ⟨some 73, .call 12 [.c (.int .i64 53)], some (72, true), true⟩,
  ⟨some 74, .bin .eql (.t 73) (.c (.int .i64 3)), some (72, true), true⟩,
  ⟨some 75, .pick (.t 72) (.t 74) (.c (.bool false)), none, true⟩,
  ⟨some 0, .as (.t 75), none, true⟩] (some [0]) [1, 6]) (
.ret)))))))))))))))))
/-- ambidexter/ambidextertop.limR14 -/
def A5 : AFn := .code [.cell true 3 6] (
(.seq (
.reg none [
  ⟨some 6, .alloc [.int .i64 0, .int .i64 0, .int .i64 0], none, true⟩] (some [0, 1, 2, 6]) []) (
(.seq (
.reg none [
  ⟨some 7, .mv (.t 0), none, true⟩,
  ⟨some 8, .conv .i64 (.t 7), none, true⟩,
  ⟨some 9, .bin .rem (.t 8) (.c (.int .i64 8)), none, true⟩,
  ⟨some 10, .bin .add (.c (.int .i64 1)) (.t 9), none, true⟩,
  ⟨some 11, .mv (.t 1), none, true⟩,
  ⟨some 12, .conv .i64 (.t 11), none, true⟩,
  ⟨some 13, .bin .rem (.t 12) (.c (.int .i64 4)), none, true⟩,
  ⟨some 14, .bin .add (.c (.int .i64 1)) (.t 13), none, true⟩,
  ⟨some 15, .mv (.t 2), none, true⟩,
  ⟨some 16, .conv .i64 (.t 15), none, true⟩,
  ⟨some 17, .bin .rem (.t 16) (.c (.int .i64 2)), none, true⟩,
  ⟨some 18, .bin .add (.c (.int .i64 1)) (.t 17), none, true⟩,
  ⟨some 19, .build [.int .i64 0, .int .i64 0, .int .i64 0] [(0, 1, .t 10), (1, 1, .t 14), (2, 1, .t 18)], none, true⟩,
  ⟨none, .store 3 (.t 6) (.t 19), none, true⟩] (some [6]) []) (
.ret)))))
def A6_L0b : ACode := 
    (.seq (
    (.seq (
    .reg none [
      ⟨some 51, .mv (.t 12), none, true⟩,
      ⟨some 52, .fad 2 (.t 2), none, true⟩,
      ⟨some 53, .load false 1 (.t 52), none, true⟩,
      ⟨some 54, .bin .leq (.t 51) (.t 53), none, true⟩] (some [2, 6, 7, 8, 9, 11, 12, 54]) []) (
    (.cond (.t 54) (
      .skip) (
      .exit 2))))) (
    (.seq (
    (.block 3 (
    (.seq (
    .reg none [
      ⟨some 57, .load true 3 (.t 8), none, true⟩,
      ⟨some 58, .mv (.t 12), none, true⟩,
      ⟨some 59, .bsl 1 1 [.int .i64 0] [(0, .t 58)], none, true⟩,
      ⟨some 60, .call 7 [.t 57, .t 59], none, true⟩,
      ⟨some 13, .alloc [.int .i64 0, .int .i64 0, .int .i64 0], none, true⟩,
      ⟨none, .store 3 (.t 13) (.t 60), none, true⟩] (some [2, 6, 7, 8, 9, 11, 12, 13]) []) (
    (.seq (
    .reg none [
      ⟨some 62, .load true 4 (.t 6), none, true⟩,
      ⟨some 63, .load true 3 (.t 13), none, true⟩,
      ⟨some 64, .call 15 [.t 62, .t 63], none, true⟩,
      ⟨some 61, .mv (.t 64), none, true⟩,
      ⟨some 65, .ext (.t 61) 0, none, true⟩,
      ⟨some 66, .ext (.t 61) 1, none, true⟩,
      ⟨some 14, .as (.t 65), none, true⟩,
      ⟨some 15, .as (.t 66), none, true⟩] (some [2, 6, 7, 8, 9, 11, 12, 13, 14, 15]) []) (
    (.seq (
    .reg (some [.free, .free, .dr [75, 76] [], .dr [75, 76] [], .dr [75, 76] [], .dr [75, 76] [], .dr [71, 72] [], .dr [71, 72] [], .dr [71, 72] [], .dr [71, 72] [], .dr [71, 72] [], .free, .free]) [
      ⟨some 67, .mv (.t 15), none, true⟩,
      ⟨some 68, .mv (.t 67), none, true⟩,
      ⟨some 69, .mv (.t 7), some (68, true), true⟩,
      ⟨some 70, .mv (.t 14), some (68, true), true⟩,
      ⟨some 71, .ias 1 (.t 69) (.t 70), some (68, true), true⟩,
      ⟨some 72, .load false 1 (.t 71), some (68, true), true⟩,
      ⟨some 73, .mv (.t 7), some (68, true), true⟩,
      ⟨some 74, .mv (.t 9), some (68, true), true⟩,
      ⟨some 75, .ias 1 (.t 73) (.t 74), some (68, true), true⟩,
      ⟨some 76, .load false 1 (.t 75), some (68, true), true⟩,
      ⟨some 77, .bin .sub (.t 76) (.c (.int .i64 1)), some (68, true), true⟩,
      ⟨some 78, .bin .eql (.t 72) (.t 77), some (68, true), true⟩,
      ⟨some 79, .pick (.t 68) (.t 78) (.c (.bool false)), none, true⟩] (some [2, 6, 7, 8, 9, 11, 12, 13, 14, 79]) []) (
    (.cond (.t 79) (
      (.seq (
      .reg none [
        ⟨some 80, .mv (.t 11), none, true⟩,
        ⟨some 81, .mv (.t 12), none, true⟩,
        ⟨some 82, .bsl 1 1 [.int .i64 0] [(0, .t 81)], none, true⟩,
        ⟨some 83, .app 1 (.t 80) (.t 82), none, true⟩,
        ⟨some 11, .as (.t 83), none, true⟩] (some [2, 6, 7, 8, 11, 13, 14]) []) (
      (.seq (
      .reg none [
        ⟨some 84, .load true 3 (.t 13), none, true⟩,
        ⟨some 85, .mv (.t 14), none, true⟩,
        ⟨none, .store 3 (.t 8) (.t 84), none, true⟩,
        ⟨some 9, .as (.t 85), none, true⟩] (some [2, 6, 7, 8, 9, 11]) [13]) (
      .exit 2))))) (
      .skip))))))))) (some [2, 6, 7, 8, 9, 11, 12]) [13, 15, 59, 60, 82])) (
    .reg none [
      ⟨some 55, .mv (.t 12), none, true⟩,
      ⟨some 56, .bin .add (.t 55) (.c (.int .i64 1)), none, true⟩,
      ⟨some 12, .as (.t 56), none, true⟩] (some [2, 6, 7, 8, 9, 11, 12]) []))))
def A6_L0 : ACode := .loop A6_L0b (some [2, 6, 7, 8, 9, 11, 12]) [13, 15, 59, 60, 82]
def A6_L1b : ACode := 
  (.seq (
  (.seq (
  .reg none [
    ⟨some 43, .mv (.t 7), none, true⟩,
    ⟨some 44, .mv (.t 9), none, true⟩,
    ⟨some 45, .ias 1 (.t 43) (.t 44), none, true⟩,
    ⟨some 46, .load false 1 (.t 45), none, true⟩,
    ⟨some 47, .bin .gtr (.t 46) (.c (.int .i64 1)), none, true⟩] (some [2, 6, 7, 8, 9, 11, 47]) []) (
  (.cond (.t 47) (
    .skip) (
    .exit 0))))) (
  (.block 1 (
  (.seq (
  .reg none [
    ⟨some 48, .fad 2 (.t 2), none, true⟩,
    ⟨some 49, .load false 1 (.t 48), none, true⟩,
    ⟨some 50, .un .neg (.t 49), none, true⟩,
    ⟨some 12, .as (.t 50), none, true⟩] (some [2, 6, 7, 8, 9, 11, 12]) []) (
  (.block 2 (
  A6_L0) (some [2, 6, 7, 8, 9, 11]) [12, 13, 15, 59, 60, 82])))) (some [2, 6, 7, 8, 9, 11]) [12, 13, 15, 59, 60, 82])))
def A6_L1 : ACode := .loop A6_L1b (some [2, 6, 7, 8, 9, 11]) [12, 13, 15, 59, 60, 82]
/-- ambidexter/mintime.Profile -/
def A6 : AFn := .code [.t 4, .t 5] (
(.seq (
.reg none [
  ⟨some 2, .box (.t 0), none, true⟩,
  ⟨some 4, .as (.c (.nils 1)), none, true⟩,
  ⟨some 5, .as (.c (.bool false)), none, true⟩] (some [1, 2]) []) (
(.seq (
(.seq (
.reg none [
  ⟨some 16, .load true 3 (.t 2), none, true⟩,
  ⟨some 17, .call 13 [.t 16], none, true⟩,
  ⟨some 18, .un .not (.t 17), none, true⟩,
  ⟨some 19, .mv (.t 18), none, true⟩,
  ⟨some 20, .mv (.t 1), some (19, false), true⟩,
  ⟨some 21, .bin .lss (.t 20) (.c (.int .i64 0)), some (19, false), true⟩,
  ⟨some 22, .pick (.t 19) (.c (.bool true)) (.t 21), none, true⟩,
  ⟨some 23, .mv (.t 22), none, true⟩,
  ⟨some 24, .mv (.t 1), some (23, false), true⟩,
  ⟨some 25, .bin .gtr (.t 24) (.c (.int .i64 420)), some (23, false), true⟩,
  ⟨some 26, .pick (.t 23) (.c (.bool true)) (.t 25), none, true⟩] (some [1, 2, 26]) []) (
(.cond (.t 26) (
  (.seq (
  .reg none [
    ⟨some 4, .as (.c (.nils 1)), none, true⟩,
    ⟨some 5, .as (.c (.bool false)), none, true⟩] (some [4, 5]) []) (
  .ret))) (
  .skip))))) (
(.seq (
.reg none [
  ⟨some 27, .load true 3 (.t 2), none, true⟩,
  ⟨some 28, .mv (.t 1), none, true⟩,
  ⟨some 29, .build [.int .i64 0, .int .i64 0, .int .i64 0, .int .i64 0] [(0, 3, .t 27), (3, 1, .t 28)], none, true⟩,
  ⟨some 6, .alloc [.int .i64 0, .int .i64 0, .int .i64 0, .int .i64 0], none, true⟩,
  ⟨none, .store 4 (.t 6) (.t 29), none, true⟩] (some [2, 6]) []) (
(.seq (
.reg none [
  ⟨some 30, .load true 4 (.t 6), none, true⟩,
  ⟨some 31, .call 14 [.t 30], none, true⟩,
  ⟨some 7, .as (.t 31), none, true⟩] (some [2, 6, 7]) []) (
(.seq (
.reg none [
  ⟨some 8, .alloc [.int .i64 0, .int .i64 0, .int .i64 0], none, true⟩] (some [2, 6, 7, 8]) []) (
(.seq (
.reg none [
  ⟨some 33, .load true 4 (.t 6), none, true⟩,
  ⟨some 34, .load true 3 (.t 8), none, true⟩,
  ⟨some 35, .call 15 [.t 33, .t 34], none, true⟩,
  ⟨some 32, .mv (.t 35), none, true⟩,
  ⟨some 36, .ext (.t 32) 0, none, true⟩,
  ⟨some 37, .ext (.t 32) 1, none, true⟩,
  ⟨some 9, .as (.t 36), none, true⟩,
  ⟨some 10, .as (.t 37), none, true⟩] (some [2, 6, 7, 8, 9]) []) (
(.seq (
(.seq (
.reg none [
  ⟨some 38, .mv (.t 7), none, true⟩,
  ⟨some 39, .mv (.t 9), none, true⟩,
  ⟨some 40, .ias 1 (.t 38) (.t 39), none, true⟩,
  ⟨some 41, .load false 1 (.t 40), none, true⟩,
  ⟨some 42, .bin .eql (.t 41) (.c (.int .i64 0)), none, true⟩] (some [2, 6, 7, 8, 9, 42]) []) (
(.cond (.t 42) (
  (.seq (
  .reg none [
    ⟨some 4, .as (.c (.nils 1)), none, true⟩,
    ⟨some 5, .as (.c (.bool false)), none, true⟩] (some [4, 5]) []) (
  .ret))) (
  .skip))))) (
(.seq (
.reg none [
  ⟨some 11, .as (.c (.nils 1)), none, true⟩] (some [2, 6, 7, 8, 9, 11]) []) (
(.seq (
(.block 0 (
A6_L1) (some [11]) [9, 12, 13, 14, 15, 59, 60, 64, 82])) (
(.seq (
.reg none [
  ⟨some 86, .mv (.t 11), none, true⟩,
  ⟨some 4, .as (.t 86), none, true⟩,
  ⟨some 5, .as (.c (.bool true)), none, true⟩] (some [4, 5]) []) (
.ret)))))))))))))))))))))
def A7_R0a : ACode := 
  .reg none [
    ⟨some 6, .alloc [.int .i64 0, .int .i64 0, .int .i64 0], none, true⟩,
    ⟨none, .store 3 (.t 6) (.t 11), none, true⟩] (some [2, 6]) []
def A7_R0b : ACode := 
  (.block 1 (
  .reg none [
    ⟨some 12, .load true 3 (.t 6), none, true⟩,
    ⟨none, .store 3 (.t 2) (.t 12), none, true⟩] (some []) [2, 6]) (some []) [])
def A7_R0 : ACode := .rf 0 (.t 9) [10, 11]  A7_R0a A7_R0b
/-- ambidexter/profile.Final -/
def A7 : AFn := .code [.cell true 3 4] (
(.seq (
.reg none [
  ⟨some 2, .box (.t 0), none, true⟩,
  ⟨some 4, .alloc [.int .i64 0, .int .i64 0, .int .i64 0], none, true⟩] (some [1, 2, 4]) []) (
(.seq (
(.seq (
.reg none [
  ⟨some 7, .load true 3 (.t 2), none, true⟩,
  ⟨some 8, .mv (.t 1), none, true⟩,
  ⟨some 9, .call 16 [.t 7, .t 8], none, true⟩] (some [2, 4, 9]) []) (
(.block 0 (
A7_R0) (some [2, 4]) [6])))) (
(.seq (
.reg none [
  ⟨some 13, .load true 3 (.t 2), none, true⟩,
  ⟨none, .store 3 (.t 4) (.t 13), none, true⟩] (some [4]) [2]) (
.ret)))))))
def A8_R0a : ACode := 
  (.seq (
  .reg none [
    ⟨some 7, .as (.t 16), none, true⟩] (some [3, 6, 7, 17]) []) (
  .reg none [
    ⟨some 8, .alloc [.int .i64 0, .int .i64 0, .int .i64 0], none, true⟩,
    ⟨none, .store 3 (.t 8) (.t 17), none, true⟩] (some [3, 6, 7, 8]) []))
def A8_R0b : ACode := 
  (.block 1 (
  (.seq (
  .reg none [
    ⟨some 18, .mv (.t 7), none, true⟩,
    ⟨some 19, .fad 2 (.t 3), none, true⟩,
    ⟨some 20, .load false 1 (.t 19), none, true⟩,
    ⟨some 21, .call 18 [.t 18, .t 20], none, true⟩,
    ⟨some 22, .un .not (.t 21), none, true⟩,
    ⟨some 23, .mv (.t 22), none, true⟩,
    ⟨some 24, .load true 3 (.t 3), some (23, false), true⟩,
    ⟨some 25, .load true 3 (.t 8), some (23, false), true⟩,
    ⟨some 26, .call 17 [.t 24, .t 25], some (23, false), true⟩,
    ⟨some 27, .un .not (.t 26), some (23, false), true⟩,
    ⟨some 28, .pick (.t 23) (.c (.bool true)) (.t 27), none, true⟩] (some [6, 28]) [3, 8]) (
  (.cond (.t 28) (
    (.seq (
    .reg none [
      ⟨none, .store 1 (.t 6) (.c (.bool false)), none, true⟩] (some []) []) (
    .ret))) (
    .skip))))) (some []) [21, 26])
def A8_R0 : ACode := .rf 0 (.t 15) [16, 17]  A8_R0a A8_R0b
/-- ambidexter/profile.Within -/
def A8 : AFn := .code [.cell false 1 6] (
(.seq (
.reg none [
  ⟨some 3, .box (.t 0), none, true⟩,
  ⟨some 4, .box (.t 1), none, true⟩,
  ⟨some 6, .alloc [.bool false], none, true⟩] (some [2, 3, 4, 6]) []) (
(.seq (
(.seq (
.reg none [
  ⟨some 9, .load true 3 (.t 3), none, true⟩,
  ⟨some 10, .load true 3 (.t 4), none, true⟩,
  ⟨some 11, .call 17 [.t 9, .t 10], none, true⟩,
  ⟨some 12, .un .not (.t 11), none, true⟩] (some [2, 3, 4, 6, 12]) []) (
(.cond (.t 12) (
  (.seq (
  .reg none [
    ⟨none, .store 1 (.t 6) (.c (.bool false)), none, true⟩] (some [6]) []) (
  .ret))) (
  .skip))))) (
(.seq (
(.seq (
.reg none [
  ⟨some 13, .load true 3 (.t 4), none, true⟩,
  ⟨some 14, .mv (.t 2), none, true⟩,
  ⟨some 15, .call 16 [.t 13, .t 14], none, true⟩] (some [3, 6, 15]) [4]) (
(.block 0 (
A8_R0) (some [6]) [7, 8, 21, 26])))) (
(.seq (
.reg none [
  ⟨none, .store 1 (.t 6) (.c (.bool true)), none, true⟩] (some [6]) []) (
.ret)))))))))
/-- ambidexter/mintime.Duration -/
def A9 : AFn := .code [.t 4, .t 5] (
(.seq (
.reg none [
  ⟨some 2, .box (.t 0), none, true⟩,
  ⟨some 4, .as (.c (.int .i64 0)), none, true⟩,
  ⟨some 5, .as (.c (.bool false)), none, true⟩] (some [1, 2]) []) (
(.seq (
.reg none [
  ⟨some 9, .load true 3 (.t 2), none, true⟩,
  ⟨some 10, .mv (.t 1), none, true⟩,
  ⟨some 11, .call 6 [.t 9, .t 10], none, true⟩,
  ⟨some 8, .mv (.t 11), none, true⟩,
  ⟨some 12, .ext (.t 8) 0, none, true⟩,
  ⟨some 13, .ext (.t 8) 1, none, true⟩,
  ⟨some 6, .as (.t 12), none, true⟩,
  ⟨some 7, .as (.t 13), none, true⟩] (some [6, 7]) [2]) (
(.seq (
.reg none [
  ⟨some 14, .mv (.t 6), none, true⟩,
  ⟨some 15, .len 0 (.t 14), none, true⟩,
  ⟨some 16, .mv (.t 7), none, true⟩,
  ⟨some 4, .as (.t 15), none, true⟩,
  ⟨some 5, .as (.t 16), none, true⟩] (some [4, 5]) []) (
.ret)))))))
/-- ambidexter/servo.Step -/
def A10 : AFn := .code [.cell true 5 8, .t 9] (
(.seq (
.reg none [
  ⟨some 4, .box (.t 0), none, true⟩,
  ⟨some 8, .alloc [.int .i64 0, .int .i64 0, .int .i64 0, .int .i64 0, .bool false], none, true⟩,
  ⟨some 9, .as (.c (.int .i64 0)), none, true⟩] (some [1, 2, 3, 4, 8]) []) (
(.seq (
.reg none [
  ⟨some 11, .load true 5 (.t 4), none, true⟩,
  ⟨some 12, .build [.int .i64 0, .int .i64 0, .int .i64 0, .int .i64 0, .bool false] [(0, 5, .t 11)], none, true⟩,
  ⟨some 13, .box (.t 12), none, true⟩,
  ⟨some 10, .as (.t 13), none, true⟩] (some [1, 2, 3, 8, 10]) [4]) (
(.seq (
.reg none [
  ⟨some 14, .mv (.t 10), none, true⟩,
  ⟨some 15, .mv (.t 1), none, true⟩,
  ⟨some 16, .mv (.t 2), none, true⟩,
  ⟨some 17, .call 19 [.t 14, .t 15, .t 16], none, true⟩] (some [3, 8, 10]) []) (
(.seq (
(.seq (
.reg none [
  ⟨some 18, .mv (.t 10), none, true⟩,
  ⟨some 19, .nilc (.t 18), none, true⟩,
  ⟨some 20, .fad 0 (.t 19), none, true⟩,
  ⟨some 21, .fad 4 (.t 20), none, true⟩,
  ⟨some 22, .load false 1 (.t 21), none, true⟩] (some [3, 8, 10, 22]) []) (
(.cond (.t 22) (
  .reg none [
    ⟨some 23, .mv (.t 10), none, true⟩,
    ⟨some 24, .call 20 [.t 23, .c (.int .i64 0)], none, true⟩] (some [8, 10]) []) (
  .reg none [
    ⟨some 25, .mv (.t 10), none, true⟩,
    ⟨some 26, .mv (.t 10), none, true⟩,
    ⟨some 27, .nilc (.t 26), none, true⟩,
    ⟨some 28, .fad 0 (.t 27), none, true⟩,
    ⟨some 29, .load true 5 (.t 28), none, true⟩,
    ⟨some 30, .mv (.t 3), none, true⟩,
    ⟨some 31, .call 22 [.t 29, .t 30], none, true⟩,
    ⟨some 32, .call 21 [.t 31, .c (.int .i64 (-128)), .c (.int .i64 128)], none, true⟩,
    ⟨some 33, .call 20 [.t 25, .t 32], none, true⟩] (some [8, 10]) []))))) (
(.seq (
.reg (some [.dr [42] [], .dr [42] [], .dr [42] [], .dr [42] [], .dr [37] [], .dr [37] [], .dr [37] [], .dr [37] [], .dr [37] [8], .dr [42] [], .free]) [
  ⟨some 34, .mv (.t 10), none, true⟩,
  ⟨some 35, .nilc (.t 34), none, true⟩,
  ⟨some 36, .fad 0 (.t 35), none, true⟩,
  ⟨some 37, .load true 5 (.t 36), none, true⟩,
  ⟨some 38, .mv (.t 10), none, true⟩,
  ⟨some 39, .nilc (.t 38), none, true⟩,
  ⟨some 40, .fad 0 (.t 39), none, true⟩,
  ⟨some 41, .fad 3 (.t 40), none, true⟩,
  ⟨some 42, .load false 1 (.t 41), none, true⟩,
  ⟨none, .store 5 (.t 8) (.t 37), none, true⟩,
  ⟨some 9, .as (.t 42), none, true⟩] (some [8, 9]) []) (
.ret)))))))))))
/-- ambidexter/servo.New -/
def A11 : AFn := .code [.cell true 5 2] (
(.seq (
.reg none [
  ⟨some 2, .alloc [.int .i64 0, .int .i64 0, .int .i64 0, .int .i64 0, .bool false], none, true⟩] (some [0, 2]) []) (
(.seq (
.reg none [
  ⟨some 3, .mv (.t 0), none, true⟩,
  ⟨some 4, .call 23 [.t 3], none, true⟩,
  ⟨some 5, .build [.int .i64 0, .int .i64 0, .int .i64 0, .int .i64 0, .bool false] [(0, 3, .t 4)], none, true⟩,
  ⟨none, .store 5 (.t 2) (.t 5), none, true⟩] (some [2]) []) (
.ret)))))
/-- ambidexter/encoder.Quantize -/
def A12 : AFn := .code [.t 2] (
(.seq (
.reg none [
  ⟨some 2, .as (.c (.int .i64 0)), none, true⟩] (some [0]) []) (
(.seq (
.reg none [
  ⟨some 4, .mv (.t 0), none, true⟩,
  ⟨some 5, .bin .quo (.t 4) (.c (.int .i64 16)), none, true⟩,
  ⟨some 3, .as (.t 5), none, true⟩] (some [0, 3]) []) (
(.seq (
(.seq (
.reg none [
  ⟨some 6, .mv (.t 0), none, true⟩,
  ⟨some 7, .bin .rem (.t 6) (.c (.int .i64 16)), none, true⟩,
  ⟨some 8, .bin .lss (.t 7) (.c (.int .i64 0)), none, true⟩] (some [3, 8]) []) (
(.cond (.t 8) (
  .reg none [
    ⟨some 9, .mv (.t 3), none, true⟩,
    ⟨some 10, .bin .sub (.t 9) (.c (.int .i64 1)), none, true⟩,
    ⟨some 3, .as (.t 10), none, true⟩] (some [3]) []) (
  .skip))))) (
(.seq (
.reg none [
  ⟨some 11, .mv (.t 3), none, true⟩,
  ⟨some 2, .as (.t 11), none, true⟩] (some [2]) []) (
.ret)))))))))
/-- ambidexter/profile.ValidLimits -/
def A13 : AFn := .code [.t 2] (
(.seq (
.reg none [
  ⟨some 1, .box (.t 0), none, true⟩,
  ⟨some 2, .as (.c (.bool false)), none, true⟩] (some [1]) []) (
(.seq (
.reg none [
  ⟨some 3, .as (.fu 24), none, true⟩] (some [1, 3]) []) (
(.seq (
.reg none [
  ⟨some 4, .mv (.t 3), none, true⟩,
  ⟨some 5, .fad 0 (.t 1), none, true⟩,
  ⟨some 6, .load false 1 (.t 5), none, true⟩,
  ⟨some 7, .cal (.t 4) [.t 6, .c (.int .i64 8)], none, true⟩,
  ⟨some 8, .mv (.t 7), none, true⟩,
  ⟨some 9, .mv (.t 3), some (8, true), true⟩,
  ⟨some 10, .fad 1 (.t 1), some (8, true), true⟩,
  ⟨some 11, .load false 1 (.t 10), some (8, true), true⟩,
  ⟨some 12, .cal (.t 9) [.t 11, .c (.int .i64 4)], some (8, true), true⟩,
  ⟨some 13, .pick (.t 8) (.t 12) (.c (.bool false)), none, true⟩,
  ⟨some 14, .mv (.t 13), none, true⟩,
  ⟨some 15, .mv (.t 3), some (14, true), true⟩,
  ⟨some 16, .fad 2 (.t 1), some (14, true), true⟩,
  ⟨some 17, .load false 1 (.t 16), some (14, true), true⟩,
  ⟨some 18, .cal (.t 15) [.t 17, .c (.int .i64 2)], some (14, true), true⟩,
  ⟨some 19, .pick (.t 14) (.t 18) (.c (.bool false)), none, true⟩,
  ⟨some 2, .as (.t 19), none, true⟩] (some [2]) [1]) (
.ret)))))))
def A14_L0b : ACode := 
    (.seq (
    (.seq (
    .reg none [
      ⟨some 53, .mv (.t 12), none, true⟩,
      ⟨some 54, .fad 0 (.t 1), none, true⟩,
      ⟨some 55, .fad 2 (.t 54), none, true⟩,
      ⟨some 56, .load false 1 (.t 55), none, true⟩,
      ⟨some 57, .bin .leq (.t 53) (.t 56), none, true⟩] (some [1, 3, 4, 8, 9, 10, 12, 57]) []) (
    (.cond (.t 57) (
      .skip) (
      .exit 2))))) (
    (.seq (
    (.block 3 (
    (.seq (
    .reg none [
      ⟨some 60, .load true 3 (.t 9), none, true⟩,
      ⟨some 61, .mv (.t 12), none, true⟩,
      ⟨some 62, .call 26 [.t 60, .t 61], none, true⟩,
      ⟨some 13, .alloc [.int .i64 0, .int .i64 0, .int .i64 0], none, true⟩,
      ⟨none, .store 3 (.t 13) (.t 62), none, true⟩] (some [1, 3, 4, 8, 9, 10, 12, 13]) []) (
    (.seq (
    .reg none [
      ⟨some 64, .mv (.t 4), none, true⟩,
      ⟨some 65, .load true 3 (.t 13), none, true⟩,
      ⟨some 66, .cal (.t 64) [.t 65], none, true⟩,
      ⟨some 63, .mv (.t 66), none, true⟩,
      ⟨some 67, .ext (.t 63) 0, none, true⟩,
      ⟨some 68, .ext (.t 63) 1, none, true⟩,
      ⟨some 14, .as (.t 67), none, true⟩,
      ⟨some 15, .as (.t 68), none, true⟩] (some [1, 3, 4, 8, 9, 10, 12, 13, 14, 15]) []) (
    (.seq (
    (.seq (
    .reg none [
      ⟨some 69, .mv (.t 15), none, true⟩,
      ⟨some 70, .un .not (.t 69), none, true⟩,
      ⟨some 71, .mv (.t 70), none, true⟩,
      ⟨some 72, .mv (.t 3), some (71, false), true⟩,
      ⟨some 73, .mv (.t 14), some (71, false), true⟩,
      ⟨some 74, .ias 1 (.t 72) (.t 73), some (71, false), true⟩,
      ⟨some 75, .load false 1 (.t 74), some (71, false), true⟩,
      ⟨some 76, .bin .gtr (.t 75) (.c (.int .i64 0)), some (71, false), true⟩,
      ⟨some 77, .pick (.t 71) (.c (.bool true)) (.t 76), none, true⟩] (some [1, 3, 4, 8, 9, 10, 12, 13, 14, 77]) []) (
    (.cond (.t 77) (
      .exit 3) (
      .skip))))) (
    (.seq (
    .reg none [
      ⟨some 78, .mv (.t 3), none, true⟩,
      ⟨some 79, .mv (.t 14), none, true⟩,
      ⟨some 80, .mv (.t 3), none, true⟩,
      ⟨some 81, .mv (.t 10), none, true⟩,
      ⟨some 82, .ias 1 (.t 80) (.t 81), none, true⟩,
      ⟨some 83, .load false 1 (.t 82), none, true⟩,
      ⟨some 84, .bin .add (.t 83) (.c (.int .i64 1)), none, true⟩,
      ⟨some 85, .ias 1 (.t 78) (.t 79), none, true⟩,
      ⟨none, .store 1 (.t 85) (.t 84), none, true⟩] (some [1, 3, 4, 8, 9, 10, 12, 13]) []) (
    (.seq (
    (.seq (
    .reg none [
      ⟨some 86, .load true 3 (.t 13), none, true⟩,
      ⟨some 87, .build [.int .i64 0, .int .i64 0, .int .i64 0] [], none, true⟩,
      ⟨some 88, .eqa false [0, 0, 0] (.t 86) (.t 87), none, true⟩] (some [1, 3, 4, 8, 9, 10, 12, 13, 88]) []) (
    (.cond (.t 88) (
      .exit 0) (
      .skip))))) (
    .reg none [
      ⟨some 89, .mv (.t 8), none, true⟩,
      ⟨some 90, .load true 3 (.t 13), none, true⟩,
      ⟨some 91, .bsl 3 1 [.int .i64 0, .int .i64 0, .int .i64 0] [(0, .t 90)], none, true⟩,
      ⟨some 92, .app 3 (.t 89) (.t 91), none, true⟩,
      ⟨some 8, .as (.t 92), none, true⟩] (some [1, 3, 4, 8, 9, 10, 12]) [13]))))))))))) (some [1, 3, 4, 8, 9, 10, 12]) [13, 14, 15, 62, 66, 91])) (
    .reg none [
      ⟨some 58, .mv (.t 12), none, true⟩,
      ⟨some 59, .bin .add (.t 58) (.c (.int .i64 1)), none, true⟩,
      ⟨some 12, .as (.t 59), none, true⟩] (some [1, 3, 4, 8, 9, 10, 12]) []))))
def A14_L0 : ACode := .loop A14_L0b (some [1, 3, 4, 8, 9, 10, 12]) [13, 14, 15, 62, 66, 91]
def A14_L1b : ACode := 
  (.seq (
  (.seq (
  .reg none [
    ⟨some 35, .mv (.t 8), none, true⟩,
    ⟨some 36, .len 0 (.t 35), none, true⟩,
    ⟨some 37, .bin .gtr (.t 36) (.c (.int .i64 0)), none, true⟩] (some [1, 3, 4, 8, 37]) []) (
  (.cond (.t 37) (
    .skip) (
    .exit 0))))) (
  (.block 1 (
  (.seq (
  .reg none [
    ⟨some 38, .mv (.t 8), none, true⟩,
    ⟨some 39, .ias 3 (.t 38) (.c (.int .i64 0)), none, true⟩,
    ⟨some 40, .load true 3 (.t 39), none, true⟩,
    ⟨some 9, .alloc [.int .i64 0, .int .i64 0, .int .i64 0], none, true⟩,
    ⟨none, .store 3 (.t 9) (.t 40), none, true⟩] (some [1, 3, 4, 8, 9]) []) (
  (.seq (
  .reg none [
    ⟨some 41, .mv (.t 8), none, true⟩,
    ⟨some 42, .sls 3 (.t 41) (some (.c (.int .i64 1))) none, none, true⟩,
    ⟨some 8, .as (.t 42), none, true⟩] (some [1, 3, 4, 8, 9]) []) (
  (.seq (
  .reg none [
    ⟨some 44, .mv (.t 4), none, true⟩,
    ⟨some 45, .load true 3 (.t 9), none, true⟩,
    ⟨some 46, .cal (.t 44) [.t 45], none, true⟩,
    ⟨some 43, .mv (.t 46), none, true⟩,
    ⟨some 47, .ext (.t 43) 0, none, true⟩,
    ⟨some 48, .ext (.t 43) 1, none, true⟩,
    ⟨some 10, .as (.t 47), none, true⟩,
    ⟨some 11, .as (.t 48), none, true⟩] (some [1, 3, 4, 8, 9, 10]) []) (
  (.seq (
  .reg none [
    ⟨some 49, .fad 0 (.t 1), none, true⟩,
    ⟨some 50, .fad 2 (.t 49), none, true⟩,
    ⟨some 51, .load false 1 (.t 50), none, true⟩,
    ⟨some 52, .un .neg (.t 51), none, true⟩,
    ⟨some 12, .as (.t 52), none, true⟩] (some [1, 3, 4, 8, 9, 10, 12]) []) (
  (.block 2 (
  A14_L0) (some [1, 3, 4, 8]) [12, 13, 14, 15, 62, 66, 91])))))))))) (some [1, 3, 4, 8]) [9, 10, 11, 12, 13, 14, 15, 46, 62, 66, 91])))
def A14_L1 : ACode := .loop A14_L1b (some [1, 3, 4, 8]) [9, 10, 11, 12, 13, 14, 15, 46, 62, 66, 91]
/-- (ambidexter/mintime.space).left -/
def A14 : AFn := .code [.t 2] (
(.seq (
.reg none [
  ⟨some 1, .box (.t 0), none, true⟩,
  ⟨some 2, .as (.c (.nils 1)), none, true⟩] (some [1]) []) (
(.scope (
(.seq (
.reg none [
  ⟨some 16, .load true 4 (.t 1), none, true⟩,
  ⟨some 17, .call 25 [.t 16], none, true⟩,
  ⟨some 18, .mks 1 [.int .i64 0] (.t 17) (.t 17), none, true⟩,
  ⟨some 3, .as (.t 18), none, true⟩] (some [1, 3]) []) (
(.seq (
.reg none [
  ⟨some 19, .load true 4 (.t 1), none, true⟩,
  ⟨some 20, .mkf (.func 15) [.t 19] [], none, true⟩,
  ⟨some 4, .as (.t 20), none, true⟩] (some [1, 3, 4]) []) (
(.seq (
.reg none [
  ⟨some 21, .fad 3 (.t 1), none, true⟩,
  ⟨some 22, .load false 1 (.t 21), none, true⟩,
  ⟨some 23, .build [.int .i64 0, .int .i64 0, .int .i64 0] [(0, 1, .t 22)], none, true⟩,
  ⟨some 5, .alloc [.int .i64 0, .int .i64 0, .int .i64 0], none, true⟩,
  ⟨none, .store 3 (.t 5) (.t 23), none, true⟩] (some [1, 3, 4, 5]) []) (
(.seq (
.reg none [
  ⟨some 25, .mv (.t 4), none, true⟩,
  ⟨some 26, .load true 3 (.t 5), none, true⟩,
  ⟨some 27, .cal (.t 25) [.t 26], none, true⟩,
  ⟨some 24, .mv (.t 27), none, true⟩,
  ⟨some 28, .ext (.t 24) 0, none, true⟩,
  ⟨some 29, .ext (.t 24) 1, none, true⟩,
  ⟨some 6, .as (.t 28), none, true⟩,
  ⟨some 7, .as (.t 29), none, true⟩] (some [1, 3, 4, 5, 6]) []) (
(.seq (
.reg none [
  ⟨some 30, .mv (.t 3), none, true⟩,
  ⟨some 31, .mv (.t 6), none, true⟩,
  ⟨some 32, .ias 1 (.t 30) (.t 31), none, true⟩,
  ⟨none, .store 1 (.t 32) (.c (.int .i64 1)), none, true⟩] (some [1, 3, 4, 5]) []) (
(.seq (
.reg none [
  ⟨some 33, .load true 3 (.t 5), none, true⟩,
  ⟨some 34, .bsl 3 1 [.int .i64 0, .int .i64 0, .int .i64 0] [(0, .t 33)], none, true⟩,
  ⟨some 8, .as (.t 34), none, true⟩] (some [1, 3, 4, 8]) [5]) (
(.seq (
.skip) (
(.seq (
(.block 0 (
A14_L1) (some [3]) [8, 9, 10, 11, 12, 13, 14, 15, 46, 62, 66, 91, 92])) (
(.seq (
.reg none [
  ⟨some 93, .mv (.t 3), none, true⟩,
  ⟨some 2, .as (.t 93), none, true⟩] (some [2]) []) (
.ret)))))))))))))))))))))))
/-- (ambidexter/mintime.space).of -/
def A15 : AFn := .code [.t 4, .t 5] (
(.seq (
.reg none [
  ⟨some 2, .box (.t 0), none, true⟩,
  ⟨some 3, .box (.t 1), none, true⟩,
  ⟨some 4, .as (.c (.int .i64 0)), none, true⟩,
  ⟨some 5, .as (.c (.bool false)), none, true⟩] (some [2, 3]) []) (
(.seq (
(.seq (
.reg none [
  ⟨some 6, .fad 0 (.t 3), none, true⟩,
  ⟨some 7, .load false 1 (.t 6), none, true⟩,
  ⟨some 8, .bin .lss (.t 7) (.c (.int .i64 0)), none, true⟩,
  ⟨some 9, .mv (.t 8), none, true⟩,
  ⟨some 10, .fad 0 (.t 3), some (9, false), true⟩,
  ⟨some 11, .load false 1 (.t 10), some (9, false), true⟩,
  ⟨some 12, .fad 3 (.t 2), some (9, false), true⟩,
  ⟨some 13, .load false 1 (.t 12), some (9, false), true⟩,
  ⟨some 14, .bin .gtr (.t 11) (.t 13), some (9, false), true⟩,
  ⟨some 15, .pick (.t 9) (.c (.bool true)) (.t 14), none, true⟩,
  ⟨some 16, .mv (.t 15), none, true⟩,
  ⟨some 17, .fad 1 (.t 3), some (16, false), true⟩,
  ⟨some 18, .load false 1 (.t 17), some (16, false), true⟩,
  ⟨some 19, .fad 0 (.t 2), some (16, false), true⟩,
  ⟨some 20, .fad 0 (.t 19), some (16, false), true⟩,
  ⟨some 21, .load false 1 (.t 20), some (16, false), true⟩,
  ⟨some 22, .un .neg (.t 21), some (16, false), true⟩,
  ⟨some 23, .bin .lss (.t 18) (.t 22), some (16, false), true⟩,
  ⟨some 24, .pick (.t 16) (.c (.bool true)) (.t 23), none, true⟩,
  ⟨some 25, .mv (.t 24), none, true⟩,
  ⟨some 26, .fad 1 (.t 3), some (25, false), true⟩,
  ⟨some 27, .load false 1 (.t 26), some (25, false), true⟩,
  ⟨some 28, .fad 0 (.t 2), some (25, false), true⟩,
  ⟨some 29, .fad 0 (.t 28), some (25, false), true⟩,
  ⟨some 30, .load false 1 (.t 29), some (25, false), true⟩,
  ⟨some 31, .bin .gtr (.t 27) (.t 30), some (25, false), true⟩,
  ⟨some 32, .pick (.t 25) (.c (.bool true)) (.t 31), none, true⟩,
  ⟨some 33, .mv (.t 32), none, true⟩,
  ⟨some 34, .fad 2 (.t 3), some (33, false), true⟩,
  ⟨some 35, .load false 1 (.t 34), some (33, false), true⟩,
  ⟨some 36, .fad 0 (.t 2), some (33, false), true⟩,
  ⟨some 37, .fad 1 (.t 36), some (33, false), true⟩,
  ⟨some 38, .load false 1 (.t 37), some (33, false), true⟩,
  ⟨some 39, .un .neg (.t 38), some (33, false), true⟩,
  ⟨some 40, .bin .lss (.t 35) (.t 39), some (33, false), true⟩,
  ⟨some 41, .pick (.t 33) (.c (.bool true)) (.t 40), none, true⟩,
  ⟨some 42, .mv (.t 41), none, true⟩,
  ⟨some 43, .fad 2 (.t 3), some (42, false), true⟩,
  ⟨some 44, .load false 1 (.t 43), some (42, false), true⟩,
  ⟨some 45, .fad 0 (.t 2), some (42, false), true⟩,
  ⟨some 46, .fad 1 (.t 45), some (42, false), true⟩,
  ⟨some 47, .load false 1 (.t 46), some (42, false), true⟩,
  ⟨some 48, .bin .gtr (.t 44) (.t 47), some (42, false), true⟩,
  ⟨some 49, .pick (.t 42) (.c (.bool true)) (.t 48), none, true⟩] (some [2, 3, 49]) []) (
(.cond (.t 49) (
  (.seq (
  .reg none [
    ⟨some 4, .as (.c (.int .i64 0)), none, true⟩,
    ⟨some 5, .as (.c (.bool false)), none, true⟩] (some [4, 5]) []) (
  .ret))) (
  .skip))))) (
(.seq (
.reg none [
  ⟨some 50, .fad 0 (.t 3), none, true⟩,
  ⟨some 51, .load false 1 (.t 50), none, true⟩,
  ⟨some 52, .fad 0 (.t 2), none, true⟩,
  ⟨some 53, .fad 0 (.t 52), none, true⟩,
  ⟨some 54, .load false 1 (.t 53), none, true⟩,
  ⟨some 55, .bin .mul (.c (.int .i64 2)) (.t 54), none, true⟩,
  ⟨some 56, .bin .add (.t 55) (.c (.int .i64 1)), none, true⟩,
  ⟨some 57, .bin .mul (.t 51) (.t 56), none, true⟩,
  ⟨some 58, .fad 1 (.t 3), none, true⟩,
  ⟨some 59, .load false 1 (.t 58), none, true⟩,
  ⟨some 60, .bin .add (.t 57) (.t 59), none, true⟩,
  ⟨some 61, .fad 0 (.t 2), none, true⟩,
  ⟨some 62, .fad 0 (.t 61), none, true⟩,
  ⟨some 63, .load false 1 (.t 62), none, true⟩,
  ⟨some 64, .bin .add (.t 60) (.t 63), none, true⟩,
  ⟨some 65, .fad 0 (.t 2), none, true⟩,
  ⟨some 66, .fad 1 (.t 65), none, true⟩,
  ⟨some 67, .load false 1 (.t 66), none, true⟩,
  ⟨some 68, .bin .mul (.c (.int .i64 2)) (.t 67), none, true⟩,
  ⟨some 69, .bin .add (.t 68) (.c (.int .i64 1)), none, true⟩,
  ⟨some 70, .bin .mul (.t 64) (.t 69), none, true⟩,
  ⟨some 71, .fad 2 (.t 3), none, true⟩,
  ⟨some 72, .load false 1 (.t 71), none, true⟩,
  ⟨some 73, .bin .add (.t 70) (.t 72), none, true⟩,
  ⟨some 74, .fad 0 (.t 2), none, true⟩,
  ⟨some 75, .fad 1 (.t 74), none, true⟩,
  ⟨some 76, .load false 1 (.t 75), none, true⟩,
  ⟨some 77, .bin .add (.t 73) (.t 76), none, true⟩,
  ⟨some 4, .as (.t 77), none, true⟩,
  ⟨some 5, .as (.c (.bool true)), none, true⟩] (some [4, 5]) [2, 3]) (
.ret)))))))
/-- ambidexter/profile.ticks -/
def A16 : AFn := .code [.t 4] (
(.seq (
.reg none [
  ⟨some 2, .box (.t 0), none, true⟩,
  ⟨some 3, .box (.t 1), none, true⟩,
  ⟨some 4, .as (.c (.nilf)), none, true⟩] (some [2, 3]) []) (
(.seq (
.reg none [
  ⟨some 5, .mkf (.func 27) [] [.t 2, .t 3], none, true⟩,
  ⟨some 4, .as (.t 5), none, true⟩] (some [4]) []) (
.ret)))))
/-- ambidexter/profile.fits -/
def A17 : AFn := .code [.t 4] (
(.seq (
.reg none [
  ⟨some 2, .box (.t 0), none, true⟩,
  ⟨some 3, .box (.t 1), none, true⟩,
  ⟨some 4, .as (.c (.bool false)), none, true⟩] (some [2, 3]) []) (
(.seq (
.reg none [
  ⟨some 5, .fad 1 (.t 3), none, true⟩,
  ⟨some 6, .load false 1 (.t 5), none, true⟩,
  ⟨some 7, .fad 0 (.t 2), none, true⟩,
  ⟨some 8, .load false 1 (.t 7), none, true⟩,
  ⟨some 9, .call 18 [.t 6, .t 8], none, true⟩,
  ⟨some 10, .mv (.t 9), none, true⟩,
  ⟨some 11, .fad 2 (.t 3), some (10, true), true⟩,
  ⟨some 12, .load false 1 (.t 11), some (10, true), true⟩,
  ⟨some 13, .fad 1 (.t 2), some (10, true), true⟩,
  ⟨some 14, .load false 1 (.t 13), some (10, true), true⟩,
  ⟨some 15, .call 18 [.t 12, .t 14], some (10, true), true⟩,
  ⟨some 16, .pick (.t 10) (.t 15) (.c (.bool false)), none, true⟩,
  ⟨some 4, .as (.t 16), none, true⟩] (some [4]) [2, 3]) (
.ret)))))
/-- ambidexter/profile.within -/
def A18 : AFn := .code [.t 4] (
(.seq (
.reg none [
  ⟨some 4, .as (.c (.bool false)), none, true⟩] (some [0, 1]) []) (
(.seq (
.reg none [
  ⟨some 5, .mv (.t 0), none, true⟩,
  ⟨some 6, .mv (.t 0), none, true⟩,
  ⟨some 7, .un .neg (.t 6), none, true⟩,
  ⟨some 8, .mx [.t 5, .t 7], none, true⟩,
  ⟨some 9, .mv (.t 1), none, true⟩,
  ⟨some 10, .bin .leq (.t 8) (.t 9), none, true⟩,
  ⟨some 4, .as (.t 10), none, true⟩] (some [4]) []) (
.ret)))))
/-- (*ambidexter/servo.loop).hear -/
def A19 : AFn := .code [] (
(.seq (
.reg none [
  ⟨some 6, .mv (.t 0), none, true⟩,
  ⟨some 7, .mv (.t 0), none, true⟩,
  ⟨some 8, .nilc (.t 7), none, true⟩,
  ⟨some 9, .fad 0 (.t 8), none, true⟩,
  ⟨some 10, .fad 0 (.t 9), none, true⟩,
  ⟨some 11, .load true 3 (.t 10), none, true⟩,
  ⟨some 12, .mv (.t 1), none, true⟩,
  ⟨some 13, .mv (.t 2), none, true⟩,
  ⟨some 14, .call 29 [.t 11, .t 12, .t 13], none, true⟩,
  ⟨some 15, .nilc (.t 6), none, true⟩,
  ⟨some 16, .fad 0 (.t 15), none, true⟩,
  ⟨some 17, .fad 0 (.t 16), none, true⟩,
  ⟨none, .store 3 (.t 17) (.t 14), none, true⟩] (some [0]) []) (
(.seq (
.reg none [
  ⟨some 18, .mv (.t 0), none, true⟩,
  ⟨some 19, .nilc (.t 18), none, true⟩,
  ⟨some 20, .fad 0 (.t 19), none, true⟩,
  ⟨some 21, .fad 0 (.t 20), none, true⟩,
  ⟨some 22, .fad 2 (.t 21), none, true⟩,
  ⟨some 23, .load false 1 (.t 22), none, true⟩,
  ⟨some 24, .bin .gtr (.t 23) (.c (.int .i64 6)), none, true⟩] (some [0, 24]) []) (
(.cond (.t 24) (
  .reg none [
    ⟨some 25, .mv (.t 0), none, true⟩,
    ⟨some 26, .nilc (.t 25), none, true⟩,
    ⟨some 27, .fad 0 (.t 26), none, true⟩,
    ⟨some 28, .fad 4 (.t 27), none, true⟩,
    ⟨none, .store 1 (.t 28) (.c (.bool true)), none, true⟩] (some []) []) (
  .skip)))))))
/-- (*ambidexter/servo.loop).order -/
def A20 : AFn := .code [] (
(.seq (
.reg none [
  ⟨some 4, .mv (.t 0), none, true⟩,
  ⟨some 5, .mv (.t 1), none, true⟩,
  ⟨some 6, .nilc (.t 4), none, true⟩,
  ⟨some 7, .fad 0 (.t 6), none, true⟩,
  ⟨some 8, .fad 3 (.t 7), none, true⟩,
  ⟨none, .store 1 (.t 8) (.t 5), none, true⟩] (some [0, 1]) []) (
.reg none [
  ⟨some 9, .mv (.t 0), none, true⟩,
  ⟨some 10, .mv (.t 0), none, true⟩,
  ⟨some 11, .nilc (.t 10), none, true⟩,
  ⟨some 12, .fad 0 (.t 11), none, true⟩,
  ⟨some 13, .fad 0 (.t 12), none, true⟩,
  ⟨some 14, .load true 3 (.t 13), none, true⟩,
  ⟨some 15, .mv (.t 1), none, true⟩,
  ⟨some 16, .call 30 [.t 14, .t 15], none, true⟩,
  ⟨some 17, .nilc (.t 9), none, true⟩,
  ⟨some 18, .fad 0 (.t 17), none, true⟩,
  ⟨some 19, .fad 0 (.t 18), none, true⟩,
  ⟨none, .store 3 (.t 19) (.t 16), none, true⟩] (some []) [])))
/-- ambidexter/servo.within[int] -/
def A21 : AFn := .code [.t 6] (
(.seq (
.reg none [
  ⟨some 6, .as (.c (.int .i64 0)), none, true⟩] (some [0, 1, 2]) []) (
(.seq (
.reg none [
  ⟨some 7, .mv (.t 1), none, true⟩,
  ⟨some 8, .mv (.t 0), none, true⟩,
  ⟨some 9, .mv (.t 2), none, true⟩,
  ⟨some 10, .mn [.t 8, .t 9], none, true⟩,
  ⟨some 11, .mx [.t 7, .t 10], none, true⟩,
  ⟨some 6, .as (.t 11), none, true⟩] (some [6]) []) (
.ret)))))
/-- ambidexter/servo.TrackingError -/
def A22 : AFn := .code [.t 4] (
(.seq (
.reg none [
  ⟨some 2, .box (.t 0), none, true⟩,
  ⟨some 4, .as (.c (.int .i64 0)), none, true⟩] (some [1, 2]) []) (
(.seq (
.reg none [
  ⟨some 6, .mv (.t 1), none, true⟩,
  ⟨some 7, .bin .mul (.t 6) (.c (.int .i64 16)), none, true⟩,
  ⟨some 8, .bin .add (.t 7) (.c (.int .i64 8)), none, true⟩,
  ⟨some 5, .as (.t 8), none, true⟩] (some [2, 5]) []) (
(.seq (
.reg none [
  ⟨some 9, .mv (.t 5), none, true⟩,
  ⟨some 10, .fad 0 (.t 2), none, true⟩,
  ⟨some 11, .load true 3 (.t 10), none, true⟩,
  ⟨some 12, .call 31 [.t 11], none, true⟩,
  ⟨some 13, .bin .sub (.t 9) (.t 12), none, true⟩,
  ⟨some 4, .as (.t 13), none, true⟩] (some [4]) [2]) (
.ret)))))))
/-- ambidexter/encoder.New -/
def A23 : AFn := .code [.cell true 3 2] (
(.seq (
.reg none [
  ⟨some 2, .alloc [.int .i64 0, .int .i64 0, .int .i64 0], none, true⟩] (some [0, 2]) []) (
(.seq (
.reg none [
  ⟨some 3, .mv (.t 0), none, true⟩,
  ⟨some 4, .call 12 [.t 3], none, true⟩,
  ⟨some 5, .build [.int .i64 0, .int .i64 0, .int .i64 0] [(0, 1, .t 4)], none, true⟩,
  ⟨none, .store 3 (.t 2) (.t 5), none, true⟩] (some [2]) []) (
.ret)))))
/-- ambidexter/profile.ValidLimits$1 -/
def A24 : AFn := .code [.t 4] (
(.seq (
.reg none [
  ⟨some 4, .as (.c (.bool false)), none, true⟩] (some [0, 1]) []) (
(.seq (
.reg none [
  ⟨some 5, .mv (.t 0), none, true⟩,
  ⟨some 6, .bin .geq (.t 5) (.c (.int .i64 1)), none, true⟩,
  ⟨some 7, .mv (.t 6), none, true⟩,
  ⟨some 8, .mv (.t 0), some (7, true), true⟩,
  ⟨some 9, .mv (.t 1), some (7, true), true⟩,
  ⟨some 10, .bin .leq (.t 8) (.t 9), some (7, true), true⟩,
  ⟨some 11, .pick (.t 7) (.t 10) (.c (.bool false)), none, true⟩,
  ⟨some 4, .as (.t 11), none, true⟩] (some [4]) []) (
.ret)))))
/-- (ambidexter/mintime.space).many -/
def A25 : AFn := .code [.t 2] (
(.seq (
.reg none [
  ⟨some 1, .box (.t 0), none, true⟩,
  ⟨some 2, .as (.c (.int .i64 0)), none, true⟩] (some [1]) []) (
(.seq (
.reg none [
  ⟨some 3, .fad 3 (.t 1), none, true⟩,
  ⟨some 4, .load false 1 (.t 3), none, true⟩,
  ⟨some 5, .bin .add (.t 4) (.c (.int .i64 1)), none, true⟩,
  ⟨some 6, .fad 0 (.t 1), none, true⟩,
  ⟨some 7, .fad 0 (.t 6), none, true⟩,
  ⟨some 8, .load false 1 (.t 7), none, true⟩,
  ⟨some 9, .bin .mul (.c (.int .i64 2)) (.t 8), none, true⟩,
  ⟨some 10, .bin .add (.t 9) (.c (.int .i64 1)), none, true⟩,
  ⟨some 11, .bin .mul (.t 5) (.t 10), none, true⟩,
  ⟨some 12, .fad 0 (.t 1), none, true⟩,
  ⟨some 13, .fad 1 (.t 12), none, true⟩,
  ⟨some 14, .load false 1 (.t 13), none, true⟩,
  ⟨some 15, .bin .mul (.c (.int .i64 2)) (.t 14), none, true⟩,
  ⟨some 16, .bin .add (.t 15) (.c (.int .i64 1)), none, true⟩,
  ⟨some 17, .bin .mul (.t 11) (.t 16), none, true⟩,
  ⟨some 2, .as (.t 17), none, true⟩] (some [2]) [1]) (
.ret)))))
/-- ambidexter/mintime.ahead -/
def A26 : AFn := .code [.cell true 3 4] (
(.seq (
.reg none [
  ⟨some 2, .box (.t 0), none, true⟩,
  ⟨some 4, .alloc [.int .i64 0, .int .i64 0, .int .i64 0], none, true⟩] (some [1, 2, 4]) []) (
(.seq (
.reg none [
  ⟨some 5, .fad 0 (.t 2), none, true⟩,
  ⟨some 6, .load false 1 (.t 5), none, true⟩,
  ⟨some 7, .fad 1 (.t 2), none, true⟩,
  ⟨some 8, .load false 1 (.t 7), none, true⟩,
  ⟨some 9, .bin .sub (.t 6) (.t 8), none, true⟩,
  ⟨some 10, .fad 1 (.t 2), none, true⟩,
  ⟨some 11, .load false 1 (.t 10), none, true⟩,
  ⟨some 12, .fad 2 (.t 2), none, true⟩,
  ⟨some 13, .load false 1 (.t 12), none, true⟩,
  ⟨some 14, .bin .sub (.t 11) (.t 13), none, true⟩,
  ⟨some 15, .fad 2 (.t 2), none, true⟩,
  ⟨some 16, .load false 1 (.t 15), none, true⟩,
  ⟨some 17, .mv (.t 1), none, true⟩,
  ⟨some 18, .bin .sub (.t 16) (.t 17), none, true⟩,
  ⟨some 19, .build [.int .i64 0, .int .i64 0, .int .i64 0] [(0, 1, .t 9), (1, 1, .t 14), (2, 1, .t 18)], none, true⟩,
  ⟨none, .store 3 (.t 4) (.t 19), none, true⟩] (some [4]) [2]) (
.ret)))))
def A27_L0b : ACode := 
  (.seq (
  .reg none [
    ⟨some 12, .bin .lss (.t 11) (.t 10), none, true⟩] (some [0, 4, 9, 10, 11, 12]) []) (
  (.seq (
  (.cond (.t 12) (
    .skip) (
    .exit 0))) (
  (.seq (
  (.block 1 (
  (.seq (
  .reg none [
    ⟨some 13, .ias 1 (.t 9) (.t 11), none, true⟩,
    ⟨some 14, .load false 1 (.t 13), none, true⟩,
    ⟨some 6, .as (.t 14), none, true⟩] (some [0, 4, 6, 9, 10, 11]) []) (
  (.seq (
  .reg none [
    ⟨some 15, .mv (.t 6), none, true⟩,
    ⟨some 16, .call 28 [.t 4, .t 15], none, true⟩] (some [0, 4, 6, 9, 10, 11]) []) (
  (.seq (
  .reg none [
    ⟨some 17, .mv (.t 0), none, true⟩,
    ⟨some 18, .mv (.t 6), none, true⟩,
    ⟨some 19, .fad 0 (.t 4), none, true⟩,
    ⟨some 20, .load true 3 (.t 19), none, true⟩,
    ⟨some 21, .cal (.t 17) [.t 18, .t 20], none, true⟩,
    ⟨some 22, .un .not (.t 21), none, true⟩] (some [0, 4, 9, 10, 11, 22]) []) (
  (.cond (.t 22) (
    .ret) (
    .skip))))))))) (some [0, 4, 9, 10, 11]) [6, 16, 21])) (
  .reg none [
    ⟨some 23, .bin .add (.t 11) (.c (.int .i64 1)), none, true⟩,
    ⟨some 11, .mv (.t 23), none, true⟩] (some [0, 4, 9, 10, 11]) []))))))
def A27_L0 : ACode := .loop A27_L0b (some [0, 4, 9, 10, 11]) [6, 16, 21]
/-- ambidexter/profile.ticks$1 -/
def A27 : AFn := .code [] (
(.seq (
.reg none [
  ⟨some 7, .load true 3 (.t 1), none, true⟩,
  ⟨some 8, .build [.int .i64 0, .int .i64 0, .int .i64 0] [(0, 3, .t 7)], none, true⟩,
  ⟨some 4, .alloc [.int .i64 0, .int .i64 0, .int .i64 0], none, true⟩,
  ⟨none, .store 3 (.t 4) (.t 8), none, true⟩] (some [0, 2, 4]) []) (
(.seq (
.reg none [
  ⟨some 9, .load false 1 (.t 2), none, true⟩,
  ⟨some 10, .len 0 (.t 9), none, true⟩,
  ⟨some 11, .mv (.c (.int .i64 0)), none, true⟩] (some [0, 4, 9, 10, 11]) []) (
(.block 0 (
A27_L0) (some []) [6, 16, 21]))))))
/-- (*ambidexter/profile.player).tick -/
def A28 : AFn := .code [] (
(.seq (
.reg none [
  ⟨some 4, .mv (.t 0), none, true⟩,
  ⟨some 5, .nilc (.t 4), none, true⟩,
  ⟨some 6, .fad 0 (.t 5), none, true⟩,
  ⟨some 7, .fad 2 (.t 6), none, true⟩,
  ⟨some 8, .load false 1 (.t 7), none, true⟩,
  ⟨some 9, .mv (.t 1), none, true⟩,
  ⟨some 10, .bin .add (.t 8) (.t 9), none, true⟩,
  ⟨some 11, .nilc (.t 4), none, true⟩,
  ⟨some 12, .fad 0 (.t 11), none, true⟩,
  ⟨some 13, .fad 2 (.t 12), none, true⟩,
  ⟨none, .store 1 (.t 13) (.t 10), none, true⟩] (some [0]) []) (
(.seq (
.reg (some [.dr [23] [], .dr [23] [], .dr [23] [], .dr [23] [], .dr [23] [], .dr [18] [], .dr [18] [], .dr [18] [], .dr [18] [], .dr [18] [], .free, .free, .free, .free, .free]) [
  ⟨some 14, .mv (.t 0), none, true⟩,
  ⟨some 15, .nilc (.t 14), none, true⟩,
  ⟨some 16, .fad 0 (.t 15), none, true⟩,
  ⟨some 17, .fad 1 (.t 16), none, true⟩,
  ⟨some 18, .load false 1 (.t 17), none, true⟩,
  ⟨some 19, .mv (.t 0), none, true⟩,
  ⟨some 20, .nilc (.t 19), none, true⟩,
  ⟨some 21, .fad 0 (.t 20), none, true⟩,
  ⟨some 22, .fad 2 (.t 21), none, true⟩,
  ⟨some 23, .load false 1 (.t 22), none, true⟩,
  ⟨some 24, .bin .add (.t 18) (.t 23), none, true⟩,
  ⟨some 25, .nilc (.t 14), none, true⟩,
  ⟨some 26, .fad 0 (.t 25), none, true⟩,
  ⟨some 27, .fad 1 (.t 26), none, true⟩,
  ⟨none, .store 1 (.t 27) (.t 24), none, true⟩] (some [0]) []) (
.reg (some [.dr [37] [], .dr [37] [], .dr [37] [], .dr [37] [], .dr [37] [], .dr [32] [], .dr [32] [], .dr [32] [], .dr [32] [], .dr [32] [], .free, .free, .free, .free, .free]) [
  ⟨some 28, .mv (.t 0), none, true⟩,
  ⟨some 29, .nilc (.t 28), none, true⟩,
  ⟨some 30, .fad 0 (.t 29), none, true⟩,
  ⟨some 31, .fad 0 (.t 30), none, true⟩,
  ⟨some 32, .load false 1 (.t 31), none, true⟩,
  ⟨some 33, .mv (.t 0), none, true⟩,
  ⟨some 34, .nilc (.t 33), none, true⟩,
  ⟨some 35, .fad 0 (.t 34), none, true⟩,
  ⟨some 36, .fad 1 (.t 35), none, true⟩,
  ⟨some 37, .load false 1 (.t 36), none, true⟩,
  ⟨some 38, .bin .add (.t 32) (.t 37), none, true⟩,
  ⟨some 39, .nilc (.t 28), none, true⟩,
  ⟨some 40, .fad 0 (.t 39), none, true⟩,
  ⟨some 41, .fad 0 (.t 40), none, true⟩,
  ⟨none, .store 1 (.t 41) (.t 38), none, true⟩] (some []) [])))))
/-- ambidexter/encoder.Observe -/
def A29 : AFn := .code [.cell true 3 6] (
(.seq (
.reg none [
  ⟨some 3, .box (.t 0), none, true⟩,
  ⟨some 5, .box (.t 2), none, true⟩,
  ⟨some 6, .alloc [.int .i64 0, .int .i64 0, .int .i64 0], none, true⟩] (some [1, 3, 5, 6]) [2001280]) (
(.seq (
.reg none [
  ⟨some 10, .mkm, none, true⟩,
  ⟨some 11, .mkf (.func 32) [] [.t 5], none, true⟩,
  ⟨none, .mpu [0, 0] (.t 10) (.c (.int .i64 1)) (.t 11), none, true⟩,
  ⟨some 12, .mv (.t 10), none, true⟩,
  ⟨some 7, .as (.t 12), none, true⟩] (some [1, 3, 6, 7]) []) (
(.seq (
(.seq (
.reg none [
  ⟨some 14, .mv (.t 7), none, true⟩,
  ⟨some 15, .mv (.t 1), none, true⟩,
  ⟨some 16, .lkp [0, 0] (.nilf) true (.t 14) (.t 15), none, true⟩,
  ⟨some 13, .mv (.t 16), none, true⟩,
  ⟨some 17, .ext (.t 13) 0, none, true⟩,
  ⟨some 18, .ext (.t 13) 1, none, true⟩,
  ⟨some 8, .as (.t 17), none, true⟩,
  ⟨some 9, .as (.t 18), none, true⟩] (some [3, 6, 8, 9]) []) (
(.seq (
.reg none [
  ⟨some 19, .mv (.t 9), none, true⟩] (some [3, 6, 8, 19]) []) (
(.cond (.t 19) (
  (.seq (
  .reg none [
    ⟨some 20, .mv (.t 8), none, true⟩,
    ⟨some 21, .cal (.t 20) [], none, true⟩,
    ⟨none, .store 3 (.t 6) (.t 21), none, true⟩] (some [6]) []) (
  .ret))) (
  .skip))))))) (
(.seq (
.reg none [
  ⟨some 22, .fad 2 (.t 3), none, true⟩,
  ⟨some 23, .load false 1 (.t 22), none, true⟩,
  ⟨some 24, .bin .add (.t 23) (.c (.int .i64 1)), none, true⟩,
  ⟨some 25, .fad 2 (.t 3), none, true⟩,
  ⟨none, .store 1 (.t 25) (.t 24), none, true⟩] (some [3, 6]) []) (
(.seq (
.reg none [
  ⟨some 26, .load true 3 (.t 3), none, true⟩,
  ⟨none, .store 3 (.t 6) (.t 26), none, true⟩] (some [6]) [3]) (
.ret)))))))))))
/-- ambidexter/encoder.Command -/
def A30 : AFn := .code [.cell true 3 4] (
(.seq (
.reg none [
  ⟨some 2, .box (.t 0), none, true⟩,
  ⟨some 4, .alloc [.int .i64 0, .int .i64 0, .int .i64 0], none, true⟩] (some [1, 2, 4]) []) (
(.seq (
.reg none [
  ⟨some 5, .fad 1 (.t 2), none, true⟩,
  ⟨some 6, .load false 1 (.t 5), none, true⟩,
  ⟨some 7, .mv (.t 1), none, true⟩,
  ⟨some 8, .bin .add (.t 6) (.t 7), none, true⟩,
  ⟨some 9, .fad 1 (.t 2), none, true⟩,
  ⟨none, .store 1 (.t 9) (.t 8), none, true⟩] (some [2, 4]) []) (
(.seq (
.reg none [
  ⟨some 10, .load true 3 (.t 2), none, true⟩,
  ⟨none, .store 3 (.t 4) (.t 10), none, true⟩] (some [4]) [2]) (
.ret)))))))
/-- ambidexter/encoder.Estimate -/
def A31 : AFn := .code [.t 2] (
(.seq (
.reg none [
  ⟨some 1, .box (.t 0), none, true⟩,
  ⟨some 2, .as (.c (.int .i64 0)), none, true⟩] (some [1]) []) (
(.seq (
.reg none [
  ⟨some 3, .fad 0 (.t 1), none, true⟩,
  ⟨some 4, .load false 1 (.t 3), none, true⟩,
  ⟨some 5, .bin .mul (.t 4) (.c (.int .i64 16)), none, true⟩,
  ⟨some 6, .fad 1 (.t 1), none, true⟩,
  ⟨some 7, .load false 1 (.t 6), none, true⟩,
  ⟨some 8, .bin .add (.t 5) (.t 7), none, true⟩,
  ⟨some 9, .bin .add (.t 8) (.c (.int .i64 8)), none, true⟩,
  ⟨some 2, .as (.t 9), none, true⟩] (some [2]) [1]) (
.ret)))))
/-- ambidexter/encoder.Observe$1 -/
def A32 : AFn := .code [.cell true 3 1] (
(.seq (
.reg none [
  ⟨some 1, .alloc [.int .i64 0, .int .i64 0, .int .i64 0], none, true⟩] (some [0, 1]) []) (
(.seq (
.reg none [
  ⟨some 2, .load false 1 (.t 0), none, true⟩,
  ⟨some 3, .build [.int .i64 0, .int .i64 0, .int .i64 0] [(0, 1, .t 2)], none, true⟩,
  ⟨none, .store 3 (.t 1) (.t 3), none, true⟩] (some [1]) []) (
.ret)))))

def E : FuncId → Option AFn
  | 2 => some A2
  | 3 => some A3
  | 4 => some A4
  | 5 => some A5
  | 6 => some A6
  | 7 => some A7
  | 8 => some A8
  | 9 => some A9
  | 10 => some A10
  | 11 => some A11
  | 12 => some A12
  | 13 => some A13
  | 14 => some A14
  | 15 => some A15
  | 16 => some A16
  | 17 => some A17
  | 18 => some A18
  | 19 => some A19
  | 20 => some A20
  | 21 => some A21
  | 22 => some A22
  | 23 => some A23
  | 24 => some A24
  | 25 => some A25
  | 26 => some A26
  | 27 => some A27
  | 28 => some A28
  | 29 => some A29
  | 30 => some A30
  | 31 => some A31
  | 32 => some A32
  | _ => none
theorem E_2 : E 2 = some A2 := rfl
theorem E_3 : E 3 = some A3 := rfl
theorem E_4 : E 4 = some A4 := rfl
theorem E_5 : E 5 = some A5 := rfl
theorem E_6 : E 6 = some A6 := rfl
theorem E_7 : E 7 = some A7 := rfl
theorem E_8 : E 8 = some A8 := rfl
theorem E_9 : E 9 = some A9 := rfl
theorem E_10 : E 10 = some A10 := rfl
theorem E_11 : E 11 = some A11 := rfl
theorem E_12 : E 12 = some A12 := rfl
theorem E_13 : E 13 = some A13 := rfl
theorem E_14 : E 14 = some A14 := rfl
theorem E_15 : E 15 = some A15 := rfl
theorem E_16 : E 16 = some A16 := rfl
theorem E_17 : E 17 = some A17 := rfl
theorem E_18 : E 18 = some A18 := rfl
theorem E_19 : E 19 = some A19 := rfl
theorem E_20 : E 20 = some A20 := rfl
theorem E_21 : E 21 = some A21 := rfl
theorem E_22 : E 22 = some A22 := rfl
theorem E_23 : E 23 = some A23 := rfl
theorem E_24 : E 24 = some A24 := rfl
theorem E_25 : E 25 = some A25 := rfl
theorem E_26 : E 26 = some A26 := rfl
theorem E_27 : E 27 = some A27 := rfl
theorem E_28 : E 28 = some A28 := rfl
theorem E_29 : E 29 = some A29 := rfl
theorem E_30 : E 30 = some A30 := rfl
theorem E_31 : E 31 = some A31 := rfl
theorem E_32 : E 32 = some A32 := rfl
theorem A3_L0_eq (s : St) : K E A3_L0 s = (K E A3_L0b s).bind (loopF E A3_L0 (some [9, 10, 11, 12, 14, 15]) [47]) := loop_fold rfl s
theorem A6_L0_eq (s : St) : K E A6_L0 s = (K E A6_L0b s).bind (loopF E A6_L0 (some [2, 6, 7, 8, 9, 11, 12]) [13, 15, 59, 60, 82]) := loop_fold rfl s
theorem A6_L1_eq (s : St) : K E A6_L1 s = (K E A6_L1b s).bind (loopF E A6_L1 (some [2, 6, 7, 8, 9, 11]) [12, 13, 15, 59, 60, 82]) := loop_fold rfl s
theorem A14_L0_eq (s : St) : K E A14_L0 s = (K E A14_L0b s).bind (loopF E A14_L0 (some [1, 3, 4, 8, 9, 10, 12]) [13, 14, 15, 62, 66, 91]) := loop_fold rfl s
theorem A14_L1_eq (s : St) : K E A14_L1 s = (K E A14_L1b s).bind (loopF E A14_L1 (some [1, 3, 4, 8]) [9, 10, 11, 12, 13, 14, 15, 46, 62, 66, 91]) := loop_fold rfl s
theorem A27_L0_eq (s : St) : K E A27_L0 s = (K E A27_L0b s).bind (loopF E A27_L0 (some [0, 4, 9, 10, 11]) [6, 16, 21]) := loop_fold rfl s
end Go.Proofs.Ytcdpfcdlnbbegaa

namespace Go.Geo
set_option maxRecDepth 100000
set_option maxHeartbeats 4000000
set_option linter.unusedSimpArgs false
set_option linter.unusedVariables false
open Go Go.Zv
def sgn (n : Int) : Int := if n > 0 then 1 else if n < 0 then -1 else 0
def crW (ax ay bx by_ px py : Int) : Int := w64 (w64 (w64 (bx - ax) * w64 (py - ay)) - w64 (w64 (by_ - ay) * w64 (px - ax)))
abbrev pt (p : Int × Int) : LV := .agg [.int .i64 p.1, .int .i64 p.2]
def c2 (p : Int × Int) : List LV := [.int .i64 p.1, .int .i64 p.2]
theorem get_c2 {l : List (Int × Int)} {i : Nat} {p : Int × Int} (h : l[i]? = some p) : (l.map c2)[i]? = some [.int .i64 p.1, .int .i64 p.2] := by
  rw [List.getElem?_map, h]; rfl
theorem wr_nat {n : Nat} (h : n < 9223372036854775808) : IntKind.i64.wrap (n : Int) = n := by
  simp [IntKind.wrap, IntKind.signed, IntKind.bits]; omega
theorem wr_succ {n : Nat} (h : n + 1 < 9223372036854775808) : IntKind.i64.wrap ((n : Int) + 1) = ((n + 1 : Nat) : Int) := by
  have := wr_nat h; simpa using this
def minP (a b : Int × Int) : Int × Int := (mnI a.1 b.1, mnI a.2 b.2)
def maxP (a b : Int × Int) : Int × Int := (mxI a.1 b.1, mxI a.2 b.2)
def bbL : List (Int × Int) → Int × Int
  | [] => (0, 0)
  | p :: t => (p :: t).foldl minP p
def bbH : List (Int × Int) → Int × Int
  | [] => (0, 0)
  | p :: t => (p :: t).foldl maxP p
def withinB (ax ay bx by_ px py : Int) : Bool := decide (mnI ax bx ≤ px) && (decide (px ≤ mxI ax bx) && (decide (mnI ay by_ ≤ py) && decide (py ≤ mxI ay by_)))
theorem mn_self (a : Int) : mnI a a = a := by unfold mnI; split <;> rfl
theorem mx_self (a : Int) : mxI a a = a := by unfold mxI; split <;> rfl
def onB (ax ay bx by_ px py : Int) : Bool := withinB ax ay bx by_ px py && decide (sgn (crW ax ay bx by_ px py) = 0)
def sdI (ax ay bx by_ cx cy dx dy : Int) : Int := w64 (sgn (crW ax ay bx by_ cx cy) * sgn (crW ax ay bx by_ dx dy))
def endsB (ax ay bx by_ cx cy dx dy : Int) : Bool := (decide (sgn (crW ax ay bx by_ cx cy) = 0) && withinB ax ay bx by_ cx cy) || (decide (sgn (crW ax ay bx by_ dx dy) = 0) && withinB ax ay bx by_ dx dy)
theorem wrap0 : IntKind.i64.wrap 0 = 0 := by decide
def cutB (ax ay bx by_ cx cy dx dy : Int) : Bool := (decide (sdI ax ay bx by_ cx cy dx dy < 0) && decide (sdI cx cy dx dy ax ay bx by_ < 0)) || (endsB ax ay bx by_ cx cy dx dy || endsB cx cy dx dy ax ay bx by_)
theorem cut_eq_B (ax ay bx by_ cx cy dx dy : Int) : ((onB ax ay bx by_ cx cy || onB ax ay bx by_ dx dy || onB cx cy dx dy ax ay || onB cx cy dx dy bx by_) || (decide (sdI ax ay bx by_ cx cy dx dy < 0) && decide (sdI cx cy dx dy ax ay bx by_ < 0))) = cutB ax ay bx by_ cx cy dx dy := by
  unfold cutB onB endsB
  generalize withinB ax ay bx by_ cx cy = a
  generalize withinB ax ay bx by_ dx dy = b
  generalize withinB cx cy dx dy ax ay = c
  generalize withinB cx cy dx dy bx by_ = d
  generalize decide (sgn (crW ax ay bx by_ cx cy) = 0) = e
  generalize decide (sgn (crW ax ay bx by_ dx dy) = 0) = f
  generalize decide (sgn (crW cx cy dx dy ax ay) = 0) = g
  generalize decide (sgn (crW cx cy dx dy bx by_) = 0) = h
  generalize decide (sdI ax ay bx by_ cx cy dx dy < 0) = i
  generalize decide (sdI cx cy dx dy ax ay bx by_ < 0) = j
  revert a b c d e f g h i j; decide
def sharedB (W S T : Int) : Bool := if W < 0 then decide (0 ≤ -S) && (decide (-S ≤ -W) && (decide (0 ≤ -T) && decide (-T ≤ -W))) else decide (0 ≤ S) && (decide (S ≤ W) && (decide (0 ≤ T) && decide (T ≤ W)))
def B (x : Int) : Prop := -500000000 ≤ x ∧ x ≤ 500000000
theorem wB {x : Int} (h : B x) : IntKind.i64.wrap x = x := by unfold B at h; exact wrap_small (by omega) (by omega)
def cr (ax ay bx by_ px py : Int) : Int := (bx - ax) * (py - ay) - (by_ - ay) * (px - ax)
theorem mul_bd {x y A C : Int} (h1 : -A ≤ x) (h2 : x ≤ A) (h3 : -C ≤ y) (h4 : y ≤ C) : -(A * C) ≤ x * y ∧ x * y ≤ A * C := by
  have hA : 0 ≤ A := by omega
  have hC : 0 ≤ C := by omega
  have a1 : x * y ≤ A * C := by
    rcases Int.le_total 0 x with hx | hx
    · have h5 : x * y ≤ x * C := Int.mul_le_mul_of_nonneg_left h4 hx
      have h6 : x * C ≤ A * C := Int.mul_le_mul_of_nonneg_right h2 hC
      omega
    · have h5 : (-x) * (-y) ≤ (-x) * C := Int.mul_le_mul_of_nonneg_left (by omega) (by omega)
      have h6 : (-x) * C ≤ A * C := Int.mul_le_mul_of_nonneg_right (by omega) hC
      have h7 : (-x) * (-y) = x * y := by grind
      omega
  have a2 : -(A * C) ≤ x * y := by
    rcases Int.le_total 0 x with hx | hx
    · have h5 : x * (-y) ≤ x * C := Int.mul_le_mul_of_nonneg_left (by omega) hx
      have h6 : x * C ≤ A * C := Int.mul_le_mul_of_nonneg_right h2 hC
      have h7 : x * (-y) = -(x * y) := by grind
      omega
    · have h5 : (-x) * y ≤ (-x) * C := Int.mul_le_mul_of_nonneg_left h4 (by omega)
      have h6 : (-x) * C ≤ A * C := Int.mul_le_mul_of_nonneg_right (by omega) hC
      have h7 : (-x) * y = -(x * y) := by grind
      omega
  exact ⟨a2, a1⟩
theorem wprod {x y z w : Int} (h1 : -1000000000 ≤ x) (h2 : x ≤ 1000000000) (h3 : -1000000000 ≤ y) (h4 : y ≤ 1000000000) (h5 : -1000000000 ≤ z) (h6 : z ≤ 1000000000) (h7 : -1000000000 ≤ w) (h8 : w ≤ 1000000000) :
    IntKind.i64.wrap (IntKind.i64.wrap (IntKind.i64.wrap x * IntKind.i64.wrap y) - IntKind.i64.wrap (IntKind.i64.wrap z * IntKind.i64.wrap w)) = x * y - z * w ∧ -2000000000000000000 ≤ x * y - z * w ∧ x * y - z * w ≤ 2000000000000000000 := by
  obtain ⟨p1, p2⟩ := mul_bd h1 h2 h3 h4
  obtain ⟨q1, q2⟩ := mul_bd h5 h6 h7 h8
  rw [wrap_small (n := x) (by omega) (by omega), wrap_small (n := y) (by omega) (by omega), wrap_small (n := z) (by omega) (by omega), wrap_small (n := w) (by omega) (by omega)]
  rw [wrap_small (n := x * y) (by omega) (by omega), wrap_small (n := z * w) (by omega) (by omega), wrap_small (n := x * y - z * w) (by omega) (by omega)]
  exact ⟨rfl, by omega, by omega⟩
theorem crW_B {ax ay bx by_ px py : Int} (h1 : B ax) (h2 : B ay) (h3 : B bx) (h4 : B by_) (h5 : B px) (h6 : B py) : crW ax ay bx by_ px py = cr ax ay bx by_ px py := by
  unfold B at *
  exact (wprod (by omega) (by omega) (by omega) (by omega) (by omega) (by omega) (by omega) (by omega)).1
theorem tmod_bd (x : Int) {n : Int} (h : 0 < n) : -n < x.tmod n ∧ x.tmod n < n := ⟨Int.lt_tmod_of_pos x h, Int.tmod_lt_of_pos x h⟩
theorem sgn_cases (n : Int) : sgn n = 1 ∨ sgn n = 0 ∨ sgn n = -1 := by unfold sgn; split <;> (try split) <;> simp
theorem sgn_neg (n : Int) : sgn (-n) = -sgn n := by unfold sgn; repeat' split
                                                    all_goals omega
theorem sgn_zero : sgn 0 = 0 := by decide
theorem cr_swap (ax ay bx by_ px py : Int) : cr bx by_ ax ay px py = - cr ax ay bx by_ px py := by unfold cr; grind
theorem cr_swap2 (ax ay bx by_ px py : Int) : cr ax ay px py bx by_ = - cr ax ay bx by_ px py := by unfold cr; grind
theorem cr_rot (ax ay bx by_ px py : Int) : cr bx by_ px py ax ay = cr ax ay bx by_ px py := by unfold cr; grind
theorem cr_rot2 (ax ay bx by_ px py : Int) : cr px py ax ay bx by_ = cr ax ay bx by_ px py := by unfold cr; grind
theorem cr_add (ax ay bx by_ px py u v : Int) : cr (ax + u) (ay + v) (bx + u) (by_ + v) (px + u) (py + v) = cr ax ay bx by_ px py := by unfold cr; grind
theorem cr_sub (ax ay bx by_ px py u v : Int) : cr (ax - u) (ay - v) (bx - u) (by_ - v) (px - u) (py - v) = cr ax ay bx by_ px py := by unfold cr; grind
theorem cr_quarter (ax ay bx by_ px py : Int) : cr (0 - ay) ax (0 - by_) bx (0 - py) px = cr ax ay bx by_ px py := by unfold cr; grind
theorem cr_aac (ax ay px py : Int) : cr ax ay ax ay px py = 0 := by unfold cr; grind
theorem cr_abb (ax ay px py : Int) : cr ax ay px py px py = 0 := by unfold cr; grind
theorem wsum {x y z w : Int} (h1 : -1000000000 ≤ x) (h2 : x ≤ 1000000000) (h3 : -1000000000 ≤ y) (h4 : y ≤ 1000000000) (h5 : -1000000000 ≤ z) (h6 : z ≤ 1000000000) (h7 : -1000000000 ≤ w) (h8 : w ≤ 1000000000) :
    IntKind.i64.wrap (IntKind.i64.wrap (IntKind.i64.wrap x * IntKind.i64.wrap y) + IntKind.i64.wrap (IntKind.i64.wrap z * IntKind.i64.wrap w)) = x * y + z * w := by
  obtain ⟨p1, p2⟩ := mul_bd h1 h2 h3 h4
  obtain ⟨q1, q2⟩ := mul_bd h5 h6 h7 h8
  rw [wrap_small (n := x) (by omega) (by omega), wrap_small (n := y) (by omega) (by omega), wrap_small (n := z) (by omega) (by omega), wrap_small (n := w) (by omega) (by omega)]
  rw [wrap_small (n := x * y) (by omega) (by omega), wrap_small (n := z * w) (by omega) (by omega), wrap_small (n := x * y + z * w) (by omega) (by omega)]
theorem mul_nn {x y : Int} : 0 ≤ x * y ↔ (0 ≤ x ∧ 0 ≤ y) ∨ (x ≤ 0 ∧ y ≤ 0) := by
  constructor
  · intro h
    rcases Int.lt_trichotomy x 0 with hx | hx | hx
    · rcases Int.lt_trichotomy y 0 with hy | hy | hy
      · right; omega
      · right; omega
      · have := Int.mul_neg_of_neg_of_pos hx hy; omega
    · subst hx
      rcases Int.le_total 0 y with hy | hy
      · left; omega
      · right; omega
    · rcases Int.lt_trichotomy y 0 with hy | hy | hy
      · have := Int.mul_neg_of_pos_of_neg hx hy; omega
      · left; omega
      · left; omega
  · rintro (⟨h1, h2⟩ | ⟨h1, h2⟩)
    · exact Int.mul_nonneg h1 h2
    · exact Int.mul_nonneg_of_nonpos_of_nonpos h1 h2
theorem bt {a b p : Int} : (mnI a b ≤ p ∧ p ≤ mxI a b) ↔ 0 ≤ (p - a) * (b - p) := by
  rw [mul_nn]; unfold mnI mxI
  constructor
  · intro h; split at h <;> split at h <;> omega
  · intro h; split <;> split <;> omega
theorem withinB_iff {ax ay bx by_ px py : Int} : withinB ax ay bx by_ px py = true ↔ 0 ≤ (px - ax) * (bx - px) ∧ 0 ≤ (py - ay) * (by_ - py) := by
  rw [← bt, ← bt]
  simp [withinB, and_assoc]
theorem sgn_eq0 {n : Int} : sgn n = 0 ↔ n = 0 := by unfold sgn; repeat' split
                                                    all_goals omega
theorem sq_pos {x : Int} (h : x ≠ 0) : 0 < x * x := by
  rcases Int.lt_trichotomy x 0 with h1 | h1 | h1
  · exact Int.mul_pos_of_neg_of_neg h1 h1
  · exact absurd h1 h
  · exact Int.mul_pos h1 h1
theorem on_key {u v U V : Int} (hc : U * v - V * u = 0) (hd : 0 ≤ u * (U - u) + v * (V - v)) (hne : U ≠ 0 ∨ V ≠ 0) : 0 ≤ u * (U - u) ∧ 0 ≤ v * (V - v) := by
  have key : (V * V) * (u * (U - u)) = (U * U) * (v * (V - v)) := by
    have e : U * v = V * u := by omega
    have : (V * V) * (u * (U - u)) = (V * u) * (V * U) - (V * u) * (V * u) := by grind
    rw [this, ← e]; grind
  have sq : ∀ x : Int, 0 ≤ x * x := fun x => by
    by_cases h : x = 0
    · subst h; simp
    · have := sq_pos h; omega
  constructor
  · refine Classical.byContradiction fun h => ?_
    have h1 : u * (U - u) < 0 := by omega
    have h2 : 0 < v * (V - v) := by omega
    have h3 : 0 ≤ (U * U) * (v * (V - v)) := Int.mul_nonneg (sq U) (by omega)
    rcases hne with hU | hV
    · have := Int.mul_pos (sq_pos hU) h2
      have h5 : (V * V) * (u * (U - u)) ≤ 0 := Int.mul_nonpos_of_nonneg_of_nonpos (sq V) (by omega)
      omega
    · have := Int.mul_neg_of_pos_of_neg (sq_pos hV) h1
      omega
  · refine Classical.byContradiction fun h => ?_
    have h1 : v * (V - v) < 0 := by omega
    have h2 : 0 < u * (U - u) := by omega
    rcases hne with hU | hV
    · have := Int.mul_neg_of_pos_of_neg (sq_pos hU) h1
      have h5 : 0 ≤ (V * V) * (u * (U - u)) := Int.mul_nonneg (sq V) (by omega)
      omega
    · have := Int.mul_pos (sq_pos hV) h2
      have h5 : (U * U) * (v * (V - v)) ≤ 0 := Int.mul_nonpos_of_nonneg_of_nonpos (sq U) (by omega)
      omega
theorem on_iff {ax ay bx by_ px py : Int} : (withinB ax ay bx by_ px py = true ∧ cr ax ay bx by_ px py = 0) ↔ (cr ax ay bx by_ px py = 0 ∧ 0 ≤ (px - ax) * (bx - px) + (py - ay) * (by_ - py) ∧ ((ax = bx ∧ ay = by_) → (px = ax ∧ py = ay))) := by
  rw [withinB_iff]
  constructor
  · rintro ⟨⟨h1, h2⟩, h3⟩
    refine ⟨h3, by omega, ?_⟩
    rintro ⟨rfl, rfl⟩
    rw [mul_nn] at h1 h2
    omega
  · rintro ⟨h3, h4, h5⟩
    refine ⟨?_, h3⟩
    by_cases he : ax = bx ∧ ay = by_
    · obtain ⟨rfl, rfl⟩ := h5 he
      obtain ⟨rfl, rfl⟩ := he
      simp
    · have := on_key (u := px - ax) (v := py - ay) (U := bx - ax) (V := by_ - ay) (by unfold cr at h3; exact h3) (by
        have e1 : bx - ax - (px - ax) = bx - px := by omega
        have e2 : by_ - ay - (py - ay) = by_ - py := by omega
        rw [e1, e2]; exact h4) (by omega)
      have e1 : bx - ax - (px - ax) = bx - px := by omega
      have e2 : by_ - ay - (py - ay) = by_ - py := by omega
      rw [e1, e2] at this; exact this
theorem onB_iff {ax ay bx by_ px py : Int} (h1 : B ax) (h2 : B ay) (h3 : B bx) (h4 : B by_) (h5 : B px) (h6 : B py) : onB ax ay bx by_ px py = true ↔ (cr ax ay bx by_ px py = 0 ∧ 0 ≤ (px - ax) * (bx - px) + (py - ay) * (by_ - py) ∧ ((ax = bx ∧ ay = by_) → (px = ax ∧ py = ay))) := by
  rw [← on_iff]; unfold onB; rw [crW_B h1 h2 h3 h4 h5 h6]; simp [sgn_eq0]
def wW (ax ay bx by_ cx cy dx dy : Int) : Int := (bx - ax) * (dy - cy) - (by_ - ay) * (dx - cx)
def sS (ax ay bx by_ cx cy dx dy : Int) : Int := (cx - ax) * (dy - cy) - (cy - ay) * (dx - cx)
def tT (ax ay bx by_ cx cy dx dy : Int) : Int := (cx - ax) * (by_ - ay) - (cy - ay) * (bx - ax)
section
variable (ax ay bx by_ cx cy dx dy : Int)
theorem o1_eq : cr ax ay bx by_ cx cy = - tT ax ay bx by_ cx cy dx dy := by unfold cr tT; grind
theorem o2_eq : cr ax ay bx by_ dx dy = wW ax ay bx by_ cx cy dx dy - tT ax ay bx by_ cx cy dx dy := by unfold cr tT wW; grind
theorem o3_eq : cr cx cy dx dy ax ay = sS ax ay bx by_ cx cy dx dy := by unfold cr sS; grind
theorem o4_eq : cr cx cy dx dy bx by_ = sS ax ay bx by_ cx cy dx dy - wW ax ay bx by_ cx cy dx dy := by unfold cr sS wW; grind
end
theorem sq_nn (x : Int) : 0 ≤ x * x := by
  by_cases h : x = 0
  · subst h; simp
  · have := sq_pos h; omega
theorem nn_of_mul {x y : Int} (hx : 0 < x) (h : 0 ≤ x * y) : 0 ≤ y := by
  rw [mul_nn] at h; omega
theorem within_A {ax ay bx by_ cx cy dx dy : Int} (hT : tT ax ay bx by_ cx cy dx dy = 0) (hW : wW ax ay bx by_ cx cy dx dy ≠ 0) :
    withinB ax ay bx by_ cx cy = true ↔ 0 ≤ sS ax ay bx by_ cx cy dx dy * (wW ax ay bx by_ cx cy dx dy - sS ax ay bx by_ cx cy dx dy) := by
  have e1 : wW ax ay bx by_ cx cy dx dy * (cx - ax) = sS ax ay bx by_ cx cy dx dy * (bx - ax) := by
    have : wW ax ay bx by_ cx cy dx dy * (cx - ax) - sS ax ay bx by_ cx cy dx dy * (bx - ax) = (dx - cx) * (- tT ax ay bx by_ cx cy dx dy) := by unfold wW sS tT; grind
    rw [hT] at this; simp at this; omega
  have e2 : wW ax ay bx by_ cx cy dx dy * (cy - ay) = sS ax ay bx by_ cx cy dx dy * (by_ - ay) := by
    have : wW ax ay bx by_ cx cy dx dy * (cy - ay) - sS ax ay bx by_ cx cy dx dy * (by_ - ay) = (dy - cy) * (- tT ax ay bx by_ cx cy dx dy) := by unfold wW sS tT; grind
    rw [hT] at this; simp at this; omega
  have hne : bx - ax ≠ 0 ∨ by_ - ay ≠ 0 := by
    refine Classical.byContradiction fun h => hW ?_
    have h1 : bx - ax = 0 := by omega
    have h2 : by_ - ay = 0 := by omega
    unfold wW; rw [h1, h2]; simp
  generalize sS ax ay bx by_ cx cy dx dy = s at *
  generalize wW ax ay bx by_ cx cy dx dy = w at *
  have hw := sq_pos hW
  have f1 : (w * w) * ((cx - ax) * (bx - cx)) = (s * (w - s)) * ((bx - ax) * (bx - ax)) := by
    have : (w * w) * ((cx - ax) * (bx - cx)) = (w * (cx - ax)) * (w * (bx - ax) - w * (cx - ax)) := by grind
    rw [this, e1]; grind
  have f2 : (w * w) * ((cy - ay) * (by_ - cy)) = (s * (w - s)) * ((by_ - ay) * (by_ - ay)) := by
    have : (w * w) * ((cy - ay) * (by_ - cy)) = (w * (cy - ay)) * (w * (by_ - ay) - w * (cy - ay)) := by grind
    rw [this, e2]; grind
  rw [withinB_iff]
  constructor
  · rintro ⟨h1, h2⟩
    rcases hne with hn | hn
    · have : 0 ≤ (s * (w - s)) * ((bx - ax) * (bx - ax)) := by rw [← f1]; exact Int.mul_nonneg (by omega) h1
      rw [Int.mul_comm] at this
      exact nn_of_mul (sq_pos hn) this
    · have : 0 ≤ (s * (w - s)) * ((by_ - ay) * (by_ - ay)) := by rw [← f2]; exact Int.mul_nonneg (by omega) h2
      rw [Int.mul_comm] at this
      exact nn_of_mul (sq_pos hn) this
  · intro h
    exact ⟨nn_of_mul hw (by rw [f1]; exact Int.mul_nonneg h (sq_nn _)), nn_of_mul hw (by rw [f2]; exact Int.mul_nonneg h (sq_nn _))⟩
theorem sgn_mul_neg {x y : Int} : IntKind.i64.wrap (sgn x * sgn y) < 0 ↔ x * y < 0 := by
  have h : x * y < 0 ↔ ¬ (0 ≤ x * y) := by omega
  rw [h, mul_nn]
  unfold sgn
  repeat' split
  all_goals (simp only [Int.mul_zero, Int.zero_mul, Int.one_mul, Int.mul_one, Int.reduceMul, Int.reduceNeg])
  all_goals (first | (rw [show IntKind.i64.wrap 1 = 1 by decide]; omega) | (rw [show IntKind.i64.wrap (-1) = -1 by decide]; omega) | (rw [show IntKind.i64.wrap 0 = 0 by decide]; omega))
structure B8 (ax ay bx by_ cx cy dx dy : Int) : Prop where
  a0 : B ax
  a1 : B ay
  b0 : B bx
  b1 : B by_
  c0 : B cx
  c1 : B cy
  d0 : B dx
  d1 : B dy
theorem cutB_iff {ax ay bx by_ cx cy dx dy : Int} (h : B8 ax ay bx by_ cx cy dx dy) : cutB ax ay bx by_ cx cy dx dy = true ↔
    (cr ax ay bx by_ cx cy * cr ax ay bx by_ dx dy < 0 ∧ cr cx cy dx dy ax ay * cr cx cy dx dy bx by_ < 0) ∨
    ((cr ax ay bx by_ cx cy = 0 ∧ withinB ax ay bx by_ cx cy = true) ∨ (cr ax ay bx by_ dx dy = 0 ∧ withinB ax ay bx by_ dx dy = true)) ∨
    ((cr cx cy dx dy ax ay = 0 ∧ withinB cx cy dx dy ax ay = true) ∨ (cr cx cy dx dy bx by_ = 0 ∧ withinB cx cy dx dy bx by_ = true)) := by
  unfold cutB endsB sdI
  rw [crW_B h.a0 h.a1 h.b0 h.b1 h.c0 h.c1, crW_B h.a0 h.a1 h.b0 h.b1 h.d0 h.d1, crW_B h.c0 h.c1 h.d0 h.d1 h.a0 h.a1, crW_B h.c0 h.c1 h.d0 h.d1 h.b0 h.b1]
  simp only [Bool.or_eq_true, Bool.and_eq_true, decide_eq_true_eq, sgn_mul_neg, sgn_eq0]
theorem cut_par {ax ay bx by_ cx cy dx dy : Int} (h : B8 ax ay bx by_ cx cy dx dy) (hW : wW ax ay bx by_ cx cy dx dy = 0) :
    cutB ax ay bx by_ cx cy dx dy = (onB ax ay bx by_ cx cy || (onB ax ay bx by_ dx dy || (onB cx cy dx dy ax ay || onB cx cy dx dy bx by_))) := by
  rw [Bool.eq_iff_iff, cutB_iff h]
  simp only [Bool.or_eq_true]
  unfold onB
  rw [crW_B h.a0 h.a1 h.b0 h.b1 h.c0 h.c1, crW_B h.a0 h.a1 h.b0 h.b1 h.d0 h.d1, crW_B h.c0 h.c1 h.d0 h.d1 h.a0 h.a1, crW_B h.c0 h.c1 h.d0 h.d1 h.b0 h.b1]
  simp only [Bool.and_eq_true, decide_eq_true_eq, sgn_eq0]
  have hn : ¬ (cr ax ay bx by_ cx cy * cr ax ay bx by_ dx dy < 0) := by
    rw [o1_eq ax ay bx by_ cx cy dx dy, o2_eq ax ay bx by_ cx cy dx dy, hW]
    have := sq_nn (tT ax ay bx by_ cx cy dx dy)
    have e : -tT ax ay bx by_ cx cy dx dy * (0 - tT ax ay bx by_ cx cy dx dy) = tT ax ay bx by_ cx cy dx dy * tT ax ay bx by_ cx cy dx dy := by grind
    rw [e]; omega
  constructor
  · rintro (⟨h1, _⟩ | h | h)
    · exact absurd h1 hn
    · rcases h with h | h
      · exact .inl ⟨h.2, h.1⟩
      · exact .inr (.inl ⟨h.2, h.1⟩)
    · rcases h with h | h
      · exact .inr (.inr (.inl ⟨h.2, h.1⟩))
      · exact .inr (.inr (.inr ⟨h.2, h.1⟩))
  · rintro (h | h | h | h)
    · exact .inr (.inl (.inl ⟨h.2, h.1⟩))
    · exact .inr (.inl (.inr ⟨h.2, h.1⟩))
    · exact .inr (.inr (.inl ⟨h.2, h.1⟩))
    · exact .inr (.inr (.inr ⟨h.2, h.1⟩))
theorem shared_iff {W S T : Int} (hW : W ≠ 0) : sharedB W S T = true ↔ 0 ≤ S * (W - S) ∧ 0 ≤ T * (W - T) := by
  rw [mul_nn, mul_nn]; unfold sharedB
  split <;> simp only [Bool.and_eq_true, decide_eq_true_eq] <;> omega
theorem cut_cross {ax ay bx by_ cx cy dx dy : Int} (h : B8 ax ay bx by_ cx cy dx dy) (hW : wW ax ay bx by_ cx cy dx dy ≠ 0) :
    cutB ax ay bx by_ cx cy dx dy = sharedB (wW ax ay bx by_ cx cy dx dy) (sS ax ay bx by_ cx cy dx dy) (tT ax ay bx by_ cx cy dx dy) := by
  rw [Bool.eq_iff_iff, cutB_iff h, shared_iff hW]
  have wa := within_A (ax := ax) (ay := ay) (bx := bx) (by_ := by_) (cx := cx) (cy := cy) (dx := dx) (dy := dy)
  have wb := within_A (ax := ax) (ay := ay) (bx := bx) (by_ := by_) (cx := dx) (cy := dy) (dx := cx) (dy := cy)
  have wc := within_A (ax := cx) (ay := cy) (bx := dx) (by_ := dy) (cx := ax) (cy := ay) (dx := bx) (dy := by_)
  have wd := within_A (ax := cx) (ay := cy) (bx := dx) (by_ := dy) (cx := bx) (cy := by_) (dx := ax) (dy := ay)
  rw [show wW ax ay bx by_ dx dy cx cy = - wW ax ay bx by_ cx cy dx dy by unfold wW; grind, show sS ax ay bx by_ dx dy cx cy = - sS ax ay bx by_ cx cy dx dy by unfold sS; grind, show tT ax ay bx by_ dx dy cx cy = tT ax ay bx by_ cx cy dx dy - wW ax ay bx by_ cx cy dx dy by unfold tT wW; grind] at wb
  rw [show wW cx cy dx dy ax ay bx by_ = - wW ax ay bx by_ cx cy dx dy by unfold wW; grind, show sS cx cy dx dy ax ay bx by_ = - tT ax ay bx by_ cx cy dx dy by unfold sS tT; grind, show tT cx cy dx dy ax ay bx by_ = - sS ax ay bx by_ cx cy dx dy by unfold tT sS; grind] at wc
  rw [show wW cx cy dx dy bx by_ ax ay = wW ax ay bx by_ cx cy dx dy by unfold wW; grind, show sS cx cy dx dy bx by_ ax ay = tT ax ay bx by_ cx cy dx dy by unfold sS tT; grind, show tT cx cy dx dy bx by_ ax ay = wW ax ay bx by_ cx cy dx dy - sS ax ay bx by_ cx cy dx dy by unfold tT sS wW; grind] at wd
  rw [o1_eq ax ay bx by_ cx cy dx dy, o2_eq ax ay bx by_ cx cy dx dy, o3_eq ax ay bx by_ cx cy dx dy, o4_eq ax ay bx by_ cx cy dx dy]
  generalize wW ax ay bx by_ cx cy dx dy = W at *
  generalize sS ax ay bx by_ cx cy dx dy = S at *
  generalize tT ax ay bx by_ cx cy dx dy = T at *
  have e1 : -T * (W - T) = -(T * (W - T)) := by grind
  have e2 : S * (S - W) = -(S * (W - S)) := by grind
  have e3 : -S * (-W - -S) = S * (W - S) := by grind
  have e4 : -T * (-W - -T) = T * (W - T) := by grind
  rw [e3] at wb; rw [e4] at wc
  rw [e1, e2]
  have z1 : ∀ {x : Int}, x = 0 → x * (W - x) = 0 := fun h => by rw [h]; simp
  have z2 : ∀ {x : Int}, W - x = 0 → x * (W - x) = 0 := fun h => by rw [h]; simp
  constructor
  · rintro (⟨h1, h2⟩ | (⟨h1, h2⟩ | ⟨h1, h2⟩) | (⟨h1, h2⟩ | ⟨h1, h2⟩))
    · omega
    · have h3 : T = 0 := by omega
      exact ⟨(wa h3 hW).1 h2, by rw [z1 h3]; omega⟩
    · have h3 : T - W = 0 := by omega
      exact ⟨(wb h3 (by omega)).1 h2, by rw [z2 (by omega)]; omega⟩
    · have h3 : S = 0 := h1
      exact ⟨by rw [z1 h3]; omega, (wc (by omega) (by omega)).1 h2⟩
    · have h3 : W - S = 0 := by omega
      exact ⟨by rw [z2 h3]; omega, (wd h3 hW).1 h2⟩
  · rintro ⟨h1, h2⟩
    by_cases t0 : T * (W - T) = 0
    · rcases Int.mul_eq_zero.1 t0 with t | t
      · exact .inr (.inl (.inl ⟨by omega, (wa t hW).2 h1⟩))
      · exact .inr (.inl (.inr ⟨by omega, (wb (by omega) (by omega)).2 h1⟩))
    · by_cases s0 : S * (W - S) = 0
      · rcases Int.mul_eq_zero.1 s0 with t | t
        · exact .inr (.inr (.inl ⟨t, (wc (by omega) (by omega)).2 h2⟩))
        · exact .inr (.inr (.inr ⟨by omega, (wd t hW).2 h2⟩))
      · exact .inl ⟨by omega, by omega⟩
theorem within_swap (ax ay bx by_ px py : Int) : withinB bx by_ ax ay px py = withinB ax ay bx by_ px py := by
  rw [Bool.eq_iff_iff, withinB_iff, withinB_iff, mul_nn, mul_nn, mul_nn, mul_nn]; omega
theorem B8.s1 {ax ay bx by_ cx cy dx dy : Int} (h : B8 ax ay bx by_ cx cy dx dy) : B8 bx by_ ax ay cx cy dx dy := ⟨h.b0, h.b1, h.a0, h.a1, h.c0, h.c1, h.d0, h.d1⟩
theorem B8.s2 {ax ay bx by_ cx cy dx dy : Int} (h : B8 ax ay bx by_ cx cy dx dy) : B8 cx cy dx dy ax ay bx by_ := ⟨h.c0, h.c1, h.d0, h.d1, h.a0, h.a1, h.b0, h.b1⟩
theorem cut_s1 {ax ay bx by_ cx cy dx dy : Int} (h : B8 ax ay bx by_ cx cy dx dy) : cutB bx by_ ax ay cx cy dx dy = cutB ax ay bx by_ cx cy dx dy := by
  rw [Bool.eq_iff_iff, cutB_iff h, cutB_iff h.s1, within_swap ax ay bx by_ cx cy, within_swap ax ay bx by_ dx dy, cr_swap ax ay bx by_ cx cy, cr_swap ax ay bx by_ dx dy, Int.neg_mul_neg, Int.mul_comm (cr cx cy dx dy bx by_)]
  simp only [Int.neg_eq_zero]
  constructor
  · rintro (h | h | h | h)
    · exact .inl h
    · exact .inr (.inl h)
    · exact .inr (.inr (.inr h))
    · exact .inr (.inr (.inl h))
  · rintro (h | h | h | h)
    · exact .inl h
    · exact .inr (.inl h)
    · exact .inr (.inr (.inr h))
    · exact .inr (.inr (.inl h))
theorem cut_s2 {ax ay bx by_ cx cy dx dy : Int} (h : B8 ax ay bx by_ cx cy dx dy) : cutB cx cy dx dy ax ay bx by_ = cutB ax ay bx by_ cx cy dx dy := by
  rw [Bool.eq_iff_iff, cutB_iff h, cutB_iff h.s2]
  constructor
  · rintro (h | h | h)
    · exact .inl ⟨h.2, h.1⟩
    · exact .inr (.inr h)
    · exact .inr (.inl h)
  · rintro (h | h | h)
    · exact .inl ⟨h.2, h.1⟩
    · exact .inr (.inr h)
    · exact .inr (.inl h)
theorem cut_s3 {ax ay bx by_ cx cy dx dy : Int} (h : B8 ax ay bx by_ cx cy dx dy) : cutB ax ay bx by_ dx dy cx cy = cutB ax ay bx by_ cx cy dx dy := by
  rw [← cut_s2 h.s2.s1.s2, cut_s1 h.s2, cut_s2 h]
theorem within_end (ax ay bx by_ : Int) : withinB ax ay bx by_ ax ay = true := by rw [withinB_iff]; simp
theorem cr_a (ax ay bx by_ : Int) : cr ax ay bx by_ ax ay = 0 := by unfold cr; grind
theorem cut_end {ax ay bx by_ dx dy : Int} (h : B8 ax ay bx by_ ax ay dx dy) : cutB ax ay bx by_ ax ay dx dy = true := by
  rw [cutB_iff h]; exact .inr (.inl (.inl ⟨cr_a .., within_end ..⟩))
theorem conv {W S a b M : Int} (h1 : 0 ≤ S) (h2 : 0 ≤ W - S) (ha : a ≤ M) (hb : b ≤ M) : W * a + S * (b - a) ≤ W * M := by
  have e : W * M - (W * a + S * (b - a)) = (W - S) * (M - a) + S * (M - b) := by grind
  have := Int.mul_nonneg h2 (show 0 ≤ M - a by omega)
  have := Int.mul_nonneg h1 (show 0 ≤ M - b by omega)
  omega
theorem conv' {W S a b M : Int} (h1 : 0 ≤ S) (h2 : 0 ≤ W - S) (ha : M ≤ a) (hb : M ≤ b) : W * M ≤ W * a + S * (b - a) := by
  have e : (W * a + S * (b - a)) - W * M = (W - S) * (a - M) + S * (b - M) := by grind
  have := Int.mul_nonneg h2 (show 0 ≤ a - M by omega)
  have := Int.mul_nonneg h1 (show 0 ≤ b - M by omega)
  omega
theorem lap1 {W S T a b c d : Int} (hW : 0 < W) (s1 : 0 ≤ S) (s2 : 0 ≤ W - S) (t1 : 0 ≤ T) (t2 : 0 ≤ W - T) (he : W * a + S * (b - a) = W * c + T * (d - c)) : mnI a b ≤ mxI c d := by
  refine Classical.byContradiction fun h => ?_
  have h1 := conv' (M := mnI a b) (a := a) (b := b) s1 s2 (by unfold mnI; split <;> omega) (by unfold mnI; split <;> omega)
  have h2 := conv (M := mxI c d) (a := c) (b := d) t1 t2 (by unfold mxI; split <;> omega) (by unfold mxI; split <;> omega)
  have h3 := Int.mul_pos hW (show 0 < mnI a b - mxI c d by omega)
  rw [Int.mul_sub] at h3
  omega
theorem lap2 {W S T a b c d : Int} (hW : W ≠ 0) (hS : 0 ≤ S * (W - S)) (hT : 0 ≤ T * (W - T)) (he : W * a + S * (b - a) = W * c + T * (d - c)) : mnI a b ≤ mxI c d ∧ mnI c d ≤ mxI a b := by
  rw [mul_nn] at hS hT
  rcases Int.lt_or_lt_of_ne hW with h | h
  · have he' : (-W) * a + (-S) * (b - a) = (-W) * c + (-T) * (d - c) := by grind
    exact ⟨lap1 (by omega) (by omega) (by omega) (by omega) (by omega) he', lap1 (by omega) (by omega) (by omega) (by omega) (by omega) he'.symm⟩
  · exact ⟨lap1 (by omega) (by omega) (by omega) (by omega) (by omega) he, lap1 (by omega) (by omega) (by omega) (by omega) (by omega) he.symm⟩
theorem lap_pt {a b c d p : Int} (h1 : 0 ≤ (p - a) * (b - p)) (h2 : 0 ≤ (p - c) * (d - p)) : mnI a b ≤ mxI c d ∧ mnI c d ≤ mxI a b := by
  rw [← bt] at h1 h2; omega
theorem cut_lap {ax ay bx by_ cx cy dx dy : Int} (h : B8 ax ay bx by_ cx cy dx dy) (hc : cutB ax ay bx by_ cx cy dx dy = true) :
    (mnI ax bx ≤ mxI cx dx ∧ mnI cx dx ≤ mxI ax bx) ∧ (mnI ay by_ ≤ mxI cy dy ∧ mnI cy dy ≤ mxI ay by_) := by
  have z : ∀ x y : Int, 0 ≤ (x - x) * (y - x) ∧ 0 ≤ (y - x) * (y - y) := fun x y => by simp
  by_cases hW : wW ax ay bx by_ cx cy dx dy = 0
  · rw [cut_par h hW] at hc
    simp only [Bool.or_eq_true, onB, Bool.and_eq_true, withinB_iff] at hc
    rcases hc with ⟨⟨h1, h2⟩, _⟩ | ⟨⟨h1, h2⟩, _⟩ | ⟨⟨h1, h2⟩, _⟩ | ⟨⟨h1, h2⟩, _⟩
    · exact ⟨lap_pt h1 (z _ _).1, lap_pt h2 (z _ _).1⟩
    · exact ⟨lap_pt h1 (z _ _).2, lap_pt h2 (z _ _).2⟩
    · exact ⟨lap_pt (z _ _).1 h1, lap_pt (z _ _).1 h2⟩
    · exact ⟨lap_pt (z _ _).2 h1, lap_pt (z _ _).2 h2⟩
  · rw [cut_cross h hW, shared_iff hW] at hc
    exact ⟨lap2 hW hc.1 hc.2 (by unfold wW sS tT; grind), lap2 hW hc.1 hc.2 (by unfold wW sS tT; grind)⟩
theorem w_x {ax ay bx by_ px py : Int} (hc : cr ax ay bx by_ px py = 0) (hn : bx - ax ≠ 0) (h : 0 ≤ (px - ax) * (bx - px)) : withinB ax ay bx by_ px py = true := by
  rw [withinB_iff]
  refine ⟨h, nn_of_mul (sq_pos hn) ?_⟩
  have e : (bx - ax) * (py - ay) = (by_ - ay) * (px - ax) := by unfold cr at hc; omega
  have : (bx - ax) * (bx - ax) * ((py - ay) * (by_ - py)) = ((by_ - ay) * (by_ - ay)) * ((px - ax) * (bx - px)) := by
    have : (bx - ax) * (bx - ax) * ((py - ay) * (by_ - py)) = ((bx - ax) * (py - ay)) * ((bx - ax) * (by_ - ay) - (bx - ax) * (py - ay)) := by grind
    rw [this, e]; grind
  rw [this]; exact Int.mul_nonneg (sq_nn _) h
theorem w_y {ax ay bx by_ px py : Int} (hc : cr ax ay bx by_ px py = 0) (hn : by_ - ay ≠ 0) (h : 0 ≤ (py - ay) * (by_ - py)) : withinB ax ay bx by_ px py = true := by
  have := w_x (ax := ay) (ay := ax) (bx := by_) (by_ := bx) (px := py) (py := px) (by unfold cr at *; omega) hn h
  rw [withinB_iff] at *; exact ⟨this.2, this.1⟩
theorem line1 {a b c d r : Int} (h1 : 0 ≤ (r - a) * (b - r)) (h2 : 0 ≤ (r - c) * (d - r)) : (0 ≤ (c - a) * (b - c) ∨ 0 ≤ (d - a) * (b - d)) ∨ (0 ≤ (a - c) * (d - a) ∨ 0 ≤ (b - c) * (d - b)) := by
  simp only [mul_nn] at *; omega
theorem common {ax ay bx by_ cx cy dx dy rx ry : Int} (h : B8 ax ay bx by_ cx cy dx dy) (u1 : withinB ax ay bx by_ rx ry = true) (u2 : cr ax ay bx by_ rx ry = 0) (v1 : withinB cx cy dx dy rx ry = true) (v2 : cr cx cy dx dy rx ry = 0) :
    cutB ax ay bx by_ cx cy dx dy = true := by
  by_cases hW : wW ax ay bx by_ cx cy dx dy = 0
  · have same : ∀ {px py qx qy : Int}, qx - px = 0 → qy - py = 0 → withinB px py qx qy rx ry = true → px = rx ∧ py = ry ∧ qx = rx ∧ qy = ry := fun e1 e2 hw => by
      rw [withinB_iff, mul_nn, mul_nn] at hw; omega
    rw [cutB_iff h]
    by_cases hab : bx - ax = 0 ∧ by_ - ay = 0
    · obtain ⟨rfl, rfl, rfl, rfl⟩ := same hab.1 hab.2 u1
      exact .inr (.inr (.inl ⟨v2, v1⟩))
    by_cases hcd : dx - cx = 0 ∧ dy - cy = 0
    · obtain ⟨rfl, rfl, rfl, rfl⟩ := same hcd.1 hcd.2 v1
      exact .inr (.inl (.inl ⟨u2, u1⟩))
    have par : (bx - ax) * (dy - cy) = (by_ - ay) * (dx - cx) := by unfold wW at hW; omega
    rw [withinB_iff] at u1 v1
    have k1 : cr ax ay bx by_ cx cy = 0 ∧ cr ax ay bx by_ dx dy = 0 ∧ cr cx cy dx dy ax ay = 0 ∧ cr cx cy dx dy bx by_ = 0 := by
      have p : ∀ {U V u v x y : Int}, (U ≠ 0 ∨ V ≠ 0) → U * v = V * u → U * y - V * x = 0 → u * y - v * x = 0 := fun {U V u v x y} hn e1 e2 => by
        have g1 : U * (u * y - v * x) = u * (U * y - V * x) + x * (V * u - U * v) := by grind
        have g2 : V * (u * y - v * x) = v * (U * y - V * x) + y * (V * u - U * v) := by grind
        rw [e2, e1] at g1 g2
        simp only [Int.sub_self, Int.mul_zero, Int.add_zero] at g1 g2
        rcases hn with hn | hn
        · exact (Int.mul_eq_zero.1 g1).resolve_left hn
        · exact (Int.mul_eq_zero.1 g2).resolve_left hn
      have n1 : bx - ax ≠ 0 ∨ by_ - ay ≠ 0 := by omega
      have n2 : dx - cx ≠ 0 ∨ dy - cy ≠ 0 := by omega
      unfold cr at u2 v2
      have q1 := p n1 par u2
      have q2 := p n2 (u := bx - ax) (v := by_ - ay) (by grind) v2
      have r1 : (bx - ax) * (cy - ay) - (by_ - ay) * (cx - ax) = 0 := by grind
      have r3 : (dx - cx) * (ay - cy) - (dy - cy) * (ax - cx) = 0 := by grind
      unfold cr
      refine ⟨r1, ?_, r3, ?_⟩ <;> grind
    obtain ⟨k1, k2, k3, k4⟩ := k1
    by_cases hx : bx - ax = 0
    · have hy : by_ - ay ≠ 0 := by omega
      have hy2 : dy - cy ≠ 0 := fun e => by
        rw [e, Int.mul_zero] at par
        have := (Int.mul_eq_zero.1 par.symm).resolve_left hy
        omega
      rcases line1 u1.2 v1.2 with (l | l) | (l | l)
      · exact .inr (.inl (.inl ⟨k1, w_y k1 hy l⟩))
      · exact .inr (.inl (.inr ⟨k2, w_y k2 hy l⟩))
      · exact .inr (.inr (.inl ⟨k3, w_y k3 hy2 l⟩))
      · exact .inr (.inr (.inr ⟨k4, w_y k4 hy2 l⟩))
    · have hx2 : dx - cx ≠ 0 := fun e => by
        rw [e, Int.mul_zero] at par
        have := (Int.mul_eq_zero.1 par).resolve_left hx
        omega
      rcases line1 u1.1 v1.1 with (l | l) | (l | l)
      · exact .inr (.inl (.inl ⟨k1, w_x k1 hx l⟩))
      · exact .inr (.inl (.inr ⟨k2, w_x k2 hx l⟩))
      · exact .inr (.inr (.inl ⟨k3, w_x k3 hx2 l⟩))
      · exact .inr (.inr (.inr ⟨k4, w_x k4 hx2 l⟩))
  · rw [cut_cross h hW, shared_iff hW]
    have e1 : wW ax ay bx by_ rx ry (rx + (dx - cx)) (ry + (dy - cy)) = wW ax ay bx by_ cx cy dx dy := by unfold wW; grind
    have e2 : sS ax ay bx by_ rx ry (rx + (dx - cx)) (ry + (dy - cy)) = sS ax ay bx by_ cx cy dx dy := by unfold cr at v2; unfold sS; grind
    have e3 : tT ax ay bx by_ rx ry (rx + (dx - cx)) (ry + (dy - cy)) = 0 := by unfold cr at u2; unfold tT; grind
    have f1 : wW cx cy dx dy rx ry (rx + (bx - ax)) (ry + (by_ - ay)) = - wW ax ay bx by_ cx cy dx dy := by unfold wW; grind
    have f2 : sS cx cy dx dy rx ry (rx + (bx - ax)) (ry + (by_ - ay)) = - tT ax ay bx by_ cx cy dx dy := by unfold cr at u2; unfold sS tT; grind
    have f3 : tT cx cy dx dy rx ry (rx + (bx - ax)) (ry + (by_ - ay)) = 0 := by unfold cr at v2; unfold tT; grind
    have g1 := (within_A e3 (by rw [e1]; exact hW)).1 u1
    have g2 := (within_A f3 (by rw [f1]; omega)).1 v1
    rw [e1, e2] at g1
    rw [f1, f2] at g2
    refine ⟨g1, ?_⟩
    have : -tT ax ay bx by_ cx cy dx dy * (-wW ax ay bx by_ cx cy dx dy - -tT ax ay bx by_ cx cy dx dy) = tT ax ay bx by_ cx cy dx dy * (wW ax ay bx by_ cx cy dx dy - tT ax ay bx by_ cx cy dx dy) := by grind
    omega
theorem mn_le (a b : Int) : mnI a b ≤ a ∧ mnI a b ≤ b ∧ (mnI a b = a ∨ mnI a b = b) := by unfold mnI; split <;> omega
theorem mx_le (a b : Int) : a ≤ mxI a b ∧ b ≤ mxI a b ∧ (mxI a b = a ∨ mxI a b = b) := by unfold mxI; split <;> omega
theorem fold_min : ∀ (l : List (Int × Int)) (q : Int × Int), ((l.foldl minP q).1 ≤ q.1 ∧ (l.foldl minP q).2 ≤ q.2) ∧ (∀ p ∈ l, (l.foldl minP q).1 ≤ p.1 ∧ (l.foldl minP q).2 ≤ p.2) ∧
    ((l.foldl minP q).1 = q.1 ∨ ∃ p ∈ l, (l.foldl minP q).1 = p.1) ∧ ((l.foldl minP q).2 = q.2 ∨ ∃ p ∈ l, (l.foldl minP q).2 = p.2)
  | [], q => by simp
  | p :: l, q => by
    obtain ⟨⟨h1, h2⟩, h3, h4, h5⟩ := fold_min l (minP q p)
    have m1 := mn_le q.1 p.1
    have m2 := mn_le q.2 p.2
    simp only [List.foldl_cons]
    simp only [minP] at h1 h2 h4 h5
    refine ⟨⟨by simp only [minP] at *; omega, by simp only [minP] at *; omega⟩, fun r hr => ?_, ?_, ?_⟩
    · simp only [List.mem_cons] at hr
      rcases hr with rfl | hr
      · simp only [minP] at *; omega
      · exact h3 r hr
    · rcases h4 with h4 | ⟨r, hr, h4⟩
      · rcases m1.2.2 with m | m
        · exact .inl (by simp only [minP] at *; omega)
        · exact .inr ⟨p, by simp, by simp only [minP] at *; omega⟩
      · exact .inr ⟨r, by simp [hr], h4⟩
    · rcases h5 with h4 | ⟨r, hr, h4⟩
      · rcases m2.2.2 with m | m
        · exact .inl (by simp only [minP] at *; omega)
        · exact .inr ⟨p, by simp, by simp only [minP] at *; omega⟩
      · exact .inr ⟨r, by simp [hr], h4⟩
theorem fold_max : ∀ (l : List (Int × Int)) (q : Int × Int), (q.1 ≤ (l.foldl maxP q).1 ∧ q.2 ≤ (l.foldl maxP q).2) ∧ (∀ p ∈ l, p.1 ≤ (l.foldl maxP q).1 ∧ p.2 ≤ (l.foldl maxP q).2) ∧
    ((l.foldl maxP q).1 = q.1 ∨ ∃ p ∈ l, (l.foldl maxP q).1 = p.1) ∧ ((l.foldl maxP q).2 = q.2 ∨ ∃ p ∈ l, (l.foldl maxP q).2 = p.2)
  | [], q => by simp
  | p :: l, q => by
    obtain ⟨⟨h1, h2⟩, h3, h4, h5⟩ := fold_max l (maxP q p)
    have m1 := mx_le q.1 p.1
    have m2 := mx_le q.2 p.2
    simp only [List.foldl_cons]
    simp only [maxP] at h1 h2 h4 h5
    refine ⟨⟨by simp only [maxP] at *; omega, by simp only [maxP] at *; omega⟩, fun r hr => ?_, ?_, ?_⟩
    · simp only [List.mem_cons] at hr
      rcases hr with rfl | hr
      · simp only [maxP] at *; omega
      · exact h3 r hr
    · rcases h4 with h4 | ⟨r, hr, h4⟩
      · rcases m1.2.2 with m | m
        · exact .inl (by simp only [maxP] at *; omega)
        · exact .inr ⟨p, by simp, by simp only [maxP] at *; omega⟩
      · exact .inr ⟨r, by simp [hr], h4⟩
    · rcases h5 with h4 | ⟨r, hr, h4⟩
      · rcases m2.2.2 with m | m
        · exact .inl (by simp only [maxP] at *; omega)
        · exact .inr ⟨p, by simp, by simp only [maxP] at *; omega⟩
      · exact .inr ⟨r, by simp [hr], h4⟩
/-- what a box is: it bounds, and each side is met -/
structure Box (l : List (Int × Int)) (lo hi : Int × Int) : Prop where
  b1 : ∀ p ∈ l, lo.1 ≤ p.1
  b2 : ∀ p ∈ l, lo.2 ≤ p.2
  b3 : ∀ p ∈ l, p.1 ≤ hi.1
  b4 : ∀ p ∈ l, p.2 ≤ hi.2
  m1 : ∃ p ∈ l, p.1 = lo.1
  m2 : ∃ p ∈ l, p.2 = lo.2
  m3 : ∃ p ∈ l, p.1 = hi.1
  m4 : ∃ p ∈ l, p.2 = hi.2
theorem box {l : List (Int × Int)} (h : l ≠ []) : Box l (bbL l) (bbH l) := by
  cases l with
  | nil => exact absurd rfl h
  | cons p l =>
    obtain ⟨⟨a1, a2⟩, a3, a4, a5⟩ := fold_min (p :: l) p
    obtain ⟨⟨c1, c2⟩, c3, c4, c5⟩ := fold_max (p :: l) p
    refine ⟨fun q hq => (a3 q hq).1, fun q hq => (a3 q hq).2, fun q hq => (c3 q hq).1, fun q hq => (c3 q hq).2, ?_, ?_, ?_, ?_⟩
    · rcases a4 with a | ⟨r, hr, a⟩
      · exact ⟨p, by simp, a.symm⟩
      · exact ⟨r, hr, a.symm⟩
    · rcases a5 with a | ⟨r, hr, a⟩
      · exact ⟨p, by simp, a.symm⟩
      · exact ⟨r, hr, a.symm⟩
    · rcases c4 with a | ⟨r, hr, a⟩
      · exact ⟨p, by simp, a.symm⟩
      · exact ⟨r, hr, a.symm⟩
    · rcases c5 with a | ⟨r, hr, a⟩
      · exact ⟨p, by simp, a.symm⟩
      · exact ⟨r, hr, a.symm⟩
theorem Box.uniq {l : List (Int × Int)} {lo hi lo' hi' : Int × Int} (h : Box l lo hi) (k : Box l lo' hi') : lo = lo' ∧ hi = hi' := by
  obtain ⟨p1, hp1, e1⟩ := h.m1
  obtain ⟨p2, hp2, e2⟩ := h.m2
  obtain ⟨p3, hp3, e3⟩ := h.m3
  obtain ⟨p4, hp4, e4⟩ := h.m4
  obtain ⟨q1, hq1, f1⟩ := k.m1
  obtain ⟨q2, hq2, f2⟩ := k.m2
  obtain ⟨q3, hq3, f3⟩ := k.m3
  obtain ⟨q4, hq4, f4⟩ := k.m4
  have := h.b1 q1 hq1; have := k.b1 p1 hp1
  have := h.b2 q2 hq2; have := k.b2 p2 hp2
  have := h.b3 q3 hq3; have := k.b3 p3 hp3
  have := h.b4 q4 hq4; have := k.b4 p4 hp4
  exact ⟨Prod.ext (by omega) (by omega), Prod.ext (by omega) (by omega)⟩
def gapZ (lo hi lo' hi' : Int × Int) : Int := mxI (mxI (mxI (mxI 0 (lo'.1 - hi.1)) (lo'.2 - hi.2)) (lo.1 - hi'.1)) (lo.2 - hi'.2)
theorem mx_mx (a b x : Int) : x = mxI a b ↔ a ≤ x ∧ b ≤ x ∧ (x = a ∨ x = b) := by unfold mxI; split <;> omega
theorem gapZ_char (lo hi lo' hi' : Int × Int) (x : Int) : x = gapZ lo hi lo' hi' ↔ (0 ≤ x ∧ lo'.1 - hi.1 ≤ x ∧ lo'.2 - hi.2 ≤ x ∧ lo.1 - hi'.1 ≤ x ∧ lo.2 - hi'.2 ≤ x) ∧ (x = 0 ∨ x = lo'.1 - hi.1 ∨ x = lo'.2 - hi.2 ∨ x = lo.1 - hi'.1 ∨ x = lo.2 - hi'.2) := by
  unfold gapZ mxI; repeat' split
  all_goals omega
end Go.Geo

namespace Go.Geo
set_option maxRecDepth 100000
set_option maxHeartbeats 4000000
set_option linter.unusedSimpArgs false
set_option linter.unusedVariables false
open Go Go.Zv
abbrev Pt := Int × Int
/-- a polygon's edges -/
def eds : List Pt → List (Pt × Pt)
  | [] => []
  | p :: t => (p :: t).zip (t ++ [p])
theorem eds_len (l : List Pt) : (eds l).length = l.length := by cases l <;> simp [eds]
theorem eds_get {l : List Pt} {k : Nat} {e : Pt × Pt} (h : (eds l)[k]? = some e) : k < l.length ∧ l[k]? = some e.1 ∧ l[(k + 1) % l.length]? = some e.2 := by
  cases l with
  | nil => simp [eds] at h
  | cons p t =>
    have hk : k < (eds (p :: t)).length := (List.getElem?_eq_some_iff.1 h).1
    rw [eds_len] at hk
    refine ⟨hk, ?_⟩
    simp only [eds] at h
    rw [List.getElem?_zip_eq_some] at h
    refine ⟨h.1, ?_⟩
    have h2 := h.2
    simp only [List.length_cons] at hk ⊢
    by_cases e1 : k = t.length
    · subst e1
      rw [Nat.mod_self]
      rw [List.getElem?_append_right (by omega)] at h2
      simpa using h2
    · rw [Nat.mod_eq_of_lt (by omega)]
      rw [List.getElem?_append_left (by omega)] at h2
      simpa using h2
theorem mod_nat {k n : Nat} (hk : k < n) (hn : n ≤ 1000000000) : (((k + 1 : Nat) : Int)).tmod (n : Int) = (((k + 1) % n : Nat) : Int) ∧ ¬ ((n : Int) = 0) ∧ ((n : Int) == 0) = false ∧ (0 : Int) ≤ (((k + 1) % n : Nat) : Int) ∧ (((k + 1) % n : Nat) : Int) < n := by
  have h := Nat.mod_lt (k + 1) (show n > 0 by omega)
  refine ⟨?_, by omega, by simp; omega, by omega, by omega⟩
  rw [Int.tmod_eq_emod_of_nonneg (by omega)]; rfl
theorem wr_k {k : Nat} (h : k ≤ 1000000000) : IntKind.i64.wrap (((k : Nat) : Int) + 1) = ((k + 1 : Nat) : Int) := wr_succ (by omega)
def arF (x : Int) (e : Pt × Pt) : Int := w64 (x + w64 (w64 (e.1.1 * e.2.2) - w64 (e.1.2 * e.2.1)))
/-- twice the area -/
def areaW (l : List Pt) : Int := (eds l).foldl arF 0
abbrev oriE (a b p : Pt) : Int := sgn (crW a.1 a.2 b.1 b.2 p.1 p.2)
/-- a point on an edge -/
def onE (p : Pt) (e : Pt × Pt) : Bool := onB e.1.1 e.1.2 e.2.1 e.2.2 p.1 p.2
/-- an edge that the ray to the right crosses -/
def flE (p : Pt) (e : Pt × Pt) : Bool := (decide (p.2 < e.1.2) != decide (p.2 < e.2.2)) && (decide (0 < sgn (crW e.1.1 e.1.2 e.2.1 e.2.2 p.1 p.2)) == decide (e.1.2 < e.2.2))
def parF (p : Pt) (b : Bool) (e : Pt × Pt) : Bool := b != flE p e
/-- where a point lies: 0 on the boundary, 1 inside, -1 outside -/
def locI (l : List Pt) (p : Pt) : Int := if (eds l).any (onE p) = true then 0 else if (eds l).foldl (parF p) false = true then 1 else -1
end Go.Geo

namespace Go.Geo
set_option maxRecDepth 100000
set_option maxHeartbeats 4000000
set_option linter.unusedSimpArgs false
set_option linter.unusedVariables false
open Go Go.Zv
def mayB (p : Pt) : Bool := decide (mxI p.1 p.2 ≤ 439400000) && decide (-439400000 ≤ mnI p.1 p.2)
def ptn (l : List Pt) (k : Nat) : Pt := l.getD (k % l.length) (0, 0)
def adjB (n i k : Nat) : Bool := decide (k = i) || (decide (k = (i + 1) % n) || decide (i = (k + 1) % n))
def cutE (e f : Pt × Pt) : Bool := cutB e.1.1 e.1.2 e.2.1 e.2.2 f.1.1 f.1.2 f.2.1 f.2.2
def edn (l : List Pt) (k : Nat) : Pt × Pt := (ptn l k, ptn l (k + 1))
def bad2 (l : List Pt) (i k : Nat) : Bool := !adjB l.length i k && cutE (edn l i) (edn l k)
def bad1 (l : List Pt) (i : Nat) : Bool := decide (oriE (ptn l i) (ptn l (i + 1)) (ptn l (i + 2)) = 0) || (List.range l.length).any (bad2 l i)
def simB (l : List Pt) : Bool := !(List.range l.length).any (bad1 l)
/-- what polygon.Valid tells -/
def valB (l : List Pt) : Bool := decide (3 ≤ l.length) && (decide (l.length ≤ 12) && (l.all mayB && (simB l && decide (0 < areaW l))))
theorem ptn_get {l : List Pt} {k : Nat} (h : k < l.length) : l[k]? = some (ptn l k) := by
  unfold ptn; rw [Nat.mod_eq_of_lt h, List.getElem?_eq_getElem h]; simp [List.getD, h]
theorem ptn_mod {l : List Pt} {k : Nat} (h : 0 < l.length) : l[k % l.length]? = some (ptn l k) := by
  have := ptn_get (l := l) (Nat.mod_lt k h)
  rw [this]; unfold ptn; rw [Nat.mod_mod]
theorem edn_get {l : List Pt} {k : Nat} (h : k < l.length) : (eds l)[k]? = some (edn l k) := by
  have hk : k < (eds l).length := by rw [eds_len]; exact h
  obtain ⟨e, he⟩ : ∃ e, (eds l)[k]? = some e := ⟨_, List.getElem?_eq_getElem hk⟩
  obtain ⟨_, h1, h2⟩ := eds_get he
  rw [ptn_get h] at h1
  rw [ptn_mod (by omega)] at h2
  simp only [Option.some.injEq] at h1 h2
  rw [he]; unfold edn; rw [h1, h2]
theorem range_get {n k : Nat} (h : k < n) : (List.range n)[k]? = some k := by simp [h]
end Go.Geo

namespace Go.Geo
set_option maxRecDepth 100000
set_option maxHeartbeats 4000000
set_option linter.unusedSimpArgs false
set_option linter.unusedVariables false
open Go Go.Zv
/-! the parts of a cell: names, numbers, polygons -/
def c1 (n : Int) : List LV := [.int .i64 n]
def t1 (s : List UInt8) : List LV := [.str s]
def p1 (l : List Pt) : List LV := [.vs (l.map c2)]
def letB (c : UInt8) : Bool := (decide ((97 : Int) ≤ c.toNat) && decide ((c.toNat : Int) ≤ 122)) || (decide ((65 : Int) ≤ c.toNat) && decide ((c.toNat : Int) ≤ 90))
def badC (c : UInt8) : Bool := !letB c && (!decide ((c.toNat : Int) = 95) && (decide ((c.toNat : Int) < 48) || decide ((57 : Int) < c.toNat)))
def nameB (s : List UInt8) : Bool := decide (1 ≤ s.length) && (decide (s.length ≤ 12) && (letB (s.getD 0 0) && !(s.drop 1).any badC))
def ulB (l : List Int) (b : Int) (i : Nat) : Bool := (decide (l.getD i 0 < 0) || decide (b ≤ l.getD i 0)) || (List.range i).any fun k => decide (l.getD k 0 = l.getD i 0)
def unlB (l : List Int) (b : Int) : Bool := !(List.range l.length).any (ulB l b)
def nmB (l : List (List UInt8)) (i : Nat) : Bool := !nameB (l.getD i []) || (List.range i).any fun k => decide (l.getD k [] = l.getD i [])
def nmsB (l : List (List UInt8)) : Bool := !(List.range l.length).any (nmB l)
def polB (l : List (List Pt)) : Bool := decide (l.length ≤ 16) && l.all valB
def shpI (l : List Pt) (i : Nat) : Bool := ((decide ((ptn l i).1 < -10) || decide (10 < (ptn l i).1)) || (decide ((ptn l i).2 < -10) || decide (10 < (ptn l i).2))) || (List.range l.length).any fun k => decide (oriE (ptn l i) (ptn l (i + 1)) (ptn l k) < 0)
def shpB (l : List Pt) : Bool := decide (l.length ≤ 4) && (valB l && !(List.range l.length).any (shpI l))
/-- a place: name, point, direction -/
structure Plc where
  nm : List UInt8
  x : Int
  y : Int
  dx : Int
  dy : Int
  dn : Int
/-- a part: name, shape, place -/
structure Prt where
  nm : List UInt8
  sh : List Pt
  at_ : Int
def plv (p : Plc) : List LV := [.str p.nm, .int .i64 p.x, .int .i64 p.y, .int .i64 p.dx, .int .i64 p.dy, .int .i64 p.dn]
def prv (p : Prt) : List LV := [.str p.nm, .vs (p.sh.map c2), .int .i64 p.at_]
instance : Inhabited Plc := ⟨⟨[], 0, 0, 0, 0, 0⟩⟩
instance : Inhabited Prt := ⟨⟨[], [], 0⟩⟩
def dirB (x y : Int) : Bool := decide (-274625 ≤ x) && (decide (x ≤ 274625) && (decide (-274625 ≤ y) && (decide (y ≤ 274625) && decide (x * x + y * y = 75418890625))))
def badP (p : Plc) : Bool := !decide (p.x.tmod 16 = 0) || (!decide (p.y.tmod 16 = 0) || (decide (373490000 < mxI p.x p.y) || (decide (mnI p.x p.y < -373490000) || (!decide (p.dn = 3) || !dirB p.dx p.dy))))
def plcB (l : List Plc) : Bool := !l.any badP && (decide (l.length ≤ 16) && nmsB (l.map (·.nm)))
def prtB (l : List Prt) (m : Int) : Bool := (!l.any fun p => !shpB p.sh) && (decide (l.length ≤ 8) && (nmsB (l.map (·.nm)) && unlB (l.map (·.at_)) m))
def bouB (v a j : Int) : Bool := decide (1 ≤ v) && (decide (v ≤ 8) && (decide (1 ≤ a) && (decide (a ≤ 4) && (decide (1 ≤ j) && decide (j ≤ 2)))))
theorem get_m {α : Type} (f : α → List LV) {l : List α} {i : Nat} {p : α} (h : l[i]? = some p) : (l.map f)[i]? = some (f p) := by
  rw [List.getElem?_map, h]; rfl
theorem getD_of {α : Type} {l : List α} {i : Nat} (d : α) (h : i < l.length) : l[i]? = some (l.getD i d) := by
  rw [List.getD_eq_getElem?_getD, List.getElem?_eq_getElem h]; rfl
end Go.Geo

/- The engine, part 33: a loop that leaves at the first index of a kind. -/
namespace Go.Zv
set_option autoImplicit false
theorem loop_first (G : St → Option Out) (S : Nat → St) (n : Nat) (P : Nat → Bool) (R : Nat → Option Out → Prop) (e : Option Out)
    (stop : G (S n) = e)
    (step : ∀ k, k < n → (P k = true → R k (G (S k))) ∧ (P k = false → G (S k) = G (S (k + 1)))) :
    (∀ j, (List.range n).find? P = some j → R j (G (S 0))) ∧ ((List.range n).find? P = none → G (S 0) = e) := by
  have h := loop_P (σ := Unit) G (fun k _ => S k) n (fun _ _ => True)
    (fun k _ o => (∀ j, k ≤ j → j < n → P j = true → (∀ i, k ≤ i → i < j → P i = false) → R j o) ∧ ((∀ j, k ≤ j → j < n → P j = false) → o = e))
    (fun _ _ => ⟨fun j h1 h2 => by omega, fun _ => stop⟩) (fun k _ hk _ => by
      have hs := step k hk
      cases hp : P k with
      | true =>
        left
        refine ⟨fun j h1 h2 h3 h4 => ?_, fun h => by have := h k (Nat.le_refl _) hk; rw [hp] at this; cases this⟩
        by_cases e : j = k
        · subst e; exact hs.1 hp
        · have := h4 k (Nat.le_refl _) (by omega); rw [hp] at this; cases this
      | false =>
        right
        refine ⟨(), trivial, hs.2 hp, fun o ho => ⟨fun j h1 h2 h3 h4 => ?_, fun h => ho.2 fun j h1 h2 => h j (by omega) h2⟩⟩
        by_cases e : j = k
        · subst e; rw [hp] at h3; cases h3
        · exact ho.1 j (by omega) h2 h3 fun i h5 h6 => h4 i (by omega) h6) 0 () (by omega) trivial
  refine ⟨fun j hj => ?_, fun hn => ?_⟩
  · rw [List.find?_range_eq_some] at hj
    obtain ⟨h1, h2, h3⟩ := hj
    exact h.1 j (by omega) (List.mem_range.1 h2) h1 fun i _ hi => by have := h3 i hi; simpa using this
  · rw [List.find?_eq_none] at hn
    exact h.2 fun j _ hj => by have := hn j (List.mem_range.2 hj); simpa using this
end Go.Zv

namespace Go.Mt
set_option maxRecDepth 100000
set_option maxHeartbeats 4000000
set_option linter.unusedSimpArgs false
set_option linter.unusedVariables false
open Go Go.Zv
/-! motions of a joint, tick by tick; the table of the ways to rest, counted from the end (no program) -/
structure Mo where
  p : Int
  v : Int
  a : Int
deriving DecidableEq
structure Lm where
  V : Int
  A : Int
  J : Int
  D : Int
def nx (m : Mo) (b : Int) : Mo := ⟨m.p + (m.v + (m.a + b)), m.v + (m.a + b), m.a + b⟩
def pv (m : Mo) (b : Int) : Mo := ⟨m.p - m.v, m.v - m.a, m.a - b⟩
theorem nx_pv (m : Mo) (b : Int) : nx (pv m b) b = m := by
  obtain ⟨p, v, a⟩ := m
  simp only [nx, pv, Mo.mk.injEq]; omega
theorem pv_nx (m : Mo) (b : Int) : pv (nx m b) b = m := by
  obtain ⟨p, v, a⟩ := m
  simp only [nx, pv, Mo.mk.injEq]; omega
def okB (L : Lm) (m : Mo) : Bool := !(decide (m.p < 0) || (decide (L.D < m.p) || (decide (m.v < -L.V) || (decide (L.V < m.v) || (decide (m.a < -L.A) || decide (L.A < m.a))))))
theorem ok_iff {L : Lm} {m : Mo} : okB L m = true ↔ (0 ≤ m.p ∧ m.p ≤ L.D) ∧ (-L.V ≤ m.v ∧ m.v ≤ L.V) ∧ -L.A ≤ m.a ∧ m.a ≤ L.A := by
  unfold okB; simp; omega
def idx (L : Lm) (m : Mo) : Int := (m.p * (2 * L.V + 1) + m.v + L.V) * (2 * L.A + 1) + m.a + L.A
def many (L : Lm) : Int := (L.D + 1) * (2 * L.V + 1) * (2 * L.A + 1)
def ix (L : Lm) (m : Mo) : Nat := (idx L m).toNat
structure LOk (L : Lm) : Prop where
  V : 1 ≤ L.V ∧ L.V ≤ 8
  A : 1 ≤ L.A ∧ L.A ≤ 4
  J : 1 ≤ L.J ∧ L.J ≤ 2
  D : 0 ≤ L.D ∧ L.D ≤ 420
theorem dm {x y r s n : Int} (hr : 0 ≤ r ∧ r < n) (hs : 0 ≤ s ∧ s < n) (h : x * n + r = y * n + s) : x = y ∧ r = s := by
  have hxy : x = y := by
    rcases Int.lt_trichotomy x y with g | g | g
    · have := Int.mul_le_mul_of_nonneg_right (show x + 1 ≤ y by omega) (show 0 ≤ n by omega)
      rw [Int.add_mul, Int.one_mul] at this; omega
    · exact g
    · have := Int.mul_le_mul_of_nonneg_right (show y + 1 ≤ x by omega) (show 0 ≤ n by omega)
      rw [Int.add_mul, Int.one_mul] at this; omega
  subst hxy; exact ⟨rfl, by omega⟩
theorem idx_nn {L : Lm} (H : LOk L) {m : Mo} (h : okB L m = true) : 0 ≤ idx L m ∧ idx L m < many L := by
  obtain ⟨h1, h2, h3⟩ := ok_iff.1 h
  have hV := H.V
  have hA := H.A
  have e1 := Int.mul_nonneg h1.1 (show 0 ≤ 2 * L.V + 1 by omega)
  have e2 := Int.mul_le_mul_of_nonneg_right h1.2 (show 0 ≤ 2 * L.V + 1 by omega)
  have e3 := Int.mul_nonneg (show 0 ≤ m.p * (2 * L.V + 1) + m.v + L.V by omega) (show 0 ≤ 2 * L.A + 1 by omega)
  have e4 := Int.mul_le_mul_of_nonneg_right (show m.p * (2 * L.V + 1) + m.v + L.V ≤ (L.D + 1) * (2 * L.V + 1) - 1 by rw [Int.add_mul]; omega) (show 0 ≤ 2 * L.A + 1 by omega)
  rw [Int.sub_mul] at e4
  unfold idx many
  constructor <;> omega
theorem many_bd {L : Lm} (H : LOk L) : 0 ≤ many L ∧ many L ≤ 64413 := by
  have hV := H.V
  have hA := H.A
  have hD := H.D
  have e1 := Int.mul_le_mul_of_nonneg_right (show L.D + 1 ≤ 421 by omega) (show 0 ≤ 2 * L.V + 1 by omega)
  have e0 := Int.mul_nonneg (show 0 ≤ L.D + 1 by omega) (show 0 ≤ 2 * L.V + 1 by omega)
  have e2 := Int.mul_le_mul_of_nonneg_right (show (L.D + 1) * (2 * L.V + 1) ≤ 7157 by omega) (show 0 ≤ 2 * L.A + 1 by omega)
  have e3 := Int.mul_nonneg e0 (show 0 ≤ 2 * L.A + 1 by omega)
  unfold many
  constructor <;> omega
theorem ix_inj {L : Lm} (H : LOk L) {x y : Mo} (hx : okB L x = true) (hy : okB L y = true) (h : ix L x = ix L y) : x = y := by
  have a := idx_nn H hx
  have b := idx_nn H hy
  have h' : idx L x = idx L y := by unfold ix at h; omega
  obtain ⟨x1, x2, x3⟩ := ok_iff.1 hx
  obtain ⟨y1, y2, y3⟩ := ok_iff.1 hy
  unfold idx at h'
  have d1 := dm (x := x.p * (2 * L.V + 1) + x.v + L.V) (y := y.p * (2 * L.V + 1) + y.v + L.V) (r := x.a + L.A) (s := y.a + L.A) (n := 2 * L.A + 1) (by omega) (by omega) (by omega)
  have d2 := dm (x := x.p) (y := y.p) (r := x.v + L.V) (s := y.v + L.V) (n := 2 * L.V + 1) (by omega) (by omega) (by omega)
  obtain ⟨xp, xv, xa⟩ := x
  obtain ⟨yp, yv, ya⟩ := y
  simp only [Mo.mk.injEq] at *
  omega
theorem ix_lt {L : Lm} (H : LOk L) {x : Mo} (hx : okB L x = true) : ix L x < (many L).toNat := by
  have a := idx_nn H hx
  unfold ix; omega
theorem ix_cast {L : Lm} (H : LOk L) {x : Mo} (hx : okB L x = true) : ((ix L x : Nat) : Int) = idx L x := by
  have a := idx_nn H hx
  unfold ix; omega
/-- the table's entry of a motion -/
def g (L : Lm) (t : List Int) (x : Mo) : Int := t.getD (ix L x) 0
def endM (L : Lm) : Mo := ⟨L.D, 0, 0⟩
def zM : Mo := ⟨0, 0, 0⟩
theorem ok_end {L : Lm} (H : LOk L) : okB L (endM L) = true := by
  have := H.V; have := H.A; have := H.D
  rw [ok_iff]; simp only [endM]; omega
theorem ok_z {L : Lm} (H : LOk L) : okB L zM = true := by
  have := H.V; have := H.A; have := H.D
  rw [ok_iff]; simp only [zM]; omega
def Rg (L : Lm) (b : Int) : Prop := -L.J ≤ b ∧ b ≤ L.J
def zs (t : List Int) : Nat := t.countP fun n => decide (n = 0)
theorem getD_set (t : List Int) (k i : Nat) (v : Int) (hk : k < t.length) : (t.set k v).getD i 0 = if i = k then v else t.getD i 0 := by
  rw [List.getD_eq_getElem?_getD, List.getD_eq_getElem?_getD, List.getElem?_set]
  by_cases h : k = i
  · subst h; simp [hk]
  · rw [if_neg h, if_neg (fun e => h e.symm)]
theorem zs_set (t : List Int) (k : Nat) (v : Int) (hk : k < t.length) (h0 : t.getD k 0 = 0) (hv : v ≠ 0) : zs t = zs (t.set k v) + 1 := by
  unfold zs
  have hg : t[k] = 0 := by rw [List.getD_eq_getElem?_getD, List.getElem?_eq_getElem hk] at h0; simpa using h0
  rw [List.countP_set hk, hg]
  have hpos : 0 < t.countP fun n => decide (n = 0) := List.countP_pos_iff.2 ⟨t[k], List.getElem_mem hk, by simp [hg]⟩
  simp [hv]; omega
structure Inv (L : Lm) (t : List Int) (row : List Mo) (op : Mo → Prop) : Prop where
  len : t.length = (many L).toNat
  nn : ∀ i, 0 ≤ t.getD i 0
  bd : ∀ i, t.getD i 0 + zs t ≤ t.length
  rw_ : ∀ x ∈ row, okB L x = true ∧ 0 < g L t x
  bk : ∀ i, 1 < t.getD i 0 → ∃ x b, okB L x = true ∧ ix L x = i ∧ Rg L b ∧ okB L (nx x b) = true ∧ g L t (nx x b) = t.getD i 0 - 1
  one : ∀ i, t.getD i 0 = 1 → i = ix L (endM L)
  cl : ∀ x, okB L x = true → 0 < g L t x → x ∈ row ∨ op x ∨ ∀ b, Rg L b → okB L (pv x b) = true → 0 < g L t (pv x b)
  e1 : g L t (endM L) = 1
/-- a motion that was not marked is marked -/
theorem Inv.mark {L : Lm} (H : LOk L) {t : List Int} {row : List Mo} {op : Mo → Prop} (I : Inv L t row op) {m : Mo} {b : Int} (hm : okB L m = true) (hg : 0 < g L t m) (hb : Rg L b) (hw : okB L (pv m b) = true) (h0 : g L t (pv m b) = 0) :
    Inv L (t.set (ix L (pv m b)) (g L t m + 1)) (row ++ [pv m b]) op ∧ (∀ x, 0 < g L t x → g L (t.set (ix L (pv m b)) (g L t m + 1)) x = g L t x) ∧ g L (t.set (ix L (pv m b)) (g L t m + 1)) (pv m b) = g L t m + 1 ∧ zs t = zs (t.set (ix L (pv m b)) (g L t m + 1)) + 1 := by
  have hk : ix L (pv m b) < t.length := by rw [I.len]; exact ix_lt H hw
  have hs := fun i => getD_set t (ix L (pv m b)) i (g L t m + 1) hk
  have hz := zs_set t (ix L (pv m b)) (g L t m + 1) hk h0 (by omega)
  have keep : ∀ x, 0 < g L t x → g L (t.set (ix L (pv m b)) (g L t m + 1)) x = g L t x := fun x hx => by
    unfold g at *
    rw [hs, if_neg]
    intro e; rw [e, h0] at hx; omega
  have new : g L (t.set (ix L (pv m b)) (g L t m + 1)) (pv m b) = g L t m + 1 := by
    show List.getD _ _ _ = _
    rw [hs, if_pos rfl]
  have pos : ∀ x, 0 < g L t x → 0 < g L (t.set (ix L (pv m b)) (g L t m + 1)) x := fun x hx => by rw [keep x hx]; exact hx
  refine ⟨⟨by rw [List.length_set]; exact I.len, fun i => ?_, fun i => ?_, fun x hx => ?_, fun i hi => ?_, fun i hi => ?_, fun x hx hgx => ?_, by rw [keep _ (by rw [I.e1]; decide)]; exact I.e1⟩, keep, new, hz⟩
  · rw [hs]; split
    · omega
    · exact I.nn i
  · rw [hs, List.length_set]; split
    · have := I.bd (ix L m)
      have e : t.getD (ix L m) 0 = g L t m := rfl
      omega
    · have := I.bd i; omega
  · rcases List.mem_append.1 hx with hx | hx
    · obtain ⟨h1, h2⟩ := I.rw_ x hx
      exact ⟨h1, pos x h2⟩
    · rw [List.mem_singleton] at hx; subst hx
      exact ⟨hw, by rw [new]; omega⟩
  · rw [hs] at hi ⊢
    split at hi
    · rename_i e
      rw [if_pos e]
      refine ⟨pv m b, b, hw, e.symm, hb, by rw [nx_pv]; exact hm, ?_⟩
      rw [nx_pv, keep m hg]; omega
    · rename_i e
      rw [if_neg e]
      obtain ⟨x, c, h1, h2, h3, h4, h5⟩ := I.bk i hi
      exact ⟨x, c, h1, h2, h3, h4, by rw [keep _ (by omega)]; exact h5⟩
  · rw [hs] at hi
    split at hi
    · omega
    · exact I.one i hi
  · by_cases e : ix L x = ix L (pv m b)
    · have := ix_inj H hx hw e
      subst this
      exact .inl (by simp)
    · have hgx' : 0 < g L t x := by
        have e2 : g L (t.set (ix L (pv m b)) (g L t m + 1)) x = g L t x := by
          show List.getD _ _ _ = _
          rw [hs, if_neg e]; rfl
        rw [e2] at hgx; exact hgx
      rcases I.cl x hx hgx' with h | h | h
      · exact .inl (List.mem_append_left _ h)
      · exact .inr (.inl h)
      · exact .inr (.inr fun c hc ho => pos _ (h c hc ho))
theorem Inv.pop {L : Lm} {t : List Int} {m : Mo} {row : List Mo} (I : Inv L t (m :: row) fun _ => False) : Inv L t row (fun x => x = m) :=
  ⟨I.len, I.nn, I.bd, fun x hx => I.rw_ x (List.mem_cons_of_mem _ hx), I.bk, I.one, fun x hx hg => by
    rcases I.cl x hx hg with h | h | h
    · rcases List.mem_cons.1 h with h | h
      · exact .inr (.inl h)
      · exact .inl h
    · exact h.elim
    · exact .inr (.inr h), I.e1⟩
theorem Inv.shut {L : Lm} {t : List Int} {m : Mo} {row : List Mo} (I : Inv L t row (fun x => x = m)) (h : ∀ b, Rg L b → okB L (pv m b) = true → 0 < g L t (pv m b)) : Inv L t row fun _ => False :=
  ⟨I.len, I.nn, I.bd, I.rw_, I.bk, I.one, fun x hx hg => by
    rcases I.cl x hx hg with h1 | h1 | h1
    · exact .inl h1
    · subst h1; exact .inr (.inr h)
    · exact .inr (.inr h1), I.e1⟩
def tab0 (L : Lm) : List Int := (List.replicate (many L).toNat 0).set (ix L (endM L)) 1
theorem inv0 {L : Lm} (H : LOk L) : Inv L (tab0 L) [endM L] fun _ => False := by
  have hk : ix L (endM L) < (List.replicate (many L).toNat (0 : Int)).length := by rw [List.length_replicate]; exact ix_lt H (ok_end H)
  have hs := fun i => getD_set (List.replicate (many L).toNat (0 : Int)) (ix L (endM L)) i 1 hk
  have hr : ∀ i, (List.replicate (many L).toNat (0 : Int)).getD i 0 = 0 := fun i => by
    rw [List.getD_eq_getElem?_getD, List.getElem?_replicate]; split <;> rfl
  have hz := zs_set (List.replicate (many L).toNat (0 : Int)) (ix L (endM L)) 1 hk (hr _) (by decide)
  have hz0 : zs (List.replicate (many L).toNat (0 : Int)) ≤ (many L).toNat := by
    unfold zs
    have := List.countP_le_length (p := fun n : Int => decide (n = 0)) (l := List.replicate (many L).toNat (0 : Int))
    simpa using this
  have e1 : g L (tab0 L) (endM L) = 1 := by show List.getD _ _ _ = _; unfold tab0; rw [hs, if_pos rfl]
  refine ⟨by simp [tab0], fun i => ?_, fun i => ?_, fun x hx => ?_, fun i hi => ?_, fun i hi => ?_, fun x hx hg => ?_, e1⟩
  · unfold tab0; rw [hs, hr]; split <;> decide
  · have hz0 : zs (tab0 L) + 1 ≤ (many L).toNat := by unfold tab0; omega
    have hl : (tab0 L).length = (many L).toNat := by simp [tab0]
    rw [hl]
    unfold tab0 at *
    rw [hs, hr]; split <;> omega
  · rw [List.mem_singleton] at hx; subst hx
    exact ⟨ok_end H, by rw [e1]; decide⟩
  · unfold tab0 at hi; rw [hs, hr] at hi; split at hi <;> omega
  · unfold tab0 at hi; rw [hs, hr] at hi; split at hi
    · assumption
    · omega
  · unfold g tab0 at hg
    rw [hs, hr] at hg
    split at hg
    · rename_i e
      exact .inl (by rw [ix_inj H hx (ok_end H) e]; simp)
    · omega
/-- what the finished table tells -/
structure Tab (L : Lm) (t : List Int) : Prop where
  len : t.length = (many L).toNat
  nn : ∀ i, 0 ≤ t.getD i 0
  bd : ∀ i, t.getD i 0 ≤ t.length
  bk : ∀ i, 1 < t.getD i 0 → ∃ x b, okB L x = true ∧ ix L x = i ∧ Rg L b ∧ okB L (nx x b) = true ∧ g L t (nx x b) = t.getD i 0 - 1
  one : ∀ i, t.getD i 0 = 1 → i = ix L (endM L)
  z : 0 < g L t zM ∨ (0 < g L t (endM L) ∧ ∀ x, okB L x = true → 0 < g L t x → ∀ b, Rg L b → okB L (pv x b) = true → 0 < g L t (pv x b))
theorem Inv.tab {L : Lm} {t : List Int} {row : List Mo} {op : Mo → Prop} (I : Inv L t row op) (h : 0 < g L t zM ∨ (row = [] ∧ ∀ x, ¬ op x)) : Tab L t :=
  ⟨I.len, I.nn, fun i => by have := I.bd i; omega, I.bk, I.one, by
    rcases h with h | ⟨rfl, h⟩
    · exact .inl h
    · refine .inr ⟨by rw [I.e1]; decide, fun x hx hg => ?_⟩
      rcases I.cl x hx hg with h1 | h1 | h1
      · cases h1
      · exact (h x h1).elim
      · exact h1⟩
/-! playing jerks -/
def plays (m : Mo) (l : List Int) : Mo := l.foldl nx m
theorem plays_snoc (m : Mo) (l : List Int) (b : Int) : plays m (l ++ [b]) = nx (plays m l) b := by simp [plays]
/-- a way: jerks and all motions between are within the limits -/
structure Way (L : Lm) (m : Mo) (l : List Int) : Prop where
  j : ∀ b ∈ l, Rg L b
  ok : ∀ k, k ≤ l.length → okB L (plays m (l.take k)) = true
theorem Way.nil {L : Lm} {m : Mo} (h : okB L m = true) : Way L m [] := ⟨(fun b hb => by cases hb), fun k _ => by simpa [plays] using h⟩
theorem Way.snoc {L : Lm} {m : Mo} {l : List Int} {b : Int} (W : Way L m l) (hb : Rg L b) (ho : okB L (nx (plays m l) b) = true) : Way L m (l ++ [b]) := by
  refine ⟨fun c hc => ?_, fun k hk => ?_⟩
  · rcases List.mem_append.1 hc with h | h
    · exact W.j c h
    · rw [List.mem_singleton] at h; subst h; exact hb
  · rw [List.length_append, List.length_singleton] at hk
    by_cases e : k ≤ l.length
    · rw [List.take_append_of_le_length e]; exact W.ok k e
    · rw [List.take_of_length_le (by simp; omega), plays_snoc]; exact ho
/-- a way that there is, is found -/
theorem Tab.found {L : Lm} {t : List Int} (T : Tab L t) {l : List Int} (W : Way L zM l) (he : plays zM l = endM L) : 0 < g L t zM := by
  rcases T.z with h | ⟨h1, h2⟩
  · exact h
  · have key : ∀ n, n ≤ l.length → 0 < g L t (plays zM (l.take (l.length - n))) := by
      intro n
      induction n with
      | zero => intro _; rw [Nat.sub_zero, List.take_length, he]; exact h1
      | succ n ih =>
        intro hn
        have hi := ih (by omega)
        have hlt : l.length - (n + 1) < l.length := by omega
        have e : l.length - n = l.length - (n + 1) + 1 := by omega
        have hg : l[l.length - (n + 1)]? = some l[l.length - (n + 1)] := List.getElem?_eq_getElem hlt
        rw [e, List.take_add_one, hg] at hi
        simp only [Option.toList_some] at hi
        rw [plays_snoc] at hi
        have hok := W.ok (l.length - (n + 1) + 1) (by omega)
        rw [List.take_add_one, hg] at hok
        simp only [Option.toList_some] at hok
        rw [plays_snoc] at hok
        have := h2 _ hok hi _ (W.j _ (List.getElem_mem hlt)) (by rw [pv_nx]; exact W.ok _ (by omega))
        rwa [pv_nx] at this
    have := key l.length (Nat.le_refl _)
    simpa [plays] using this
/-- the next step of a way to the end -/
theorem Tab.step {L : Lm} (H : LOk L) {t : List Int} (T : Tab L t) {m : Mo} (hm : okB L m = true) (h : 1 < g L t m) : ∃ b, Rg L b ∧ okB L (nx m b) = true ∧ g L t (nx m b) = g L t m - 1 := by
  obtain ⟨x, b, h1, h2, h3, h4, h5⟩ := T.bk (ix L m) h
  have := ix_inj H h1 hm h2
  subst this
  exact ⟨b, h3, h4, h5⟩
theorem Tab.last {L : Lm} (H : LOk L) {t : List Int} (T : Tab L t) {m : Mo} (hm : okB L m = true) (h : g L t m = 1) : m = endM L := ix_inj H hm (ok_end H) (T.one _ h)
/-! the way back -/
def neg (m d : Mo) : Mo := ⟨d.p - m.p, d.v - m.v, d.a - m.a⟩
theorem neg_plays (d : Mo) (l : List Int) (hd : d.v = 0 ∧ d.a = 0) : ∀ m, plays (neg m d) (l.map fun b => -b) = neg (plays m l) d := by
  induction l with
  | nil => intro m; rfl
  | cons b l ih =>
    intro m
    have e : nx (neg m d) (-b) = neg (nx m b) d := by
      simp only [nx, neg, Mo.mk.injEq]; omega
    show plays (nx (neg m d) (-b)) _ = neg (plays (nx m b) l) d
    rw [e]; exact ih _
theorem back_home {L : Lm} {l : List Int} (he : plays zM l = endM L) : plays (endM L) (l.map fun b => -b) = zM := by
  have := neg_plays (endM L) l ⟨rfl, rfl⟩ zM
  have e : neg zM (endM L) = endM L := by simp [neg, zM, endM]
  rw [e, he] at this
  rw [this]; simp [neg, zM, endM]
theorem back_ok {L : Lm} {l : List Int} (W : Way L zM l) (k : Nat) (hk : k ≤ l.length) : okB L (plays (endM L) ((l.map fun b => -b).take k)) = true := by
  have h := W.ok k hk
  have := neg_plays (endM L) (l.take k) ⟨rfl, rfl⟩ zM
  have e : neg zM (endM L) = endM L := by simp [neg, zM, endM]
  rw [e, List.map_take] at this
  rw [this]
  rw [ok_iff] at h ⊢
  simp only [neg, endM]
  omega
end Go.Mt

/- The engine, part 32: a call without free variables, evaluated with fuel. -/
namespace Go.Zv
set_option autoImplicit false
theorem pc_of_run {E : FuncId → Option AFn} (n : Nat) {f : FuncId} {args : List LV} {v : LV} (h : pureCall (run E n) f args = some v) : pc E f args = some v :=
  (nice_pure f args).mono (fun _ _ h => Run_iff.2 ⟨n, h⟩) h
end Go.Zv

namespace Go.Proofs.Ytcdpfcdlnbbegaa
set_option maxRecDepth 100000
set_option maxHeartbeats 4000000
set_option linter.unusedSimpArgs false
set_option linter.unusedVariables false
open Go Go.Zv
open Go.Geo (c1)
open Go.Mt
def moc (m : Mo) : List LV := [.int .i64 m.p, .int .i64 m.v, .int .i64 m.a]
def lmc (L : Lm) : List LV := [.int .i64 L.V, .int .i64 L.A, .int .i64 L.J]
def spc (L : Lm) : List LV := [.int .i64 L.V, .int .i64 L.A, .int .i64 L.J, .int .i64 L.D]
theorem get_c1 {l : List Int} {i : Nat} {p : Int} (h : l[i]? = some p) : (l.map c1)[i]? = some [.int .i64 p] := by rw [List.getElem?_map, h]; rfl
theorem all_c1 (l : List Int) : ((l.map c1).all fun x => x.length == 1) = true := by
  rw [List.all_eq_true]; intro x hx
  obtain ⟨y, _, rfl⟩ := List.mem_map.1 hx; rfl
theorem set_c1 (l : List Int) (i : Nat) (x : Int) : (l.map c1).set i [.int .i64 x] = (l.set i x).map c1 := by rw [List.map_set]; rfl
theorem get_m {l : List Mo} {i : Nat} {p : Mo} (h : l[i]? = some p) : (l.map moc)[i]? = some [.int .i64 p.p, .int .i64 p.v, .int .i64 p.a] := by rw [List.getElem?_map, h]; rfl
theorem all_m (l : List Mo) : ((l.map moc).all fun x => x.length == 3) = true := by
  rw [List.all_eq_true]; intro x hx
  obtain ⟨y, _, rfl⟩ := List.mem_map.1 hx; rfl
theorem wr_k {k : Nat} (h : k ≤ 1000000000) : IntKind.i64.wrap (((k : Nat) : Int) + 1) = ((k + 1 : Nat) : Int) := Go.Geo.wr_k h
/-- a motion far from overflow -/
def Sm (m : Mo) : Prop := (-1000000 ≤ m.p ∧ m.p ≤ 1000000) ∧ (-1000000 ≤ m.v ∧ m.v ≤ 1000000) ∧ -1000000 ≤ m.a ∧ m.a ≤ 1000000
theorem c26 (m : Mo) (b : Int) (h : Sm m) (hb : -10 ≤ b ∧ b ≤ 10) : pc E 26 [.agg (moc m), .int .i64 b] = some (.agg (moc (pv m b))) := by
  obtain ⟨⟨h1, h2⟩, ⟨h3, h4⟩, h5, h6⟩ := h
  have w1 : IntKind.i64.wrap (m.p - m.v) = m.p - m.v := wrap_small (by omega) (by omega)
  have w2 : IntKind.i64.wrap (m.v - m.a) = m.v - m.a := wrap_small (by omega) (by omega)
  have w3 : IntKind.i64.wrap (m.a - b) = m.a - b := wrap_small (by omega) (by omega)
  rw [pc_eq]; simp +contextual -implicitDefEqProofs (maxSteps := 2000000) only [go_sem, ↓reduceIte, Nat.reduceAdd, Nat.reduceMul, Nat.reduceSub, Nat.reduceEqDiff, Nat.reduceLeDiff, Nat.reduceDiv, Nat.reduceMod, Nat.reduceBEq, Nat.reduceBNe, reduceCtorEq, Int.reduceLE, Int.reduceLT, Int.reduceToNat, Int.reduceNeg, Nat.reduceLT, Int.reduceEq, Int.reduceSub, Int.reduceAdd, Int.reduceMul, Nat.reducePow, Int.reduceBEq, Int.reduceBNe, Int.reduceMod, E_26, A26, moc, pv, w1, w2, w3]
theorem c25 (L : Lm) (H : LOk L) : pc E 25 [.agg (spc L)] = some (.int .i64 (many L)) := by
  have hV := H.V
  have hA := H.A
  have hD := H.D
  have hm := many_bd H
  have e1 := Int.mul_le_mul_of_nonneg_right (show L.D + 1 ≤ 421 by omega) (show 0 ≤ 2 * L.V + 1 by omega)
  have e0 := Int.mul_nonneg (show 0 ≤ L.D + 1 by omega) (show 0 ≤ 2 * L.V + 1 by omega)
  have w1 : IntKind.i64.wrap (L.D + 1) = L.D + 1 := wrap_small (by omega) (by omega)
  have w2 : IntKind.i64.wrap (2 * L.V) = 2 * L.V := wrap_small (by omega) (by omega)
  have w3 : IntKind.i64.wrap (2 * L.V + 1) = 2 * L.V + 1 := wrap_small (by omega) (by omega)
  have w4 : IntKind.i64.wrap (2 * L.A) = 2 * L.A := wrap_small (by omega) (by omega)
  have w5 : IntKind.i64.wrap (2 * L.A + 1) = 2 * L.A + 1 := wrap_small (by omega) (by omega)
  have w6 : IntKind.i64.wrap ((L.D + 1) * (2 * L.V + 1)) = (L.D + 1) * (2 * L.V + 1) := wrap_small (by omega) (by omega)
  unfold many at hm ⊢
  have w7 : IntKind.i64.wrap ((L.D + 1) * (2 * L.V + 1) * (2 * L.A + 1)) = (L.D + 1) * (2 * L.V + 1) * (2 * L.A + 1) := wrap_small (by omega) (by omega)
  rw [pc_eq]; simp +contextual -implicitDefEqProofs (maxSteps := 2000000) only [go_sem, ↓reduceIte, Nat.reduceAdd, Nat.reduceMul, Nat.reduceSub, Nat.reduceEqDiff, Nat.reduceLeDiff, Nat.reduceDiv, Nat.reduceMod, Nat.reduceBEq, Nat.reduceBNe, reduceCtorEq, Int.reduceLE, Int.reduceLT, Int.reduceToNat, Int.reduceNeg, Nat.reduceLT, Int.reduceEq, Int.reduceSub, Int.reduceAdd, Int.reduceMul, Nat.reducePow, Int.reduceBEq, Int.reduceBNe, Int.reduceMod, E_25, A25, spc, w1, w2, w3, w4, w5, w6, w7]
theorem c15 (L : Lm) (H : LOk L) (m : Mo) : pc E 15 [.agg (spc L), .agg (moc m)] = some (.tup [.int .i64 (if okB L m = true then idx L m else 0), .bool (okB L m)]) := by
  have hV := H.V
  have hA := H.A
  have hD := H.D
  have u1 : IntKind.i64.wrap (0 - L.V) = -L.V := by rw [Int.zero_sub]; exact wrap_small (by omega) (by omega)
  have u2 : IntKind.i64.wrap (0 - L.A) = -L.A := by rw [Int.zero_sub]; exact wrap_small (by omega) (by omega)
  by_cases h1 : m.p < 0
  · have e : okB L m = false := by simp [okB, h1]
    rw [e]; rw [pc_eq]; simp +contextual -implicitDefEqProofs (maxSteps := 2000000) only [go_sem, ↓reduceIte, Nat.reduceAdd, Nat.reduceMul, Nat.reduceSub, Nat.reduceEqDiff, Nat.reduceLeDiff, Nat.reduceDiv, Nat.reduceMod, Nat.reduceBEq, Nat.reduceBNe, reduceCtorEq, Int.reduceLE, Int.reduceLT, Int.reduceToNat, Int.reduceNeg, Nat.reduceLT, Int.reduceEq, Int.reduceSub, Int.reduceAdd, Int.reduceMul, Nat.reducePow, Int.reduceBEq, Int.reduceBNe, Int.reduceMod, E_15, A15, spc, moc, h1, gt_iff_lt]
  by_cases h2 : L.D < m.p
  · have e : okB L m = false := by simp [okB, h2]
    rw [e]; rw [pc_eq]; simp +contextual -implicitDefEqProofs (maxSteps := 2000000) only [go_sem, ↓reduceIte, Nat.reduceAdd, Nat.reduceMul, Nat.reduceSub, Nat.reduceEqDiff, Nat.reduceLeDiff, Nat.reduceDiv, Nat.reduceMod, Nat.reduceBEq, Nat.reduceBNe, reduceCtorEq, Int.reduceLE, Int.reduceLT, Int.reduceToNat, Int.reduceNeg, Nat.reduceLT, Int.reduceEq, Int.reduceSub, Int.reduceAdd, Int.reduceMul, Nat.reducePow, Int.reduceBEq, Int.reduceBNe, Int.reduceMod, E_15, A15, spc, moc, h1, h2, gt_iff_lt]
  by_cases h3 : m.v < -L.V
  · have e : okB L m = false := by simp [okB, h3]
    rw [e]; rw [pc_eq]; simp +contextual -implicitDefEqProofs (maxSteps := 2000000) only [go_sem, ↓reduceIte, Nat.reduceAdd, Nat.reduceMul, Nat.reduceSub, Nat.reduceEqDiff, Nat.reduceLeDiff, Nat.reduceDiv, Nat.reduceMod, Nat.reduceBEq, Nat.reduceBNe, reduceCtorEq, Int.reduceLE, Int.reduceLT, Int.reduceToNat, Int.reduceNeg, Nat.reduceLT, Int.reduceEq, Int.reduceSub, Int.reduceAdd, Int.reduceMul, Nat.reducePow, Int.reduceBEq, Int.reduceBNe, Int.reduceMod, E_15, A15, spc, moc, h1, h2, h3, u1, gt_iff_lt]
  by_cases h4 : L.V < m.v
  · have e : okB L m = false := by simp [okB, h4]
    rw [e]; rw [pc_eq]; simp +contextual -implicitDefEqProofs (maxSteps := 2000000) only [go_sem, ↓reduceIte, Nat.reduceAdd, Nat.reduceMul, Nat.reduceSub, Nat.reduceEqDiff, Nat.reduceLeDiff, Nat.reduceDiv, Nat.reduceMod, Nat.reduceBEq, Nat.reduceBNe, reduceCtorEq, Int.reduceLE, Int.reduceLT, Int.reduceToNat, Int.reduceNeg, Nat.reduceLT, Int.reduceEq, Int.reduceSub, Int.reduceAdd, Int.reduceMul, Nat.reducePow, Int.reduceBEq, Int.reduceBNe, Int.reduceMod, E_15, A15, spc, moc, h1, h2, h3, h4, u1, gt_iff_lt]
  by_cases h5 : m.a < -L.A
  · have e : okB L m = false := by simp [okB, h5]
    rw [e]; rw [pc_eq]; simp +contextual -implicitDefEqProofs (maxSteps := 2000000) only [go_sem, ↓reduceIte, Nat.reduceAdd, Nat.reduceMul, Nat.reduceSub, Nat.reduceEqDiff, Nat.reduceLeDiff, Nat.reduceDiv, Nat.reduceMod, Nat.reduceBEq, Nat.reduceBNe, reduceCtorEq, Int.reduceLE, Int.reduceLT, Int.reduceToNat, Int.reduceNeg, Nat.reduceLT, Int.reduceEq, Int.reduceSub, Int.reduceAdd, Int.reduceMul, Nat.reducePow, Int.reduceBEq, Int.reduceBNe, Int.reduceMod, E_15, A15, spc, moc, h1, h2, h3, h4, h5, u1, u2, gt_iff_lt]
  by_cases h6 : L.A < m.a
  · have e : okB L m = false := by simp [okB, h6]
    rw [e]; rw [pc_eq]; simp +contextual -implicitDefEqProofs (maxSteps := 2000000) only [go_sem, ↓reduceIte, Nat.reduceAdd, Nat.reduceMul, Nat.reduceSub, Nat.reduceEqDiff, Nat.reduceLeDiff, Nat.reduceDiv, Nat.reduceMod, Nat.reduceBEq, Nat.reduceBNe, reduceCtorEq, Int.reduceLE, Int.reduceLT, Int.reduceToNat, Int.reduceNeg, Nat.reduceLT, Int.reduceEq, Int.reduceSub, Int.reduceAdd, Int.reduceMul, Nat.reducePow, Int.reduceBEq, Int.reduceBNe, Int.reduceMod, E_15, A15, spc, moc, h1, h2, h3, h4, h5, h6, u1, u2, gt_iff_lt]
  have e : okB L m = true := by simp [okB, h1, h2, h3, h4, h5, h6]
  have hi := idx_nn H e
  have hm := many_bd H
  have e1 := Int.mul_nonneg (show 0 ≤ m.p by omega) (show 0 ≤ 2 * L.V + 1 by omega)
  have e2 := Int.mul_le_mul_of_nonneg_right (show m.p ≤ 420 by omega) (show 0 ≤ 2 * L.V + 1 by omega)
  have w2 : IntKind.i64.wrap (2 * L.V) = 2 * L.V := wrap_small (by omega) (by omega)
  have w3 : IntKind.i64.wrap (2 * L.V + 1) = 2 * L.V + 1 := wrap_small (by omega) (by omega)
  have w4 : IntKind.i64.wrap (2 * L.A) = 2 * L.A := wrap_small (by omega) (by omega)
  have w5 : IntKind.i64.wrap (2 * L.A + 1) = 2 * L.A + 1 := wrap_small (by omega) (by omega)
  have w6 : IntKind.i64.wrap (m.p * (2 * L.V + 1)) = m.p * (2 * L.V + 1) := wrap_small (by omega) (by omega)
  have w7 : IntKind.i64.wrap (m.p * (2 * L.V + 1) + m.v) = m.p * (2 * L.V + 1) + m.v := wrap_small (by omega) (by omega)
  have w8 : IntKind.i64.wrap (m.p * (2 * L.V + 1) + m.v + L.V) = m.p * (2 * L.V + 1) + m.v + L.V := wrap_small (by omega) (by omega)
  have hi' := hi
  unfold idx at hi'
  have w9 : IntKind.i64.wrap ((m.p * (2 * L.V + 1) + m.v + L.V) * (2 * L.A + 1)) = (m.p * (2 * L.V + 1) + m.v + L.V) * (2 * L.A + 1) := wrap_small (by omega) (by omega)
  have w10 : IntKind.i64.wrap ((m.p * (2 * L.V + 1) + m.v + L.V) * (2 * L.A + 1) + m.a) = (m.p * (2 * L.V + 1) + m.v + L.V) * (2 * L.A + 1) + m.a := wrap_small (by omega) (by omega)
  have w11 : IntKind.i64.wrap ((m.p * (2 * L.V + 1) + m.v + L.V) * (2 * L.A + 1) + m.a + L.A) = (m.p * (2 * L.V + 1) + m.v + L.V) * (2 * L.A + 1) + m.a + L.A := wrap_small (by omega) (by omega)
  rw [e, if_pos rfl]
  rw [pc_eq]; simp +contextual -implicitDefEqProofs (maxSteps := 2000000) only [go_sem, ↓reduceIte, Nat.reduceAdd, Nat.reduceMul, Nat.reduceSub, Nat.reduceEqDiff, Nat.reduceLeDiff, Nat.reduceDiv, Nat.reduceMod, Nat.reduceBEq, Nat.reduceBNe, reduceCtorEq, Int.reduceLE, Int.reduceLT, Int.reduceToNat, Int.reduceNeg, Nat.reduceLT, Int.reduceEq, Int.reduceSub, Int.reduceAdd, Int.reduceMul, Nat.reducePow, Int.reduceBEq, Int.reduceBNe, Int.reduceMod, E_15, A15, spc, moc, idx, h1, h2, h3, h4, h5, h6, u1, u2, w2, w3, w4, w5, w6, w7, w8, w9, w10, w11, gt_iff_lt]
theorem c24 (n k : Int) : pc E 24 [.int .i64 n, .int .i64 k] = some (.bool (decide (1 ≤ n) && decide (n ≤ k))) := by
  by_cases h : 1 ≤ n
  · rw [pc_eq]; simp +contextual -implicitDefEqProofs (maxSteps := 2000000) only [go_sem, ↓reduceIte, Nat.reduceAdd, Nat.reduceMul, Nat.reduceSub, Nat.reduceEqDiff, Nat.reduceLeDiff, Nat.reduceDiv, Nat.reduceMod, Nat.reduceBEq, Nat.reduceBNe, reduceCtorEq, Int.reduceLE, Int.reduceLT, Int.reduceToNat, Int.reduceNeg, Nat.reduceLT, Int.reduceEq, Int.reduceSub, Int.reduceAdd, Int.reduceMul, Nat.reducePow, Int.reduceBEq, Int.reduceBNe, Int.reduceMod, E_24, A24, h, ge_iff_le]
  · rw [pc_eq]; simp +contextual -implicitDefEqProofs (maxSteps := 2000000) only [go_sem, ↓reduceIte, Nat.reduceAdd, Nat.reduceMul, Nat.reduceSub, Nat.reduceEqDiff, Nat.reduceLeDiff, Nat.reduceDiv, Nat.reduceMod, Nat.reduceBEq, Nat.reduceBNe, reduceCtorEq, Int.reduceLE, Int.reduceLT, Int.reduceToNat, Int.reduceNeg, Nat.reduceLT, Int.reduceEq, Int.reduceSub, Int.reduceAdd, Int.reduceMul, Nat.reducePow, Int.reduceBEq, Int.reduceBNe, Int.reduceMod, E_24, A24, h, ge_iff_le]
theorem c13 (L : Lm) (H : LOk L) : pc E 13 [.agg (lmc L)] = some (.bool true) := by
  obtain ⟨h1, h2⟩ := H.V
  obtain ⟨h3, h4⟩ := H.A
  obtain ⟨h5, h6⟩ := H.J
  rw [pc_eq]; simp +contextual -implicitDefEqProofs (maxSteps := 2000000) only [go_sem, ↓reduceIte, Nat.reduceAdd, Nat.reduceMul, Nat.reduceSub, Nat.reduceEqDiff, Nat.reduceLeDiff, Nat.reduceDiv, Nat.reduceMod, Nat.reduceBEq, Nat.reduceBNe, reduceCtorEq, Int.reduceLE, Int.reduceLT, Int.reduceToNat, Int.reduceNeg, Nat.reduceLT, Int.reduceEq, Int.reduceSub, Int.reduceAdd, Int.reduceMul, Nat.reducePow, Int.reduceBEq, Int.reduceBNe, Int.reduceMod, E_13, A13, c24, lmc, h1, h2, h3, h4, h5, h6, ge_iff_le]
theorem mx_le (n k : Int) : decide (mxI n (-n) ≤ k) = (decide (-k ≤ n) && decide (n ≤ k)) := by
  unfold mxI
  rw [Bool.eq_iff_iff]
  simp only [Bool.and_eq_true, decide_eq_true_eq]
  split <;> omega
theorem c18 (n k : Int) (h : -1000000 ≤ n ∧ n ≤ 1000000) : pc E 18 [.int .i64 n, .int .i64 k] = some (.bool (decide (-k ≤ n) && decide (n ≤ k))) := by
  have w : IntKind.i64.wrap (0 - n) = -n := by rw [Int.zero_sub]; exact wrap_small (by omega) (by omega)
  rw [← mx_le]
  rw [pc_eq]; simp +contextual -implicitDefEqProofs (maxSteps := 2000000) only [go_sem, ↓reduceIte, Nat.reduceAdd, Nat.reduceMul, Nat.reduceSub, Nat.reduceEqDiff, Nat.reduceLeDiff, Nat.reduceDiv, Nat.reduceMod, Nat.reduceBEq, Nat.reduceBNe, reduceCtorEq, Int.reduceLE, Int.reduceLT, Int.reduceToNat, Int.reduceNeg, Nat.reduceLT, Int.reduceEq, Int.reduceSub, Int.reduceAdd, Int.reduceMul, Nat.reducePow, Int.reduceBEq, Int.reduceBNe, Int.reduceMod, E_18, A18, w]
def ftB (L : Lm) (m : Mo) : Bool := (decide (-L.V ≤ m.v) && decide (m.v ≤ L.V)) && (decide (-L.A ≤ m.a) && decide (m.a ≤ L.A))
theorem c17 (L : Lm) (m : Mo) (h : Sm m) : pc E 17 [.agg (lmc L), .agg (moc m)] = some (.bool (ftB L m)) := by
  obtain ⟨⟨h1, h2⟩, ⟨h3, h4⟩, h5, h6⟩ := h
  have c1 := c18 m.v L.V ⟨h3, h4⟩
  have c2 := c18 m.a L.A ⟨h5, h6⟩
  unfold ftB
  generalize (decide (-L.V ≤ m.v) && decide (m.v ≤ L.V)) = b1 at *
  generalize (decide (-L.A ≤ m.a) && decide (m.a ≤ L.A)) = b2 at *
  cases b1 <;> rw [pc_eq] <;> simp +contextual -implicitDefEqProofs (maxSteps := 2000000) only [go_sem, ↓reduceIte, Nat.reduceAdd, Nat.reduceMul, Nat.reduceSub, Nat.reduceEqDiff, Nat.reduceLeDiff, Nat.reduceDiv, Nat.reduceMod, Nat.reduceBEq, Nat.reduceBNe, reduceCtorEq, Int.reduceLE, Int.reduceLT, Int.reduceToNat, Int.reduceNeg, Nat.reduceLT, Int.reduceEq, Int.reduceSub, Int.reduceAdd, Int.reduceMul, Nat.reducePow, Int.reduceBEq, Int.reduceBNe, Int.reduceMod, E_17, A17, lmc, moc, c1, c2]
theorem c16 (m : Mo) (l : List Int) : pc E 16 [.agg (moc m), .vs (l.map c1)] = some (.fn (.func 27) [] [.fp (moc m), .fp [.vs (l.map c1)]]) := by
  rw [pc_eq]; simp +contextual -implicitDefEqProofs (maxSteps := 2000000) only [go_sem, ↓reduceIte, Nat.reduceAdd, Nat.reduceMul, Nat.reduceSub, Nat.reduceEqDiff, Nat.reduceLeDiff, Nat.reduceDiv, Nat.reduceMod, Nat.reduceBEq, Nat.reduceBNe, reduceCtorEq, Int.reduceLE, Int.reduceLT, Int.reduceToNat, Int.reduceNeg, Nat.reduceLT, Int.reduceEq, Int.reduceSub, Int.reduceAdd, Int.reduceMul, Nat.reducePow, Int.reduceBEq, Int.reduceBNe, Int.reduceMod, E_16, A16, moc]
end Go.Proofs.Ytcdpfcdlnbbegaa

namespace Go.Proofs.Ytcdpfcdlnbbegaa
set_option maxRecDepth 100000
set_option maxHeartbeats 4000000
set_option linter.unusedSimpArgs false
set_option linter.unusedVariables false
open Go Go.Zv
open Go.Geo (c1)
open Go.Mt
theorem plays_take {m : Mo} {l : List Int} {k : Nat} {b : Int} (h : l[k]? = some b) : plays m (l.take (k + 1)) = nx (plays m (l.take k)) b := by
  rw [List.take_add_one, h, Option.toList_some, plays_snoc]
theorem c7 (m : Mo) (l : List Int) (hl : l.length ≤ 1000000) (hp : ∀ k, k ≤ l.length → Sm (plays m (l.take k))) (hb : ∀ b ∈ l, -10 ≤ b ∧ b ≤ 10) : pc E 7 [.agg (moc m), .vs (l.map c1)] = some (.agg (moc (plays m l))) := by
  have h16 := c16 m l
  simp only [moc] at h16
  have lp := loop_inv (fun S => (K E A27_L0 S).bind (blockR 0 (some []) [6, 16, 21]))
    (fun k (x : Mo) => ⟨[(0, .yl 1024000), (4, .ptr 1049600 0), (9, .vs (l.map c1)), (10, .int .i64 l.length), (11, .int .i64 k)], [[(2, .ptr 512 0), (4, .ptr 1024 0), (9, .fn (Fn.func 27) [] [.fp [.int .i64 m.p, .int .i64 m.v, .int .i64 m.a], .fp [.vs (l.map c1)]])], [(0, .yl 1024000)]], [(1049600, .box [.int .i64 x.p, .int .i64 x.v, .int .i64 x.a]), (1024000, .loop [(2, .ptr 512 0), (4, .ptr 1024 0), (9, .fn (Fn.func 27) [] [.fp [.int .i64 m.p, .int .i64 m.v, .int .i64 m.a], .fp [.vs (l.map c1)]])] [10, 11] A7_R0a A7_R0b LSt.ready AEx.nrm), (1024, .box [.int .i64 0, .int .i64 0, .int .i64 0]), (512, .box [.int .i64 x.p, .int .i64 x.v, .int .i64 x.a])], 1⟩)
    l.length (fun k x => x = plays m (l.take k)) (fun k x hk hx => by
      subst hx
      have hget : l[k]? = some (l[k]'hk) := List.getElem?_eq_getElem _
      have hs := hp k (by omega)
      have hbb := hb _ (List.getElem_mem hk)
      have hpt := plays_take (m := m) hget
      generalize l[k]'hk = b at *
      refine ⟨_, hpt.symm, ?_⟩
      generalize plays m (l.take k) = x at *
      obtain ⟨⟨q1, q2⟩, ⟨q3, q4⟩, q5, q6⟩ := hs
      have w1 : IntKind.i64.wrap (x.a + b) = x.a + b := wrap_small (by omega) (by omega)
      have w2 : IntKind.i64.wrap (x.v + (x.a + b)) = x.v + (x.a + b) := wrap_small (by omega) (by omega)
      have w3 : IntKind.i64.wrap (x.p + (x.v + (x.a + b))) = x.p + (x.v + (x.a + b)) := wrap_small (by omega) (by omega)
      have hw := wr_k (k := k) (by omega)
      have h1 : (k : Int) < l.length := by omega
      have h0 : (0 : Int) ≤ k := by omega
      have g1 := get_c1 hget
      show (K E A27_L0 _).bind _ = (K E A27_L0 _).bind _
      conv => lhs; rw [A27_L0_eq]
      simp +contextual -implicitDefEqProofs (maxSteps := 2000000) only [go_sem, ↓reduceIte, Nat.reduceAdd, Nat.reduceMul, Nat.reduceSub, Nat.reduceEqDiff, Nat.reduceLeDiff, Nat.reduceDiv, Nat.reduceMod, Nat.reduceBEq, Nat.reduceBNe, reduceCtorEq, Int.reduceLE, Int.reduceLT, Int.reduceToNat, Int.reduceNeg, Nat.reduceLT, Int.reduceEq, Int.reduceSub, Int.reduceAdd, Int.reduceMul, Nat.reducePow, Int.reduceBEq, Int.reduceBNe, Int.reduceMod, A27_L0b, A7_R0a, A7_R0b, E_28, A28, nx, List.length_map, h0, h1, g1, hw, w1, w2, w3]) m (by simp [plays])
  have stop : ∀ x : Mo, (K E A27_L0 ⟨[(0, .yl 1024000), (4, .ptr 1049600 0), (9, .vs (l.map c1)), (10, .int .i64 l.length), (11, .int .i64 l.length)], [[(2, .ptr 512 0), (4, .ptr 1024 0), (9, .fn (Fn.func 27) [] [.fp [.int .i64 m.p, .int .i64 m.v, .int .i64 m.a], .fp [.vs (l.map c1)]])], [(0, .yl 1024000)]], [(1049600, .box [.int .i64 x.p, .int .i64 x.v, .int .i64 x.a]), (1024000, .loop [(2, .ptr 512 0), (4, .ptr 1024 0), (9, .fn (Fn.func 27) [] [.fp [.int .i64 m.p, .int .i64 m.v, .int .i64 m.a], .fp [.vs (l.map c1)]])] [10, 11] A7_R0a A7_R0b LSt.ready AEx.nrm), (1024, .box [.int .i64 0, .int .i64 0, .int .i64 0]), (512, .box [.int .i64 x.p, .int .i64 x.v, .int .i64 x.a])], 1⟩).bind (blockR 0 (some []) [6, 16, 21]) = some (.ex .nrm ⟨[], [[(2, .ptr 512 0), (4, .ptr 1024 0), (9, .fn (Fn.func 27) [] [.fp [.int .i64 m.p, .int .i64 m.v, .int .i64 m.a], .fp [.vs (l.map c1)]])], [(0, .yl 1024000)]], [(1049600, .box [.int .i64 x.p, .int .i64 x.v, .int .i64 x.a]), (1024000, .loop [(2, .ptr 512 0), (4, .ptr 1024 0), (9, .fn (Fn.func 27) [] [.fp [.int .i64 m.p, .int .i64 m.v, .int .i64 m.a], .fp [.vs (l.map c1)]])] [10, 11] A7_R0a A7_R0b LSt.ready AEx.nrm), (1024, .box [.int .i64 0, .int .i64 0, .int .i64 0]), (512, .box [.int .i64 x.p, .int .i64 x.v, .int .i64 x.a])], 1⟩) := fun x => by
    rw [A27_L0_eq]; simp +contextual -implicitDefEqProofs (maxSteps := 2000000) only [go_sem, ↓reduceIte, Nat.reduceAdd, Nat.reduceMul, Nat.reduceSub, Nat.reduceEqDiff, Nat.reduceLeDiff, Nat.reduceDiv, Nat.reduceMod, Nat.reduceBEq, Nat.reduceBNe, reduceCtorEq, Int.reduceLE, Int.reduceLT, Int.reduceToNat, Int.reduceNeg, Nat.reduceLT, Int.reduceEq, Int.reduceSub, Int.reduceAdd, Int.reduceMul, Nat.reducePow, Int.reduceBEq, Int.reduceBNe, Int.reduceMod, A27_L0b, Int.lt_irrefl]
  obtain ⟨y, hy, lp⟩ := lp
  rw [List.take_length] at hy
  subst hy
  simp only [stop, Int.natCast_zero, Int.ofNat_zero] at lp
  rw [pc_eq]; simp +contextual -implicitDefEqProofs (maxSteps := 2000000) only [go_sem, ↓reduceIte, Nat.reduceAdd, Nat.reduceMul, Nat.reduceSub, Nat.reduceEqDiff, Nat.reduceLeDiff, Nat.reduceDiv, Nat.reduceMod, Nat.reduceBEq, Nat.reduceBNe, reduceCtorEq, Int.reduceLE, Int.reduceLT, Int.reduceToNat, Int.reduceNeg, Nat.reduceLT, Int.reduceEq, Int.reduceSub, Int.reduceAdd, Int.reduceMul, Nat.reducePow, Int.reduceBEq, Int.reduceBNe, Int.reduceMod, E_7, A7, h16, E_27, A27, A7_R0, moc, lp, List.length_map]
end Go.Proofs.Ytcdpfcdlnbbegaa

namespace Go.Proofs.Ytcdpfcdlnbbegaa
set_option maxRecDepth 100000
set_option maxHeartbeats 4000000
set_option linter.unusedSimpArgs false
set_option linter.unusedVariables false
open Go Go.Zv
open Go.Geo (c1)
open Go.Mt
theorem c8 (L : Lm) (m : Mo) (l : List Int) (hl : l.length ≤ 1000000) (hp : ∀ k, k ≤ l.length → Sm (plays m (l.take k))) (hf : ∀ k, k ≤ l.length → ftB L (plays m (l.take k)) = true) (hb : ∀ b ∈ l, (-10 ≤ b ∧ b ≤ 10) ∧ -L.J ≤ b ∧ b ≤ L.J) : pc E 8 [.agg (lmc L), .agg (moc m), .vs (l.map c1)] = some (.bool true) := by
  have h16 := c16 m l
  have h17 := c17 L m (by simpa [plays] using hp 0 (by omega))
  have hf0 : ftB L m = true := by simpa [plays] using hf 0 (by omega)
  rw [hf0] at h17
  simp only [moc, lmc] at h16 h17
  have lp := loop_inv (fun S => (K E A27_L0 S).bind (blockR 0 (some []) [6, 16, 21]))
    (fun k (x : Mo) => ⟨[(0, .yl 1024000), (4, .ptr 1049600 0), (9, .vs (l.map c1)), (10, .int .i64 l.length), (11, .int .i64 k)], [[(3, .ptr 768 0), (6, .ptr 1536 0), (15, .fn (Fn.func 27) [] [.fp [.int .i64 m.p, .int .i64 m.v, .int .i64 m.a], .fp [.vs (l.map c1)]])], [(0, .yl 1024000)]], [(1049600, .box [.int .i64 x.p, .int .i64 x.v, .int .i64 x.a]), (1024000, .loop [(3, .ptr 768 0), (6, .ptr 1536 0), (15, .fn (Fn.func 27) [] [.fp [.int .i64 m.p, .int .i64 m.v, .int .i64 m.a], .fp [.vs (l.map c1)]])] [16, 17] A8_R0a A8_R0b LSt.ready AEx.nrm), (1536, .box [.bool false]), (768, .box [.int .i64 L.V, .int .i64 L.A, .int .i64 L.J])], 1⟩)
    l.length (fun k x => x = plays m (l.take k)) (fun k x hk hx => by
      subst hx
      have hget : l[k]? = some (l[k]'hk) := List.getElem?_eq_getElem _
      have hs := hp k (by omega)
      have hs1 := hp (k + 1) (by omega)
      have hf1 := hf (k + 1) (by omega)
      obtain ⟨hbb, hbL⟩ := hb _ (List.getElem_mem hk)
      have hpt := plays_take (m := m) hget
      rw [hpt] at hs1 hf1
      generalize l[k]'hk = b at *
      refine ⟨_, hpt.symm, ?_⟩
      generalize plays m (l.take k) = x at *
      have e17 := c17 L (nx x b) hs1
      rw [hf1] at e17
      have e18 := c18 b L.J (by omega)
      rw [decide_eq_true hbL.1, decide_eq_true hbL.2, Bool.true_and] at e18
      simp only [moc, lmc, nx] at e17
      obtain ⟨⟨q1, q2⟩, ⟨q3, q4⟩, q5, q6⟩ := hs
      have w1 : IntKind.i64.wrap (x.a + b) = x.a + b := wrap_small (by omega) (by omega)
      have w2 : IntKind.i64.wrap (x.v + (x.a + b)) = x.v + (x.a + b) := wrap_small (by omega) (by omega)
      have w3 : IntKind.i64.wrap (x.p + (x.v + (x.a + b))) = x.p + (x.v + (x.a + b)) := wrap_small (by omega) (by omega)
      have hw := wr_k (k := k) (by omega)
      have h1 : (k : Int) < l.length := by omega
      have h0 : (0 : Int) ≤ k := by omega
      have g1 := get_c1 hget
      show (K E A27_L0 _).bind _ = (K E A27_L0 _).bind _
      conv => lhs; rw [A27_L0_eq]
      simp +contextual -implicitDefEqProofs (maxSteps := 2000000) only [go_sem, ↓reduceIte, Nat.reduceAdd, Nat.reduceMul, Nat.reduceSub, Nat.reduceEqDiff, Nat.reduceLeDiff, Nat.reduceDiv, Nat.reduceMod, Nat.reduceBEq, Nat.reduceBNe, reduceCtorEq, Int.reduceLE, Int.reduceLT, Int.reduceToNat, Int.reduceNeg, Nat.reduceLT, Int.reduceEq, Int.reduceSub, Int.reduceAdd, Int.reduceMul, Nat.reducePow, Int.reduceBEq, Int.reduceBNe, Int.reduceMod, A27_L0b, A8_R0a, A8_R0b, E_28, A28, nx, List.length_map, h0, h1, g1, hw, w1, w2, w3, e17, e18]) m (by simp [plays])
  have stop : ∀ x : Mo, (K E A27_L0 ⟨[(0, .yl 1024000), (4, .ptr 1049600 0), (9, .vs (l.map c1)), (10, .int .i64 l.length), (11, .int .i64 l.length)], [[(3, .ptr 768 0), (6, .ptr 1536 0), (15, .fn (Fn.func 27) [] [.fp [.int .i64 m.p, .int .i64 m.v, .int .i64 m.a], .fp [.vs (l.map c1)]])], [(0, .yl 1024000)]], [(1049600, .box [.int .i64 x.p, .int .i64 x.v, .int .i64 x.a]), (1024000, .loop [(3, .ptr 768 0), (6, .ptr 1536 0), (15, .fn (Fn.func 27) [] [.fp [.int .i64 m.p, .int .i64 m.v, .int .i64 m.a], .fp [.vs (l.map c1)]])] [16, 17] A8_R0a A8_R0b LSt.ready AEx.nrm), (1536, .box [.bool false]), (768, .box [.int .i64 L.V, .int .i64 L.A, .int .i64 L.J])], 1⟩).bind (blockR 0 (some []) [6, 16, 21]) = some (.ex .nrm ⟨[], [[(3, .ptr 768 0), (6, .ptr 1536 0), (15, .fn (Fn.func 27) [] [.fp [.int .i64 m.p, .int .i64 m.v, .int .i64 m.a], .fp [.vs (l.map c1)]])], [(0, .yl 1024000)]], [(1049600, .box [.int .i64 x.p, .int .i64 x.v, .int .i64 x.a]), (1024000, .loop [(3, .ptr 768 0), (6, .ptr 1536 0), (15, .fn (Fn.func 27) [] [.fp [.int .i64 m.p, .int .i64 m.v, .int .i64 m.a], .fp [.vs (l.map c1)]])] [16, 17] A8_R0a A8_R0b LSt.ready AEx.nrm), (1536, .box [.bool false]), (768, .box [.int .i64 L.V, .int .i64 L.A, .int .i64 L.J])], 1⟩) := fun x => by
    rw [A27_L0_eq]; simp +contextual -implicitDefEqProofs (maxSteps := 2000000) only [go_sem, ↓reduceIte, Nat.reduceAdd, Nat.reduceMul, Nat.reduceSub, Nat.reduceEqDiff, Nat.reduceLeDiff, Nat.reduceDiv, Nat.reduceMod, Nat.reduceBEq, Nat.reduceBNe, reduceCtorEq, Int.reduceLE, Int.reduceLT, Int.reduceToNat, Int.reduceNeg, Nat.reduceLT, Int.reduceEq, Int.reduceSub, Int.reduceAdd, Int.reduceMul, Nat.reducePow, Int.reduceBEq, Int.reduceBNe, Int.reduceMod, A27_L0b, Int.lt_irrefl]
  obtain ⟨y, hy, lp⟩ := lp
  rw [List.take_length] at hy
  subst hy
  simp only [stop, Int.natCast_zero, Int.ofNat_zero] at lp
  rw [pc_eq]; simp +contextual -implicitDefEqProofs (maxSteps := 2000000) only [go_sem, ↓reduceIte, Nat.reduceAdd, Nat.reduceMul, Nat.reduceSub, Nat.reduceEqDiff, Nat.reduceLeDiff, Nat.reduceDiv, Nat.reduceMod, Nat.reduceBEq, Nat.reduceBNe, reduceCtorEq, Int.reduceLE, Int.reduceLT, Int.reduceToNat, Int.reduceNeg, Nat.reduceLT, Int.reduceEq, Int.reduceSub, Int.reduceAdd, Int.reduceMul, Nat.reducePow, Int.reduceBEq, Int.reduceBNe, Int.reduceMod, E_8, A8, h16, h17, E_27, A27, A8_R0, moc, lmc, lp, List.length_map]
theorem c5 (v a j : Int) (hv : 0 ≤ v ∧ v ≤ 255) (ha : 0 ≤ a ∧ a ≤ 255) (hj : 0 ≤ j ∧ j ≤ 255) : ∃ L, (∀ d, 0 ≤ d → d ≤ 420 → LOk ⟨L.V, L.A, L.J, d⟩) ∧ pc E 5 [.int .u8 v, .int .u8 a, .int .u8 j] = some (.agg (lmc L)) := by
  have v1 := Int.tmod_lt_of_pos v (b := 8) (by decide)
  have v2 := Int.tmod_nonneg 8 hv.1
  have a1 := Int.tmod_lt_of_pos a (b := 4) (by decide)
  have a2 := Int.tmod_nonneg 4 ha.1
  have j1 := Int.tmod_lt_of_pos j (b := 2) (by decide)
  have j2 := Int.tmod_nonneg 2 hj.1
  refine ⟨⟨1 + v.tmod 8, 1 + a.tmod 4, 1 + j.tmod 2, 0⟩, fun d h1 h2 => ⟨⟨by show 1 ≤ 1 + _; omega, by show 1 + _ ≤ 8; omega⟩, ⟨by show 1 ≤ 1 + _; omega, by show 1 + _ ≤ 4; omega⟩, ⟨by show 1 ≤ 1 + _; omega, by show 1 + _ ≤ 2; omega⟩, h1, h2⟩, ?_⟩
  have w0 : IntKind.i64.wrap v = v := wrap_small (by omega) (by omega)
  have w1 : IntKind.i64.wrap a = a := wrap_small (by omega) (by omega)
  have w2 : IntKind.i64.wrap j = j := wrap_small (by omega) (by omega)
  have w3 : IntKind.i64.wrap (v.tmod 8) = v.tmod 8 := wrap_small (by omega) (by omega)
  have w4 : IntKind.i64.wrap (a.tmod 4) = a.tmod 4 := wrap_small (by omega) (by omega)
  have w5 : IntKind.i64.wrap (j.tmod 2) = j.tmod 2 := wrap_small (by omega) (by omega)
  have w6 : IntKind.i64.wrap (1 + v.tmod 8) = 1 + v.tmod 8 := wrap_small (by omega) (by omega)
  have w7 : IntKind.i64.wrap (1 + a.tmod 4) = 1 + a.tmod 4 := wrap_small (by omega) (by omega)
  have w8 : IntKind.i64.wrap (1 + j.tmod 2) = 1 + j.tmod 2 := wrap_small (by omega) (by omega)
  rw [pc_eq]; simp +contextual -implicitDefEqProofs (maxSteps := 2000000) only [go_sem, ↓reduceIte, Nat.reduceAdd, Nat.reduceMul, Nat.reduceSub, Nat.reduceEqDiff, Nat.reduceLeDiff, Nat.reduceDiv, Nat.reduceMod, Nat.reduceBEq, Nat.reduceBNe, reduceCtorEq, Int.reduceLE, Int.reduceLT, Int.reduceToNat, Int.reduceNeg, Nat.reduceLT, Int.reduceEq, Int.reduceSub, Int.reduceAdd, Int.reduceMul, Nat.reducePow, Int.reduceBEq, Int.reduceBNe, Int.reduceMod, E_5, A5, lmc, w0, w1, w2, w3, w4, w5, w6, w7, w8]
end Go.Proofs.Ytcdpfcdlnbbegaa

namespace Go.Proofs.Ytcdpfcdlnbbegaa
set_option maxRecDepth 100000
set_option maxHeartbeats 4000000
set_option linter.unusedSimpArgs false
set_option linter.unusedVariables false
open Go Go.Zv
open Go.Geo (c1)
open Go.Mt
theorem Sm_ok {L : Lm} (H : LOk L) {m : Mo} (h : okB L m = true) : Sm m := by
  obtain ⟨h1, h2, h3⟩ := ok_iff.1 h
  have hV := H.V
  have hA := H.A
  have hD := H.D
  exact ⟨⟨by omega, by omega⟩, ⟨by omega, by omega⟩, by omega, by omega⟩
theorem c15t {L : Lm} (H : LOk L) {m : Mo} (h : okB L m = true) : pc E 15 [.agg [.int .i64 L.V, .int .i64 L.A, .int .i64 L.J, .int .i64 L.D], .agg [.int .i64 m.p, .int .i64 m.v, .int .i64 m.a]] = some (.tup [.int .i64 ((ix L m : Nat) : Int), .bool true]) := by
  have := c15 L H m
  rw [h, if_pos rfl, ← ix_cast H h] at this
  exact this
theorem c15f {L : Lm} (H : LOk L) {m : Mo} (h : okB L m = false) : pc E 15 [.agg [.int .i64 L.V, .int .i64 L.A, .int .i64 L.J, .int .i64 L.D], .agg [.int .i64 m.p, .int .i64 m.v, .int .i64 m.a]] = some (.tup [.int .i64 0, .bool false]) := by
  have := c15 L H m
  rw [h, if_neg (by decide)] at this
  exact this
theorem get_g {L : Lm} (H : LOk L) {t : List Int} (hN : t.length = (many L).toNat) {m : Mo} (h : okB L m = true) : (t.map c1)[ix L m]? = some [.int .i64 (g L t m)] := by
  have hk : ix L m < t.length := by rw [hN]; exact ix_lt H h
  refine get_c1 ?_
  unfold g
  rw [List.getD_eq_getElem?_getD, List.getElem?_eq_getElem hk]; rfl

theorem stp_no (L : Lm) (H : LOk L) (N k n : Nat) (t : List Int) (by_ : Int) (m : Mo) (z : List Mo) (hN : (many L).toNat = N) (hm : okB L m = true) (ht : t.length = (many L).toNat) (hby : Rg L by_) (hy : by_ ≤ L.J) (hw : okB L (pv m by_) = false) : (K E A14_L0 ⟨[(1, .ptr 256 0), (3, .bs 4608 0 N), (4, .fn (Fn.func 15) [.agg [.int .i64 L.V, .int .i64 L.A, .int .i64 L.J, .int .i64 L.D]] []), (8, .bs 8704 k n), (9, .ptr 2304 0), (10, .int .i64 ((ix L m : Nat) : Int)), (12, .int .i64 by_)], [], [(2304, .box [.int .i64 m.p, .int .i64 m.v, .int .i64 m.a]), (8704, .row 3 (z.map moc)), (4608, .row 1 (t.map c1)), (512, .row 1 []), (256, .box [.int .i64 L.V, .int .i64 L.A, .int .i64 L.J, .int .i64 L.D])], 0⟩).bind (blockR 2 (some [1, 3, 4, 8]) [12, 13, 14, 15, 62, 66, 91]) = (K E A14_L0 ⟨[(1, .ptr 256 0), (3, .bs 4608 0 N), (4, .fn (Fn.func 15) [.agg [.int .i64 L.V, .int .i64 L.A, .int .i64 L.J, .int .i64 L.D]] []), (8, .bs 8704 k n), (9, .ptr 2304 0), (10, .int .i64 ((ix L m : Nat) : Int)), (12, .int .i64 (by_ + 1))], [], [(2304, .box [.int .i64 m.p, .int .i64 m.v, .int .i64 m.a]), (8704, .row 3 (z.map moc)), (4608, .row 1 (t.map c1)), (512, .row 1 []), (256, .box [.int .i64 L.V, .int .i64 L.A, .int .i64 L.J, .int .i64 L.D])], 0⟩).bind (blockR 2 (some [1, 3, 4, 8]) [12, 13, 14, 15, 62, 66, 91]) := by
  have hJ := H.J
  have hb10 : -10 ≤ by_ ∧ by_ ≤ 10 := by unfold Rg at hby; omega
  have hy2 : IntKind.i64.wrap (by_ + 1) = by_ + 1 := wrap_small (by omega) (by omega)
  have h26 := c26 m by_ (Sm_ok H hm) hb10
  simp only [moc] at h26
  have h15 := c15f H hw
  conv => lhs; rw [A14_L0_eq]
  simp +contextual -implicitDefEqProofs (maxSteps := 2000000) only [go_sem, ↓reduceIte, Nat.reduceAdd, Nat.reduceMul, Nat.reduceSub, Nat.reduceEqDiff, Nat.reduceLeDiff, Nat.reduceDiv, Nat.reduceMod, Nat.reduceBEq, Nat.reduceBNe, reduceCtorEq, Int.reduceLE, Int.reduceLT, Int.reduceToNat, Int.reduceNeg, Nat.reduceLT, Int.reduceEq, Int.reduceSub, Int.reduceAdd, Int.reduceMul, Nat.reducePow, Int.reduceBEq, Int.reduceBNe, Int.reduceMod, A14_L0b, hy, hy2, h26, h15, moc]
theorem stp_old (L : Lm) (H : LOk L) (N k n : Nat) (t : List Int) (by_ : Int) (m : Mo) (z : List Mo) (hN : (many L).toNat = N) (hm : okB L m = true) (ht : t.length = (many L).toNat) (hby : Rg L by_) (hy : by_ ≤ L.J) (hw : okB L (pv m by_) = true) (hg : 0 < g L t (pv m by_)) : (K E A14_L0 ⟨[(1, .ptr 256 0), (3, .bs 4608 0 N), (4, .fn (Fn.func 15) [.agg [.int .i64 L.V, .int .i64 L.A, .int .i64 L.J, .int .i64 L.D]] []), (8, .bs 8704 k n), (9, .ptr 2304 0), (10, .int .i64 ((ix L m : Nat) : Int)), (12, .int .i64 by_)], [], [(2304, .box [.int .i64 m.p, .int .i64 m.v, .int .i64 m.a]), (8704, .row 3 (z.map moc)), (4608, .row 1 (t.map c1)), (512, .row 1 []), (256, .box [.int .i64 L.V, .int .i64 L.A, .int .i64 L.J, .int .i64 L.D])], 0⟩).bind (blockR 2 (some [1, 3, 4, 8]) [12, 13, 14, 15, 62, 66, 91]) = (K E A14_L0 ⟨[(1, .ptr 256 0), (3, .bs 4608 0 N), (4, .fn (Fn.func 15) [.agg [.int .i64 L.V, .int .i64 L.A, .int .i64 L.J, .int .i64 L.D]] []), (8, .bs 8704 k n), (9, .ptr 2304 0), (10, .int .i64 ((ix L m : Nat) : Int)), (12, .int .i64 (by_ + 1))], [], [(2304, .box [.int .i64 m.p, .int .i64 m.v, .int .i64 m.a]), (8704, .row 3 (z.map moc)), (4608, .row 1 (t.map c1)), (512, .row 1 []), (256, .box [.int .i64 L.V, .int .i64 L.A, .int .i64 L.J, .int .i64 L.D])], 0⟩).bind (blockR 2 (some [1, 3, 4, 8]) [12, 13, 14, 15, 62, 66, 91]) := by
  have hJ := H.J
  have hb10 : -10 ≤ by_ ∧ by_ ≤ 10 := by unfold Rg at hby; omega
  have hy2 : IntKind.i64.wrap (by_ + 1) = by_ + 1 := wrap_small (by omega) (by omega)
  have h26 := c26 m by_ (Sm_ok H hm) hb10
  simp only [moc] at h26
  have h15 := c15t H hw
  have g1 := get_g H ht hw
  have l1 := ix_lt H hw
  have l1' : ((ix L (pv m by_) : Nat) : Int) < N := by omega
  have l0 : (0 : Int) ≤ ((ix L (pv m by_) : Nat) : Int) := by omega
  generalize ix L (pv m by_) = b at *
  generalize g L t (pv m by_) = v at *
  conv => lhs; rw [A14_L0_eq]
  simp +contextual -implicitDefEqProofs (maxSteps := 2000000) only [go_sem, ↓reduceIte, Nat.reduceAdd, Nat.reduceMul, Nat.reduceSub, Nat.reduceEqDiff, Nat.reduceLeDiff, Nat.reduceDiv, Nat.reduceMod, Nat.reduceBEq, Nat.reduceBNe, reduceCtorEq, Int.reduceLE, Int.reduceLT, Int.reduceToNat, Int.reduceNeg, Nat.reduceLT, Int.reduceEq, Int.reduceSub, Int.reduceAdd, Int.reduceMul, Nat.reducePow, Int.reduceBEq, Int.reduceBNe, Int.reduceMod, A14_L0b, hy, hy2, h26, h15, moc, g1, l1', l0, hg, gt_iff_lt]
theorem stp_new (L : Lm) (H : LOk L) (N k n : Nat) (t : List Int) (by_ : Int) (m : Mo) (z : List Mo) (hN : (many L).toNat = N) (hm : okB L m = true) (ht : t.length = (many L).toNat) (hby : Rg L by_) (hy : by_ ≤ L.J) (hw : okB L (pv m by_) = true) (hg : g L t (pv m by_) = 0) (hy0 : 0 ≤ g L t m ∧ g L t m ≤ 100000) (nz : pv m by_ ≠ zM) (hkn : k + n = z.length) (hz : z.length ≤ 100000) : (K E A14_L0 ⟨[(1, .ptr 256 0), (3, .bs 4608 0 N), (4, .fn (Fn.func 15) [.agg [.int .i64 L.V, .int .i64 L.A, .int .i64 L.J, .int .i64 L.D]] []), (8, .bs 8704 k n), (9, .ptr 2304 0), (10, .int .i64 ((ix L m : Nat) : Int)), (12, .int .i64 by_)], [], [(2304, .box [.int .i64 m.p, .int .i64 m.v, .int .i64 m.a]), (8704, .row 3 (z.map moc)), (4608, .row 1 (t.map c1)), (512, .row 1 []), (256, .box [.int .i64 L.V, .int .i64 L.A, .int .i64 L.J, .int .i64 L.D])], 0⟩).bind (blockR 2 (some [1, 3, 4, 8]) [12, 13, 14, 15, 62, 66, 91]) = (K E A14_L0 ⟨[(1, .ptr 256 0), (3, .bs 4608 0 N), (4, .fn (Fn.func 15) [.agg [.int .i64 L.V, .int .i64 L.A, .int .i64 L.J, .int .i64 L.D]] []), (8, .bs 8704 0 (n + 1)), (9, .ptr 2304 0), (10, .int .i64 ((ix L m : Nat) : Int)), (12, .int .i64 (by_ + 1))], [], [(2304, .box [.int .i64 m.p, .int .i64 m.v, .int .i64 m.a]), (8704, .row 3 ((z.drop k ++ [pv m by_]).map moc)), (4608, .row 1 ((t.set (ix L (pv m by_)) (g L t m + 1)).map c1)), (512, .row 1 []), (256, .box [.int .i64 L.V, .int .i64 L.A, .int .i64 L.J, .int .i64 L.D])], 0⟩).bind (blockR 2 (some [1, 3, 4, 8]) [12, 13, 14, 15, 62, 66, 91]) := by
  have hJ := H.J
  have hb10 : -10 ≤ by_ ∧ by_ ≤ 10 := by unfold Rg at hby; omega
  have hy2 : IntKind.i64.wrap (by_ + 1) = by_ + 1 := wrap_small (by omega) (by omega)
  have h26 := c26 m by_ (Sm_ok H hm) hb10
  simp only [moc] at h26
  have h15 := c15t H hw
  have g1 := get_g H ht hw
  have g2 := get_g H ht hm
  have l1 := ix_lt H hw
  have l1' : ((ix L (pv m by_) : Nat) : Int) < N := by omega
  have l0 : (0 : Int) ≤ ((ix L (pv m by_) : Nat) : Int) := by omega
  have l2 := ix_lt H hm
  have l2' : ((ix L m : Nat) : Int) < N := by omega
  have l3 : (0 : Int) ≤ ((ix L m : Nat) : Int) := by omega
  rw [hg] at g1
  have wy : IntKind.i64.wrap (g L t m + 1) = g L t m + 1 := wrap_small (by omega) (by omega)
  have ht' : t.length = N := by omega
  have nz' : (((pv m by_).p == 0) && (((pv m by_).v == 0) && ((pv m by_).a == 0))) = false := by
    cases h : (((pv m by_).p == 0) && (((pv m by_).v == 0) && ((pv m by_).a == 0))) with
    | false => rfl
    | true =>
      simp only [Bool.and_eq_true, beq_iff_eq] at h
      refine (nz ?_).elim
      obtain ⟨a1, a2, a3⟩ := h
      generalize pv m by_ = w at *
      obtain ⟨x, y, q⟩ := w
      simp only at a1 a2 a3
      rw [a1, a2, a3]; rfl
  have tk : List.take n (List.drop k (z.map moc)) ++ [[.int .i64 (pv m by_).p, .int .i64 (pv m by_).v, .int .i64 (pv m by_).a]] = (z.drop k ++ [pv m by_]).map moc := by
    rw [List.take_of_length_le (by rw [List.length_drop, List.length_map]; omega), List.map_append, List.map_drop]; rfl
  have al := all_m z
  have hle : k + n ≤ z.length := by omega
  have hn9 : n ≤ 999999999 := by omega
  generalize ix L (pv m by_) = b at *
  generalize ix L m = a at *
  generalize g L t m = y at *
  generalize pv m by_ = w at *
  conv => lhs; rw [A14_L0_eq]
  simp +contextual -implicitDefEqProofs (maxSteps := 2000000) only [go_sem, ↓reduceIte, Nat.reduceAdd, Nat.reduceMul, Nat.reduceSub, Nat.reduceEqDiff, Nat.reduceLeDiff, Nat.reduceDiv, Nat.reduceMod, Nat.reduceBEq, Nat.reduceBNe, reduceCtorEq, Int.reduceLE, Int.reduceLT, Int.reduceToNat, Int.reduceNeg, Nat.reduceLT, Int.reduceEq, Int.reduceSub, Int.reduceAdd, Int.reduceMul, Nat.reducePow, Int.reduceBEq, Int.reduceBNe, Int.reduceMod, A14_L0b, hy, hy2, h26, h15, moc, g1, g2, l1', l0, l2', l3, wy, nz', tk, hle, hn9, set_c1, ht', gt_iff_lt, List.length_map, Int.lt_irrefl, al]
theorem stp_end (L : Lm) (H : LOk L) (N k n : Nat) (t : List Int) (by_ : Int) (m : Mo) (z : List Mo) (hN : (many L).toNat = N) (hm : okB L m = true) (ht : t.length = (many L).toNat) (hby : Rg L by_) (hy : by_ ≤ L.J) (hw : okB L (pv m by_) = true) (hg : g L t (pv m by_) = 0) (hy0 : 0 ≤ g L t m ∧ g L t m ≤ 100000) (nz : pv m by_ = zM) : (K E A14_L0 ⟨[(1, .ptr 256 0), (3, .bs 4608 0 N), (4, .fn (Fn.func 15) [.agg [.int .i64 L.V, .int .i64 L.A, .int .i64 L.J, .int .i64 L.D]] []), (8, .bs 8704 k n), (9, .ptr 2304 0), (10, .int .i64 ((ix L m : Nat) : Int)), (12, .int .i64 by_)], [], [(2304, .box [.int .i64 m.p, .int .i64 m.v, .int .i64 m.a]), (8704, .row 3 (z.map moc)), (4608, .row 1 (t.map c1)), (512, .row 1 []), (256, .box [.int .i64 L.V, .int .i64 L.A, .int .i64 L.J, .int .i64 L.D])], 0⟩).bind (blockR 2 (some [1, 3, 4, 8]) [12, 13, 14, 15, 62, 66, 91]) = some (.ex (.exit 0) ⟨[(1, .ptr 256 0), (3, .bs 4608 0 N), (4, .fn (Fn.func 15) [.agg [.int .i64 L.V, .int .i64 L.A, .int .i64 L.J, .int .i64 L.D]] []), (8, .bs 8704 k n), (9, .ptr 2304 0), (10, .int .i64 ((ix L m : Nat) : Int)), (12, .int .i64 by_), (13, .ptr 3328 0), (88, .bool true)], [], [(3328, .box [.int .i64 zM.p, .int .i64 zM.v, .int .i64 zM.a]), (2304, .box [.int .i64 m.p, .int .i64 m.v, .int .i64 m.a]), (8704, .row 3 (z.map moc)), (4608, .row 1 ((t.set (ix L zM) (g L t m + 1)).map c1)), (512, .row 1 []), (256, .box [.int .i64 L.V, .int .i64 L.A, .int .i64 L.J, .int .i64 L.D])], 0⟩) := by
  have hJ := H.J
  have hb10 : -10 ≤ by_ ∧ by_ ≤ 10 := by unfold Rg at hby; omega
  have hy2 : IntKind.i64.wrap (by_ + 1) = by_ + 1 := wrap_small (by omega) (by omega)
  have h26 := c26 m by_ (Sm_ok H hm) hb10
  simp only [moc] at h26
  have h15 := c15t H hw
  have g1 := get_g H ht hw
  have g2 := get_g H ht hm
  have l1 := ix_lt H hw
  have l1' : ((ix L (pv m by_) : Nat) : Int) < N := by omega
  have l0 : (0 : Int) ≤ ((ix L (pv m by_) : Nat) : Int) := by omega
  have l2 := ix_lt H hm
  have l2' : ((ix L m : Nat) : Int) < N := by omega
  have l3 : (0 : Int) ≤ ((ix L m : Nat) : Int) := by omega
  rw [hg] at g1
  have wy : IntKind.i64.wrap (g L t m + 1) = g L t m + 1 := wrap_small (by omega) (by omega)
  have ht' : t.length = N := by omega
  rw [nz] at h26 h15 l1' l0 g1
  simp only [zM] at h26 h15
  have ez : (zM : Mo) = ⟨0, 0, 0⟩ := rfl
  rw [A14_L0_eq]
  generalize hb : ix L zM = b at *
  rw [ez] at hb
  generalize ix L m = a at *
  generalize g L t m = y at *
  simp +contextual -implicitDefEqProofs (maxSteps := 2000000) only [go_sem, ↓reduceIte, Nat.reduceAdd, Nat.reduceMul, Nat.reduceSub, Nat.reduceEqDiff, Nat.reduceLeDiff, Nat.reduceDiv, Nat.reduceMod, Nat.reduceBEq, Nat.reduceBNe, reduceCtorEq, Int.reduceLE, Int.reduceLT, Int.reduceToNat, Int.reduceNeg, Nat.reduceLT, Int.reduceEq, Int.reduceSub, Int.reduceAdd, Int.reduceMul, Nat.reducePow, Int.reduceBEq, Int.reduceBNe, Int.reduceMod, A14_L0b, hy, hy2, h26, h15, hb, ez, moc, g1, g2, l1', l0, l2', l3, wy, set_c1, ht', gt_iff_lt, List.length_map, Int.lt_irrefl]
theorem stp_stop (L : Lm) (N k n : Nat) (t : List Int) (by_ : Int) (m : Mo) (z : List Mo) (hy : ¬ by_ ≤ L.J) : (K E A14_L0 ⟨[(1, .ptr 256 0), (3, .bs 4608 0 N), (4, .fn (Fn.func 15) [.agg [.int .i64 L.V, .int .i64 L.A, .int .i64 L.J, .int .i64 L.D]] []), (8, .bs 8704 k n), (9, .ptr 2304 0), (10, .int .i64 ((ix L m : Nat) : Int)), (12, .int .i64 by_)], [], [(2304, .box [.int .i64 m.p, .int .i64 m.v, .int .i64 m.a]), (8704, .row 3 (z.map moc)), (4608, .row 1 (t.map c1)), (512, .row 1 []), (256, .box [.int .i64 L.V, .int .i64 L.A, .int .i64 L.J, .int .i64 L.D])], 0⟩).bind (blockR 2 (some [1, 3, 4, 8]) [12, 13, 14, 15, 62, 66, 91]) = some (.ex .nrm ⟨[(1, .ptr 256 0), (3, .bs 4608 0 N), (4, .fn (Fn.func 15) [.agg [.int .i64 L.V, .int .i64 L.A, .int .i64 L.J, .int .i64 L.D]] []), (8, .bs 8704 k n)], [], [(2304, .box [.int .i64 m.p, .int .i64 m.v, .int .i64 m.a]), (8704, .row 3 (z.map moc)), (4608, .row 1 (t.map c1)), (512, .row 1 []), (256, .box [.int .i64 L.V, .int .i64 L.A, .int .i64 L.J, .int .i64 L.D])], 0⟩) := by
  rw [A14_L0_eq]
  simp +contextual -implicitDefEqProofs (maxSteps := 2000000) only [go_sem, ↓reduceIte, Nat.reduceAdd, Nat.reduceMul, Nat.reduceSub, Nat.reduceEqDiff, Nat.reduceLeDiff, Nat.reduceDiv, Nat.reduceMod, Nat.reduceBEq, Nat.reduceBNe, reduceCtorEq, Int.reduceLE, Int.reduceLT, Int.reduceToNat, Int.reduceNeg, Nat.reduceLT, Int.reduceEq, Int.reduceSub, Int.reduceAdd, Int.reduceMul, Nat.reducePow, Int.reduceBEq, Int.reduceBNe, Int.reduceMod, A14_L0b, hy, moc]
end Go.Proofs.Ytcdpfcdlnbbegaa

namespace Go.Proofs.Ytcdpfcdlnbbegaa
set_option maxRecDepth 100000
set_option maxHeartbeats 4000000
set_option linter.unusedSimpArgs false
set_option linter.unusedVariables false
open Go Go.Zv
open Go.Geo (c1)
open Go.Mt
structure II (L : Lm) (m : Mo) (N C : Nat) (x : List Int × List Mo × Nat) : Prop where
  I : Inv L x.1 (x.2.1.drop x.2.2) fun y => y = m
  k : x.2.2 ≤ x.2.1.length
  z : x.2.1.length ≤ 100000
  c : zs x.1 + (x.2.1.drop x.2.2).length = C
  g : 0 < g L x.1 m
theorem inner (L : Lm) (H : LOk L) (N : Nat) (hN : (many L).toNat = N) (m : Mo) (hm : okB L m = true) (C : Nat) (hC : C ≤ 64414) (t : List Int) (z : List Mo) (k : Nat) (h0 : II L m N C (t, z, k)) :
    (∃ (t' : List Int) (z' : List Mo) (k' : Nat), (K E A14_L0 ⟨[(1, .ptr 256 0), (3, .bs 4608 0 N), (4, .fn (Fn.func 15) [.agg [.int .i64 L.V, .int .i64 L.A, .int .i64 L.J, .int .i64 L.D]] []), (8, .bs 8704 k (z.length - k)), (9, .ptr 2304 0), (10, .int .i64 ((ix L m : Nat) : Int)), (12, .int .i64 (-L.J))], [], [(2304, .box [.int .i64 m.p, .int .i64 m.v, .int .i64 m.a]), (8704, .row 3 (z.map moc)), (4608, .row 1 (t.map c1)), (512, .row 1 []), (256, .box [.int .i64 L.V, .int .i64 L.A, .int .i64 L.J, .int .i64 L.D])], 0⟩).bind (blockR 2 (some [1, 3, 4, 8]) [12, 13, 14, 15, 62, 66, 91]) = some (.ex .nrm ⟨[(1, .ptr 256 0), (3, .bs 4608 0 N), (4, .fn (Fn.func 15) [.agg [.int .i64 L.V, .int .i64 L.A, .int .i64 L.J, .int .i64 L.D]] []), (8, .bs 8704 k' (z'.length - k'))], [], [(2304, .box [.int .i64 m.p, .int .i64 m.v, .int .i64 m.a]), (8704, .row 3 (z'.map moc)), (4608, .row 1 (t'.map c1)), (512, .row 1 []), (256, .box [.int .i64 L.V, .int .i64 L.A, .int .i64 L.J, .int .i64 L.D])], 0⟩) ∧ Inv L t' (z'.drop k') (fun _ => False) ∧ k' ≤ z'.length ∧ z'.length ≤ 100000 ∧ zs t' + (z'.drop k').length = C) ∨
    (∃ (t' : List Int) (z' : List Mo) (k' : Nat) (b' : Int), (K E A14_L0 ⟨[(1, .ptr 256 0), (3, .bs 4608 0 N), (4, .fn (Fn.func 15) [.agg [.int .i64 L.V, .int .i64 L.A, .int .i64 L.J, .int .i64 L.D]] []), (8, .bs 8704 k (z.length - k)), (9, .ptr 2304 0), (10, .int .i64 ((ix L m : Nat) : Int)), (12, .int .i64 (-L.J))], [], [(2304, .box [.int .i64 m.p, .int .i64 m.v, .int .i64 m.a]), (8704, .row 3 (z.map moc)), (4608, .row 1 (t.map c1)), (512, .row 1 []), (256, .box [.int .i64 L.V, .int .i64 L.A, .int .i64 L.J, .int .i64 L.D])], 0⟩).bind (blockR 2 (some [1, 3, 4, 8]) [12, 13, 14, 15, 62, 66, 91]) = some (.ex (.exit 0) ⟨[(1, .ptr 256 0), (3, .bs 4608 0 N), (4, .fn (Fn.func 15) [.agg [.int .i64 L.V, .int .i64 L.A, .int .i64 L.J, .int .i64 L.D]] []), (8, .bs 8704 k' (z'.length - k')), (9, .ptr 2304 0), (10, .int .i64 ((ix L m : Nat) : Int)), (12, .int .i64 b'), (13, .ptr 3328 0), (88, .bool true)], [], [(3328, .box [.int .i64 zM.p, .int .i64 zM.v, .int .i64 zM.a]), (2304, .box [.int .i64 m.p, .int .i64 m.v, .int .i64 m.a]), (8704, .row 3 (z'.map moc)), (4608, .row 1 (t'.map c1)), (512, .row 1 []), (256, .box [.int .i64 L.V, .int .i64 L.A, .int .i64 L.J, .int .i64 L.D])], 0⟩) ∧ Tab L t') := by
  have hJ := H.J
  obtain ⟨nJ, hn⟩ : ∃ n : Nat, 2 * L.J + 1 = n := ⟨(2 * L.J + 1).toNat, by omega⟩
  have := loop_P (fun S => (K E A14_L0 S).bind (blockR 2 (some [1, 3, 4, 8]) [12, 13, 14, 15, 62, 66, 91]))
    (fun j (x : List Int × List Mo × Nat) => ⟨[(1, .ptr 256 0), (3, .bs 4608 0 N), (4, .fn (Fn.func 15) [.agg [.int .i64 L.V, .int .i64 L.A, .int .i64 L.J, .int .i64 L.D]] []), (8, .bs 8704 x.2.2 (x.2.1.length - x.2.2)), (9, .ptr 2304 0), (10, .int .i64 ((ix L m : Nat) : Int)), (12, .int .i64 (-L.J + (j : Int)))], [], [(2304, .box [.int .i64 m.p, .int .i64 m.v, .int .i64 m.a]), (8704, .row 3 (x.2.1.map moc)), (4608, .row 1 (x.1.map c1)), (512, .row 1 []), (256, .box [.int .i64 L.V, .int .i64 L.A, .int .i64 L.J, .int .i64 L.D])], 0⟩) nJ
    (fun j x => II L m N C x ∧ ∀ b, -L.J ≤ b → b < -L.J + j → okB L (pv m b) = true → 0 < g L x.1 (pv m b))
    (fun j x o => (∃ (t' : List Int) (z' : List Mo) (k' : Nat), o = some (.ex .nrm ⟨[(1, .ptr 256 0), (3, .bs 4608 0 N), (4, .fn (Fn.func 15) [.agg [.int .i64 L.V, .int .i64 L.A, .int .i64 L.J, .int .i64 L.D]] []), (8, .bs 8704 k' (z'.length - k'))], [], [(2304, .box [.int .i64 m.p, .int .i64 m.v, .int .i64 m.a]), (8704, .row 3 (z'.map moc)), (4608, .row 1 (t'.map c1)), (512, .row 1 []), (256, .box [.int .i64 L.V, .int .i64 L.A, .int .i64 L.J, .int .i64 L.D])], 0⟩) ∧ Inv L t' (z'.drop k') (fun _ => False) ∧ k' ≤ z'.length ∧ z'.length ≤ 100000 ∧ zs t' + (z'.drop k').length = C) ∨
    (∃ (t' : List Int) (z' : List Mo) (k' : Nat) (b' : Int), o = some (.ex (.exit 0) ⟨[(1, .ptr 256 0), (3, .bs 4608 0 N), (4, .fn (Fn.func 15) [.agg [.int .i64 L.V, .int .i64 L.A, .int .i64 L.J, .int .i64 L.D]] []), (8, .bs 8704 k' (z'.length - k')), (9, .ptr 2304 0), (10, .int .i64 ((ix L m : Nat) : Int)), (12, .int .i64 b'), (13, .ptr 3328 0), (88, .bool true)], [], [(3328, .box [.int .i64 zM.p, .int .i64 zM.v, .int .i64 zM.a]), (2304, .box [.int .i64 m.p, .int .i64 m.v, .int .i64 m.a]), (8704, .row 3 (z'.map moc)), (4608, .row 1 (t'.map c1)), (512, .row 1 []), (256, .box [.int .i64 L.V, .int .i64 L.A, .int .i64 L.J, .int .i64 L.D])], 0⟩) ∧ Tab L t'))
    (fun x hx => by
      obtain ⟨hi, ha⟩ := hx
      refine .inl ⟨x.1, x.2.1, x.2.2, stp_stop L N x.2.2 _ x.1 _ m x.2.1 (by omega), hi.I.shut (fun b hb ho => ha b hb.1 (by have := hb.2; omega) ho), hi.k, hi.z, hi.c⟩)
    (fun j x hj hx => by
      obtain ⟨t, z, k⟩ := x
      obtain ⟨hi, ha⟩ := hx
      have hI := hi.I
      have hk := hi.k
      have hz := hi.z
      have hc := hi.c
      have hg := hi.g
      simp only at hI hk hz hc hg ha
      have hby : Rg L (-L.J + (j : Int)) := ⟨by omega, by omega⟩
      have ej : -L.J + ((j + 1 : Nat) : Int) = -L.J + (j : Int) + 1 := by omega
      simp only [ej]
      have hbd := hI.bd (ix L m)
      have hgm : g L t m = t.getD (ix L m) 0 := rfl
      have hmb := many_bd H
      have hlen := hI.len
      generalize -L.J + (j : Int) = b at *
      by_cases hw : okB L (pv m b) = true
      · by_cases hg0 : 0 < g L t (pv m b)
        · refine .inr ⟨(t, z, k), ⟨hi, fun c h1 h2 h3 => ?_⟩, stp_old L H N k _ t b m z hN hm hI.len hby hby.2 hw hg0, fun o ho => ho⟩
          by_cases e : c = b
          · subst e; exact hg0
          · exact ha c h1 (by omega) h3
        · have hz0 : g L t (pv m b) = 0 := by
            have : 0 ≤ g L t (pv m b) := hI.nn _
            omega
          obtain ⟨m1, m2, m3, m4⟩ := hI.mark H hm hg hby hw hz0
          by_cases nz : pv m b = zM
          · refine .inl (.inr ⟨_, z, k, b, stp_end L H N k _ t b m z hN hm hI.len hby hby.2 hw hz0 ⟨by omega, by omega⟩ nz, ?_⟩)
            rw [nz] at m1 m3
            exact m1.tab (.inl (by rw [m3]; omega))
          · have e1 : z.length - k + 1 = (z.drop k ++ [pv m b]).length - 0 := by rw [List.length_append, List.length_drop]; simp
            have st := stp_new L H N k (z.length - k) t b m z hN hm hI.len hby hby.2 hw hz0 ⟨by omega, by omega⟩ nz (by omega) hz
            have hl2 : (z.drop k ++ [pv m b]).length ≤ 100000 := by
              rw [List.length_append, List.length_singleton]; omega
            rw [e1] at st
            refine .inr ⟨(t.set (ix L (pv m b)) (g L t m + 1), z.drop k ++ [pv m b], 0), ⟨⟨by simpa using m1, by simp, hl2, ?_, ?_⟩, fun c h1 h2 h3 => ?_⟩, st, fun o ho => ho⟩
            · simp only [List.drop_zero, List.length_append, List.length_singleton]; omega
            · simp only; rw [m2 m hg]; exact hg
            · simp only
              by_cases e : c = b
              · subst e; rw [m3]; omega
              · have := ha c h1 (by omega) h3
                rw [m2 _ this]; exact this
      · have hw' : okB L (pv m b) = false := by simpa using hw
        refine .inr ⟨(t, z, k), ⟨hi, fun c h1 h2 h3 => ?_⟩, stp_no L H N k _ t b m z hN hm hI.len hby hby.2 hw', fun o ho => ho⟩
        by_cases e : c = b
        · subst e; rw [hw'] at h3; cases h3
        · exact ha c h1 (by omega) h3) 0 (t, z, k) (by omega) ⟨h0, fun b h1 h2 => by omega⟩
  simpa using this

end Go.Proofs.Ytcdpfcdlnbbegaa

namespace Go.Proofs.Ytcdpfcdlnbbegaa
set_option maxRecDepth 100000
set_option maxHeartbeats 4000000
set_option linter.unusedSimpArgs false
set_option linter.unusedVariables false
open Go Go.Zv
open Go.Geo (c1)
open Go.Mt
theorem outer (L : Lm) (H : LOk L) (N : Nat) (hN : (many L).toNat = N) : ∀ (μ : Nat) (t : List Int) (z : List Mo) (k : Nat), Inv L t (z.drop k) (fun _ => False) → k ≤ z.length → z.length ≤ 100000 → zs t + (z.drop k).length = μ → μ ≤ 64414 →
    ∃ (t' : List Int) (z' : List Mo), Tab L t' ∧ (K E A14_L1 ⟨[(1, .ptr 256 0), (3, .bs 4608 0 N), (4, .fn (Fn.func 15) [.agg [.int .i64 L.V, .int .i64 L.A, .int .i64 L.J, .int .i64 L.D]] []), (8, .bs 8704 k (z.length - k))], [], [(8704, .row 3 (z.map moc)), (4608, .row 1 (t.map c1)), (512, .row 1 []), (256, .box [.int .i64 L.V, .int .i64 L.A, .int .i64 L.J, .int .i64 L.D])], 0⟩).bind (blockR 0 (some [3]) [8, 9, 10, 11, 12, 13, 14, 15, 46, 62, 66, 91, 92]) = some (.ex .nrm ⟨[(3, .bs 4608 0 N)], [], [(8704, .row 3 (z'.map moc)), (4608, .row 1 (t'.map c1)), (512, .row 1 []), (256, .box [.int .i64 L.V, .int .i64 L.A, .int .i64 L.J, .int .i64 L.D])], 0⟩) := by
  intro μ
  induction μ with
  | zero =>
    intro t z k hI hk hz hc hm
    have e : z.drop k = [] := by
      apply List.eq_nil_of_length_eq_zero; omega
    have e0 : z.length - k = 0 := by rw [← List.length_drop, e]; rfl
    rw [e] at hI
    refine ⟨t, z, hI.tab (.inr ⟨rfl, fun x h => h⟩), ?_⟩
    rw [A14_L1_eq]
    simp +contextual -implicitDefEqProofs (maxSteps := 2000000) only [go_sem, ↓reduceIte, Nat.reduceAdd, Nat.reduceMul, Nat.reduceSub, Nat.reduceEqDiff, Nat.reduceLeDiff, Nat.reduceDiv, Nat.reduceMod, Nat.reduceBEq, Nat.reduceBNe, reduceCtorEq, Int.reduceLE, Int.reduceLT, Int.reduceToNat, Int.reduceNeg, Nat.reduceLT, Int.reduceEq, Int.reduceSub, Int.reduceAdd, Int.reduceMul, Nat.reducePow, Int.reduceBEq, Int.reduceBNe, Int.reduceMod, A14_L1b, e0]
  | succ μ ih =>
    intro t z k hI hk hz hc hm
    cases hd : z.drop k with
    | nil =>
      rw [hd] at hI
      have e0 : z.length - k = 0 := by rw [← List.length_drop, hd]; rfl
      refine ⟨t, z, hI.tab (.inr ⟨rfl, fun x h => h⟩), ?_⟩
      rw [A14_L1_eq]
      simp +contextual -implicitDefEqProofs (maxSteps := 2000000) only [go_sem, ↓reduceIte, Nat.reduceAdd, Nat.reduceMul, Nat.reduceSub, Nat.reduceEqDiff, Nat.reduceLeDiff, Nat.reduceDiv, Nat.reduceMod, Nat.reduceBEq, Nat.reduceBNe, reduceCtorEq, Int.reduceLE, Int.reduceLT, Int.reduceToNat, Int.reduceNeg, Nat.reduceLT, Int.reduceEq, Int.reduceSub, Int.reduceAdd, Int.reduceMul, Nat.reducePow, Int.reduceBEq, Int.reduceBNe, Int.reduceMod, A14_L1b, e0]
    | cons m row =>
      have hlen : z.length - k = row.length + 1 := by rw [← List.length_drop, hd]; rfl
      have hget : z[k]? = some m := by
        have := List.getElem?_drop (xs := z) (i := k) (j := 0)
        rw [hd] at this; simpa using this.symm
      have hd1 : z.drop (k + 1) = row := by
        rw [show k + 1 = k + 1 from rfl, ← List.drop_drop, hd]; rfl
      rw [hd] at hI hc
      obtain ⟨hm1, hm2⟩ := hI.rw_ m (by simp)
      rw [List.length_cons] at hc
      have inn := inner L H N hN m hm1 μ (by omega) t z (k + 1) ⟨by simp only; rw [hd1]; exact hI.pop, by simp only; omega, hz, by simp only; rw [hd1]; omega, hm2⟩
      have hg := get_m hget
      have h15 := c15t H hm1
      have hJ := H.J
      have u1 : IntKind.i64.wrap (0 - L.J) = -L.J := by rw [Int.zero_sub]; exact wrap_small (by omega) (by omega)
      have al := all_m z
      have h1 : 0 < z.length - k := by omega
      have h1' : 0 < ((z.length - k : Nat) : Int) := by omega
      have h3 : 1 ≤ z.length - k := by omega
      have h3' : 1 ≤ ((z.length - k : Nat) : Int) := by omega
      have hs : z.length - k - 1 = z.length - (k + 1) := by omega
      clear hlen hd hd1
      rcases inn with ⟨t', z', k', i1, i2, i3, i4, i5⟩ | ⟨t', z', k', b', i1, i2⟩
      · obtain ⟨t'', z'', T, i6⟩ := ih t' z' k' i2 i3 i4 i5 (by omega)
        refine ⟨t'', z'', T, ?_⟩
        rw [A14_L1_eq]
        generalize ix L m = a at *
        simp +contextual -implicitDefEqProofs (maxSteps := 2000000) only [go_sem, ↓reduceIte, Nat.reduceAdd, Nat.reduceMul, Nat.reduceSub, Nat.reduceEqDiff, Nat.reduceLeDiff, Nat.reduceDiv, Nat.reduceMod, Nat.reduceBEq, Nat.reduceBNe, reduceCtorEq, Int.reduceLE, Int.reduceLT, Int.reduceToNat, Int.reduceNeg, Nat.reduceLT, Int.reduceEq, Int.reduceSub, Int.reduceAdd, Int.reduceMul, Nat.reducePow, Int.reduceBEq, Int.reduceBNe, Int.reduceMod, A14_L1b, h1, h1', h3, h3', hg, h15, moc, u1, List.length_map, gt_iff_lt, al, hs, i1, i6]
      · refine ⟨t', z', i2, ?_⟩
        rw [A14_L1_eq]
        generalize ix L m = a at *
        simp +contextual -implicitDefEqProofs (maxSteps := 2000000) only [go_sem, ↓reduceIte, Nat.reduceAdd, Nat.reduceMul, Nat.reduceSub, Nat.reduceEqDiff, Nat.reduceLeDiff, Nat.reduceDiv, Nat.reduceMod, Nat.reduceBEq, Nat.reduceBNe, reduceCtorEq, Int.reduceLE, Int.reduceLT, Int.reduceToNat, Int.reduceNeg, Nat.reduceLT, Int.reduceEq, Int.reduceSub, Int.reduceAdd, Int.reduceMul, Nat.reducePow, Int.reduceBEq, Int.reduceBNe, Int.reduceMod, A14_L1b, h1, h1', h3, h3', hg, h15, moc, u1, List.length_map, gt_iff_lt, al, hs, i1]
theorem c14 (L : Lm) (H : LOk L) : ∃ t : List Int, Tab L t ∧ pc E 14 [.agg (spc L)] = some (.os 1 (t.map c1)) := by
  have h25 := c25 L H
  have hmb := many_bd H
  have hi := idx_nn H (ok_end H)
  have h15 := c15t H (ok_end H)
  have hia := ix_cast H (ok_end H)
  obtain ⟨N, hN⟩ : ∃ N : Nat, many L = N := ⟨(many L).toNat, by omega⟩
  have hN' : (many L).toNat = N := by omega
  have ht : (List.replicate N (0 : Int)).set (ix L (endM L)) 1 = tab0 L := by unfold tab0; rw [hN']
  have htl : (tab0 L).length = N := by rw [← ht]; simp
  have hz : zs (tab0 L) ≤ N := by
    unfold zs
    have := List.countP_le_length (p := fun n : Int => decide (n = 0)) (l := tab0 L)
    omega
  rw [← hia, hN] at hi
  rw [hN] at h25 hmb
  obtain ⟨t, zz, T, out⟩ := outer L H N hN' (zs (tab0 L) + 1) (tab0 L) [endM L] 0 (inv0 H) (by simp) (by simp) (by simp) (by omega)
  have hT := T.len
  rw [hN'] at hT
  refine ⟨t, T, ?_⟩
  have er : List.replicate N [LV.int .i64 0] = (List.replicate N (0 : Int)).map c1 := by simp [c1]
  have gr : ((List.replicate N (0 : Int)).map c1)[ix L (endM L)]? = some [.int .i64 0] := get_c1 (by rw [List.getElem?_replicate, if_pos (by omega)])
  simp only [moc, spc, endM] at h15 h25
  simp only [List.map_cons, List.map_nil, moc, endM, List.length_singleton] at out ht gr hi
  obtain ⟨hm1, hm2⟩ := hmb
  obtain ⟨hi1, hi2⟩ := hi
  have hm3 : (N : Int) ≤ 1000000000 := by omega
  have hle := Int.le_refl (N : Int)
  have al := all_c1 t
  have tk : List.take N (t.map c1) = t.map c1 := List.take_of_length_le (by rw [List.length_map]; omega)
  generalize ix L ⟨L.D, 0, 0⟩ = a at *
  rw [pc_eq]; simp +contextual -implicitDefEqProofs (maxSteps := 2000000) only [go_sem, ↓reduceIte, Nat.reduceAdd, Nat.reduceMul, Nat.reduceSub, Nat.reduceEqDiff, Nat.reduceLeDiff, Nat.reduceDiv, Nat.reduceMod, Nat.reduceBEq, Nat.reduceBNe, reduceCtorEq, Int.reduceLE, Int.reduceLT, Int.reduceToNat, Int.reduceNeg, Nat.reduceLT, Int.reduceEq, Int.reduceSub, Int.reduceAdd, Int.reduceMul, Nat.reducePow, Int.reduceBEq, Int.reduceBNe, Int.reduceMod, E_14, A14, spc, h25, h15, hm1, hm3, hi1, hi2, er, gr, set_c1, ht, htl, hle, List.length_replicate, out, hT, al, tk, List.length_map]

end Go.Proofs.Ytcdpfcdlnbbegaa

namespace Go.Proofs.Ytcdpfcdlnbbegaa
set_option maxRecDepth 100000
set_option maxHeartbeats 4000000
set_option linter.unusedSimpArgs false
set_option linter.unusedVariables false
open Go Go.Zv
open Go.Geo (c1)
open Go.Mt
theorem c7one (L : Lm) (H : LOk L) (m : Mo) (hm : okB L m = true) (b : Int) (hb : -10 ≤ b ∧ b ≤ 10) : pc E 7 [.agg [.int .i64 m.p, .int .i64 m.v, .int .i64 m.a], .vs [[.int .i64 b]]] = some (.agg [.int .i64 (nx m b).p, .int .i64 (nx m b).v, .int .i64 (nx m b).a]) := by
  obtain ⟨h1, h2, h3⟩ := ok_iff.1 hm
  have hV := H.V
  have hA := H.A
  have hD := H.D
  exact c7 m [b] (by simp) (fun k hk => by
    have : k = 0 ∨ k = 1 := by simp at hk; omega
    rcases this with rfl | rfl
    · exact Sm_ok H hm
    · show Sm (nx m b)
      unfold Sm nx
      refine ⟨⟨?_, ?_⟩, ⟨?_, ?_⟩, ?_, ?_⟩ <;> simp only <;> omega) (fun c hc => by rw [List.mem_singleton] at hc; subst hc; exact hb)
def hit (L : Lm) (t : List Int) (m : Mo) (b : Int) : Prop := okB L (nx m b) = true ∧ g L t (nx m b) = g L t m - 1
theorem pstep (L : Lm) (H : LOk L) (N : Nat) (hN : (many L).toNat = N) (t : List Int) (T : Tab L t) (m : Mo) (hm : okB L m = true) (hg : 1 < g L t m) (l : List Int) (hl : l.length ≤ 100000) :
    ∃ b, Rg L b ∧ hit L t m b ∧ (K E A6_L0 ⟨[(2, .ptr 512 0), (6, .ptr 1536 0), (7, .bs 7936 0 N), (8, .ptr 2048 0), (9, .int .i64 ((ix L m : Nat) : Int)), (11, .bs 2816 0 l.length), (12, .int .i64 (-L.J))], [], [(2816, .row 1 (l.map c1)), (2048, .box [.int .i64 m.p, .int .i64 m.v, .int .i64 m.a]), (7936, .row 1 (t.map c1)), (1536, .box [.int .i64 L.V, .int .i64 L.A, .int .i64 L.J, .int .i64 L.D]), (1024, .row 1 []), (512, .box [.int .i64 L.V, .int .i64 L.A, .int .i64 L.J])], 0⟩).bind (blockR 2 (some [2, 6, 7, 8, 9, 11]) [12, 13, 15, 59, 60, 82]) = some (.ex .nrm ⟨[(2, .ptr 512 0), (6, .ptr 1536 0), (7, .bs 7936 0 N), (8, .ptr 2048 0), (9, .int .i64 ((ix L (nx m b) : Nat) : Int)), (11, .bs 2816 0 (l ++ [b]).length)], [], [(2816, .row 1 ((l ++ [b]).map c1)), (2048, .box [.int .i64 (nx m b).p, .int .i64 (nx m b).v, .int .i64 (nx m b).a]), (7936, .row 1 (t.map c1)), (1536, .box [.int .i64 L.V, .int .i64 L.A, .int .i64 L.J, .int .i64 L.D]), (1024, .row 1 []), (512, .box [.int .i64 L.V, .int .i64 L.A, .int .i64 L.J])], 0⟩) := by
  have hJ := H.J
  obtain ⟨nJ, hn⟩ : ∃ n : Nat, 2 * L.J + 1 = n := ⟨(2 * L.J + 1).toNat, by omega⟩
  have hT : t.length = N := by rw [T.len, hN]
  have hbd := T.bd (ix L m)
  have hgm : g L t m = t.getD (ix L m) 0 := rfl
  have hmb := many_bd H
  have := loop_P (σ := Unit) (fun S => (K E A6_L0 S).bind (blockR 2 (some [2, 6, 7, 8, 9, 11]) [12, 13, 15, 59, 60, 82])) (fun j _ => ⟨[(2, .ptr 512 0), (6, .ptr 1536 0), (7, .bs 7936 0 N), (8, .ptr 2048 0), (9, .int .i64 ((ix L m : Nat) : Int)), (11, .bs 2816 0 l.length), (12, .int .i64 (-L.J + (j : Int)))], [], [(2816, .row 1 (l.map c1)), (2048, .box [.int .i64 m.p, .int .i64 m.v, .int .i64 m.a]), (7936, .row 1 (t.map c1)), (1536, .box [.int .i64 L.V, .int .i64 L.A, .int .i64 L.J, .int .i64 L.D]), (1024, .row 1 []), (512, .box [.int .i64 L.V, .int .i64 L.A, .int .i64 L.J])], 0⟩) nJ
    (fun j _ => ∀ c, -L.J ≤ c → c < -L.J + j → ¬ hit L t m c)
    (fun j _ o => ∃ b, Rg L b ∧ hit L t m b ∧ o = some (.ex .nrm ⟨[(2, .ptr 512 0), (6, .ptr 1536 0), (7, .bs 7936 0 N), (8, .ptr 2048 0), (9, .int .i64 ((ix L (nx m b) : Nat) : Int)), (11, .bs 2816 0 (l ++ [b]).length)], [], [(2816, .row 1 ((l ++ [b]).map c1)), (2048, .box [.int .i64 (nx m b).p, .int .i64 (nx m b).v, .int .i64 (nx m b).a]), (7936, .row 1 (t.map c1)), (1536, .box [.int .i64 L.V, .int .i64 L.A, .int .i64 L.J, .int .i64 L.D]), (1024, .row 1 []), (512, .box [.int .i64 L.V, .int .i64 L.A, .int .i64 L.J])], 0⟩))
    (fun _ hx => by
      obtain ⟨b, h1, h2, h3⟩ := T.step H hm hg
      exact (hx b h1.1 (by have := h1.2; omega) ⟨h2, h3⟩).elim)
    (fun j _ hj hx => by
      have hby : Rg L (-L.J + (j : Int)) := ⟨by omega, by omega⟩
      have ej : -L.J + ((j + 1 : Nat) : Int) = -L.J + (j : Int) + 1 := by omega
      simp only [ej]
      generalize -L.J + (j : Int) = b at *
      have hy := hby.2
      have hb10 : -10 ≤ b ∧ b ≤ 10 := by unfold Rg at hby; omega
      have hy2 : IntKind.i64.wrap (b + 1) = b + 1 := wrap_small (by omega) (by omega)
      have h7 := c7one L H m hm b hb10
      have ga := get_g H T.len hm
      have a1 := ix_lt H hm
      have a1' : ((ix L m : Nat) : Int) < N := by omega
      have a0 : (0 : Int) ≤ ((ix L m : Nat) : Int) := by omega
      have wy : IntKind.i64.wrap (g L t m - 1) = g L t m - 1 := wrap_small (by omega) (by omega)
      have nxt : ¬ hit L t m b → ∀ c, -L.J ≤ c → c < b + 1 → ¬ hit L t m c := fun hh c h1 h2 => by
        by_cases e : c = b
        · subst e; exact hh
        · exact hx c h1 (by omega)
      by_cases hw : okB L (nx m b) = true
      · have h15 := c15t H hw
        have gb := get_g H T.len hw
        have b1 := ix_lt H hw
        have b1' : ((ix L (nx m b) : Nat) : Int) < N := by omega
        have b0 : (0 : Int) ≤ ((ix L (nx m b) : Nat) : Int) := by omega
        by_cases he : g L t (nx m b) = g L t m - 1
        · refine .inl ⟨b, hby, ⟨hw, he⟩, ?_⟩
          rw [he] at gb
          have hn9 : l.length ≤ 999999999 := by omega
          have al := all_c1 l
          have tk : List.take l.length (l.map c1) = l.map c1 := List.take_of_length_le (by simp)
          have ap : l.map c1 ++ [[LV.int .i64 b]] = (l ++ [b]).map c1 := by simp [c1]
          show (K E A6_L0 _).bind _ = _
          rw [A6_L0_eq]
          generalize ix L (nx m b) = bi at *
          generalize ix L m = ai at *
          generalize g L t m = y at *
          simp +contextual -implicitDefEqProofs (maxSteps := 2000000) only [go_sem, ↓reduceIte, Nat.reduceAdd, Nat.reduceMul, Nat.reduceSub, Nat.reduceEqDiff, Nat.reduceLeDiff, Nat.reduceDiv, Nat.reduceMod, Nat.reduceBEq, Nat.reduceBNe, reduceCtorEq, Int.reduceLE, Int.reduceLT, Int.reduceToNat, Int.reduceNeg, Nat.reduceLT, Int.reduceEq, Int.reduceSub, Int.reduceAdd, Int.reduceMul, Nat.reducePow, Int.reduceBEq, Int.reduceBNe, Int.reduceMod, A6_L0b, hy, hy2, h7, h15, hT, List.length_map, ga, gb, a0, b0, a1', b1', wy, hn9, al, tk, ap, List.length_append, List.length_singleton]
        · refine .inr ⟨(), nxt fun h => he h.2, ?_, fun o ho => ho⟩
          show (K E A6_L0 _).bind _ = (K E A6_L0 _).bind _
          conv => lhs; rw [A6_L0_eq]
          generalize ix L (nx m b) = bi at *
          generalize ix L m = ai at *
          generalize g L t (nx m b) = v at *
          generalize g L t m = y at *
          simp +contextual -implicitDefEqProofs (maxSteps := 2000000) only [go_sem, ↓reduceIte, Nat.reduceAdd, Nat.reduceMul, Nat.reduceSub, Nat.reduceEqDiff, Nat.reduceLeDiff, Nat.reduceDiv, Nat.reduceMod, Nat.reduceBEq, Nat.reduceBNe, reduceCtorEq, Int.reduceLE, Int.reduceLT, Int.reduceToNat, Int.reduceNeg, Nat.reduceLT, Int.reduceEq, Int.reduceSub, Int.reduceAdd, Int.reduceMul, Nat.reducePow, Int.reduceBEq, Int.reduceBNe, Int.reduceMod, A6_L0b, hy, hy2, h7, h15, hT, List.length_map, ga, gb, a0, b0, a1', b1', wy, he]
      · have hw' : okB L (nx m b) = false := by simpa using hw
        have h15 := c15f H hw'
        refine .inr ⟨(), nxt fun h => hw h.1, ?_, fun o ho => ho⟩
        show (K E A6_L0 _).bind _ = (K E A6_L0 _).bind _
        conv => lhs; rw [A6_L0_eq]
        generalize ix L m = ai at *
        simp +contextual -implicitDefEqProofs (maxSteps := 2000000) only [go_sem, ↓reduceIte, Nat.reduceAdd, Nat.reduceMul, Nat.reduceSub, Nat.reduceEqDiff, Nat.reduceLeDiff, Nat.reduceDiv, Nat.reduceMod, Nat.reduceBEq, Nat.reduceBNe, reduceCtorEq, Int.reduceLE, Int.reduceLT, Int.reduceToNat, Int.reduceNeg, Nat.reduceLT, Int.reduceEq, Int.reduceSub, Int.reduceAdd, Int.reduceMul, Nat.reducePow, Int.reduceBEq, Int.reduceBNe, Int.reduceMod, A6_L0b, hy, hy2, h7, h15, hT, List.length_map]) 0 () (by omega) (fun c h1 h2 => by omega)
  simpa using this

theorem plan (L : Lm) (H : LOk L) (N : Nat) (hN : (many L).toNat = N) (t : List Int) (T : Tab L t) : ∀ (μ : Nat) (l : List Int), Mt.Way L zM l → 0 < g L t (plays zM l) → (g L t (plays zM l)).toNat = μ + 1 → l.length + μ ≤ 70000 →
    ∃ l', Mt.Way L zM l' ∧ plays zM l' = endM L ∧ l'.length ≤ 70000 ∧ (K E A6_L1 ⟨[(2, .ptr 512 0), (6, .ptr 1536 0), (7, .bs 7936 0 N), (8, .ptr 2048 0), (9, .int .i64 ((ix L (plays zM l) : Nat) : Int)), (11, .bs 2816 0 l.length)], [], [(2816, .row 1 (l.map c1)), (2048, .box [.int .i64 (plays zM l).p, .int .i64 (plays zM l).v, .int .i64 (plays zM l).a]), (7936, .row 1 (t.map c1)), (1536, .box [.int .i64 L.V, .int .i64 L.A, .int .i64 L.J, .int .i64 L.D]), (1024, .row 1 []), (512, .box [.int .i64 L.V, .int .i64 L.A, .int .i64 L.J])], 0⟩).bind (blockR 0 (some [11]) [9, 12, 13, 14, 15, 59, 60, 64, 82]) = some (.ex .nrm ⟨[(11, .bs 2816 0 l'.length)], [], [(2816, .row 1 (l'.map c1)), (2048, .box [.int .i64 (endM L).p, .int .i64 (endM L).v, .int .i64 (endM L).a]), (7936, .row 1 (t.map c1)), (1536, .box [.int .i64 L.V, .int .i64 L.A, .int .i64 L.J, .int .i64 L.D]), (1024, .row 1 []), (512, .box [.int .i64 L.V, .int .i64 L.A, .int .i64 L.J])], 0⟩) := by
  intro μ
  have hT : t.length = N := by rw [T.len, hN]
  induction μ with
  | zero =>
    intro l W hg hm hl
    have hok : okB L (plays zM l) = true := by
      have := W.ok l.length (by omega)
      rwa [List.take_length] at this
    have e : plays zM l = endM L := T.last H hok (by omega)
    have g1 : g L t (endM L) = 1 := by rw [← e]; omega
    have ga := get_g H T.len (ok_end H)
    have a1 := ix_lt H (ok_end H)
    have a1' : ((ix L (endM L) : Nat) : Int) < N := by omega
    have a0 : (0 : Int) ≤ ((ix L (endM L) : Nat) : Int) := by omega
    refine ⟨l, W, e, by omega, ?_⟩
    rw [e]
    rw [g1] at ga
    rw [A6_L1_eq]
    generalize ix L (endM L) = ai at *
    simp +contextual -implicitDefEqProofs (maxSteps := 2000000) only [go_sem, ↓reduceIte, Nat.reduceAdd, Nat.reduceMul, Nat.reduceSub, Nat.reduceEqDiff, Nat.reduceLeDiff, Nat.reduceDiv, Nat.reduceMod, Nat.reduceBEq, Nat.reduceBNe, reduceCtorEq, Int.reduceLE, Int.reduceLT, Int.reduceToNat, Int.reduceNeg, Nat.reduceLT, Int.reduceEq, Int.reduceSub, Int.reduceAdd, Int.reduceMul, Nat.reducePow, Int.reduceBEq, Int.reduceBNe, Int.reduceMod, A6_L1b, hT, List.length_map, ga, a0, a1']
  | succ μ ih =>
    intro l W hg hm hl
    have hok : okB L (plays zM l) = true := by
      have := W.ok l.length (by omega)
      rwa [List.take_length] at this
    obtain ⟨b, h1, ⟨h2, h3⟩, h4⟩ := pstep L H N hN t T (plays zM l) hok (by omega) l (by omega)
    rw [← plays_snoc] at h2 h3 h4
    obtain ⟨l', i1, i2, i3, i4⟩ := ih (l ++ [b]) (W.snoc h1 (by rwa [← plays_snoc])) (by omega) (by omega) (by rw [List.length_append, List.length_singleton]; omega)
    refine ⟨l', i1, i2, i3, ?_⟩
    have ga := get_g H T.len hok
    have a1 := ix_lt H hok
    have a1' : ((ix L (plays zM l) : Nat) : Int) < N := by omega
    have a0 : (0 : Int) ≤ ((ix L (plays zM l) : Nat) : Int) := by omega
    have hgt : 1 < g L t (plays zM l) := by omega
    have hJ := H.J
    have u1 : IntKind.i64.wrap (0 - L.J) = -L.J := by rw [Int.zero_sub]; exact wrap_small (by omega) (by omega)
    rw [A6_L1_eq]
    generalize ix L (plays zM l) = ai at *
    generalize g L t (plays zM l) = y at *
    simp +contextual -implicitDefEqProofs (maxSteps := 2000000) only [go_sem, ↓reduceIte, Nat.reduceAdd, Nat.reduceMul, Nat.reduceSub, Nat.reduceEqDiff, Nat.reduceLeDiff, Nat.reduceDiv, Nat.reduceMod, Nat.reduceBEq, Nat.reduceBNe, reduceCtorEq, Int.reduceLE, Int.reduceLT, Int.reduceToNat, Int.reduceNeg, Nat.reduceLT, Int.reduceEq, Int.reduceSub, Int.reduceAdd, Int.reduceMul, Nat.reducePow, Int.reduceBEq, Int.reduceBNe, Int.reduceMod, A6_L1b, hT, List.length_map, ga, a0, a1', hgt, gt_iff_lt, u1, h4, i4]

end Go.Proofs.Ytcdpfcdlnbbegaa

namespace Go.Proofs.Ytcdpfcdlnbbegaa
set_option maxRecDepth 100000
set_option maxHeartbeats 4000000
set_option linter.unusedSimpArgs false
set_option linter.unusedVariables false
open Go Go.Zv
open Go.Geo (c1)
open Go.Mt
structure Pf (L : Lm) (ok : Bool) (l : List Int) : Prop where
  way : ok = true → Mt.Way L zM l ∧ plays zM l = endM L
  len : l.length ≤ 70000
  is : ∀ w, Mt.Way L zM w → plays zM w = endM L → ok = true
theorem c6 (L : Lm) (H : LOk L) : ∃ ok l, Pf L ok l ∧ pc E 6 [.agg (lmc L), .int .i64 L.D] = some (.tup [.os 1 (l.map c1), .bool ok]) := by
  obtain ⟨t, T, h14⟩ := c14 L H
  have h13 := c13 L H
  have h15 := c15t H (ok_z H)
  have gz := get_g H T.len (ok_z H)
  have l1 := ix_lt H (ok_z H)
  obtain ⟨d1, d2⟩ := H.D
  have d1' : ¬ L.D < 0 := by omega
  have d2' : ¬ 420 < L.D := by omega
  have hT := T.len
  obtain ⟨N, hN⟩ : ∃ N : Nat, (many L).toNat = N := ⟨_, rfl⟩
  rw [hN] at hT l1
  have l1' : ((ix L zM : Nat) : Int) < N := by omega
  have l0 : (0 : Int) ≤ ((ix L zM : Nat) : Int) := by omega
  have hmb := many_bd H
  have hN9 : N ≤ 1000000000 := by omega
  have al := all_c1 t
  have hg : g L t zM = 0 ∨ 0 < g L t zM := by have := T.nn (ix L zM); unfold g; omega
  rcases hg with hg | hg
  · refine ⟨false, [], ⟨(fun h => by cases h), by simp, fun w h1 h2 => ?_⟩, ?_⟩
    · have := T.found h1 h2; omega
    · simp only [moc, spc, lmc, zM] at h15 h13 h14 gz
      simp only [zM] at l1' l0 hg
      generalize hb : ix L ⟨0, 0, 0⟩ = b at *
      rw [hg] at gz
      rw [pc_eq]; simp +contextual -implicitDefEqProofs (maxSteps := 2000000) only [go_sem, ↓reduceIte, Nat.reduceAdd, Nat.reduceMul, Nat.reduceSub, Nat.reduceEqDiff, Nat.reduceLeDiff, Nat.reduceDiv, Nat.reduceMod, Nat.reduceBEq, Nat.reduceBNe, reduceCtorEq, Int.reduceLE, Int.reduceLT, Int.reduceToNat, Int.reduceNeg, Nat.reduceLT, Int.reduceEq, Int.reduceSub, Int.reduceAdd, Int.reduceMul, Nat.reducePow, Int.reduceBEq, Int.reduceBNe, Int.reduceMod, E_6, A6, lmc, h13, h14, h15, gz, d1', d2', l1', l0, gt_iff_lt, hT, hN9, al, List.length_map]
  · have hbd := T.bd (ix L zM)
    have hgm : g L t zM = t.getD (ix L zM) 0 := rfl
    obtain ⟨l, p1, p2, p3, p4⟩ := plan L H N hN t T ((g L t zM).toNat - 1) [] (Mt.Way.nil (ok_z H)) hg (by show (g L t zM).toNat = _; omega) (by simp; omega)
    refine ⟨true, l, ⟨fun _ => ⟨p1, p2⟩, p3, fun _ _ _ => rfl⟩, ?_⟩
    have hpl : plays zM [] = zM := rfl
    have al2 := all_c1 l
    have tk2 : List.take l.length (l.map c1) = l.map c1 := List.take_of_length_le (by simp)
    have hl9 : l.length ≤ 1000000000 := by omega
    rw [hpl] at p4
    simp only [moc, spc, lmc, zM] at h15 h13 h14 gz
    simp only [zM, List.map_nil, List.length_nil] at l1' l0 hg p4
    generalize hb : ix L ⟨0, 0, 0⟩ = b at *
    generalize hgg : g L t ⟨0, 0, 0⟩ = v at *
    have hv : ¬ v = 0 := by omega
    rw [pc_eq]; simp +contextual -implicitDefEqProofs (maxSteps := 2000000) only [go_sem, ↓reduceIte, Nat.reduceAdd, Nat.reduceMul, Nat.reduceSub, Nat.reduceEqDiff, Nat.reduceLeDiff, Nat.reduceDiv, Nat.reduceMod, Nat.reduceBEq, Nat.reduceBNe, reduceCtorEq, Int.reduceLE, Int.reduceLT, Int.reduceToNat, Int.reduceNeg, Nat.reduceLT, Int.reduceEq, Int.reduceSub, Int.reduceAdd, Int.reduceMul, Nat.reducePow, Int.reduceBEq, Int.reduceBNe, Int.reduceMod, E_6, A6, lmc, h13, h14, h15, gz, d1', d2', l1', l0, gt_iff_lt, hT, hN9, al, List.length_map, hv, p4, al2, tk2, hl9]
theorem c9 (L : Lm) (ok : Bool) (l : List Int) (hl : l.length ≤ 70000) (h6 : pc E 6 [.agg (lmc L), .int .i64 L.D] = some (.tup [.os 1 (l.map c1), .bool ok])) : pc E 9 [.agg (lmc L), .int .i64 L.D] = some (.tup [.int .i64 l.length, .bool ok]) := by
  have hl9 : l.length ≤ 1000000000 := by omega
  have al := all_c1 l
  simp only [lmc] at h6
  rw [pc_eq]; simp +contextual -implicitDefEqProofs (maxSteps := 2000000) only [go_sem, ↓reduceIte, Nat.reduceAdd, Nat.reduceMul, Nat.reduceSub, Nat.reduceEqDiff, Nat.reduceLeDiff, Nat.reduceDiv, Nat.reduceMod, Nat.reduceBEq, Nat.reduceBNe, reduceCtorEq, Int.reduceLE, Int.reduceLT, Int.reduceToNat, Int.reduceNeg, Nat.reduceLT, Int.reduceEq, Int.reduceSub, Int.reduceAdd, Int.reduceMul, Nat.reducePow, Int.reduceBEq, Int.reduceBNe, Int.reduceMod, E_9, A9, lmc, h6, List.length_map, hl9, al]
end Go.Proofs.Ytcdpfcdlnbbegaa

namespace Go.Proofs.Ytcdpfcdlnbbegaa
set_option maxRecDepth 100000
set_option maxHeartbeats 4000000
set_option linter.unusedSimpArgs false
set_option linter.unusedVariables false
open Go Go.Zv
open Go.Geo (c1)
open Go.Mt
theorem fit_ok {L : Lm} {m : Mo} (h : okB L m = true) : ftB L m = true := by
  obtain ⟨h1, h2, h3⟩ := ok_iff.1 h
  unfold ftB
  simp only [Bool.and_eq_true, decide_eq_true_eq]; omega
theorem there7 {L : Lm} (H : LOk L) {l : List Int} (W : Mt.Way L zM l) (hl : l.length ≤ 70000) : pc E 7 [.agg (moc zM), .vs (l.map c1)] = some (.agg (moc (plays zM l))) := by
  have hJ := H.J
  exact c7 zM l (by omega) (fun k hk => Sm_ok H (W.ok k hk)) (fun b hb => by have := W.j b hb; unfold Rg at this; omega)
theorem there8 {L : Lm} (H : LOk L) {l : List Int} (W : Mt.Way L zM l) (hl : l.length ≤ 70000) : pc E 8 [.agg (lmc L), .agg (moc zM), .vs (l.map c1)] = some (.bool true) := by
  have hJ := H.J
  exact c8 L zM l (by omega) (fun k hk => Sm_ok H (W.ok k hk)) (fun k hk => fit_ok (W.ok k hk)) (fun b hb => by have := W.j b hb; unfold Rg at this; omega)
theorem neg_mem {L : Lm} (H : LOk L) {l : List Int} (W : Mt.Way L zM l) : ∀ b ∈ l.map (fun b => -b), (-10 ≤ b ∧ b ≤ 10) ∧ -L.J ≤ b ∧ b ≤ L.J := fun b hb => by
  have hJ := H.J
  obtain ⟨c, hc, rfl⟩ := List.mem_map.1 hb
  have := W.j c hc
  unfold Rg at this; omega
theorem back7 {L : Lm} (H : LOk L) {l : List Int} (W : Mt.Way L zM l) (he : plays zM l = endM L) (hl : l.length ≤ 70000) : pc E 7 [.agg (moc (endM L)), .vs ((l.map fun b => -b).map c1)] = some (.agg (moc zM)) := by
  have := c7 (endM L) (l.map fun b => -b) (by rw [List.length_map]; omega) (fun k hk => Sm_ok H (back_ok W k (by rwa [List.length_map] at hk))) (fun b hb => (neg_mem H W b hb).1)
  rwa [back_home he] at this
theorem back8 {L : Lm} (H : LOk L) {l : List Int} (W : Mt.Way L zM l) (hl : l.length ≤ 70000) : pc E 8 [.agg (lmc L), .agg (moc (endM L)), .vs ((l.map fun b => -b).map c1)] = some (.bool true) :=
  c8 L (endM L) (l.map fun b => -b) (by rw [List.length_map]; omega) (fun k hk => Sm_ok H (back_ok W k (by rwa [List.length_map] at hk))) (fun k hk => fit_ok (back_ok W k (by rwa [List.length_map] at hk))) (neg_mem H W)
theorem c11 : pc E 11 [.int .i64 5] = some (.agg [.int .i64 0, .int .i64 0, .int .i64 0, .int .i64 0, .bool false]) := by
  refine pc_of_run 100 ?_
  kernel_rfl
theorem c10a : pc E 10 [.agg [.int .i64 0, .int .i64 0, .int .i64 0, .int .i64 0, .bool false], .int .i64 1, .int .i64 0, .int .i64 3] = some (.tup [.agg [.int .i64 0, .int .i64 48, .int .i64 0, .int .i64 48, .bool false], .int .i64 48]) := by
  refine pc_of_run 100 ?_
  kernel_rfl
theorem c10b : ∃ a, pc E 10 [.agg [.int .i64 0, .int .i64 48, .int .i64 0, .int .i64 48, .bool false], .int .i64 2, .int .i64 0, .int .i64 3] = some (.tup [.agg [.int .i64 0, .int .i64 48, .int .i64 a, .int .i64 0, .bool false], .int .i64 0]) := by
  refine ⟨1, pc_of_run 100 ?_⟩
  kernel_rfl
theorem c12a : pc E 12 [.int .i64 (-1)] = some (.int .i64 (-1)) := by
  refine pc_of_run 100 ?_
  kernel_rfl
theorem c12b : pc E 12 [.int .i64 53] = some (.int .i64 3) := by
  refine pc_of_run 100 ?_
  kernel_rfl
def L0 : Lm := ⟨8, 4, 2, 12⟩
theorem L0_ok : LOk L0 := ⟨by decide, by decide, by decide, by decide⟩
def w0 : List Int := [2, 0, -2, -2, 0, 2]
theorem w0_way : Mt.Way L0 zM w0 := by
  refine ⟨fun b hb => ?_, fun k hk => ?_⟩
  · have : b = 2 ∨ b = 0 ∨ b = -2 := by simp [w0] at hb; omega
    unfold Rg L0
    rcases this with rfl | rfl | rfl <;> decide
  · have hk' : k ≤ 6 := hk
    have : k = 0 ∨ k = 1 ∨ k = 2 ∨ k = 3 ∨ k = 4 ∨ k = 5 ∨ k = 6 := by omega
    rcases this with rfl | rfl | rfl | rfl | rfl | rfl | rfl <;> decide
theorem c4 : pc E 4 [] = some (.bool true) := by
  obtain ⟨ok, l, P, h6⟩ := c6 L0 L0_ok
  have hok := P.is w0 w0_way (by decide)
  subst hok
  obtain ⟨W, he⟩ := P.way rfl
  have h9 := c9 L0 true l P.len h6
  have h7 := there7 L0_ok W P.len
  have h8 := there8 L0_ok W P.len
  rw [he] at h7
  obtain ⟨a, hb⟩ := c10b
  have hl0 : 0 < (l.length : Int) := by
    cases l with
    | nil => exact absurd he (by decide)
    | cons x l => rw [List.length_cons]; omega
  have hl9 : l.length ≤ 1000000000 := by have := P.len; omega
  have al := all_c1 l
  have tk : List.take l.length (l.map c1) = l.map c1 := List.take_of_length_le (by simp)
  simp only [lmc, moc, L0, zM, endM] at h6 h7 h8 h9
  rw [pc_eq]; simp +contextual -implicitDefEqProofs (maxSteps := 2000000) only [go_sem, ↓reduceIte, Nat.reduceAdd, Nat.reduceMul, Nat.reduceSub, Nat.reduceEqDiff, Nat.reduceLeDiff, Nat.reduceDiv, Nat.reduceMod, Nat.reduceBEq, Nat.reduceBNe, reduceCtorEq, Int.reduceLE, Int.reduceLT, Int.reduceToNat, Int.reduceNeg, Nat.reduceLT, Int.reduceEq, Int.reduceSub, Int.reduceAdd, Int.reduceMul, Nat.reducePow, Int.reduceBEq, Int.reduceBNe, Int.reduceMod, E_4, A4, h6, h7, h8, h9, c11, c10a, hb, c12a, c12b, hl0, hl9, al, tk, gt_iff_lt, List.length_map]
end Go.Proofs.Ytcdpfcdlnbbegaa

namespace Go.Proofs.Ytcdpfcdlnbbegaa
set_option maxRecDepth 100000
set_option maxHeartbeats 4000000
set_option linter.unusedSimpArgs false
set_option linter.unusedVariables false
open Go Go.Zv
open Go.Geo (c1)
open Go.Mt
theorem bk3 (L : Lm) (dd : Int) (l : List Int) (hl : l.length ≤ 70000) (hb : ∀ b ∈ l, -10 ≤ b ∧ b ≤ 10) : (K E A3_L0 ⟨[(9, .bool true), (10, .ptr 2560 0), (11, .int .i64 dd), (12, .bs 7424 0 l.length), (14, .bs 3584 0 0), (15, .int .i64 0)], [], [(3584, .row 1 (([] : List Int).map c1)), (7424, .row 1 (l.map c1)), (2560, .box [.int .i64 L.V, .int .i64 L.A, .int .i64 L.J])], 0⟩).bind (blockR 0 (some [9, 10, 11, 12, 14]) [15, 47]) = some (.ex .nrm ⟨[(9, .bool true), (10, .ptr 2560 0), (11, .int .i64 dd), (12, .bs 7424 0 l.length), (14, .bs 3584 0 l.length)], [], [(3584, .row 1 ((l.map fun b => -b).map c1)), (7424, .row 1 (l.map c1)), (2560, .box [.int .i64 L.V, .int .i64 L.A, .int .i64 L.J])], 0⟩) := by
  have lp := loop_to (fun S => (K E A3_L0 S).bind (blockR 0 (some [9, 10, 11, 12, 14]) [15, 47])) (fun k => ⟨[(9, .bool true), (10, .ptr 2560 0), (11, .int .i64 dd), (12, .bs 7424 0 l.length), (14, .bs 3584 0 k), (15, .int .i64 ((k : Nat) : Int))], [], [(3584, .row 1 (((l.take k).map fun b => -b).map c1)), (7424, .row 1 (l.map c1)), (2560, .box [.int .i64 L.V, .int .i64 L.A, .int .i64 L.J])], 0⟩) l.length (fun k hk => by
    have hget : l[k]? = some (l[k]'hk) := List.getElem?_eq_getElem _
    have hbb := hb _ (List.getElem_mem hk)
    have ht : (l.take (k + 1)).map (fun b => -b) = (l.take k).map (fun b => -b) ++ [-(l[k]'hk)] := by rw [List.take_add_one, hget, Option.toList_some, List.map_append]; rfl
    generalize l[k]'hk = b at *
    have g1 := get_c1 hget
    have hw := wr_k (k := k) (by omega)
    have h1 : (k : Int) < l.length := by omega
    have h0 : (0 : Int) ≤ k := by omega
    have w1 : IntKind.i64.wrap (0 - b) = -b := by rw [Int.zero_sub]; exact wrap_small (by omega) (by omega)
    have al := all_c1 ((l.take k).map fun b => -b)
    have hlen : (l.take k).length = k := by rw [List.length_take]; omega
    have tk : List.take k (((l.take k).map fun b => -b).map c1) = ((l.take k).map fun b => -b).map c1 := List.take_of_length_le (by simp; omega)
    have ap : ((l.take k).map fun b => -b).map c1 ++ [[LV.int .i64 (-b)]] = ((l.take (k + 1)).map fun b => -b).map c1 := by rw [ht, List.map_append]; rfl
    have hn9 : k ≤ 999999999 := by omega
    generalize (l.take (k + 1)).map (fun b => -b) = r1 at *
    have hlen' : ((l.take k).map fun b => -b).length = k := by rw [List.length_map, hlen]
    generalize (l.take k).map (fun b => -b) = r0 at *
    clear ht
    show (K E A3_L0 _).bind _ = (K E A3_L0 _).bind _
    conv => lhs; rw [A3_L0_eq]
    simp +contextual -implicitDefEqProofs (maxSteps := 2000000) only [go_sem, ↓reduceIte, Nat.reduceAdd, Nat.reduceMul, Nat.reduceSub, Nat.reduceEqDiff, Nat.reduceLeDiff, Nat.reduceDiv, Nat.reduceMod, Nat.reduceBEq, Nat.reduceBNe, reduceCtorEq, Int.reduceLE, Int.reduceLT, Int.reduceToNat, Int.reduceNeg, Nat.reduceLT, Int.reduceEq, Int.reduceSub, Int.reduceAdd, Int.reduceMul, Nat.reducePow, Int.reduceBEq, Int.reduceBNe, Int.reduceMod, A3_L0b, h0, h1, g1, w1, hw, al, hlen', tk, ap, hn9, List.length_map])
  simp only [List.take_zero, List.map_nil, List.take_length, Int.natCast_zero, Int.ofNat_zero] at lp
  simp only [List.map_nil]
  rw [lp, A3_L0_eq]
  simp +contextual -implicitDefEqProofs (maxSteps := 2000000) only [go_sem, ↓reduceIte, Nat.reduceAdd, Nat.reduceMul, Nat.reduceSub, Nat.reduceEqDiff, Nat.reduceLeDiff, Nat.reduceDiv, Nat.reduceMod, Nat.reduceBEq, Nat.reduceBNe, reduceCtorEq, Int.reduceLE, Int.reduceLT, Int.reduceToNat, Int.reduceNeg, Nat.reduceLT, Int.reduceEq, Int.reduceSub, Int.reduceAdd, Int.reduceMul, Nat.reducePow, Int.reduceBEq, Int.reduceBNe, Int.reduceMod, A3_L0b, Int.lt_irrefl, List.length_map]
theorem law3 (v a j d : Int) (hv : 0 ≤ v ∧ v ≤ 255) (ha : 0 ≤ a ∧ a ≤ 255) (hj : 0 ≤ j ∧ j ≤ 255) (hd : 0 ≤ d ∧ d ≤ 65535) : pc E 3 [.int .u8 v, .int .u8 a, .int .u8 j, .int .u16 d] = some (.bool true) := by
  obtain ⟨L', HL, h5⟩ := c5 v a j hv ha hj
  have d1 := Int.tmod_lt_of_pos d (b := 421) (by decide)
  have d2 := Int.tmod_nonneg 421 hd.1
  have H := HL (d.tmod 421) d2 (by omega)
  have wd : IntKind.i64.wrap d = d := wrap_small (by omega) (by omega)
  have wd2 : IntKind.i64.wrap (d.tmod 421) = d.tmod 421 := wrap_small (by omega) (by omega)
  generalize hL : (⟨L'.V, L'.A, L'.J, d.tmod 421⟩ : Lm) = L at *
  have e5 : lmc L' = lmc L := by rw [← hL]; rfl
  have eD : L.D = d.tmod 421 := by rw [← hL]
  rw [e5] at h5
  obtain ⟨ok, l, P, h6⟩ := c6 L H
  rw [eD] at h6
  have hlen := P.len
  have hl9 : l.length ≤ 1000000000 := by omega
  have al := all_c1 l
  have tk : List.take l.length (l.map c1) = l.map c1 := List.take_of_length_le (by simp)
  cases ok with
  | false =>
    simp only [lmc] at h5 h6
    rw [pc_eq]; simp +contextual -implicitDefEqProofs (maxSteps := 2000000) only [go_sem, ↓reduceIte, Nat.reduceAdd, Nat.reduceMul, Nat.reduceSub, Nat.reduceEqDiff, Nat.reduceLeDiff, Nat.reduceDiv, Nat.reduceMod, Nat.reduceBEq, Nat.reduceBNe, reduceCtorEq, Int.reduceLE, Int.reduceLT, Int.reduceToNat, Int.reduceNeg, Nat.reduceLT, Int.reduceEq, Int.reduceSub, Int.reduceAdd, Int.reduceMul, Nat.reducePow, Int.reduceBEq, Int.reduceBNe, Int.reduceMod, E_3, A3, c4, h5, h6, wd, wd2, hl9, al, tk, List.length_map]
  | true =>
    obtain ⟨W, he⟩ := P.way rfl
    have h7 := there7 H W hlen
    rw [he] at h7
    have h7b := back7 H W he hlen
    have h8 := back8 H W hlen
    have hJ := H.J
    have lp := bk3 L (d.tmod 421) l hlen (fun b hb => by have := W.j b hb; unfold Rg at this; omega)
    have al2 := all_c1 (l.map fun b => -b)
    have tk2 : List.take l.length ((l.map fun b => -b).map c1) = (l.map fun b => -b).map c1 := List.take_of_length_le (by simp)
    have hll : (l.map fun b => -b).length = l.length := List.length_map _
    generalize (l.map fun b => -b) = bk at *
    simp only [List.map_nil] at lp
    simp only [lmc, moc, zM, endM, eD] at h5 h6 h7 h7b h8
    rw [pc_eq]; simp +contextual -implicitDefEqProofs (maxSteps := 2000000) only [go_sem, ↓reduceIte, Nat.reduceAdd, Nat.reduceMul, Nat.reduceSub, Nat.reduceEqDiff, Nat.reduceLeDiff, Nat.reduceDiv, Nat.reduceMod, Nat.reduceBEq, Nat.reduceBNe, reduceCtorEq, Int.reduceLE, Int.reduceLT, Int.reduceToNat, Int.reduceNeg, Nat.reduceLT, Int.reduceEq, Int.reduceSub, Int.reduceAdd, Int.reduceMul, Nat.reducePow, Int.reduceBEq, Int.reduceBNe, Int.reduceMod, E_3, A3, c4, h5, h6, h7, h7b, h8, wd, wd2, hl9, al, tk, lp, al2, tk2, hll, List.length_map]
end Go.Proofs.Ytcdpfcdlnbbegaa
