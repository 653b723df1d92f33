/- Part of the proof: the evaluation of the program's code and its tie to the machine, or what functions of the program compute over it. -/
import Derived.Test.YteellikeoiedbaaPart1
import Derived.Test.YteellikeoiedbaaEng6
namespace Go.Proofs.Yteellikeoiedbaa
open Go Go.Zv
set_option maxRecDepth 100000
/-- ambidexter/ambidexterref03.Cut -/
def A61 : AFn := .code [.t 8] (
(.seq (
.reg none [
  ⟨some 4, .box (.t 0), none, true⟩,
  ⟨some 5, .box (.t 1), none, true⟩,
  ⟨some 6, .box (.t 2), none, true⟩,
  ⟨some 7, .box (.t 3), none, true⟩,
  ⟨some 8, .as (.c (.bool false)), none, true⟩] (some [4, 5, 6, 7]) []) (
(.seq (
(.seq (
.reg none [
  ⟨some 11, .load true 2 (.t 4), none, true⟩,
  ⟨some 12, .load true 2 (.t 5), none, true⟩,
  ⟨some 13, .load true 2 (.t 6), none, true⟩,
  ⟨some 14, .call 77 [.t 11, .t 12, .t 13], none, true⟩,
  ⟨some 15, .mv (.t 14), none, true⟩,
  ⟨some 16, .load true 2 (.t 4), some (15, false), true⟩,
  ⟨some 17, .load true 2 (.t 5), some (15, false), true⟩,
  ⟨some 18, .load true 2 (.t 7), some (15, false), true⟩,
  ⟨some 19, .call 77 [.t 16, .t 17, .t 18], some (15, false), true⟩,
  ⟨some 20, .pick (.t 15) (.c (.bool true)) (.t 19), none, true⟩,
  ⟨some 21, .mv (.t 20), none, true⟩,
  ⟨some 22, .load true 2 (.t 6), some (21, false), true⟩,
  ⟨some 23, .load true 2 (.t 7), some (21, false), true⟩,
  ⟨some 24, .load true 2 (.t 4), some (21, false), true⟩,
  ⟨some 25, .call 77 [.t 22, .t 23, .t 24], some (21, false), true⟩,
  ⟨some 26, .pick (.t 21) (.c (.bool true)) (.t 25), none, true⟩,
  ⟨some 27, .mv (.t 26), none, true⟩,
  ⟨some 28, .load true 2 (.t 6), some (27, false), true⟩,
  ⟨some 29, .load true 2 (.t 7), some (27, false), true⟩,
  ⟨some 30, .load true 2 (.t 5), some (27, false), true⟩,
  ⟨some 31, .call 77 [.t 28, .t 29, .t 30], some (27, false), true⟩,
  ⟨some 32, .pick (.t 27) (.c (.bool true)) (.t 31), none, true⟩] (some [4, 5, 6, 7, 32]) []) (
(.cond (.t 32) (
  (.seq (
  .reg none [
    ⟨some 8, .as (.c (.bool true)), none, true⟩] (some [8]) []) (
  .ret))) (
  .skip))))) (
(.seq (
.reg (some [.dr [34, 35, 38, 39, 40] [], .dr [33, 35, 38, 39, 40] [], .dr [33, 34, 38, 39, 40] [], .dr [38, 39, 40] [], .dr [38, 39, 40] [], .dr [33, 34, 35, 36, 37, 39, 40] [], .dr [33, 34, 35, 36, 37, 38, 40] [], .dr [33, 34, 35, 36, 37, 38, 39] [], .free, .free, .free, .free]) [
  ⟨some 33, .load true 2 (.t 4), none, true⟩,
  ⟨some 34, .load true 2 (.t 5), none, true⟩,
  ⟨some 35, .load true 2 (.t 6), none, true⟩,
  ⟨some 36, .call 59 [.t 33, .t 34, .t 35], none, true⟩,
  ⟨some 37, .call 82 [.t 36], none, true⟩,
  ⟨some 38, .load true 2 (.t 4), none, true⟩,
  ⟨some 39, .load true 2 (.t 5), none, true⟩,
  ⟨some 40, .load true 2 (.t 7), none, true⟩,
  ⟨some 41, .call 59 [.t 38, .t 39, .t 40], none, true⟩,
  ⟨some 42, .call 82 [.t 41], none, true⟩,
  ⟨some 43, .bin .mul (.t 37) (.t 42), none, true⟩,
  ⟨some 9, .as (.t 43), none, true⟩] (some [4, 5, 6, 7, 9]) []) (
(.seq (
.reg (some [.dr [45, 46, 49, 50, 51] [], .dr [44, 46, 49, 50, 51] [], .dr [44, 45, 49, 50, 51] [], .dr [49, 50, 51] [], .dr [49, 50, 51] [], .dr [44, 45, 46, 47, 48, 50, 51] [], .dr [44, 45, 46, 47, 48, 49, 51] [], .dr [44, 45, 46, 47, 48, 49, 50] [], .free, .free, .free, .free]) [
  ⟨some 44, .load true 2 (.t 6), none, true⟩,
  ⟨some 45, .load true 2 (.t 7), none, true⟩,
  ⟨some 46, .load true 2 (.t 4), none, true⟩,
  ⟨some 47, .call 59 [.t 44, .t 45, .t 46], none, true⟩,
  ⟨some 48, .call 82 [.t 47], none, true⟩,
  ⟨some 49, .load true 2 (.t 6), none, true⟩,
  ⟨some 50, .load true 2 (.t 7), none, true⟩,
  ⟨some 51, .load true 2 (.t 5), none, true⟩,
  ⟨some 52, .call 59 [.t 49, .t 50, .t 51], none, true⟩,
  ⟨some 53, .call 82 [.t 52], none, true⟩,
  ⟨some 54, .bin .mul (.t 48) (.t 53), none, true⟩,
  ⟨some 10, .as (.t 54), none, true⟩] (some [9, 10]) [4, 5, 6, 7]) (
(.seq (
.reg none [
  ⟨some 55, .mv (.t 9), none, true⟩,
  ⟨some 56, .bin .lss (.t 55) (.c (.int .i64 0)), none, true⟩,
  ⟨some 57, .mv (.t 56), none, true⟩,
  ⟨some 58, .mv (.t 10), some (57, true), true⟩,
  ⟨some 59, .bin .lss (.t 58) (.c (.int .i64 0)), some (57, true), true⟩,
  ⟨some 60, .pick (.t 57) (.t 59) (.c (.bool false)), none, true⟩,
  ⟨some 8, .as (.t 60), none, true⟩] (some [8]) []) (
.ret)))))))))))
def A62_L0b : ACode := 
  (.seq (
  (.seq (
  .reg none [
    ⟨some 7, .mv (.t 4), none, true⟩,
    ⟨some 8, .mv (.t 0), none, true⟩,
    ⟨some 9, .len 0 (.t 8), none, true⟩,
    ⟨some 10, .bin .lss (.t 7) (.t 9), none, true⟩] (some [0, 3, 4, 10]) []) (
  (.cond (.t 10) (
    .skip) (
    .exit 0))))) (
  (.seq (
  (.block 1 (
  (.seq (
  .reg none [
    ⟨some 13, .mv (.t 0), none, true⟩,
    ⟨some 14, .mv (.t 4), none, true⟩,
    ⟨some 15, .call 60 [.t 13, .t 14], none, true⟩,
    ⟨some 5, .alloc [.int .i64 0, .int .i64 0], none, true⟩,
    ⟨none, .store 2 (.t 5) (.t 15), none, true⟩] (some [0, 3, 4, 5]) []) (
  (.seq (
  .reg none [
    ⟨some 16, .mv (.t 0), none, true⟩,
    ⟨some 17, .mv (.t 4), none, true⟩,
    ⟨some 18, .bin .add (.t 17) (.c (.int .i64 1)), none, true⟩,
    ⟨some 19, .call 60 [.t 16, .t 18], none, true⟩,
    ⟨some 6, .alloc [.int .i64 0, .int .i64 0], none, true⟩,
    ⟨none, .store 2 (.t 6) (.t 19), none, true⟩] (some [0, 3, 4, 5, 6]) []) (
  .reg none [
    ⟨some 20, .mv (.t 3), none, true⟩,
    ⟨some 21, .fad 0 (.t 5), none, true⟩,
    ⟨some 22, .load false 1 (.t 21), none, true⟩,
    ⟨some 23, .fad 1 (.t 6), none, true⟩,
    ⟨some 24, .load false 1 (.t 23), none, true⟩,
    ⟨some 25, .bin .mul (.t 22) (.t 24), none, true⟩,
    ⟨some 26, .bin .add (.t 20) (.t 25), none, true⟩,
    ⟨some 27, .fad 1 (.t 5), none, true⟩,
    ⟨some 28, .load false 1 (.t 27), none, true⟩,
    ⟨some 29, .fad 0 (.t 6), none, true⟩,
    ⟨some 30, .load false 1 (.t 29), none, true⟩,
    ⟨some 31, .bin .mul (.t 28) (.t 30), none, true⟩,
    ⟨some 32, .bin .sub (.t 26) (.t 31), none, true⟩,
    ⟨some 3, .as (.t 32), none, true⟩] (some [0, 3, 4]) [5, 6]))))) (some [0, 3, 4]) [5, 6, 15, 19])) (
  .reg none [
    ⟨some 11, .mv (.t 4), none, true⟩,
    ⟨some 12, .bin .add (.t 11) (.c (.int .i64 1)), none, true⟩,
    ⟨some 4, .as (.t 12), none, true⟩] (some [0, 3, 4]) []))))
def A62_L0 : ACode := .loop A62_L0b (some [0, 3, 4]) [5, 6, 15, 19]
/-- ambidexter/ambidexterref03.Area2 -/
def A62 : AFn := .code [.t 2] (
(.seq (
.reg none [
  ⟨some 2, .as (.c (.int .i64 0)), none, true⟩] (some [0]) []) (
(.seq (
.reg none [
  ⟨some 3, .as (.c (.int .i64 0)), none, true⟩] (some [0, 3]) []) (
(.seq (
(.seq (
.reg none [
  ⟨some 4, .as (.c (.int .i64 0)), none, true⟩] (some [0, 3, 4]) []) (
(.block 0 (
A62_L0) (some [3]) [4, 5, 6, 15, 19])))) (
(.seq (
.reg none [
  ⟨some 33, .mv (.t 3), none, true⟩,
  ⟨some 2, .as (.t 33), none, true⟩] (some [2]) []) (
.ret)))))))))
/-- ambidexter/ambidexterlaw03.triangle -/
def A63 : AFn := .code [.t 0] (
(.seq (
.reg none [
  ⟨some 0, .as (.c (.nils 2)), none, true⟩] (some []) []) (
(.seq (
.reg none [
  ⟨some 1, .build [.int .i64 0, .int .i64 0] [(0, 1, .c (.int .i64 0)), (1, 1, .c (.int .i64 0))], none, true⟩,
  ⟨some 2, .build [.int .i64 0, .int .i64 0] [(0, 1, .c (.int .i64 4)), (1, 1, .c (.int .i64 0))], none, true⟩,
  ⟨some 3, .build [.int .i64 0, .int .i64 0] [(0, 1, .c (.int .i64 4)), (1, 1, .c (.int .i64 4))], none, true⟩,
  ⟨some 4, .bsl 2 3 [.int .i64 0, .int .i64 0] [(0, .t 1), (1, .t 2), (2, .t 3)], none, true⟩,
  ⟨some 0, .as (.t 4), none, true⟩] (some [0]) []) (
.ret)))))
/-- slices.ContainsFunc[ambidexter/api.Polygon,ambidexter/api.Point] -/
def A64 : AFn := .code [.t 4] (
(.seq (
.reg none [
  ⟨some 4, .as (.c (.bool false)), none, true⟩] (some [0, 1]) []) (
(.seq (
.reg none [
  ⟨some 5, .mv (.t 0), none, true⟩,
  ⟨some 6, .mv (.t 1), none, true⟩,
  ⟨some 7, .call 83 [.t 5, .t 6], none, true⟩,
  ⟨some 8, .bin .geq (.t 7) (.c (.int .i64 0)), none, true⟩,
  ⟨some 4, .as (.t 8), none, true⟩] (some [4]) []) (
.ret)))))
/-- ambidexter/polygon.Valid$1 -/
def A65 : AFn := .code [.t 2] (
(.seq (
.reg none [
  ⟨some 1, .box (.t 0), none, true⟩,
  ⟨some 2, .as (.c (.bool false)), none, true⟩] (some [1]) []) (
(.seq (
.reg none [
  ⟨some 3, .load true 2 (.t 1), none, true⟩,
  ⟨some 4, .call 66 [.t 3], none, true⟩,
  ⟨some 5, .un .not (.t 4), none, true⟩,
  ⟨some 2, .as (.t 5), none, true⟩] (some [2]) [1]) (
.ret)))))
/-- ambidexter/polygon.may -/
def A66 : AFn := .code [.t 2] (
(.seq (
.reg none [
  ⟨some 1, .box (.t 0), none, true⟩,
  ⟨some 2, .as (.c (.bool false)), none, true⟩] (some [1]) []) (
(.seq (
.reg none [
  ⟨some 3, .fad 0 (.t 1), none, true⟩,
  ⟨some 4, .load false 1 (.t 3), none, true⟩,
  ⟨some 5, .fad 1 (.t 1), none, true⟩,
  ⟨some 6, .load false 1 (.t 5), none, true⟩,
  ⟨some 7, .mx [.t 4, .t 6], none, true⟩,
  ⟨some 8, .bin .leq (.t 7) (.c (.int .i64 439400000)), none, true⟩,
  ⟨some 9, .mv (.t 8), none, true⟩,
  ⟨some 10, .fad 0 (.t 1), some (9, true), true⟩,
  ⟨some 11, .load false 1 (.t 10), some (9, true), true⟩,
  ⟨some 12, .fad 1 (.t 1), some (9, true), true⟩,
  ⟨some 13, .load false 1 (.t 12), some (9, true), true⟩,
  ⟨some 14, .mn [.t 11, .t 13], some (9, true), true⟩,
  ⟨some 15, .bin .geq (.t 14) (.c (.int .i64 (-439400000))), some (9, true), true⟩,
  ⟨some 16, .pick (.t 9) (.t 15) (.c (.bool false)), none, true⟩,
  ⟨some 2, .as (.t 16), none, true⟩] (some [2]) [1]) (
.ret)))))
def A67_R0a : ACode := 
    (.seq (
    .reg none [
      ⟨some 6, .as (.t 29), none, true⟩] (some [2, 3, 4, 5, 6, 30]) []) (
    .reg none [
      ⟨some 7, .alloc [.int .i64 0, .int .i64 0, .int .i64 0, .int .i64 0], none, true⟩,
      ⟨none, .store 4 (.t 7) (.t 30), none, true⟩] (some [2, 3, 4, 5, 6, 7]) []))
def A67_R0b : ACode := 
    (.block 3 (
    (.seq (
    (.seq (
    .reg (some [.dr [32] [], .dr [] [], .free, .free, .dr [36, 38] [], .dr [38] [], .dr [38] [], .dr [36] [], .dr [] [], .free, .free, .free, .dr [46] [], .dr [43, 46] [], .dr [43, 46] [], .dr [43] [], .dr [43] [], .free, .free]) [
      ⟨some 31, .mv (.t 6), none, true⟩,
      ⟨some 32, .load false 1 (.t 4), none, true⟩,
      ⟨some 33, .bin .eql (.t 31) (.t 32), none, true⟩,
      ⟨some 34, .mv (.t 33), none, true⟩,
      ⟨some 35, .mv (.t 6), some (34, false), true⟩,
      ⟨some 36, .load false 1 (.t 4), some (34, false), true⟩,
      ⟨some 37, .bin .add (.t 36) (.c (.int .i64 1)), some (34, false), true⟩,
      ⟨some 38, .load false 1 (.t 3), some (34, false), true⟩,
      ⟨some 39, .bin .rem (.t 37) (.t 38), some (34, false), true⟩,
      ⟨some 40, .bin .eql (.t 35) (.t 39), some (34, false), true⟩,
      ⟨some 41, .pick (.t 34) (.c (.bool true)) (.t 40), none, true⟩,
      ⟨some 42, .mv (.t 41), none, true⟩,
      ⟨some 43, .load false 1 (.t 4), some (42, false), true⟩,
      ⟨some 44, .mv (.t 6), some (42, false), true⟩,
      ⟨some 45, .bin .add (.t 44) (.c (.int .i64 1)), some (42, false), true⟩,
      ⟨some 46, .load false 1 (.t 3), some (42, false), true⟩,
      ⟨some 47, .bin .rem (.t 45) (.t 46), some (42, false), true⟩,
      ⟨some 48, .bin .eql (.t 43) (.t 47), some (42, false), true⟩,
      ⟨some 49, .pick (.t 42) (.c (.bool true)) (.t 48), none, true⟩] (some [2, 5, 7, 49]) [3, 4]) (
    (.cond (.t 49) (
      .exit 3) (
      .skip))))) (
    (.seq (
    .reg none [
      ⟨some 50, .iaa 2 2 (.t 5) (.c (.int .i64 0)), none, true⟩,
      ⟨some 51, .load true 2 (.t 50), none, true⟩,
      ⟨some 52, .iaa 2 2 (.t 5) (.c (.int .i64 1)), none, true⟩,
      ⟨some 53, .load true 2 (.t 52), none, true⟩,
      ⟨some 54, .iaa 2 2 (.t 7) (.c (.int .i64 0)), none, true⟩,
      ⟨some 55, .load true 2 (.t 54), none, true⟩,
      ⟨some 56, .iaa 2 2 (.t 7) (.c (.int .i64 1)), none, true⟩,
      ⟨some 57, .load true 2 (.t 56), none, true⟩,
      ⟨some 58, .call 27 [.t 51, .t 53, .t 55, .t 57], none, true⟩] (some [2, 58]) [5, 7]) (
    (.cond (.t 58) (
      (.seq (
      .reg none [
        ⟨none, .store 1 (.t 2) (.c (.bool false)), none, true⟩] (some []) []) (
      .ret))) (
      .skip))))))) (some []) [58])
def A67_R0 : ACode := .rf 1 (.t 28) [29, 30]  A67_R0a A67_R0b
def A67_R1a : ACode := 
  (.seq (
  .reg none [
    ⟨some 4, .alloc [.int .i64 0], none, true⟩,
    ⟨none, .store 1 (.t 4) (.t 12), none, true⟩] (some [1, 2, 3, 4, 13]) []) (
  .reg none [
    ⟨some 5, .alloc [.int .i64 0, .int .i64 0, .int .i64 0, .int .i64 0], none, true⟩,
    ⟨none, .store 4 (.t 5) (.t 13), none, true⟩] (some [1, 2, 3, 4, 5]) []))
def A67_R1b : ACode := 
  (.block 1 (
  (.seq (
  (.seq (
  .reg (some [.dr [17, 18, 19, 21, 23, 24] [], .dr [17, 18, 19, 21, 23, 24] [], .dr [15, 18, 19, 21, 23, 24] [], .dr [15, 18, 19, 21, 23, 24] [], .dr [15, 17, 19, 21] [], .dr [15, 17, 18, 21] [], .dr [15, 17, 18, 21] [], .dr [15, 17, 18, 19] [], .dr [15, 17, 18] [], .dr [15, 17] [], .dr [15, 17] [], .free, .free]) [
    ⟨some 14, .iaa 2 2 (.t 5) (.c (.int .i64 0)), none, true⟩,
    ⟨some 15, .load true 2 (.t 14), none, true⟩,
    ⟨some 16, .iaa 2 2 (.t 5) (.c (.int .i64 1)), none, true⟩,
    ⟨some 17, .load true 2 (.t 16), none, true⟩,
    ⟨some 18, .load false 1 (.t 1), none, true⟩,
    ⟨some 19, .load false 1 (.t 4), none, true⟩,
    ⟨some 20, .bin .add (.t 19) (.c (.int .i64 2)), none, true⟩,
    ⟨some 21, .load false 1 (.t 3), none, true⟩,
    ⟨some 22, .bin .rem (.t 20) (.t 21), none, true⟩,
    ⟨some 23, .ias 2 (.t 18) (.t 22), none, true⟩,
    ⟨some 24, .load true 2 (.t 23), none, true⟩,
    ⟨some 25, .call 55 [.t 15, .t 17, .t 24], none, true⟩,
    ⟨some 26, .bin .eql (.t 25) (.c (.int .i64 0)), none, true⟩] (some [1, 2, 3, 4, 5, 26]) []) (
  (.cond (.t 26) (
    (.seq (
    .reg none [
      ⟨none, .store 1 (.t 2) (.c (.bool false)), none, true⟩] (some []) []) (
    .ret))) (
    .skip))))) (
  (.seq (
  .reg none [
    ⟨some 27, .load false 1 (.t 1), none, true⟩,
    ⟨some 28, .call 57 [.t 27], none, true⟩] (some [2, 3, 4, 5, 28]) [1]) (
  (.block 2 (
  A67_R0) (some []) [6, 7, 58])))))) (some []) [6, 7, 25, 28, 58])
def A67_R1 : ACode := .rf 0 (.t 11) [12, 13]  A67_R1a A67_R1b
/-- ambidexter/polygon.simple -/
def A67 : AFn := .code [.cell false 1 2] (
(.seq (
.reg none [
  ⟨some 1, .box (.t 0), none, true⟩,
  ⟨some 2, .alloc [.bool false], none, true⟩] (some [1, 2]) []) (
(.seq (
.reg none [
  ⟨some 8, .load false 1 (.t 1), none, true⟩,
  ⟨some 9, .len 0 (.t 8), none, true⟩,
  ⟨some 3, .alloc [.int .i64 0], none, true⟩,
  ⟨none, .store 1 (.t 3) (.t 9), none, true⟩] (some [1, 2, 3]) []) (
(.seq (
(.seq (
.reg none [
  ⟨some 10, .load false 1 (.t 1), none, true⟩,
  ⟨some 11, .call 57 [.t 10], none, true⟩] (some [1, 2, 3, 11]) []) (
(.block 0 (
A67_R1) (some [2]) [4, 5, 6, 7, 25, 28, 58])))) (
(.seq (
.reg none [
  ⟨none, .store 1 (.t 2) (.c (.bool true)), none, true⟩] (some [2]) []) (
.ret)))))))))
def A68_L0b : ACode := 
  (.seq (
  .reg none [
    ⟨some 11, .bin .lss (.t 10) (.t 9), none, true⟩] (some [1, 5, 8, 9, 10, 11]) []) (
  (.seq (
  (.cond (.t 11) (
    .skip) (
    .exit 0))) (
  (.seq (
  (.block 1 (
  (.seq (
  .reg none [
    ⟨some 12, .ias 2 (.t 8) (.t 10), none, true⟩,
    ⟨some 13, .load true 2 (.t 12), none, true⟩,
    ⟨some 7, .alloc [.int .i64 0, .int .i64 0], none, true⟩,
    ⟨none, .store 2 (.t 7) (.t 13), none, true⟩] (some [1, 5, 7, 8, 9, 10]) []) (
  .reg none [
    ⟨some 14, .mv (.t 5), none, true⟩,
    ⟨some 15, .mv (.t 1), none, true⟩,
    ⟨some 16, .load true 2 (.t 7), none, true⟩,
    ⟨some 17, .cal (.t 15) [.t 16], none, true⟩,
    ⟨some 18, .bsl 2 1 [.int .i64 0, .int .i64 0] [(0, .t 17)], none, true⟩,
    ⟨some 19, .app 2 (.t 14) (.t 18), none, true⟩,
    ⟨some 5, .as (.t 19), none, true⟩] (some [1, 5, 8, 9, 10]) [7]))) (some [1, 5, 8, 9, 10]) [7, 17, 18])) (
  .reg none [
    ⟨some 20, .bin .add (.t 10) (.c (.int .i64 1)), none, true⟩,
    ⟨some 10, .mv (.t 20), none, true⟩] (some [1, 5, 8, 9, 10]) []))))))
def A68_L0 : ACode := .loop A68_L0b (some [1, 5, 8, 9, 10]) [7, 17, 18]
/-- ambidexter/polygon.each[ambidexter/api.Point,ambidexter/api.Polygon] -/
def A68 : AFn := .code [.t 4] (
(.seq (
.reg none [
  ⟨some 4, .as (.c (.nils 2)), none, true⟩] (some [0, 1]) []) (
(.seq (
.reg none [
  ⟨some 5, .as (.c (.nils 2)), none, true⟩] (some [0, 1, 5]) []) (
(.seq (
(.seq (
.reg none [
  ⟨some 8, .mv (.t 0), none, true⟩,
  ⟨some 9, .len 0 (.t 8), none, true⟩,
  ⟨some 10, .mv (.c (.int .i64 0)), none, true⟩] (some [1, 5, 8, 9, 10]) []) (
(.block 0 (
A68_L0) (some [5]) [7, 17, 18])))) (
(.seq (
.reg none [
  ⟨some 21, .mv (.t 5), none, true⟩,
  ⟨some 4, .as (.t 21), none, true⟩] (some [4]) []) (
.ret)))))))))
/-- ambidexter/polygon.Translate$1 -/
def A69 : AFn := .code [.cell true 2 3] (
(.seq (
.reg none [
  ⟨some 2, .box (.t 0), none, true⟩,
  ⟨some 3, .alloc [.int .i64 0, .int .i64 0], none, true⟩] (some [1, 2, 3]) []) (
(.seq (
.reg none [
  ⟨some 4, .load true 2 (.t 2), none, true⟩,
  ⟨some 5, .load true 2 (.t 1), none, true⟩,
  ⟨some 6, .call 41 [.t 4, .t 5], none, true⟩,
  ⟨none, .store 2 (.t 3) (.t 6), none, true⟩] (some [3]) [2]) (
.ret)))))
def A70_L0b : ACode := 
  (.seq (
  .reg none [
    ⟨some 14, .bin .lss (.t 13) (.t 12), none, true⟩] (some [0, 1, 12, 13, 14]) []) (
  (.seq (
  (.cond (.t 14) (
    .skip) (
    .exit 0))) (
  (.seq (
  (.block 1 (
  (.seq (
  .reg none [
    ⟨some 15, .mv (.t 13), none, true⟩,
    ⟨some 5, .as (.t 15), none, true⟩] (some [0, 1, 5, 12, 13]) []) (
  (.seq (
  .reg (some [.dr [22, 23] [], .dr [22, 23] [], .dr [22, 23] [], .dr [22, 23] [], .dr [18, 19] [], .dr [18, 19] [], .dr [18, 19] [], .dr [18, 19] [], .free]) [
    ⟨some 16, .mv (.t 0), none, true⟩,
    ⟨some 17, .mv (.t 5), none, true⟩,
    ⟨some 18, .ias 2 (.t 16) (.t 17), none, true⟩,
    ⟨some 19, .load true 2 (.t 18), none, true⟩,
    ⟨some 20, .mv (.t 1), none, true⟩,
    ⟨some 21, .mv (.t 5), none, true⟩,
    ⟨some 22, .ias 2 (.t 20) (.t 21), none, true⟩,
    ⟨some 23, .load true 2 (.t 22), none, true⟩,
    ⟨some 24, .eqa true [0, 0] (.t 19) (.t 23), none, true⟩] (some [0, 1, 12, 13, 24]) []) (
  (.cond (.t 24) (
    (.seq (
    .reg none [
      ⟨some 4, .as (.c (.bool false)), none, true⟩] (some [4]) []) (
    .ret))) (
    .skip))))))) (some [0, 1, 12, 13]) [4, 5])) (
  .reg none [
    ⟨some 25, .bin .add (.t 13) (.c (.int .i64 1)), none, true⟩,
    ⟨some 13, .mv (.t 25), none, true⟩] (some [0, 1, 12, 13]) []))))))
def A70_L0 : ACode := .loop A70_L0b (some [0, 1, 12, 13]) [4, 5]
/-- slices.Equal[ambidexter/api.Polygon,ambidexter/api.Point] -/
def A70 : AFn := .code [.t 4] (
(.seq (
.reg none [
  ⟨some 4, .as (.c (.bool false)), none, true⟩] (some [0, 1]) []) (
(.seq (
(.seq (
.reg none [
  ⟨some 6, .mv (.t 0), none, true⟩,
  ⟨some 7, .len 0 (.t 6), none, true⟩,
  ⟨some 8, .mv (.t 1), none, true⟩,
  ⟨some 9, .len 0 (.t 8), none, true⟩,
  ⟨some 10, .bin .neq (.t 7) (.t 9), none, true⟩] (some [0, 1, 10]) []) (
(.cond (.t 10) (
  (.seq (
  .reg none [
    ⟨some 4, .as (.c (.bool false)), none, true⟩] (some [4]) []) (
  .ret))) (
  .skip))))) (
(.seq (
(.seq (
.reg none [
  ⟨some 11, .mv (.t 0), none, true⟩,
  ⟨some 12, .len 0 (.t 11), none, true⟩,
  ⟨some 13, .mv (.c (.int .i64 0)), none, true⟩] (some [0, 1, 12, 13]) []) (
(.block 0 (
A70_L0) (some []) [4, 5])))) (
(.seq (
.reg none [
  ⟨some 4, .as (.c (.bool true)), none, true⟩] (some [4]) []) (
.ret)))))))))
/-- ambidexter/polygon.Rotate$1 -/
def A71 : AFn := .code [.cell true 2 4] (
(.seq (
.reg none [
  ⟨some 3, .box (.t 0), none, true⟩,
  ⟨some 4, .alloc [.int .i64 0, .int .i64 0], none, true⟩] (some [1, 2, 3, 4]) []) (
(.seq (
.reg none [
  ⟨some 8, .load true 2 (.t 3), none, true⟩,
  ⟨some 9, .load false 1 (.t 1), none, true⟩,
  ⟨some 10, .call 72 [.t 8, .t 9], none, true⟩,
  ⟨some 7, .mv (.t 10), none, true⟩,
  ⟨some 11, .ext (.t 7) 0, none, true⟩,
  ⟨some 12, .ext (.t 7) 1, none, true⟩,
  ⟨some 5, .alloc [.int .i64 0, .int .i64 0], none, true⟩,
  ⟨none, .store 2 (.t 5) (.t 11), none, true⟩,
  ⟨some 6, .as (.t 12), none, true⟩] (some [2, 4, 5, 6]) [3]) (
(.seq (
.reg none [
  ⟨some 13, .load false 1 (.t 2), none, true⟩,
  ⟨some 14, .mv (.t 13), none, true⟩,
  ⟨some 15, .mv (.t 6), some (14, true), true⟩,
  ⟨some 16, .pick (.t 14) (.t 15) (.c (.bool false)), none, true⟩,
  ⟨none, .store 1 (.t 2) (.t 16), none, true⟩] (some [4, 5]) []) (
(.seq (
.reg none [
  ⟨some 17, .load true 2 (.t 5), none, true⟩,
  ⟨none, .store 2 (.t 4) (.t 17), none, true⟩] (some [4]) [5]) (
.ret)))))))))
/-- ambidexter/rotation.RotatePoint -/
def A72 : AFn := .code [.cell true 2 4, .t 5] (
(.seq (
.reg none [
  ⟨some 2, .box (.t 0), none, true⟩,
  ⟨some 4, .alloc [.int .i64 0, .int .i64 0], none, true⟩,
  ⟨some 5, .as (.c (.bool false)), none, true⟩] (some [1, 2, 4]) []) (
(.seq (
.reg none [
  ⟨some 7, .fad 0 (.t 2), none, true⟩,
  ⟨some 8, .load false 1 (.t 7), none, true⟩,
  ⟨some 9, .fad 1 (.t 2), none, true⟩,
  ⟨some 10, .load false 1 (.t 9), none, true⟩,
  ⟨some 11, .build [.int .i64 0, .int .i64 0] [(0, 1, .t 8), (1, 1, .t 10)], none, true⟩,
  ⟨some 12, .mv (.t 1), none, true⟩,
  ⟨some 13, .call 84 [.t 11, .t 12], none, true⟩,
  ⟨some 6, .alloc [.int .i64 0, .int .i64 0], none, true⟩,
  ⟨none, .store 2 (.t 6) (.t 13), none, true⟩] (some [4, 6]) [2]) (
(.seq (
(.seq (
.reg none [
  ⟨some 14, .fad 0 (.t 6), none, true⟩,
  ⟨some 15, .load false 1 (.t 14), none, true⟩,
  ⟨some 16, .bin .rem (.t 15) (.c (.int .i64 65)), none, true⟩,
  ⟨some 17, .bin .neq (.t 16) (.c (.int .i64 0)), none, true⟩,
  ⟨some 18, .mv (.t 17), none, true⟩,
  ⟨some 19, .fad 1 (.t 6), some (18, false), true⟩,
  ⟨some 20, .load false 1 (.t 19), some (18, false), true⟩,
  ⟨some 21, .bin .rem (.t 20) (.c (.int .i64 65)), some (18, false), true⟩,
  ⟨some 22, .bin .neq (.t 21) (.c (.int .i64 0)), some (18, false), true⟩,
  ⟨some 23, .pick (.t 18) (.c (.bool true)) (.t 22), none, true⟩] (some [4, 6, 23]) []) (
(.cond (.t 23) (
  (.seq (
  .reg none [
    ⟨some 24, .build [.int .i64 0, .int .i64 0] [], none, true⟩,
    ⟨none, .store 2 (.t 4) (.t 24), none, true⟩,
    ⟨some 5, .as (.c (.bool false)), none, true⟩] (some [4, 5]) []) (
  .ret))) (
  .skip))))) (
(.seq (
.reg none [
  ⟨some 25, .fad 0 (.t 6), none, true⟩,
  ⟨some 26, .load false 1 (.t 25), none, true⟩,
  ⟨some 27, .bin .quo (.t 26) (.c (.int .i64 65)), none, true⟩,
  ⟨some 28, .fad 1 (.t 6), none, true⟩,
  ⟨some 29, .load false 1 (.t 28), none, true⟩,
  ⟨some 30, .bin .quo (.t 29) (.c (.int .i64 65)), none, true⟩,
  ⟨some 31, .build [.int .i64 0, .int .i64 0] [(0, 1, .t 27), (1, 1, .t 30)], none, true⟩,
  ⟨none, .store 2 (.t 4) (.t 31), none, true⟩,
  ⟨some 5, .as (.c (.bool true)), none, true⟩] (some [4, 5]) [6]) (
.ret)))))))))
def A73_L0b : ACode := 
  (.seq (
  .reg none [
    ⟨some 8, .bin .lss (.t 7) (.t 6), none, true⟩] (some [0, 1, 5, 6, 7, 8]) []) (
  (.seq (
  (.cond (.t 8) (
    .skip) (
    .exit 0))) (
  (.seq (
  (.block 1 (
  (.seq (
  .reg none [
    ⟨some 9, .mv (.t 7), none, true⟩,
    ⟨some 10, .ias 2 (.t 5) (.t 7), none, true⟩,
    ⟨some 11, .load true 2 (.t 10), none, true⟩,
    ⟨some 4, .alloc [.int .i64 0, .int .i64 0], none, true⟩,
    ⟨some 3, .as (.t 9), none, true⟩,
    ⟨none, .store 2 (.t 4) (.t 11), none, true⟩] (some [0, 1, 3, 4, 5, 6, 7]) []) (
  (.seq (
  .reg (some [.dr [14, 15, 18, 19, 21, 22] [], .dr [14, 15, 18, 19, 21, 22] [], .dr [15, 18, 19, 21, 22] [], .dr [14, 18, 19] [], .dr [14, 15, 18, 19] [], .dr [14, 15, 18, 19] [], .dr [14, 15] [], .dr [14, 15] [], .dr [14, 15] [], .dr [14] [], .dr [14] [], .dr [] [], .free, .free]) [
    ⟨some 12, .mv (.t 0), none, true⟩,
    ⟨some 13, .mv (.t 3), none, true⟩,
    ⟨some 14, .load true 2 (.t 4), none, true⟩,
    ⟨some 15, .load false 1 (.t 1), none, true⟩,
    ⟨some 16, .mv (.t 3), none, true⟩,
    ⟨some 17, .bin .add (.t 16) (.c (.int .i64 1)), none, true⟩,
    ⟨some 18, .load false 1 (.t 1), none, true⟩,
    ⟨some 19, .len 0 (.t 18), none, true⟩,
    ⟨some 20, .bin .rem (.t 17) (.t 19), none, true⟩,
    ⟨some 21, .ias 2 (.t 15) (.t 20), none, true⟩,
    ⟨some 22, .load true 2 (.t 21), none, true⟩,
    ⟨some 23, .build [.int .i64 0, .int .i64 0, .int .i64 0, .int .i64 0] [(0, 2, .t 14), (2, 2, .t 22)], none, true⟩,
    ⟨some 24, .cal (.t 12) [.t 13, .t 23], none, true⟩,
    ⟨some 25, .un .not (.t 24), none, true⟩] (some [0, 1, 5, 6, 7, 25]) [4]) (
  (.cond (.t 25) (
    .ret) (
    .skip))))))) (some [0, 1, 5, 6, 7]) [3, 4, 24])) (
  .reg none [
    ⟨some 26, .bin .add (.t 7) (.c (.int .i64 1)), none, true⟩,
    ⟨some 7, .mv (.t 26), none, true⟩] (some [0, 1, 5, 6, 7]) []))))))
def A73_L0 : ACode := .loop A73_L0b (some [0, 1, 5, 6, 7]) [3, 4, 24]
/-- ambidexter/intersect.edges$1 -/
def A73 : AFn := .code [] (
(.seq (
.reg none [
  ⟨some 5, .load false 1 (.t 1), none, true⟩,
  ⟨some 6, .len 0 (.t 5), none, true⟩,
  ⟨some 7, .mv (.c (.int .i64 0)), none, true⟩] (some [0, 1, 5, 6, 7]) []) (
(.block 0 (
A73_L0) (some []) [3, 4, 24]))))
def A74_L0b : ACode := 
  (.seq (
  .reg none [
    ⟨some 10, .bin .lss (.t 9) (.t 8), none, true⟩] (some [1, 7, 8, 9, 10]) []) (
  (.seq (
  (.cond (.t 10) (
    .skip) (
    .exit 0))) (
  (.seq (
  (.block 1 (
  (.seq (
  .reg none [
    ⟨some 11, .ias 2 (.t 7) (.t 9), none, true⟩,
    ⟨some 12, .load true 2 (.t 11), none, true⟩,
    ⟨some 6, .alloc [.int .i64 0, .int .i64 0], none, true⟩,
    ⟨none, .store 2 (.t 6) (.t 12), none, true⟩] (some [1, 6, 7, 8, 9]) []) (
  (.seq (
  .reg none [
    ⟨some 13, .mv (.t 1), none, true⟩,
    ⟨some 14, .load true 2 (.t 6), none, true⟩,
    ⟨some 15, .cal (.t 13) [.t 14], none, true⟩,
    ⟨some 16, .un .not (.t 15), none, true⟩] (some [1, 7, 8, 9, 16]) [6]) (
  (.cond (.t 16) (
    (.seq (
    .reg none [
      ⟨some 4, .as (.c (.bool false)), none, true⟩] (some [4]) []) (
    .ret))) (
    .skip))))))) (some [1, 7, 8, 9]) [4, 6, 15])) (
  .reg none [
    ⟨some 17, .bin .add (.t 9) (.c (.int .i64 1)), none, true⟩,
    ⟨some 9, .mv (.t 17), none, true⟩] (some [1, 7, 8, 9]) []))))))
def A74_L0 : ACode := .loop A74_L0b (some [1, 7, 8, 9]) [4, 6, 15]
/-- ambidexter/intersect.all -/
def A74 : AFn := .code [.t 4] (
(.seq (
.reg none [
  ⟨some 4, .as (.c (.bool false)), none, true⟩] (some [0, 1]) []) (
(.seq (
(.seq (
.reg none [
  ⟨some 7, .mv (.t 0), none, true⟩,
  ⟨some 8, .len 0 (.t 7), none, true⟩,
  ⟨some 9, .mv (.c (.int .i64 0)), none, true⟩] (some [1, 7, 8, 9]) []) (
(.block 0 (
A74_L0) (some []) [4, 6, 15])))) (
(.seq (
.reg none [
  ⟨some 4, .as (.c (.bool true)), none, true⟩] (some [4]) []) (
.ret)))))))
/-- (ambidexter/intersect.edge).beyond$1 -/
def A75 : AFn := .code [.t 3] (
(.seq (
.reg none [
  ⟨some 2, .box (.t 0), none, true⟩,
  ⟨some 3, .as (.c (.bool false)), none, true⟩] (some [1, 2]) []) (
(.seq (
.reg none [
  ⟨some 4, .fad 0 (.t 1), none, true⟩,
  ⟨some 5, .load true 2 (.t 4), none, true⟩,
  ⟨some 6, .fad 2 (.t 1), none, true⟩,
  ⟨some 7, .load true 2 (.t 6), none, true⟩,
  ⟨some 8, .load true 2 (.t 2), none, true⟩,
  ⟨some 9, .call 55 [.t 5, .t 7, .t 8], none, true⟩,
  ⟨some 10, .bin .lss (.t 9) (.c (.int .i64 0)), none, true⟩,
  ⟨some 3, .as (.t 10), none, true⟩] (some [3]) [2]) (
.ret)))))
/-- ambidexter/ambidexterref02.On -/
def A76 : AFn := .code [.t 6] (
(.seq (
.reg none [
  ⟨some 3, .box (.t 0), none, true⟩,
  ⟨some 4, .box (.t 1), none, true⟩,
  ⟨some 5, .box (.t 2), none, true⟩,
  ⟨some 6, .as (.c (.bool false)), none, true⟩] (some [3, 4, 5]) []) (
(.seq (
.reg none [
  ⟨some 7, .load true 2 (.t 3), none, true⟩,
  ⟨some 8, .load true 2 (.t 4), none, true⟩,
  ⟨some 9, .load true 2 (.t 5), none, true⟩,
  ⟨some 10, .call 53 [.t 7, .t 8, .t 9], none, true⟩,
  ⟨some 11, .bin .eql (.t 10) (.c (.int .i64 0)), none, true⟩,
  ⟨some 12, .mv (.t 11), none, true⟩,
  ⟨some 13, .fad 0 (.t 3), some (12, true), true⟩,
  ⟨some 14, .load false 1 (.t 13), some (12, true), true⟩,
  ⟨some 15, .fad 0 (.t 4), some (12, true), true⟩,
  ⟨some 16, .load false 1 (.t 15), some (12, true), true⟩,
  ⟨some 17, .fad 0 (.t 5), some (12, true), true⟩,
  ⟨some 18, .load false 1 (.t 17), some (12, true), true⟩,
  ⟨some 19, .call 85 [.t 14, .t 16, .t 18], some (12, true), true⟩,
  ⟨some 20, .pick (.t 12) (.t 19) (.c (.bool false)), none, true⟩,
  ⟨some 21, .mv (.t 20), none, true⟩,
  ⟨some 22, .fad 1 (.t 3), some (21, true), true⟩,
  ⟨some 23, .load false 1 (.t 22), some (21, true), true⟩,
  ⟨some 24, .fad 1 (.t 4), some (21, true), true⟩,
  ⟨some 25, .load false 1 (.t 24), some (21, true), true⟩,
  ⟨some 26, .fad 1 (.t 5), some (21, true), true⟩,
  ⟨some 27, .load false 1 (.t 26), some (21, true), true⟩,
  ⟨some 28, .call 85 [.t 23, .t 25, .t 27], some (21, true), true⟩,
  ⟨some 29, .pick (.t 21) (.t 28) (.c (.bool false)), none, true⟩,
  ⟨some 6, .as (.t 29), none, true⟩] (some [6]) [3, 4, 5]) (
.ret)))))
/-- ambidexter/ambidexterref03.On -/
def A77 : AFn := .code [.t 6] (
(.seq (
.reg none [
  ⟨some 3, .box (.t 0), none, true⟩,
  ⟨some 4, .box (.t 1), none, true⟩,
  ⟨some 5, .box (.t 2), none, true⟩,
  ⟨some 6, .as (.c (.bool false)), none, true⟩] (some [3, 4, 5]) []) (
(.seq (
.reg none [
  ⟨some 7, .load true 2 (.t 3), none, true⟩,
  ⟨some 8, .load true 2 (.t 4), none, true⟩,
  ⟨some 9, .load true 2 (.t 5), none, true⟩,
  ⟨some 10, .call 59 [.t 7, .t 8, .t 9], none, true⟩,
  ⟨some 11, .bin .eql (.t 10) (.c (.int .i64 0)), none, true⟩,
  ⟨some 12, .mv (.t 11), none, true⟩,
  ⟨some 13, .fad 0 (.t 3), some (12, true), true⟩,
  ⟨some 14, .load false 1 (.t 13), some (12, true), true⟩,
  ⟨some 15, .fad 0 (.t 4), some (12, true), true⟩,
  ⟨some 16, .load false 1 (.t 15), some (12, true), true⟩,
  ⟨some 17, .fad 0 (.t 5), some (12, true), true⟩,
  ⟨some 18, .load false 1 (.t 17), some (12, true), true⟩,
  ⟨some 19, .call 86 [.t 14, .t 16, .t 18], some (12, true), true⟩,
  ⟨some 20, .pick (.t 12) (.t 19) (.c (.bool false)), none, true⟩,
  ⟨some 21, .mv (.t 20), none, true⟩,
  ⟨some 22, .fad 1 (.t 3), some (21, true), true⟩,
  ⟨some 23, .load false 1 (.t 22), some (21, true), true⟩,
  ⟨some 24, .fad 1 (.t 4), some (21, true), true⟩,
  ⟨some 25, .load false 1 (.t 24), some (21, true), true⟩,
  ⟨some 26, .fad 1 (.t 5), some (21, true), true⟩,
  ⟨some 27, .load false 1 (.t 26), some (21, true), true⟩,
  ⟨some 28, .call 86 [.t 23, .t 25, .t 27], some (21, true), true⟩,
  ⟨some 29, .pick (.t 21) (.t 28) (.c (.bool false)), none, true⟩,
  ⟨some 6, .as (.t 29), none, true⟩] (some [6]) [3, 4, 5]) (
.ret)))))
/-- ambidexter/ambidexterref02.Cross -/
def A78 : AFn := .code [.t 6] (
(.seq (
.reg none [
  ⟨some 3, .box (.t 0), none, true⟩,
  ⟨some 4, .box (.t 1), none, true⟩,
  ⟨some 5, .box (.t 2), none, true⟩,
  ⟨some 6, .as (.c (.int .i64 0)), none, true⟩] (some [3, 4, 5]) []) (
(.seq (
.reg none [
  ⟨some 7, .fad 0 (.t 4), none, true⟩,
  ⟨some 8, .load false 1 (.t 7), none, true⟩,
  ⟨some 9, .fad 0 (.t 3), none, true⟩,
  ⟨some 10, .load false 1 (.t 9), none, true⟩,
  ⟨some 11, .bin .sub (.t 8) (.t 10), none, true⟩,
  ⟨some 12, .fad 1 (.t 5), none, true⟩,
  ⟨some 13, .load false 1 (.t 12), none, true⟩,
  ⟨some 14, .fad 1 (.t 3), none, true⟩,
  ⟨some 15, .load false 1 (.t 14), none, true⟩,
  ⟨some 16, .bin .sub (.t 13) (.t 15), none, true⟩,
  ⟨some 17, .bin .mul (.t 11) (.t 16), none, true⟩,
  ⟨some 18, .fad 1 (.t 4), none, true⟩,
  ⟨some 19, .load false 1 (.t 18), none, true⟩,
  ⟨some 20, .fad 1 (.t 3), none, true⟩,
  ⟨some 21, .load false 1 (.t 20), none, true⟩,
  ⟨some 22, .bin .sub (.t 19) (.t 21), none, true⟩,
  ⟨some 23, .fad 0 (.t 5), none, true⟩,
  ⟨some 24, .load false 1 (.t 23), none, true⟩,
  ⟨some 25, .fad 0 (.t 3), none, true⟩,
  ⟨some 26, .load false 1 (.t 25), none, true⟩,
  ⟨some 27, .bin .sub (.t 24) (.t 26), none, true⟩,
  ⟨some 28, .bin .mul (.t 22) (.t 27), none, true⟩,
  ⟨some 29, .bin .sub (.t 17) (.t 28), none, true⟩,
  ⟨some 6, .as (.t 29), none, true⟩] (some [6]) [3, 4, 5]) (
.ret)))))
/-- ambidexter/geom.Sub -/
def A79 : AFn := .code [.cell true 2 4] (
(.seq (
.reg none [
  ⟨some 2, .box (.t 0), none, true⟩,
  ⟨some 3, .box (.t 1), none, true⟩,
  ⟨some 4, .alloc [.int .i64 0, .int .i64 0], none, true⟩] (some [2, 3, 4]) []) (
(.seq (
.reg none [
  ⟨some 5, .fad 0 (.t 2), none, true⟩,
  ⟨some 6, .load false 1 (.t 5), none, true⟩,
  ⟨some 7, .fad 0 (.t 3), none, true⟩,
  ⟨some 8, .load false 1 (.t 7), none, true⟩,
  ⟨some 9, .bin .sub (.t 6) (.t 8), none, true⟩,
  ⟨some 10, .fad 1 (.t 2), none, true⟩,
  ⟨some 11, .load false 1 (.t 10), none, true⟩,
  ⟨some 12, .fad 1 (.t 3), none, true⟩,
  ⟨some 13, .load false 1 (.t 12), none, true⟩,
  ⟨some 14, .bin .sub (.t 11) (.t 13), none, true⟩,
  ⟨some 15, .build [.int .i64 0, .int .i64 0] [(0, 1, .t 9), (1, 1, .t 14)], none, true⟩,
  ⟨none, .store 2 (.t 4) (.t 15), none, true⟩] (some [4]) [2, 3]) (
.ret)))))
/-- ambidexter/geom.BoundingBox -/
def A80 : AFn := .code [.cell true 2 2, .cell true 2 3] (
(.seq (
.reg none [
  ⟨some 2, .alloc [.int .i64 0, .int .i64 0], none, true⟩,
  ⟨some 3, .alloc [.int .i64 0, .int .i64 0], none, true⟩] (some [0, 2, 3]) []) (
(.seq (
(.seq (
.reg none [
  ⟨some 6, .mv (.t 0), none, true⟩,
  ⟨some 7, .len 0 (.t 6), none, true⟩,
  ⟨some 8, .bin .eql (.t 7) (.c (.int .i64 0)), none, true⟩] (some [0, 2, 3, 8]) []) (
(.cond (.t 8) (
  (.seq (
  .reg none [
    ⟨some 9, .build [.int .i64 0, .int .i64 0] [], none, true⟩,
    ⟨some 10, .build [.int .i64 0, .int .i64 0] [], none, true⟩,
    ⟨none, .store 2 (.t 2) (.t 9), none, true⟩,
    ⟨none, .store 2 (.t 3) (.t 10), none, true⟩] (some [2, 3]) []) (
  .ret))) (
  .skip))))) (
(.seq (
.reg none [
  ⟨some 11, .mv (.t 0), none, true⟩,
  ⟨some 12, .mv (.t 0), none, true⟩,
  ⟨some 13, .ias 2 (.t 12) (.c (.int .i64 0)), none, true⟩,
  ⟨some 14, .load true 2 (.t 13), none, true⟩,
  ⟨some 15, .call 87 [.t 11, .t 14, .fu 88], none, true⟩,
  ⟨some 4, .alloc [.int .i64 0, .int .i64 0], none, true⟩,
  ⟨none, .store 2 (.t 4) (.t 15), none, true⟩] (some [0, 2, 3, 4]) []) (
(.seq (
.reg none [
  ⟨some 16, .mv (.t 0), none, true⟩,
  ⟨some 17, .mv (.t 0), none, true⟩,
  ⟨some 18, .ias 2 (.t 17) (.c (.int .i64 0)), none, true⟩,
  ⟨some 19, .load true 2 (.t 18), none, true⟩,
  ⟨some 20, .call 87 [.t 16, .t 19, .fu 89], none, true⟩,
  ⟨some 5, .alloc [.int .i64 0, .int .i64 0], none, true⟩,
  ⟨none, .store 2 (.t 5) (.t 20), none, true⟩] (some [2, 3, 4, 5]) []) (
(.seq (
.reg (some [.dr [22] [], .dr [21] [2], .dr [22] [], .free]) [
  ⟨some 21, .load true 2 (.t 4), none, true⟩,
  ⟨some 22, .load true 2 (.t 5), none, true⟩,
  ⟨none, .store 2 (.t 2) (.t 21), none, true⟩,
  ⟨none, .store 2 (.t 3) (.t 22), none, true⟩] (some [2, 3]) [4, 5]) (
.ret)))))))))))
def A81_L0b : ACode := 
  (.seq (
  .reg none [
    ⟨some 8, .bin .lss (.t 7) (.t 6), none, true⟩] (some [0, 1, 5, 6, 7, 8]) []) (
  (.seq (
  (.cond (.t 8) (
    .skip) (
    .exit 0))) (
  (.seq (
  (.block 1 (
  (.seq (
  .reg none [
    ⟨some 9, .mv (.t 7), none, true⟩,
    ⟨some 10, .ias 2 (.t 5) (.t 7), none, true⟩,
    ⟨some 11, .load true 2 (.t 10), none, true⟩,
    ⟨some 4, .alloc [.int .i64 0, .int .i64 0], none, true⟩,
    ⟨some 3, .as (.t 9), none, true⟩,
    ⟨none, .store 2 (.t 4) (.t 11), none, true⟩] (some [0, 1, 3, 4, 5, 6, 7]) []) (
  (.seq (
  .reg (some [.dr [14, 15, 18, 19, 21, 22] [], .dr [14, 15, 18, 19, 21, 22] [], .dr [15, 18, 19, 21, 22] [], .dr [14, 18, 19] [], .dr [14, 15, 18, 19] [], .dr [14, 15, 18, 19] [], .dr [14, 15] [], .dr [14, 15] [], .dr [14, 15] [], .dr [14] [], .dr [14] [], .dr [] [], .free, .free]) [
    ⟨some 12, .mv (.t 0), none, true⟩,
    ⟨some 13, .mv (.t 3), none, true⟩,
    ⟨some 14, .load true 2 (.t 4), none, true⟩,
    ⟨some 15, .load false 1 (.t 1), none, true⟩,
    ⟨some 16, .mv (.t 3), none, true⟩,
    ⟨some 17, .bin .add (.t 16) (.c (.int .i64 1)), none, true⟩,
    ⟨some 18, .load false 1 (.t 1), none, true⟩,
    ⟨some 19, .len 0 (.t 18), none, true⟩,
    ⟨some 20, .bin .rem (.t 17) (.t 19), none, true⟩,
    ⟨some 21, .ias 2 (.t 15) (.t 20), none, true⟩,
    ⟨some 22, .load true 2 (.t 21), none, true⟩,
    ⟨some 23, .build [.int .i64 0, .int .i64 0, .int .i64 0, .int .i64 0] [(0, 2, .t 14), (2, 2, .t 22)], none, true⟩,
    ⟨some 24, .cal (.t 12) [.t 13, .t 23], none, true⟩,
    ⟨some 25, .un .not (.t 24), none, true⟩] (some [0, 1, 5, 6, 7, 25]) [4]) (
  (.cond (.t 25) (
    .ret) (
    .skip))))))) (some [0, 1, 5, 6, 7]) [3, 4, 24])) (
  .reg none [
    ⟨some 26, .bin .add (.t 7) (.c (.int .i64 1)), none, true⟩,
    ⟨some 7, .mv (.t 26), none, true⟩] (some [0, 1, 5, 6, 7]) []))))))
def A81_L0 : ACode := .loop A81_L0b (some [0, 1, 5, 6, 7]) [3, 4, 24]
/-- ambidexter/polygon.edges$1 -/
def A81 : AFn := .code [] (
(.seq (
.reg none [
  ⟨some 5, .load false 1 (.t 1), none, true⟩,
  ⟨some 6, .len 0 (.t 5), none, true⟩,
  ⟨some 7, .mv (.c (.int .i64 0)), none, true⟩] (some [0, 1, 5, 6, 7]) []) (
(.block 0 (
A81_L0) (some []) [3, 4, 24]))))
/-- ambidexter/ambidexterref03.sign -/
def A82 : AFn := .code [.t 2] (
(.seq (
.reg none [
  ⟨some 2, .as (.c (.int .i64 0)), none, true⟩] (some [0]) []) (
(.seq (
(.seq (
.reg none [
  ⟨some 3, .mv (.t 0), none, true⟩,
  ⟨some 4, .bin .gtr (.t 3) (.c (.int .i64 0)), none, true⟩] (some [0, 4]) []) (
(.cond (.t 4) (
  (.seq (
  .reg none [
    ⟨some 2, .as (.c (.int .i64 1)), none, true⟩] (some [2]) []) (
  .ret))) (
  .skip))))) (
(.seq (
(.seq (
.reg none [
  ⟨some 5, .mv (.t 0), none, true⟩,
  ⟨some 6, .bin .lss (.t 5) (.c (.int .i64 0)), none, true⟩] (some [6]) []) (
(.cond (.t 6) (
  (.seq (
  .reg none [
    ⟨some 2, .as (.c (.int .i64 (-1))), none, true⟩] (some [2]) []) (
  .ret))) (
  .skip))))) (
(.seq (
.reg none [
  ⟨some 2, .as (.c (.int .i64 0)), none, true⟩] (some [2]) []) (
.ret)))))))))
def A83_L0b : ACode := 
  (.seq (
  .reg none [
    ⟨some 9, .bin .lss (.t 8) (.t 7), none, true⟩] (some [0, 1, 7, 8, 9]) []) (
  (.seq (
  (.cond (.t 9) (
    .skip) (
    .exit 0))) (
  (.seq (
  (.block 1 (
  (.seq (
  .reg none [
    ⟨some 10, .mv (.t 8), none, true⟩,
    ⟨some 5, .as (.t 10), none, true⟩] (some [0, 1, 5, 7, 8]) []) (
  (.seq (
  .reg none [
    ⟨some 11, .mv (.t 1), none, true⟩,
    ⟨some 12, .mv (.t 0), none, true⟩,
    ⟨some 13, .mv (.t 5), none, true⟩,
    ⟨some 14, .ias 2 (.t 12) (.t 13), none, true⟩,
    ⟨some 15, .load true 2 (.t 14), none, true⟩,
    ⟨some 16, .cal (.t 11) [.t 15], none, true⟩] (some [0, 1, 5, 7, 8, 16]) []) (
  (.cond (.t 16) (
    (.seq (
    .reg none [
      ⟨some 17, .mv (.t 5), none, true⟩,
      ⟨some 4, .as (.t 17), none, true⟩] (some [4]) []) (
    .ret))) (
    .skip))))))) (some [0, 1, 7, 8]) [4, 5, 16])) (
  .reg none [
    ⟨some 18, .bin .add (.t 8) (.c (.int .i64 1)), none, true⟩,
    ⟨some 8, .mv (.t 18), none, true⟩] (some [0, 1, 7, 8]) []))))))
def A83_L0 : ACode := .loop A83_L0b (some [0, 1, 7, 8]) [4, 5, 16]
/-- slices.IndexFunc[ambidexter/api.Polygon,ambidexter/api.Point] -/
def A83 : AFn := .code [.t 4] (
(.seq (
.reg none [
  ⟨some 4, .as (.c (.int .i64 0)), none, true⟩] (some [0, 1]) []) (
(.seq (
(.seq (
.reg none [
  ⟨some 6, .mv (.t 0), none, true⟩,
  ⟨some 7, .len 0 (.t 6), none, true⟩,
  ⟨some 8, .mv (.c (.int .i64 0)), none, true⟩] (some [0, 1, 7, 8]) []) (
(.block 0 (
A83_L0) (some []) [4, 5, 16])))) (
(.seq (
.reg none [
  ⟨some 4, .as (.c (.int .i64 (-1))), none, true⟩] (some [4]) []) (
.ret)))))))
/-- (ambidexter/rotation.vector).by -/
def A84 : AFn := .code [.cell true 2 4] (
(.seq (
.reg none [
  ⟨some 2, .box (.t 0), none, true⟩,
  ⟨some 4, .alloc [.int .i64 0, .int .i64 0], none, true⟩] (some [1, 2, 4]) []) (
(.seq (
.reg none [
  ⟨some 8, .mv (.t 1), none, true⟩,
  ⟨some 9, .call 90 [.t 8], none, true⟩,
  ⟨some 7, .mv (.t 9), none, true⟩,
  ⟨some 10, .ext (.t 7) 0, none, true⟩,
  ⟨some 11, .ext (.t 7) 1, none, true⟩,
  ⟨some 5, .as (.t 10), none, true⟩,
  ⟨some 6, .as (.t 11), none, true⟩] (some [2, 4, 5, 6]) []) (
(.seq (
.reg none [
  ⟨some 12, .fad 0 (.t 2), none, true⟩,
  ⟨some 13, .load false 1 (.t 12), none, true⟩,
  ⟨some 14, .mv (.t 5), none, true⟩,
  ⟨some 15, .bin .mul (.t 13) (.t 14), none, true⟩,
  ⟨some 16, .fad 1 (.t 2), none, true⟩,
  ⟨some 17, .load false 1 (.t 16), none, true⟩,
  ⟨some 18, .mv (.t 6), none, true⟩,
  ⟨some 19, .bin .mul (.t 17) (.t 18), none, true⟩,
  ⟨some 20, .bin .sub (.t 15) (.t 19), none, true⟩,
  ⟨some 21, .fad 0 (.t 2), none, true⟩,
  ⟨some 22, .load false 1 (.t 21), none, true⟩,
  ⟨some 23, .mv (.t 6), none, true⟩,
  ⟨some 24, .bin .mul (.t 22) (.t 23), none, true⟩,
  ⟨some 25, .fad 1 (.t 2), none, true⟩,
  ⟨some 26, .load false 1 (.t 25), none, true⟩,
  ⟨some 27, .mv (.t 5), none, true⟩,
  ⟨some 28, .bin .mul (.t 26) (.t 27), none, true⟩,
  ⟨some 29, .bin .add (.t 24) (.t 28), none, true⟩,
  ⟨some 30, .build [.int .i64 0, .int .i64 0] [(0, 1, .t 20), (1, 1, .t 29)], none, true⟩,
  ⟨none, .store 2 (.t 4) (.t 30), none, true⟩] (some [4]) [2]) (
.ret)))))))
/-- ambidexter/ambidexterref02.between -/
def A85 : AFn := .code [.t 6] (
(.seq (
.reg none [
  ⟨some 6, .as (.c (.bool false)), none, true⟩] (some [0, 1, 2]) []) (
(.seq (
.reg none [
  ⟨some 7, .mv (.t 2), none, true⟩,
  ⟨some 8, .mv (.t 0), none, true⟩,
  ⟨some 9, .mv (.t 1), none, true⟩,
  ⟨some 10, .mn [.t 8, .t 9], none, true⟩,
  ⟨some 11, .bin .geq (.t 7) (.t 10), none, true⟩,
  ⟨some 12, .mv (.t 11), none, true⟩,
  ⟨some 13, .mv (.t 2), some (12, true), true⟩,
  ⟨some 14, .mv (.t 0), some (12, true), true⟩,
  ⟨some 15, .mv (.t 1), some (12, true), true⟩,
  ⟨some 16, .mx [.t 14, .t 15], some (12, true), true⟩,
  ⟨some 17, .bin .leq (.t 13) (.t 16), some (12, true), true⟩,
  ⟨some 18, .pick (.t 12) (.t 17) (.c (.bool false)), none, true⟩,
  ⟨some 6, .as (.t 18), none, true⟩] (some [6]) []) (
.ret)))))
/-- ambidexter/ambidexterref03.between -/
def A86 : AFn := .code [.t 6] (
(.seq (
.reg none [
  ⟨some 6, .as (.c (.bool false)), none, true⟩] (some [0, 1, 2]) []) (
(.seq (
.reg none [
  ⟨some 7, .mv (.t 0), none, true⟩,
  ⟨some 8, .mv (.t 2), none, true⟩,
  ⟨some 9, .bin .leq (.t 7) (.t 8), none, true⟩,
  ⟨some 10, .mv (.t 9), none, true⟩,
  ⟨some 11, .mv (.t 2), some (10, true), true⟩,
  ⟨some 12, .mv (.t 1), some (10, true), true⟩,
  ⟨some 13, .bin .leq (.t 11) (.t 12), some (10, true), true⟩,
  ⟨some 14, .pick (.t 10) (.t 13) (.c (.bool false)), none, true⟩,
  ⟨some 15, .mv (.t 14), none, true⟩,
  ⟨some 16, .mv (.t 1), some (15, false), true⟩,
  ⟨some 17, .mv (.t 2), some (15, false), true⟩,
  ⟨some 18, .bin .leq (.t 16) (.t 17), some (15, false), true⟩,
  ⟨some 19, .mv (.t 18), some (15, false), true⟩,
  ⟨some 20, .mv (.t 2), some (19, true), true⟩,
  ⟨some 21, .mv (.t 0), some (19, true), true⟩,
  ⟨some 22, .bin .leq (.t 20) (.t 21), some (19, true), true⟩,
  ⟨some 23, .pick (.t 19) (.t 22) (.c (.bool false)), some (15, false), true⟩,
  ⟨some 24, .pick (.t 15) (.c (.bool true)) (.t 23), none, true⟩,
  ⟨some 6, .as (.t 24), none, true⟩] (some [6]) []) (
.ret)))))
def A87_L0b : ACode := 
  (.seq (
  .reg none [
    ⟨some 12, .bin .lss (.t 11) (.t 10), none, true⟩] (some [2, 4, 6, 9, 10, 11, 12]) []) (
  (.seq (
  (.cond (.t 12) (
    .skip) (
    .exit 0))) (
  (.seq (
  (.block 1 (
  (.seq (
  .reg none [
    ⟨some 13, .ias 2 (.t 9) (.t 11), none, true⟩,
    ⟨some 14, .load true 2 (.t 13), none, true⟩,
    ⟨some 8, .alloc [.int .i64 0, .int .i64 0], none, true⟩,
    ⟨none, .store 2 (.t 8) (.t 14), none, true⟩] (some [2, 4, 6, 8, 9, 10, 11]) []) (
  .reg none [
    ⟨some 15, .mv (.t 2), none, true⟩,
    ⟨some 16, .load true 2 (.t 4), none, true⟩,
    ⟨some 17, .load true 2 (.t 8), none, true⟩,
    ⟨some 18, .cal (.t 15) [.t 16, .t 17], none, true⟩,
    ⟨none, .store 2 (.t 4) (.t 18), none, true⟩] (some [2, 4, 6, 9, 10, 11]) [8]))) (some [2, 4, 6, 9, 10, 11]) [8])) (
  .reg none [
    ⟨some 19, .bin .add (.t 11) (.c (.int .i64 1)), none, true⟩,
    ⟨some 11, .mv (.t 19), none, true⟩] (some [2, 4, 6, 9, 10, 11]) []))))))
def A87_L0 : ACode := .loop A87_L0b (some [2, 4, 6, 9, 10, 11]) [8]
/-- ambidexter/geom.fold[ambidexter/api.Point,ambidexter/api.Point] -/
def A87 : AFn := .code [.cell true 2 6] (
(.seq (
.reg none [
  ⟨some 4, .box (.t 1), none, true⟩,
  ⟨some 6, .alloc [.int .i64 0, .int .i64 0], none, true⟩] (some [0, 2, 4, 6]) []) (
(.seq (
(.seq (
.reg none [
  ⟨some 9, .mv (.t 0), none, true⟩,
  ⟨some 10, .len 0 (.t 9), none, true⟩,
  ⟨some 11, .mv (.c (.int .i64 0)), none, true⟩] (some [2, 4, 6, 9, 10, 11]) []) (
(.block 0 (
A87_L0) (some [4, 6]) [8])))) (
(.seq (
.reg none [
  ⟨some 20, .load true 2 (.t 4), none, true⟩,
  ⟨none, .store 2 (.t 6) (.t 20), none, true⟩] (some [6]) [4]) (
.ret)))))))
/-- ambidexter/geom.BoundingBox$1 -/
def A88 : AFn := .code [.cell true 2 4] (
(.seq (
.reg none [
  ⟨some 2, .box (.t 0), none, true⟩,
  ⟨some 3, .box (.t 1), none, true⟩,
  ⟨some 4, .alloc [.int .i64 0, .int .i64 0], none, true⟩] (some [2, 3, 4]) []) (
(.seq (
.reg none [
  ⟨some 5, .fad 0 (.t 2), none, true⟩,
  ⟨some 6, .load false 1 (.t 5), none, true⟩,
  ⟨some 7, .fad 0 (.t 3), none, true⟩,
  ⟨some 8, .load false 1 (.t 7), none, true⟩,
  ⟨some 9, .mn [.t 6, .t 8], none, true⟩,
  ⟨some 10, .fad 1 (.t 2), none, true⟩,
  ⟨some 11, .load false 1 (.t 10), none, true⟩,
  ⟨some 12, .fad 1 (.t 3), none, true⟩,
  ⟨some 13, .load false 1 (.t 12), none, true⟩,
  ⟨some 14, .mn [.t 11, .t 13], none, true⟩,
  ⟨some 15, .build [.int .i64 0, .int .i64 0] [(0, 1, .t 9), (1, 1, .t 14)], none, true⟩,
  ⟨none, .store 2 (.t 4) (.t 15), none, true⟩] (some [4]) [2, 3]) (
.ret)))))
/-- ambidexter/geom.BoundingBox$2 -/
def A89 : AFn := .code [.cell true 2 4] (
(.seq (
.reg none [
  ⟨some 2, .box (.t 0), none, true⟩,
  ⟨some 3, .box (.t 1), none, true⟩,
  ⟨some 4, .alloc [.int .i64 0, .int .i64 0], none, true⟩] (some [2, 3, 4]) []) (
(.seq (
.reg none [
  ⟨some 5, .fad 0 (.t 2), none, true⟩,
  ⟨some 6, .load false 1 (.t 5), none, true⟩,
  ⟨some 7, .fad 0 (.t 3), none, true⟩,
  ⟨some 8, .load false 1 (.t 7), none, true⟩,
  ⟨some 9, .mx [.t 6, .t 8], none, true⟩,
  ⟨some 10, .fad 1 (.t 2), none, true⟩,
  ⟨some 11, .load false 1 (.t 10), none, true⟩,
  ⟨some 12, .fad 1 (.t 3), none, true⟩,
  ⟨some 13, .load false 1 (.t 12), none, true⟩,
  ⟨some 14, .mx [.t 11, .t 13], none, true⟩,
  ⟨some 15, .build [.int .i64 0, .int .i64 0] [(0, 1, .t 9), (1, 1, .t 14)], none, true⟩,
  ⟨none, .store 2 (.t 4) (.t 15), none, true⟩] (some [4]) [2, 3]) (
.ret)))))
def A90_L0b : ACode := 
  (.seq (
  .reg none [
    ⟨some 22, .bin .lss (.t 21) (.t 20), none, true⟩] (some [6, 7, 20, 21, 22]) []) (
  (.seq (
  (.cond (.t 22) (
    .skip) (
    .exit 0))) (
  (.seq (
  (.block 1 (
  .reg none [
    ⟨some 23, .mv (.t 7), none, true⟩,
    ⟨some 24, .load true 2 (.t 6), none, true⟩,
    ⟨some 25, .cal (.t 23) [.t 24], none, true⟩,
    ⟨none, .store 2 (.t 6) (.t 25), none, true⟩] (some [6, 7, 20, 21]) []) (some [6, 7, 20, 21]) [])) (
  .reg none [
    ⟨some 26, .bin .add (.t 21) (.c (.int .i64 1)), none, true⟩,
    ⟨some 21, .mv (.t 26), none, true⟩] (some [6, 7, 20, 21]) []))))))
def A90_L0 : ACode := .loop A90_L0b (some [6, 7, 20, 21]) []
/-- ambidexter/rotation.CosSin -/
def A90 : AFn := .code [.t 2, .t 3] (
(.seq (
.reg none [
  ⟨some 2, .as (.c (.int .i64 0)), none, true⟩,
  ⟨some 3, .as (.c (.int .i64 0)), none, true⟩] (some [0]) []) (
(.seq (
.reg none [
  ⟨some 8, .mv (.t 0), none, true⟩,
  ⟨some 9, .call 91 [.t 8], none, true⟩,
  ⟨some 4, .as (.t 9), none, true⟩] (some [4]) []) (
(.seq (
.reg none [
  ⟨some 10, .call 92 [], none, true⟩,
  ⟨some 11, .mv (.t 4), none, true⟩,
  ⟨some 12, .bin .rem (.t 11) (.c (.int .i64 9)), none, true⟩,
  ⟨some 13, .ixa true 9 2 (.t 10) (.t 12), none, true⟩,
  ⟨some 5, .alloc [.int .i64 0, .int .i64 0], none, true⟩,
  ⟨none, .store 2 (.t 5) (.t 13), none, true⟩] (some [4, 5]) []) (
(.seq (
.reg none [
  ⟨some 14, .iaa 2 1 (.t 5) (.c (.int .i64 0)), none, true⟩,
  ⟨some 15, .load false 1 (.t 14), none, true⟩,
  ⟨some 16, .iaa 2 1 (.t 5) (.c (.int .i64 1)), none, true⟩,
  ⟨some 17, .load false 1 (.t 16), none, true⟩,
  ⟨some 18, .build [.int .i64 0, .int .i64 0] [(0, 1, .t 15), (1, 1, .t 17)], none, true⟩,
  ⟨some 6, .alloc [.int .i64 0, .int .i64 0], none, true⟩,
  ⟨none, .store 2 (.t 6) (.t 18), none, true⟩] (some [4, 6]) [5]) (
(.seq (
.reg none [
  ⟨some 7, .as (.fu 93), none, true⟩] (some [4, 6, 7]) []) (
(.seq (
(.seq (
.reg none [
  ⟨some 19, .mv (.t 4), none, true⟩,
  ⟨some 20, .bin .quo (.t 19) (.c (.int .i64 9)), none, true⟩,
  ⟨some 21, .mv (.c (.int .i64 0)), none, true⟩] (some [6, 7, 20, 21]) []) (
(.block 0 (
A90_L0) (some [6]) [])))) (
(.seq (
.reg (some [.dr [30] [], .dr [30] [], .dr [28] [], .dr [28] [], .dr [30] [], .free]) [
  ⟨some 27, .fad 0 (.t 6), none, true⟩,
  ⟨some 28, .load false 1 (.t 27), none, true⟩,
  ⟨some 29, .fad 1 (.t 6), none, true⟩,
  ⟨some 30, .load false 1 (.t 29), none, true⟩,
  ⟨some 2, .as (.t 28), none, true⟩,
  ⟨some 3, .as (.t 30), none, true⟩] (some [2, 3]) [6]) (
.ret)))))))))))))))
/-- ambidexter/rotation.round -/
def A91 : AFn := .code [.t 2] (
(.seq (
.reg none [
  ⟨some 2, .as (.c (.int .i64 0)), none, true⟩] (some [0]) []) (
(.seq (
.reg none [
  ⟨some 3, .mv (.t 0), none, true⟩,
  ⟨some 4, .bin .rem (.t 3) (.c (.int .i64 36)), none, true⟩,
  ⟨some 0, .as (.t 4), none, true⟩] (some [0]) []) (
(.seq (
(.seq (
.reg none [
  ⟨some 5, .mv (.t 0), none, true⟩,
  ⟨some 6, .bin .lss (.t 5) (.c (.int .i64 0)), none, true⟩] (some [0, 6]) []) (
(.cond (.t 6) (
  .reg none [
    ⟨some 7, .mv (.t 0), none, true⟩,
    ⟨some 8, .bin .add (.t 7) (.c (.int .i64 36)), none, true⟩,
    ⟨some 0, .as (.t 8), none, true⟩] (some [0]) []) (
  .skip))))) (
(.seq (
.reg none [
  ⟨some 9, .mv (.t 0), none, true⟩,
  ⟨some 2, .as (.t 9), none, true⟩] (some [2]) []) (
.ret)))))))))
/-- ambidexter/rotation.quarter -/
def A92 : AFn := .code [.cell true 18 0] (
(.seq (
.reg none [
  ⟨some 0, .alloc [.int .i64 0, .int .i64 0, .int .i64 0, .int .i64 0, .int .i64 0, .int .i64 0, .int .i64 0, .int .i64 0, .int .i64 0, .int .i64 0, .int .i64 0, .int .i64 0, .int .i64 0, .int .i64 0, .int .i64 0, .int .i64 0, .int .i64 0, .int .i64 0], none, true⟩] (some [0]) []) (
(.seq (
.reg none [
  ⟨some 1, .build [.int .i64 0, .int .i64 0] [(0, 1, .c (.int .i64 65)), (1, 1, .c (.int .i64 0))], none, true⟩,
  ⟨some 2, .build [.int .i64 0, .int .i64 0] [(0, 1, .c (.int .i64 63)), (1, 1, .c (.int .i64 16))], none, true⟩,
  ⟨some 3, .build [.int .i64 0, .int .i64 0] [(0, 1, .c (.int .i64 60)), (1, 1, .c (.int .i64 25))], none, true⟩,
  ⟨some 4, .build [.int .i64 0, .int .i64 0] [(0, 1, .c (.int .i64 56)), (1, 1, .c (.int .i64 33))], none, true⟩,
  ⟨some 5, .build [.int .i64 0, .int .i64 0] [(0, 1, .c (.int .i64 52)), (1, 1, .c (.int .i64 39))], none, true⟩,
  ⟨some 6, .build [.int .i64 0, .int .i64 0] [(0, 1, .c (.int .i64 39)), (1, 1, .c (.int .i64 52))], none, true⟩,
  ⟨some 7, .build [.int .i64 0, .int .i64 0] [(0, 1, .c (.int .i64 33)), (1, 1, .c (.int .i64 56))], none, true⟩,
  ⟨some 8, .build [.int .i64 0, .int .i64 0] [(0, 1, .c (.int .i64 25)), (1, 1, .c (.int .i64 60))], none, true⟩,
  ⟨some 9, .build [.int .i64 0, .int .i64 0] [(0, 1, .c (.int .i64 16)), (1, 1, .c (.int .i64 63))], none, true⟩,
  ⟨some 10, .build [.int .i64 0, .int .i64 0, .int .i64 0, .int .i64 0, .int .i64 0, .int .i64 0, .int .i64 0, .int .i64 0, .int .i64 0, .int .i64 0, .int .i64 0, .int .i64 0, .int .i64 0, .int .i64 0, .int .i64 0, .int .i64 0, .int .i64 0, .int .i64 0] [(0, 2, .t 1), (2, 2, .t 2), (4, 2, .t 3), (6, 2, .t 4), (8, 2, .t 5), (10, 2, .t 6), (12, 2, .t 7), (14, 2, .t 8), (16, 2, .t 9)], none, true⟩,
  ⟨none, .store 18 (.t 0) (.t 10), none, true⟩] (some [0]) []) (
.ret)))))
/-- (ambidexter/rotation.vector).left -/
def A93 : AFn := .code [.cell true 2 2] (
(.seq (
.reg none [
  ⟨some 1, .box (.t 0), none, true⟩,
  ⟨some 2, .alloc [.int .i64 0, .int .i64 0], none, true⟩] (some [1, 2]) []) (
(.seq (
.reg none [
  ⟨some 3, .fad 1 (.t 1), none, true⟩,
  ⟨some 4, .load false 1 (.t 3), none, true⟩,
  ⟨some 5, .un .neg (.t 4), none, true⟩,
  ⟨some 6, .fad 0 (.t 1), none, true⟩,
  ⟨some 7, .load false 1 (.t 6), none, true⟩,
  ⟨some 8, .build [.int .i64 0, .int .i64 0] [(0, 1, .t 5), (1, 1, .t 7)], none, true⟩,
  ⟨none, .store 2 (.t 2) (.t 8), none, true⟩] (some [2]) [1]) (
.ret)))))

end Go.Proofs.Yteellikeoiedbaa

namespace Go.Proofs.Yteellikeoiedbaa
open Go Go.Zv
set_option maxRecDepth 100000

def E : FuncId → Option AFn
  | 3 => some A3
  | 4 => some A4
  | 5 => some A5
  | 6 => some A6
  | 7 => some A7
  | 8 => some A8
  | 9 => some A9
  | 10 => some A10
  | 11 => some A11
  | 12 => some A12
  | 13 => some A13
  | 14 => some A14
  | 15 => some A15
  | 16 => some A16
  | 17 => some A17
  | 18 => some A18
  | 19 => some A19
  | 20 => some A20
  | 21 => some A21
  | 22 => some A22
  | 23 => some A23
  | 24 => some A24
  | 25 => some A25
  | 26 => some A26
  | 27 => some A27
  | 28 => some A28
  | 29 => some A29
  | 30 => some A30
  | 31 => some A31
  | 32 => some A32
  | 33 => some A33
  | 34 => some A34
  | 35 => some A35
  | 36 => some A36
  | 37 => some A37
  | 38 => some A38
  | 39 => some A39
  | 40 => some A40
  | 41 => some A41
  | 42 => some A42
  | 43 => some A43
  | 44 => some A44
  | 45 => some A45
  | 46 => some A46
  | 47 => some A47
  | 48 => some A48
  | 49 => some A49
  | 50 => some A50
  | 51 => some A51
  | 52 => some A52
  | 53 => some A53
  | 54 => some A54
  | 55 => some A55
  | 56 => some A56
  | 57 => some A57
  | 58 => some A58
  | 59 => some A59
  | 60 => some A60
  | 61 => some A61
  | 62 => some A62
  | 63 => some A63
  | 64 => some A64
  | 65 => some A65
  | 66 => some A66
  | 67 => some A67
  | 68 => some A68
  | 69 => some A69
  | 70 => some A70
  | 71 => some A71
  | 72 => some A72
  | 73 => some A73
  | 74 => some A74
  | 75 => some A75
  | 76 => some A76
  | 77 => some A77
  | 78 => some A78
  | 79 => some A79
  | 80 => some A80
  | 81 => some A81
  | 82 => some A82
  | 83 => some A83
  | 84 => some A84
  | 85 => some A85
  | 86 => some A86
  | 87 => some A87
  | 88 => some A88
  | 89 => some A89
  | 90 => some A90
  | 91 => some A91
  | 92 => some A92
  | 93 => some A93
  | _ => none
theorem E_3 : E 3 = some A3 := rfl
theorem E_4 : E 4 = some A4 := rfl
theorem E_5 : E 5 = some A5 := rfl
theorem E_6 : E 6 = some A6 := rfl
theorem E_7 : E 7 = some A7 := rfl
theorem E_8 : E 8 = some A8 := rfl
theorem E_9 : E 9 = some A9 := rfl
theorem E_10 : E 10 = some A10 := rfl
theorem E_11 : E 11 = some A11 := rfl
theorem E_12 : E 12 = some A12 := rfl
theorem E_13 : E 13 = some A13 := rfl
theorem E_14 : E 14 = some A14 := rfl
theorem E_15 : E 15 = some A15 := rfl
theorem E_16 : E 16 = some A16 := rfl
theorem E_17 : E 17 = some A17 := rfl
theorem E_18 : E 18 = some A18 := rfl
theorem E_19 : E 19 = some A19 := rfl
theorem E_20 : E 20 = some A20 := rfl
theorem E_21 : E 21 = some A21 := rfl
theorem E_22 : E 22 = some A22 := rfl
theorem E_23 : E 23 = some A23 := rfl
theorem E_24 : E 24 = some A24 := rfl
theorem E_25 : E 25 = some A25 := rfl
theorem E_26 : E 26 = some A26 := rfl
theorem E_27 : E 27 = some A27 := rfl
theorem E_28 : E 28 = some A28 := rfl
theorem E_29 : E 29 = some A29 := rfl
theorem E_30 : E 30 = some A30 := rfl
theorem E_31 : E 31 = some A31 := rfl
theorem E_32 : E 32 = some A32 := rfl
theorem E_33 : E 33 = some A33 := rfl
theorem E_34 : E 34 = some A34 := rfl
theorem E_35 : E 35 = some A35 := rfl
theorem E_36 : E 36 = some A36 := rfl
theorem E_37 : E 37 = some A37 := rfl
theorem E_38 : E 38 = some A38 := rfl
theorem E_39 : E 39 = some A39 := rfl
theorem E_40 : E 40 = some A40 := rfl
theorem E_41 : E 41 = some A41 := rfl
theorem E_42 : E 42 = some A42 := rfl
theorem E_43 : E 43 = some A43 := rfl
theorem E_44 : E 44 = some A44 := rfl
theorem E_45 : E 45 = some A45 := rfl
theorem E_46 : E 46 = some A46 := rfl
theorem E_47 : E 47 = some A47 := rfl
theorem E_48 : E 48 = some A48 := rfl
theorem E_49 : E 49 = some A49 := rfl
theorem E_50 : E 50 = some A50 := rfl
theorem E_51 : E 51 = some A51 := rfl
theorem E_52 : E 52 = some A52 := rfl
theorem E_53 : E 53 = some A53 := rfl
theorem E_54 : E 54 = some A54 := rfl
theorem E_55 : E 55 = some A55 := rfl
theorem E_56 : E 56 = some A56 := rfl
theorem E_57 : E 57 = some A57 := rfl
theorem E_58 : E 58 = some A58 := rfl
theorem E_59 : E 59 = some A59 := rfl
theorem E_60 : E 60 = some A60 := rfl
theorem E_61 : E 61 = some A61 := rfl
theorem E_62 : E 62 = some A62 := rfl
theorem E_63 : E 63 = some A63 := rfl
theorem E_64 : E 64 = some A64 := rfl
theorem E_65 : E 65 = some A65 := rfl
theorem E_66 : E 66 = some A66 := rfl
theorem E_67 : E 67 = some A67 := rfl
theorem E_68 : E 68 = some A68 := rfl
theorem E_69 : E 69 = some A69 := rfl
theorem E_70 : E 70 = some A70 := rfl
theorem E_71 : E 71 = some A71 := rfl
theorem E_72 : E 72 = some A72 := rfl
theorem E_73 : E 73 = some A73 := rfl
theorem E_74 : E 74 = some A74 := rfl
theorem E_75 : E 75 = some A75 := rfl
theorem E_76 : E 76 = some A76 := rfl
theorem E_77 : E 77 = some A77 := rfl
theorem E_78 : E 78 = some A78 := rfl
theorem E_79 : E 79 = some A79 := rfl
theorem E_80 : E 80 = some A80 := rfl
theorem E_81 : E 81 = some A81 := rfl
theorem E_82 : E 82 = some A82 := rfl
theorem E_83 : E 83 = some A83 := rfl
theorem E_84 : E 84 = some A84 := rfl
theorem E_85 : E 85 = some A85 := rfl
theorem E_86 : E 86 = some A86 := rfl
theorem E_87 : E 87 = some A87 := rfl
theorem E_88 : E 88 = some A88 := rfl
theorem E_89 : E 89 = some A89 := rfl
theorem E_90 : E 90 = some A90 := rfl
theorem E_91 : E 91 = some A91 := rfl
theorem E_92 : E 92 = some A92 := rfl
theorem E_93 : E 93 = some A93 := rfl
theorem A7_L0_eq (s : St) : K E A7_L0 s = (K E A7_L0b s).bind (loopF E A7_L0 (some [0, 1, 5, 6, 7, 8]) [55]) := loop_fold rfl s
theorem A7_L1_eq (s : St) : K E A7_L1 s = (K E A7_L1b s).bind (loopF E A7_L1 (some [0, 1, 5, 6, 7]) [8, 55]) := loop_fold rfl s
theorem A10_L0_eq (s : St) : K E A10_L0 s = (K E A10_L0b s).bind (loopF E A10_L0 (some [5, 6, 7, 9, 10]) [63, 64]) := loop_fold rfl s
theorem A10_L1_eq (s : St) : K E A10_L1 s = (K E A10_L1b s).bind (loopF E A10_L1 (some [0, 5, 6, 7, 8]) [40, 41]) := loop_fold rfl s
theorem A14_L0_eq (s : St) : K E A14_L0 s = (K E A14_L0b s).bind (loopF E A14_L0 (some [0, 4, 5, 7, 11, 12]) []) := loop_fold rfl s
theorem A14_L1_eq (s : St) : K E A14_L1 s = (K E A14_L1b s).bind (loopF E A14_L1 (some [0, 4, 5, 7, 8, 9, 10]) [6, 47]) := loop_fold rfl s
theorem A17_L0_eq (s : St) : K E A17_L0 s = (K E A17_L0b s).bind (loopF E A17_L0 (some [0, 3, 4, 5, 45, 46]) [52]) := loop_fold rfl s
theorem A17_L1_eq (s : St) : K E A17_L1 s = (K E A17_L1b s).bind (loopF E A17_L1 (some [0, 3, 4, 5, 33, 34]) [40]) := loop_fold rfl s
theorem A18_L0_eq (s : St) : K E A18_L0 s = (K E A18_L0b s).bind (loopF E A18_L0 (some [0, 1, 4, 6, 7, 8]) [5, 9, 33]) := loop_fold rfl s
theorem A18_L1_eq (s : St) : K E A18_L1 s = (K E A18_L1b s).bind (loopF E A18_L1 (some [0, 1, 4, 6, 7]) [5, 8, 9, 33]) := loop_fold rfl s
theorem A18_L2_eq (s : St) : K E A18_L2 s = (K E A18_L2b s).bind (loopF E A18_L2 (some [0, 1, 4, 6]) [5, 7, 8, 9, 33]) := loop_fold rfl s
theorem A24_L0_eq (s : St) : K E A24_L0 s = (K E A24_L0b s).bind (loopF E A24_L0 (some [0, 3, 4]) [2, 24, 31]) := loop_fold rfl s
theorem A24_L1_eq (s : St) : K E A24_L1 s = (K E A24_L1b s).bind (loopF E A24_L1 (some [0, 3]) [2, 4, 24, 31]) := loop_fold rfl s
theorem A25_L1_eq (s : St) : K E A25_L1 s = (K E A25_L1b s).bind (loopF E A25_L1 (some [0, 1, 4, 5, 13, 14]) [6, 7, 8, 10, 24, 29]) := loop_fold rfl s
theorem A26_L0_eq (s : St) : K E A26_L0 s = (K E A26_L0b s).bind (loopF E A26_L0 (some [0, 1, 4, 7]) [5, 29]) := loop_fold rfl s
theorem A26_L1_eq (s : St) : K E A26_L1 s = (K E A26_L1b s).bind (loopF E A26_L1 (some [0, 1, 4, 6]) [5, 17]) := loop_fold rfl s
theorem A29_L0_eq (s : St) : K E A29_L0 s = (K E A29_L0b s).bind (loopF E A29_L0 (some [0, 3, 5, 6]) [32]) := loop_fold rfl s
theorem A30_L0_eq (s : St) : K E A30_L0 s = (K E A30_L0b s).bind (loopF E A30_L0 (some [0, 3, 5, 6]) [2, 62, 66, 69, 73, 74]) := loop_fold rfl s
theorem A30_L1_eq (s : St) : K E A30_L1 s = (K E A30_L1b s).bind (loopF E A30_L1 (some [0, 3, 5]) [2, 6, 33, 37, 41, 42, 62, 66, 69, 73, 74]) := loop_fold rfl s
theorem A30_L2_eq (s : St) : K E A30_L2 s = (K E A30_L2b s).bind (loopF E A30_L2 (some [0, 3, 4]) [2, 24]) := loop_fold rfl s
theorem A32_L0_eq (s : St) : K E A32_L0 s = (K E A32_L0b s).bind (loopF E A32_L0 (some [0, 3]) [2, 18]) := loop_fold rfl s
theorem A34_L0_eq (s : St) : K E A34_L0 s = (K E A34_L0b s).bind (loopF E A34_L0 (some [0, 1, 5, 6]) [25]) := loop_fold rfl s
theorem A35_L0_eq (s : St) : K E A35_L0 s = (K E A35_L0b s).bind (loopF E A35_L0 (some [0, 3, 4]) [18]) := loop_fold rfl s
theorem A39_L0_eq (s : St) : K E A39_L0 s = (K E A39_L0b s).bind (loopF E A39_L0 (some [0, 3]) [2]) := loop_fold rfl s
theorem A49_L0_eq (s : St) : K E A49_L0 s = (K E A49_L0b s).bind (loopF E A49_L0 (some [0, 1, 2, 7]) [6, 21, 28]) := loop_fold rfl s
theorem A52_L0_eq (s : St) : K E A52_L0 s = (K E A52_L0b s).bind (loopF E A52_L0 (some [0, 3, 5, 6]) [4, 7, 8, 17, 21, 25, 42, 63]) := loop_fold rfl s
theorem A62_L0_eq (s : St) : K E A62_L0 s = (K E A62_L0b s).bind (loopF E A62_L0 (some [0, 3, 4]) [5, 6, 15, 19]) := loop_fold rfl s
theorem A68_L0_eq (s : St) : K E A68_L0 s = (K E A68_L0b s).bind (loopF E A68_L0 (some [1, 5, 8, 9, 10]) [7, 17, 18]) := loop_fold rfl s
theorem A70_L0_eq (s : St) : K E A70_L0 s = (K E A70_L0b s).bind (loopF E A70_L0 (some [0, 1, 12, 13]) [4, 5]) := loop_fold rfl s
theorem A73_L0_eq (s : St) : K E A73_L0 s = (K E A73_L0b s).bind (loopF E A73_L0 (some [0, 1, 5, 6, 7]) [3, 4, 24]) := loop_fold rfl s
theorem A74_L0_eq (s : St) : K E A74_L0 s = (K E A74_L0b s).bind (loopF E A74_L0 (some [1, 7, 8, 9]) [4, 6, 15]) := loop_fold rfl s
theorem A81_L0_eq (s : St) : K E A81_L0 s = (K E A81_L0b s).bind (loopF E A81_L0 (some [0, 1, 5, 6, 7]) [3, 4, 24]) := loop_fold rfl s
theorem A83_L0_eq (s : St) : K E A83_L0 s = (K E A83_L0b s).bind (loopF E A83_L0 (some [0, 1, 7, 8]) [4, 5, 16]) := loop_fold rfl s
theorem A87_L0_eq (s : St) : K E A87_L0 s = (K E A87_L0b s).bind (loopF E A87_L0 (some [2, 4, 6, 9, 10, 11]) [8]) := loop_fold rfl s
theorem A90_L0_eq (s : St) : K E A90_L0 s = (K E A90_L0b s).bind (loopF E A90_L0 (some [6, 7, 20, 21]) []) := loop_fold rfl s
end Go.Proofs.Yteellikeoiedbaa

namespace Go.Geo
set_option maxRecDepth 100000
set_option maxHeartbeats 4000000
set_option linter.unusedSimpArgs false
set_option linter.unusedVariables false
open Go Go.Zv
def sgn (n : Int) : Int := if n > 0 then 1 else if n < 0 then -1 else 0
def crW (ax ay bx by_ px py : Int) : Int := w64 (w64 (w64 (bx - ax) * w64 (py - ay)) - w64 (w64 (by_ - ay) * w64 (px - ax)))
abbrev pt (p : Int × Int) : LV := .agg [.int .i64 p.1, .int .i64 p.2]
def c2 (p : Int × Int) : List LV := [.int .i64 p.1, .int .i64 p.2]
theorem get_c2 {l : List (Int × Int)} {i : Nat} {p : Int × Int} (h : l[i]? = some p) : (l.map c2)[i]? = some [.int .i64 p.1, .int .i64 p.2] := by
  rw [List.getElem?_map, h]; rfl
theorem wr_nat {n : Nat} (h : n < 9223372036854775808) : IntKind.i64.wrap (n : Int) = n := by
  simp [IntKind.wrap, IntKind.signed, IntKind.bits]; omega
theorem wr_succ {n : Nat} (h : n + 1 < 9223372036854775808) : IntKind.i64.wrap ((n : Int) + 1) = ((n + 1 : Nat) : Int) := by
  have := wr_nat h; simpa using this
def minP (a b : Int × Int) : Int × Int := (mnI a.1 b.1, mnI a.2 b.2)
def maxP (a b : Int × Int) : Int × Int := (mxI a.1 b.1, mxI a.2 b.2)
def bbL : List (Int × Int) → Int × Int
  | [] => (0, 0)
  | p :: t => (p :: t).foldl minP p
def bbH : List (Int × Int) → Int × Int
  | [] => (0, 0)
  | p :: t => (p :: t).foldl maxP p
def withinB (ax ay bx by_ px py : Int) : Bool := decide (mnI ax bx ≤ px) && (decide (px ≤ mxI ax bx) && (decide (mnI ay by_ ≤ py) && decide (py ≤ mxI ay by_)))
theorem mn_self (a : Int) : mnI a a = a := by unfold mnI; split <;> rfl
theorem mx_self (a : Int) : mxI a a = a := by unfold mxI; split <;> rfl
def onB (ax ay bx by_ px py : Int) : Bool := withinB ax ay bx by_ px py && decide (sgn (crW ax ay bx by_ px py) = 0)
def sdI (ax ay bx by_ cx cy dx dy : Int) : Int := w64 (sgn (crW ax ay bx by_ cx cy) * sgn (crW ax ay bx by_ dx dy))
def endsB (ax ay bx by_ cx cy dx dy : Int) : Bool := (decide (sgn (crW ax ay bx by_ cx cy) = 0) && withinB ax ay bx by_ cx cy) || (decide (sgn (crW ax ay bx by_ dx dy) = 0) && withinB ax ay bx by_ dx dy)
theorem wrap0 : IntKind.i64.wrap 0 = 0 := by decide
def cutB (ax ay bx by_ cx cy dx dy : Int) : Bool := (decide (sdI ax ay bx by_ cx cy dx dy < 0) && decide (sdI cx cy dx dy ax ay bx by_ < 0)) || (endsB ax ay bx by_ cx cy dx dy || endsB cx cy dx dy ax ay bx by_)
theorem cut_eq_B (ax ay bx by_ cx cy dx dy : Int) : ((onB ax ay bx by_ cx cy || onB ax ay bx by_ dx dy || onB cx cy dx dy ax ay || onB cx cy dx dy bx by_) || (decide (sdI ax ay bx by_ cx cy dx dy < 0) && decide (sdI cx cy dx dy ax ay bx by_ < 0))) = cutB ax ay bx by_ cx cy dx dy := by
  unfold cutB onB endsB
  generalize withinB ax ay bx by_ cx cy = a
  generalize withinB ax ay bx by_ dx dy = b
  generalize withinB cx cy dx dy ax ay = c
  generalize withinB cx cy dx dy bx by_ = d
  generalize decide (sgn (crW ax ay bx by_ cx cy) = 0) = e
  generalize decide (sgn (crW ax ay bx by_ dx dy) = 0) = f
  generalize decide (sgn (crW cx cy dx dy ax ay) = 0) = g
  generalize decide (sgn (crW cx cy dx dy bx by_) = 0) = h
  generalize decide (sdI ax ay bx by_ cx cy dx dy < 0) = i
  generalize decide (sdI cx cy dx dy ax ay bx by_ < 0) = j
  revert a b c d e f g h i j; decide
def sharedB (W S T : Int) : Bool := if W < 0 then decide (0 ≤ -S) && (decide (-S ≤ -W) && (decide (0 ≤ -T) && decide (-T ≤ -W))) else decide (0 ≤ S) && (decide (S ≤ W) && (decide (0 ≤ T) && decide (T ≤ W)))
def B (x : Int) : Prop := -500000000 ≤ x ∧ x ≤ 500000000
theorem wB {x : Int} (h : B x) : IntKind.i64.wrap x = x := by unfold B at h; exact wrap_small (by omega) (by omega)
def cr (ax ay bx by_ px py : Int) : Int := (bx - ax) * (py - ay) - (by_ - ay) * (px - ax)
theorem mul_bd {x y A C : Int} (h1 : -A ≤ x) (h2 : x ≤ A) (h3 : -C ≤ y) (h4 : y ≤ C) : -(A * C) ≤ x * y ∧ x * y ≤ A * C := by
  have hA : 0 ≤ A := by omega
  have hC : 0 ≤ C := by omega
  have a1 : x * y ≤ A * C := by
    rcases Int.le_total 0 x with hx | hx
    · have h5 : x * y ≤ x * C := Int.mul_le_mul_of_nonneg_left h4 hx
      have h6 : x * C ≤ A * C := Int.mul_le_mul_of_nonneg_right h2 hC
      omega
    · have h5 : (-x) * (-y) ≤ (-x) * C := Int.mul_le_mul_of_nonneg_left (by omega) (by omega)
      have h6 : (-x) * C ≤ A * C := Int.mul_le_mul_of_nonneg_right (by omega) hC
      have h7 : (-x) * (-y) = x * y := by grind
      omega
  have a2 : -(A * C) ≤ x * y := by
    rcases Int.le_total 0 x with hx | hx
    · have h5 : x * (-y) ≤ x * C := Int.mul_le_mul_of_nonneg_left (by omega) hx
      have h6 : x * C ≤ A * C := Int.mul_le_mul_of_nonneg_right h2 hC
      have h7 : x * (-y) = -(x * y) := by grind
      omega
    · have h5 : (-x) * y ≤ (-x) * C := Int.mul_le_mul_of_nonneg_left h4 (by omega)
      have h6 : (-x) * C ≤ A * C := Int.mul_le_mul_of_nonneg_right (by omega) hC
      have h7 : (-x) * y = -(x * y) := by grind
      omega
  exact ⟨a2, a1⟩
theorem wprod {x y z w : Int} (h1 : -1000000000 ≤ x) (h2 : x ≤ 1000000000) (h3 : -1000000000 ≤ y) (h4 : y ≤ 1000000000) (h5 : -1000000000 ≤ z) (h6 : z ≤ 1000000000) (h7 : -1000000000 ≤ w) (h8 : w ≤ 1000000000) :
    IntKind.i64.wrap (IntKind.i64.wrap (IntKind.i64.wrap x * IntKind.i64.wrap y) - IntKind.i64.wrap (IntKind.i64.wrap z * IntKind.i64.wrap w)) = x * y - z * w ∧ -2000000000000000000 ≤ x * y - z * w ∧ x * y - z * w ≤ 2000000000000000000 := by
  obtain ⟨p1, p2⟩ := mul_bd h1 h2 h3 h4
  obtain ⟨q1, q2⟩ := mul_bd h5 h6 h7 h8
  rw [wrap_small (n := x) (by omega) (by omega), wrap_small (n := y) (by omega) (by omega), wrap_small (n := z) (by omega) (by omega), wrap_small (n := w) (by omega) (by omega)]
  rw [wrap_small (n := x * y) (by omega) (by omega), wrap_small (n := z * w) (by omega) (by omega), wrap_small (n := x * y - z * w) (by omega) (by omega)]
  exact ⟨rfl, by omega, by omega⟩
theorem crW_B {ax ay bx by_ px py : Int} (h1 : B ax) (h2 : B ay) (h3 : B bx) (h4 : B by_) (h5 : B px) (h6 : B py) : crW ax ay bx by_ px py = cr ax ay bx by_ px py := by
  unfold B at *
  exact (wprod (by omega) (by omega) (by omega) (by omega) (by omega) (by omega) (by omega) (by omega)).1
theorem tmod_bd (x : Int) {n : Int} (h : 0 < n) : -n < x.tmod n ∧ x.tmod n < n := ⟨Int.lt_tmod_of_pos x h, Int.tmod_lt_of_pos x h⟩
theorem sgn_cases (n : Int) : sgn n = 1 ∨ sgn n = 0 ∨ sgn n = -1 := by unfold sgn; split <;> (try split) <;> simp
theorem sgn_neg (n : Int) : sgn (-n) = -sgn n := by unfold sgn; repeat' split
                                                    all_goals omega
theorem sgn_zero : sgn 0 = 0 := by decide
theorem cr_swap (ax ay bx by_ px py : Int) : cr bx by_ ax ay px py = - cr ax ay bx by_ px py := by unfold cr; grind
theorem cr_swap2 (ax ay bx by_ px py : Int) : cr ax ay px py bx by_ = - cr ax ay bx by_ px py := by unfold cr; grind
theorem cr_rot (ax ay bx by_ px py : Int) : cr bx by_ px py ax ay = cr ax ay bx by_ px py := by unfold cr; grind
theorem cr_rot2 (ax ay bx by_ px py : Int) : cr px py ax ay bx by_ = cr ax ay bx by_ px py := by unfold cr; grind
theorem cr_add (ax ay bx by_ px py u v : Int) : cr (ax + u) (ay + v) (bx + u) (by_ + v) (px + u) (py + v) = cr ax ay bx by_ px py := by unfold cr; grind
theorem cr_sub (ax ay bx by_ px py u v : Int) : cr (ax - u) (ay - v) (bx - u) (by_ - v) (px - u) (py - v) = cr ax ay bx by_ px py := by unfold cr; grind
theorem cr_quarter (ax ay bx by_ px py : Int) : cr (0 - ay) ax (0 - by_) bx (0 - py) px = cr ax ay bx by_ px py := by unfold cr; grind
theorem cr_aac (ax ay px py : Int) : cr ax ay ax ay px py = 0 := by unfold cr; grind
theorem cr_abb (ax ay px py : Int) : cr ax ay px py px py = 0 := by unfold cr; grind
theorem wsum {x y z w : Int} (h1 : -1000000000 ≤ x) (h2 : x ≤ 1000000000) (h3 : -1000000000 ≤ y) (h4 : y ≤ 1000000000) (h5 : -1000000000 ≤ z) (h6 : z ≤ 1000000000) (h7 : -1000000000 ≤ w) (h8 : w ≤ 1000000000) :
    IntKind.i64.wrap (IntKind.i64.wrap (IntKind.i64.wrap x * IntKind.i64.wrap y) + IntKind.i64.wrap (IntKind.i64.wrap z * IntKind.i64.wrap w)) = x * y + z * w := by
  obtain ⟨p1, p2⟩ := mul_bd h1 h2 h3 h4
  obtain ⟨q1, q2⟩ := mul_bd h5 h6 h7 h8
  rw [wrap_small (n := x) (by omega) (by omega), wrap_small (n := y) (by omega) (by omega), wrap_small (n := z) (by omega) (by omega), wrap_small (n := w) (by omega) (by omega)]
  rw [wrap_small (n := x * y) (by omega) (by omega), wrap_small (n := z * w) (by omega) (by omega), wrap_small (n := x * y + z * w) (by omega) (by omega)]
theorem mul_nn {x y : Int} : 0 ≤ x * y ↔ (0 ≤ x ∧ 0 ≤ y) ∨ (x ≤ 0 ∧ y ≤ 0) := by
  constructor
  · intro h
    rcases Int.lt_trichotomy x 0 with hx | hx | hx
    · rcases Int.lt_trichotomy y 0 with hy | hy | hy
      · right; omega
      · right; omega
      · have := Int.mul_neg_of_neg_of_pos hx hy; omega
    · subst hx
      rcases Int.le_total 0 y with hy | hy
      · left; omega
      · right; omega
    · rcases Int.lt_trichotomy y 0 with hy | hy | hy
      · have := Int.mul_neg_of_pos_of_neg hx hy; omega
      · left; omega
      · left; omega
  · rintro (⟨h1, h2⟩ | ⟨h1, h2⟩)
    · exact Int.mul_nonneg h1 h2
    · exact Int.mul_nonneg_of_nonpos_of_nonpos h1 h2
theorem bt {a b p : Int} : (mnI a b ≤ p ∧ p ≤ mxI a b) ↔ 0 ≤ (p - a) * (b - p) := by
  rw [mul_nn]; unfold mnI mxI
  constructor
  · intro h; split at h <;> split at h <;> omega
  · intro h; split <;> split <;> omega
theorem withinB_iff {ax ay bx by_ px py : Int} : withinB ax ay bx by_ px py = true ↔ 0 ≤ (px - ax) * (bx - px) ∧ 0 ≤ (py - ay) * (by_ - py) := by
  rw [← bt, ← bt]
  simp [withinB, and_assoc]
theorem sgn_eq0 {n : Int} : sgn n = 0 ↔ n = 0 := by unfold sgn; repeat' split
                                                    all_goals omega
theorem sq_pos {x : Int} (h : x ≠ 0) : 0 < x * x := by
  rcases Int.lt_trichotomy x 0 with h1 | h1 | h1
  · exact Int.mul_pos_of_neg_of_neg h1 h1
  · exact absurd h1 h
  · exact Int.mul_pos h1 h1
theorem on_key {u v U V : Int} (hc : U * v - V * u = 0) (hd : 0 ≤ u * (U - u) + v * (V - v)) (hne : U ≠ 0 ∨ V ≠ 0) : 0 ≤ u * (U - u) ∧ 0 ≤ v * (V - v) := by
  have key : (V * V) * (u * (U - u)) = (U * U) * (v * (V - v)) := by
    have e : U * v = V * u := by omega
    have : (V * V) * (u * (U - u)) = (V * u) * (V * U) - (V * u) * (V * u) := by grind
    rw [this, ← e]; grind
  have sq : ∀ x : Int, 0 ≤ x * x := fun x => by
    by_cases h : x = 0
    · subst h; simp
    · have := sq_pos h; omega
  constructor
  · refine Classical.byContradiction fun h => ?_
    have h1 : u * (U - u) < 0 := by omega
    have h2 : 0 < v * (V - v) := by omega
    have h3 : 0 ≤ (U * U) * (v * (V - v)) := Int.mul_nonneg (sq U) (by omega)
    rcases hne with hU | hV
    · have := Int.mul_pos (sq_pos hU) h2
      have h5 : (V * V) * (u * (U - u)) ≤ 0 := Int.mul_nonpos_of_nonneg_of_nonpos (sq V) (by omega)
      omega
    · have := Int.mul_neg_of_pos_of_neg (sq_pos hV) h1
      omega
  · refine Classical.byContradiction fun h => ?_
    have h1 : v * (V - v) < 0 := by omega
    have h2 : 0 < u * (U - u) := by omega
    rcases hne with hU | hV
    · have := Int.mul_neg_of_pos_of_neg (sq_pos hU) h1
      have h5 : 0 ≤ (V * V) * (u * (U - u)) := Int.mul_nonneg (sq V) (by omega)
      omega
    · have := Int.mul_pos (sq_pos hV) h2
      have h5 : (U * U) * (v * (V - v)) ≤ 0 := Int.mul_nonpos_of_nonneg_of_nonpos (sq U) (by omega)
      omega
theorem on_iff {ax ay bx by_ px py : Int} : (withinB ax ay bx by_ px py = true ∧ cr ax ay bx by_ px py = 0) ↔ (cr ax ay bx by_ px py = 0 ∧ 0 ≤ (px - ax) * (bx - px) + (py - ay) * (by_ - py) ∧ ((ax = bx ∧ ay = by_) → (px = ax ∧ py = ay))) := by
  rw [withinB_iff]
  constructor
  · rintro ⟨⟨h1, h2⟩, h3⟩
    refine ⟨h3, by omega, ?_⟩
    rintro ⟨rfl, rfl⟩
    rw [mul_nn] at h1 h2
    omega
  · rintro ⟨h3, h4, h5⟩
    refine ⟨?_, h3⟩
    by_cases he : ax = bx ∧ ay = by_
    · obtain ⟨rfl, rfl⟩ := h5 he
      obtain ⟨rfl, rfl⟩ := he
      simp
    · have := on_key (u := px - ax) (v := py - ay) (U := bx - ax) (V := by_ - ay) (by unfold cr at h3; exact h3) (by
        have e1 : bx - ax - (px - ax) = bx - px := by omega
        have e2 : by_ - ay - (py - ay) = by_ - py := by omega
        rw [e1, e2]; exact h4) (by omega)
      have e1 : bx - ax - (px - ax) = bx - px := by omega
      have e2 : by_ - ay - (py - ay) = by_ - py := by omega
      rw [e1, e2] at this; exact this
theorem onB_iff {ax ay bx by_ px py : Int} (h1 : B ax) (h2 : B ay) (h3 : B bx) (h4 : B by_) (h5 : B px) (h6 : B py) : onB ax ay bx by_ px py = true ↔ (cr ax ay bx by_ px py = 0 ∧ 0 ≤ (px - ax) * (bx - px) + (py - ay) * (by_ - py) ∧ ((ax = bx ∧ ay = by_) → (px = ax ∧ py = ay))) := by
  rw [← on_iff]; unfold onB; rw [crW_B h1 h2 h3 h4 h5 h6]; simp [sgn_eq0]
def wW (ax ay bx by_ cx cy dx dy : Int) : Int := (bx - ax) * (dy - cy) - (by_ - ay) * (dx - cx)
def sS (ax ay bx by_ cx cy dx dy : Int) : Int := (cx - ax) * (dy - cy) - (cy - ay) * (dx - cx)
def tT (ax ay bx by_ cx cy dx dy : Int) : Int := (cx - ax) * (by_ - ay) - (cy - ay) * (bx - ax)
section
variable (ax ay bx by_ cx cy dx dy : Int)
theorem o1_eq : cr ax ay bx by_ cx cy = - tT ax ay bx by_ cx cy dx dy := by unfold cr tT; grind
theorem o2_eq : cr ax ay bx by_ dx dy = wW ax ay bx by_ cx cy dx dy - tT ax ay bx by_ cx cy dx dy := by unfold cr tT wW; grind
theorem o3_eq : cr cx cy dx dy ax ay = sS ax ay bx by_ cx cy dx dy := by unfold cr sS; grind
theorem o4_eq : cr cx cy dx dy bx by_ = sS ax ay bx by_ cx cy dx dy - wW ax ay bx by_ cx cy dx dy := by unfold cr sS wW; grind
end
theorem sq_nn (x : Int) : 0 ≤ x * x := by
  by_cases h : x = 0
  · subst h; simp
  · have := sq_pos h; omega
theorem nn_of_mul {x y : Int} (hx : 0 < x) (h : 0 ≤ x * y) : 0 ≤ y := by
  rw [mul_nn] at h; omega
theorem within_A {ax ay bx by_ cx cy dx dy : Int} (hT : tT ax ay bx by_ cx cy dx dy = 0) (hW : wW ax ay bx by_ cx cy dx dy ≠ 0) :
    withinB ax ay bx by_ cx cy = true ↔ 0 ≤ sS ax ay bx by_ cx cy dx dy * (wW ax ay bx by_ cx cy dx dy - sS ax ay bx by_ cx cy dx dy) := by
  have e1 : wW ax ay bx by_ cx cy dx dy * (cx - ax) = sS ax ay bx by_ cx cy dx dy * (bx - ax) := by
    have : wW ax ay bx by_ cx cy dx dy * (cx - ax) - sS ax ay bx by_ cx cy dx dy * (bx - ax) = (dx - cx) * (- tT ax ay bx by_ cx cy dx dy) := by unfold wW sS tT; grind
    rw [hT] at this; simp at this; omega
  have e2 : wW ax ay bx by_ cx cy dx dy * (cy - ay) = sS ax ay bx by_ cx cy dx dy * (by_ - ay) := by
    have : wW ax ay bx by_ cx cy dx dy * (cy - ay) - sS ax ay bx by_ cx cy dx dy * (by_ - ay) = (dy - cy) * (- tT ax ay bx by_ cx cy dx dy) := by unfold wW sS tT; grind
    rw [hT] at this; simp at this; omega
  have hne : bx - ax ≠ 0 ∨ by_ - ay ≠ 0 := by
    refine Classical.byContradiction fun h => hW ?_
    have h1 : bx - ax = 0 := by omega
    have h2 : by_ - ay = 0 := by omega
    unfold wW; rw [h1, h2]; simp
  generalize sS ax ay bx by_ cx cy dx dy = s at *
  generalize wW ax ay bx by_ cx cy dx dy = w at *
  have hw := sq_pos hW
  have f1 : (w * w) * ((cx - ax) * (bx - cx)) = (s * (w - s)) * ((bx - ax) * (bx - ax)) := by
    have : (w * w) * ((cx - ax) * (bx - cx)) = (w * (cx - ax)) * (w * (bx - ax) - w * (cx - ax)) := by grind
    rw [this, e1]; grind
  have f2 : (w * w) * ((cy - ay) * (by_ - cy)) = (s * (w - s)) * ((by_ - ay) * (by_ - ay)) := by
    have : (w * w) * ((cy - ay) * (by_ - cy)) = (w * (cy - ay)) * (w * (by_ - ay) - w * (cy - ay)) := by grind
    rw [this, e2]; grind
  rw [withinB_iff]
  constructor
  · rintro ⟨h1, h2⟩
    rcases hne with hn | hn
    · have : 0 ≤ (s * (w - s)) * ((bx - ax) * (bx - ax)) := by rw [← f1]; exact Int.mul_nonneg (by omega) h1
      rw [Int.mul_comm] at this
      exact nn_of_mul (sq_pos hn) this
    · have : 0 ≤ (s * (w - s)) * ((by_ - ay) * (by_ - ay)) := by rw [← f2]; exact Int.mul_nonneg (by omega) h2
      rw [Int.mul_comm] at this
      exact nn_of_mul (sq_pos hn) this
  · intro h
    exact ⟨nn_of_mul hw (by rw [f1]; exact Int.mul_nonneg h (sq_nn _)), nn_of_mul hw (by rw [f2]; exact Int.mul_nonneg h (sq_nn _))⟩
theorem sgn_mul_neg {x y : Int} : IntKind.i64.wrap (sgn x * sgn y) < 0 ↔ x * y < 0 := by
  have h : x * y < 0 ↔ ¬ (0 ≤ x * y) := by omega
  rw [h, mul_nn]
  unfold sgn
  repeat' split
  all_goals (simp only [Int.mul_zero, Int.zero_mul, Int.one_mul, Int.mul_one, Int.reduceMul, Int.reduceNeg])
  all_goals (first | (rw [show IntKind.i64.wrap 1 = 1 by decide]; omega) | (rw [show IntKind.i64.wrap (-1) = -1 by decide]; omega) | (rw [show IntKind.i64.wrap 0 = 0 by decide]; omega))
structure B8 (ax ay bx by_ cx cy dx dy : Int) : Prop where
  a0 : B ax
  a1 : B ay
  b0 : B bx
  b1 : B by_
  c0 : B cx
  c1 : B cy
  d0 : B dx
  d1 : B dy
theorem cutB_iff {ax ay bx by_ cx cy dx dy : Int} (h : B8 ax ay bx by_ cx cy dx dy) : cutB ax ay bx by_ cx cy dx dy = true ↔
    (cr ax ay bx by_ cx cy * cr ax ay bx by_ dx dy < 0 ∧ cr cx cy dx dy ax ay * cr cx cy dx dy bx by_ < 0) ∨
    ((cr ax ay bx by_ cx cy = 0 ∧ withinB ax ay bx by_ cx cy = true) ∨ (cr ax ay bx by_ dx dy = 0 ∧ withinB ax ay bx by_ dx dy = true)) ∨
    ((cr cx cy dx dy ax ay = 0 ∧ withinB cx cy dx dy ax ay = true) ∨ (cr cx cy dx dy bx by_ = 0 ∧ withinB cx cy dx dy bx by_ = true)) := by
  unfold cutB endsB sdI
  rw [crW_B h.a0 h.a1 h.b0 h.b1 h.c0 h.c1, crW_B h.a0 h.a1 h.b0 h.b1 h.d0 h.d1, crW_B h.c0 h.c1 h.d0 h.d1 h.a0 h.a1, crW_B h.c0 h.c1 h.d0 h.d1 h.b0 h.b1]
  simp only [Bool.or_eq_true, Bool.and_eq_true, decide_eq_true_eq, sgn_mul_neg, sgn_eq0]
theorem cut_par {ax ay bx by_ cx cy dx dy : Int} (h : B8 ax ay bx by_ cx cy dx dy) (hW : wW ax ay bx by_ cx cy dx dy = 0) :
    cutB ax ay bx by_ cx cy dx dy = (onB ax ay bx by_ cx cy || (onB ax ay bx by_ dx dy || (onB cx cy dx dy ax ay || onB cx cy dx dy bx by_))) := by
  rw [Bool.eq_iff_iff, cutB_iff h]
  simp only [Bool.or_eq_true]
  unfold onB
  rw [crW_B h.a0 h.a1 h.b0 h.b1 h.c0 h.c1, crW_B h.a0 h.a1 h.b0 h.b1 h.d0 h.d1, crW_B h.c0 h.c1 h.d0 h.d1 h.a0 h.a1, crW_B h.c0 h.c1 h.d0 h.d1 h.b0 h.b1]
  simp only [Bool.and_eq_true, decide_eq_true_eq, sgn_eq0]
  have hn : ¬ (cr ax ay bx by_ cx cy * cr ax ay bx by_ dx dy < 0) := by
    rw [o1_eq ax ay bx by_ cx cy dx dy, o2_eq ax ay bx by_ cx cy dx dy, hW]
    have := sq_nn (tT ax ay bx by_ cx cy dx dy)
    have e : -tT ax ay bx by_ cx cy dx dy * (0 - tT ax ay bx by_ cx cy dx dy) = tT ax ay bx by_ cx cy dx dy * tT ax ay bx by_ cx cy dx dy := by grind
    rw [e]; omega
  constructor
  · rintro (⟨h1, _⟩ | h | h)
    · exact absurd h1 hn
    · rcases h with h | h
      · exact .inl ⟨h.2, h.1⟩
      · exact .inr (.inl ⟨h.2, h.1⟩)
    · rcases h with h | h
      · exact .inr (.inr (.inl ⟨h.2, h.1⟩))
      · exact .inr (.inr (.inr ⟨h.2, h.1⟩))
  · rintro (h | h | h | h)
    · exact .inr (.inl (.inl ⟨h.2, h.1⟩))
    · exact .inr (.inl (.inr ⟨h.2, h.1⟩))
    · exact .inr (.inr (.inl ⟨h.2, h.1⟩))
    · exact .inr (.inr (.inr ⟨h.2, h.1⟩))
theorem shared_iff {W S T : Int} (hW : W ≠ 0) : sharedB W S T = true ↔ 0 ≤ S * (W - S) ∧ 0 ≤ T * (W - T) := by
  rw [mul_nn, mul_nn]; unfold sharedB
  split <;> simp only [Bool.and_eq_true, decide_eq_true_eq] <;> omega
theorem cut_cross {ax ay bx by_ cx cy dx dy : Int} (h : B8 ax ay bx by_ cx cy dx dy) (hW : wW ax ay bx by_ cx cy dx dy ≠ 0) :
    cutB ax ay bx by_ cx cy dx dy = sharedB (wW ax ay bx by_ cx cy dx dy) (sS ax ay bx by_ cx cy dx dy) (tT ax ay bx by_ cx cy dx dy) := by
  rw [Bool.eq_iff_iff, cutB_iff h, shared_iff hW]
  have wa := within_A (ax := ax) (ay := ay) (bx := bx) (by_ := by_) (cx := cx) (cy := cy) (dx := dx) (dy := dy)
  have wb := within_A (ax := ax) (ay := ay) (bx := bx) (by_ := by_) (cx := dx) (cy := dy) (dx := cx) (dy := cy)
  have wc := within_A (ax := cx) (ay := cy) (bx := dx) (by_ := dy) (cx := ax) (cy := ay) (dx := bx) (dy := by_)
  have wd := within_A (ax := cx) (ay := cy) (bx := dx) (by_ := dy) (cx := bx) (cy := by_) (dx := ax) (dy := ay)
  rw [show wW ax ay bx by_ dx dy cx cy = - wW ax ay bx by_ cx cy dx dy by unfold wW; grind, show sS ax ay bx by_ dx dy cx cy = - sS ax ay bx by_ cx cy dx dy by unfold sS; grind, show tT ax ay bx by_ dx dy cx cy = tT ax ay bx by_ cx cy dx dy - wW ax ay bx by_ cx cy dx dy by unfold tT wW; grind] at wb
  rw [show wW cx cy dx dy ax ay bx by_ = - wW ax ay bx by_ cx cy dx dy by unfold wW; grind, show sS cx cy dx dy ax ay bx by_ = - tT ax ay bx by_ cx cy dx dy by unfold sS tT; grind, show tT cx cy dx dy ax ay bx by_ = - sS ax ay bx by_ cx cy dx dy by unfold tT sS; grind] at wc
  rw [show wW cx cy dx dy bx by_ ax ay = wW ax ay bx by_ cx cy dx dy by unfold wW; grind, show sS cx cy dx dy bx by_ ax ay = tT ax ay bx by_ cx cy dx dy by unfold sS tT; grind, show tT cx cy dx dy bx by_ ax ay = wW ax ay bx by_ cx cy dx dy - sS ax ay bx by_ cx cy dx dy by unfold tT sS wW; grind] at wd
  rw [o1_eq ax ay bx by_ cx cy dx dy, o2_eq ax ay bx by_ cx cy dx dy, o3_eq ax ay bx by_ cx cy dx dy, o4_eq ax ay bx by_ cx cy dx dy]
  generalize wW ax ay bx by_ cx cy dx dy = W at *
  generalize sS ax ay bx by_ cx cy dx dy = S at *
  generalize tT ax ay bx by_ cx cy dx dy = T at *
  have e1 : -T * (W - T) = -(T * (W - T)) := by grind
  have e2 : S * (S - W) = -(S * (W - S)) := by grind
  have e3 : -S * (-W - -S) = S * (W - S) := by grind
  have e4 : -T * (-W - -T) = T * (W - T) := by grind
  rw [e3] at wb; rw [e4] at wc
  rw [e1, e2]
  have z1 : ∀ {x : Int}, x = 0 → x * (W - x) = 0 := fun h => by rw [h]; simp
  have z2 : ∀ {x : Int}, W - x = 0 → x * (W - x) = 0 := fun h => by rw [h]; simp
  constructor
  · rintro (⟨h1, h2⟩ | (⟨h1, h2⟩ | ⟨h1, h2⟩) | (⟨h1, h2⟩ | ⟨h1, h2⟩))
    · omega
    · have h3 : T = 0 := by omega
      exact ⟨(wa h3 hW).1 h2, by rw [z1 h3]; omega⟩
    · have h3 : T - W = 0 := by omega
      exact ⟨(wb h3 (by omega)).1 h2, by rw [z2 (by omega)]; omega⟩
    · have h3 : S = 0 := h1
      exact ⟨by rw [z1 h3]; omega, (wc (by omega) (by omega)).1 h2⟩
    · have h3 : W - S = 0 := by omega
      exact ⟨by rw [z2 h3]; omega, (wd h3 hW).1 h2⟩
  · rintro ⟨h1, h2⟩
    by_cases t0 : T * (W - T) = 0
    · rcases Int.mul_eq_zero.1 t0 with t | t
      · exact .inr (.inl (.inl ⟨by omega, (wa t hW).2 h1⟩))
      · exact .inr (.inl (.inr ⟨by omega, (wb (by omega) (by omega)).2 h1⟩))
    · by_cases s0 : S * (W - S) = 0
      · rcases Int.mul_eq_zero.1 s0 with t | t
        · exact .inr (.inr (.inl ⟨t, (wc (by omega) (by omega)).2 h2⟩))
        · exact .inr (.inr (.inr ⟨by omega, (wd t hW).2 h2⟩))
      · exact .inl ⟨by omega, by omega⟩
theorem within_swap (ax ay bx by_ px py : Int) : withinB bx by_ ax ay px py = withinB ax ay bx by_ px py := by
  rw [Bool.eq_iff_iff, withinB_iff, withinB_iff, mul_nn, mul_nn, mul_nn, mul_nn]; omega
theorem B8.s1 {ax ay bx by_ cx cy dx dy : Int} (h : B8 ax ay bx by_ cx cy dx dy) : B8 bx by_ ax ay cx cy dx dy := ⟨h.b0, h.b1, h.a0, h.a1, h.c0, h.c1, h.d0, h.d1⟩
theorem B8.s2 {ax ay bx by_ cx cy dx dy : Int} (h : B8 ax ay bx by_ cx cy dx dy) : B8 cx cy dx dy ax ay bx by_ := ⟨h.c0, h.c1, h.d0, h.d1, h.a0, h.a1, h.b0, h.b1⟩
theorem cut_s1 {ax ay bx by_ cx cy dx dy : Int} (h : B8 ax ay bx by_ cx cy dx dy) : cutB bx by_ ax ay cx cy dx dy = cutB ax ay bx by_ cx cy dx dy := by
  rw [Bool.eq_iff_iff, cutB_iff h, cutB_iff h.s1, within_swap ax ay bx by_ cx cy, within_swap ax ay bx by_ dx dy, cr_swap ax ay bx by_ cx cy, cr_swap ax ay bx by_ dx dy, Int.neg_mul_neg, Int.mul_comm (cr cx cy dx dy bx by_)]
  simp only [Int.neg_eq_zero]
  constructor
  · rintro (h | h | h | h)
    · exact .inl h
    · exact .inr (.inl h)
    · exact .inr (.inr (.inr h))
    · exact .inr (.inr (.inl h))
  · rintro (h | h | h | h)
    · exact .inl h
    · exact .inr (.inl h)
    · exact .inr (.inr (.inr h))
    · exact .inr (.inr (.inl h))
theorem cut_s2 {ax ay bx by_ cx cy dx dy : Int} (h : B8 ax ay bx by_ cx cy dx dy) : cutB cx cy dx dy ax ay bx by_ = cutB ax ay bx by_ cx cy dx dy := by
  rw [Bool.eq_iff_iff, cutB_iff h, cutB_iff h.s2]
  constructor
  · rintro (h | h | h)
    · exact .inl ⟨h.2, h.1⟩
    · exact .inr (.inr h)
    · exact .inr (.inl h)
  · rintro (h | h | h)
    · exact .inl ⟨h.2, h.1⟩
    · exact .inr (.inr h)
    · exact .inr (.inl h)
theorem cut_s3 {ax ay bx by_ cx cy dx dy : Int} (h : B8 ax ay bx by_ cx cy dx dy) : cutB ax ay bx by_ dx dy cx cy = cutB ax ay bx by_ cx cy dx dy := by
  rw [← cut_s2 h.s2.s1.s2, cut_s1 h.s2, cut_s2 h]
theorem within_end (ax ay bx by_ : Int) : withinB ax ay bx by_ ax ay = true := by rw [withinB_iff]; simp
theorem cr_a (ax ay bx by_ : Int) : cr ax ay bx by_ ax ay = 0 := by unfold cr; grind
theorem cut_end {ax ay bx by_ dx dy : Int} (h : B8 ax ay bx by_ ax ay dx dy) : cutB ax ay bx by_ ax ay dx dy = true := by
  rw [cutB_iff h]; exact .inr (.inl (.inl ⟨cr_a .., within_end ..⟩))
theorem conv {W S a b M : Int} (h1 : 0 ≤ S) (h2 : 0 ≤ W - S) (ha : a ≤ M) (hb : b ≤ M) : W * a + S * (b - a) ≤ W * M := by
  have e : W * M - (W * a + S * (b - a)) = (W - S) * (M - a) + S * (M - b) := by grind
  have := Int.mul_nonneg h2 (show 0 ≤ M - a by omega)
  have := Int.mul_nonneg h1 (show 0 ≤ M - b by omega)
  omega
theorem conv' {W S a b M : Int} (h1 : 0 ≤ S) (h2 : 0 ≤ W - S) (ha : M ≤ a) (hb : M ≤ b) : W * M ≤ W * a + S * (b - a) := by
  have e : (W * a + S * (b - a)) - W * M = (W - S) * (a - M) + S * (b - M) := by grind
  have := Int.mul_nonneg h2 (show 0 ≤ a - M by omega)
  have := Int.mul_nonneg h1 (show 0 ≤ b - M by omega)
  omega
theorem lap1 {W S T a b c d : Int} (hW : 0 < W) (s1 : 0 ≤ S) (s2 : 0 ≤ W - S) (t1 : 0 ≤ T) (t2 : 0 ≤ W - T) (he : W * a + S * (b - a) = W * c + T * (d - c)) : mnI a b ≤ mxI c d := by
  refine Classical.byContradiction fun h => ?_
  have h1 := conv' (M := mnI a b) (a := a) (b := b) s1 s2 (by unfold mnI; split <;> omega) (by unfold mnI; split <;> omega)
  have h2 := conv (M := mxI c d) (a := c) (b := d) t1 t2 (by unfold mxI; split <;> omega) (by unfold mxI; split <;> omega)
  have h3 := Int.mul_pos hW (show 0 < mnI a b - mxI c d by omega)
  rw [Int.mul_sub] at h3
  omega
theorem lap2 {W S T a b c d : Int} (hW : W ≠ 0) (hS : 0 ≤ S * (W - S)) (hT : 0 ≤ T * (W - T)) (he : W * a + S * (b - a) = W * c + T * (d - c)) : mnI a b ≤ mxI c d ∧ mnI c d ≤ mxI a b := by
  rw [mul_nn] at hS hT
  rcases Int.lt_or_lt_of_ne hW with h | h
  · have he' : (-W) * a + (-S) * (b - a) = (-W) * c + (-T) * (d - c) := by grind
    exact ⟨lap1 (by omega) (by omega) (by omega) (by omega) (by omega) he', lap1 (by omega) (by omega) (by omega) (by omega) (by omega) he'.symm⟩
  · exact ⟨lap1 (by omega) (by omega) (by omega) (by omega) (by omega) he, lap1 (by omega) (by omega) (by omega) (by omega) (by omega) he.symm⟩
theorem lap_pt {a b c d p : Int} (h1 : 0 ≤ (p - a) * (b - p)) (h2 : 0 ≤ (p - c) * (d - p)) : mnI a b ≤ mxI c d ∧ mnI c d ≤ mxI a b := by
  rw [← bt] at h1 h2; omega
theorem cut_lap {ax ay bx by_ cx cy dx dy : Int} (h : B8 ax ay bx by_ cx cy dx dy) (hc : cutB ax ay bx by_ cx cy dx dy = true) :
    (mnI ax bx ≤ mxI cx dx ∧ mnI cx dx ≤ mxI ax bx) ∧ (mnI ay by_ ≤ mxI cy dy ∧ mnI cy dy ≤ mxI ay by_) := by
  have z : ∀ x y : Int, 0 ≤ (x - x) * (y - x) ∧ 0 ≤ (y - x) * (y - y) := fun x y => by simp
  by_cases hW : wW ax ay bx by_ cx cy dx dy = 0
  · rw [cut_par h hW] at hc
    simp only [Bool.or_eq_true, onB, Bool.and_eq_true, withinB_iff] at hc
    rcases hc with ⟨⟨h1, h2⟩, _⟩ | ⟨⟨h1, h2⟩, _⟩ | ⟨⟨h1, h2⟩, _⟩ | ⟨⟨h1, h2⟩, _⟩
    · exact ⟨lap_pt h1 (z _ _).1, lap_pt h2 (z _ _).1⟩
    · exact ⟨lap_pt h1 (z _ _).2, lap_pt h2 (z _ _).2⟩
    · exact ⟨lap_pt (z _ _).1 h1, lap_pt (z _ _).1 h2⟩
    · exact ⟨lap_pt (z _ _).2 h1, lap_pt (z _ _).2 h2⟩
  · rw [cut_cross h hW, shared_iff hW] at hc
    exact ⟨lap2 hW hc.1 hc.2 (by unfold wW sS tT; grind), lap2 hW hc.1 hc.2 (by unfold wW sS tT; grind)⟩
theorem w_x {ax ay bx by_ px py : Int} (hc : cr ax ay bx by_ px py = 0) (hn : bx - ax ≠ 0) (h : 0 ≤ (px - ax) * (bx - px)) : withinB ax ay bx by_ px py = true := by
  rw [withinB_iff]
  refine ⟨h, nn_of_mul (sq_pos hn) ?_⟩
  have e : (bx - ax) * (py - ay) = (by_ - ay) * (px - ax) := by unfold cr at hc; omega
  have : (bx - ax) * (bx - ax) * ((py - ay) * (by_ - py)) = ((by_ - ay) * (by_ - ay)) * ((px - ax) * (bx - px)) := by
    have : (bx - ax) * (bx - ax) * ((py - ay) * (by_ - py)) = ((bx - ax) * (py - ay)) * ((bx - ax) * (by_ - ay) - (bx - ax) * (py - ay)) := by grind
    rw [this, e]; grind
  rw [this]; exact Int.mul_nonneg (sq_nn _) h
theorem w_y {ax ay bx by_ px py : Int} (hc : cr ax ay bx by_ px py = 0) (hn : by_ - ay ≠ 0) (h : 0 ≤ (py - ay) * (by_ - py)) : withinB ax ay bx by_ px py = true := by
  have := w_x (ax := ay) (ay := ax) (bx := by_) (by_ := bx) (px := py) (py := px) (by unfold cr at *; omega) hn h
  rw [withinB_iff] at *; exact ⟨this.2, this.1⟩
theorem line1 {a b c d r : Int} (h1 : 0 ≤ (r - a) * (b - r)) (h2 : 0 ≤ (r - c) * (d - r)) : (0 ≤ (c - a) * (b - c) ∨ 0 ≤ (d - a) * (b - d)) ∨ (0 ≤ (a - c) * (d - a) ∨ 0 ≤ (b - c) * (d - b)) := by
  simp only [mul_nn] at *; omega
theorem common {ax ay bx by_ cx cy dx dy rx ry : Int} (h : B8 ax ay bx by_ cx cy dx dy) (u1 : withinB ax ay bx by_ rx ry = true) (u2 : cr ax ay bx by_ rx ry = 0) (v1 : withinB cx cy dx dy rx ry = true) (v2 : cr cx cy dx dy rx ry = 0) :
    cutB ax ay bx by_ cx cy dx dy = true := by
  by_cases hW : wW ax ay bx by_ cx cy dx dy = 0
  · have same : ∀ {px py qx qy : Int}, qx - px = 0 → qy - py = 0 → withinB px py qx qy rx ry = true → px = rx ∧ py = ry ∧ qx = rx ∧ qy = ry := fun e1 e2 hw => by
      rw [withinB_iff, mul_nn, mul_nn] at hw; omega
    rw [cutB_iff h]
    by_cases hab : bx - ax = 0 ∧ by_ - ay = 0
    · obtain ⟨rfl, rfl, rfl, rfl⟩ := same hab.1 hab.2 u1
      exact .inr (.inr (.inl ⟨v2, v1⟩))
    by_cases hcd : dx - cx = 0 ∧ dy - cy = 0
    · obtain ⟨rfl, rfl, rfl, rfl⟩ := same hcd.1 hcd.2 v1
      exact .inr (.inl (.inl ⟨u2, u1⟩))
    have par : (bx - ax) * (dy - cy) = (by_ - ay) * (dx - cx) := by unfold wW at hW; omega
    rw [withinB_iff] at u1 v1
    have k1 : cr ax ay bx by_ cx cy = 0 ∧ cr ax ay bx by_ dx dy = 0 ∧ cr cx cy dx dy ax ay = 0 ∧ cr cx cy dx dy bx by_ = 0 := by
      have p : ∀ {U V u v x y : Int}, (U ≠ 0 ∨ V ≠ 0) → U * v = V * u → U * y - V * x = 0 → u * y - v * x = 0 := fun {U V u v x y} hn e1 e2 => by
        have g1 : U * (u * y - v * x) = u * (U * y - V * x) + x * (V * u - U * v) := by grind
        have g2 : V * (u * y - v * x) = v * (U * y - V * x) + y * (V * u - U * v) := by grind
        rw [e2, e1] at g1 g2
        simp only [Int.sub_self, Int.mul_zero, Int.add_zero] at g1 g2
        rcases hn with hn | hn
        · exact (Int.mul_eq_zero.1 g1).resolve_left hn
        · exact (Int.mul_eq_zero.1 g2).resolve_left hn
      have n1 : bx - ax ≠ 0 ∨ by_ - ay ≠ 0 := by omega
      have n2 : dx - cx ≠ 0 ∨ dy - cy ≠ 0 := by omega
      unfold cr at u2 v2
      have q1 := p n1 par u2
      have q2 := p n2 (u := bx - ax) (v := by_ - ay) (by grind) v2
      have r1 : (bx - ax) * (cy - ay) - (by_ - ay) * (cx - ax) = 0 := by grind
      have r3 : (dx - cx) * (ay - cy) - (dy - cy) * (ax - cx) = 0 := by grind
      unfold cr
      refine ⟨r1, ?_, r3, ?_⟩ <;> grind
    obtain ⟨k1, k2, k3, k4⟩ := k1
    by_cases hx : bx - ax = 0
    · have hy : by_ - ay ≠ 0 := by omega
      have hy2 : dy - cy ≠ 0 := fun e => by
        rw [e, Int.mul_zero] at par
        have := (Int.mul_eq_zero.1 par.symm).resolve_left hy
        omega
      rcases line1 u1.2 v1.2 with (l | l) | (l | l)
      · exact .inr (.inl (.inl ⟨k1, w_y k1 hy l⟩))
      · exact .inr (.inl (.inr ⟨k2, w_y k2 hy l⟩))
      · exact .inr (.inr (.inl ⟨k3, w_y k3 hy2 l⟩))
      · exact .inr (.inr (.inr ⟨k4, w_y k4 hy2 l⟩))
    · have hx2 : dx - cx ≠ 0 := fun e => by
        rw [e, Int.mul_zero] at par
        have := (Int.mul_eq_zero.1 par).resolve_left hx
        omega
      rcases line1 u1.1 v1.1 with (l | l) | (l | l)
      · exact .inr (.inl (.inl ⟨k1, w_x k1 hx l⟩))
      · exact .inr (.inl (.inr ⟨k2, w_x k2 hx l⟩))
      · exact .inr (.inr (.inl ⟨k3, w_x k3 hx2 l⟩))
      · exact .inr (.inr (.inr ⟨k4, w_x k4 hx2 l⟩))
  · rw [cut_cross h hW, shared_iff hW]
    have e1 : wW ax ay bx by_ rx ry (rx + (dx - cx)) (ry + (dy - cy)) = wW ax ay bx by_ cx cy dx dy := by unfold wW; grind
    have e2 : sS ax ay bx by_ rx ry (rx + (dx - cx)) (ry + (dy - cy)) = sS ax ay bx by_ cx cy dx dy := by unfold cr at v2; unfold sS; grind
    have e3 : tT ax ay bx by_ rx ry (rx + (dx - cx)) (ry + (dy - cy)) = 0 := by unfold cr at u2; unfold tT; grind
    have f1 : wW cx cy dx dy rx ry (rx + (bx - ax)) (ry + (by_ - ay)) = - wW ax ay bx by_ cx cy dx dy := by unfold wW; grind
    have f2 : sS cx cy dx dy rx ry (rx + (bx - ax)) (ry + (by_ - ay)) = - tT ax ay bx by_ cx cy dx dy := by unfold cr at u2; unfold sS tT; grind
    have f3 : tT cx cy dx dy rx ry (rx + (bx - ax)) (ry + (by_ - ay)) = 0 := by unfold cr at v2; unfold tT; grind
    have g1 := (within_A e3 (by rw [e1]; exact hW)).1 u1
    have g2 := (within_A f3 (by rw [f1]; omega)).1 v1
    rw [e1, e2] at g1
    rw [f1, f2] at g2
    refine ⟨g1, ?_⟩
    have : -tT ax ay bx by_ cx cy dx dy * (-wW ax ay bx by_ cx cy dx dy - -tT ax ay bx by_ cx cy dx dy) = tT ax ay bx by_ cx cy dx dy * (wW ax ay bx by_ cx cy dx dy - tT ax ay bx by_ cx cy dx dy) := by grind
    omega
theorem mn_le (a b : Int) : mnI a b ≤ a ∧ mnI a b ≤ b ∧ (mnI a b = a ∨ mnI a b = b) := by unfold mnI; split <;> omega
theorem mx_le (a b : Int) : a ≤ mxI a b ∧ b ≤ mxI a b ∧ (mxI a b = a ∨ mxI a b = b) := by unfold mxI; split <;> omega
theorem fold_min : ∀ (l : List (Int × Int)) (q : Int × Int), ((l.foldl minP q).1 ≤ q.1 ∧ (l.foldl minP q).2 ≤ q.2) ∧ (∀ p ∈ l, (l.foldl minP q).1 ≤ p.1 ∧ (l.foldl minP q).2 ≤ p.2) ∧
    ((l.foldl minP q).1 = q.1 ∨ ∃ p ∈ l, (l.foldl minP q).1 = p.1) ∧ ((l.foldl minP q).2 = q.2 ∨ ∃ p ∈ l, (l.foldl minP q).2 = p.2)
  | [], q => by simp
  | p :: l, q => by
    obtain ⟨⟨h1, h2⟩, h3, h4, h5⟩ := fold_min l (minP q p)
    have m1 := mn_le q.1 p.1
    have m2 := mn_le q.2 p.2
    simp only [List.foldl_cons]
    simp only [minP] at h1 h2 h4 h5
    refine ⟨⟨by simp only [minP] at *; omega, by simp only [minP] at *; omega⟩, fun r hr => ?_, ?_, ?_⟩
    · simp only [List.mem_cons] at hr
      rcases hr with rfl | hr
      · simp only [minP] at *; omega
      · exact h3 r hr
    · rcases h4 with h4 | ⟨r, hr, h4⟩
      · rcases m1.2.2 with m | m
        · exact .inl (by simp only [minP] at *; omega)
        · exact .inr ⟨p, by simp, by simp only [minP] at *; omega⟩
      · exact .inr ⟨r, by simp [hr], h4⟩
    · rcases h5 with h4 | ⟨r, hr, h4⟩
      · rcases m2.2.2 with m | m
        · exact .inl (by simp only [minP] at *; omega)
        · exact .inr ⟨p, by simp, by simp only [minP] at *; omega⟩
      · exact .inr ⟨r, by simp [hr], h4⟩
theorem fold_max : ∀ (l : List (Int × Int)) (q : Int × Int), (q.1 ≤ (l.foldl maxP q).1 ∧ q.2 ≤ (l.foldl maxP q).2) ∧ (∀ p ∈ l, p.1 ≤ (l.foldl maxP q).1 ∧ p.2 ≤ (l.foldl maxP q).2) ∧
    ((l.foldl maxP q).1 = q.1 ∨ ∃ p ∈ l, (l.foldl maxP q).1 = p.1) ∧ ((l.foldl maxP q).2 = q.2 ∨ ∃ p ∈ l, (l.foldl maxP q).2 = p.2)
  | [], q => by simp
  | p :: l, q => by
    obtain ⟨⟨h1, h2⟩, h3, h4, h5⟩ := fold_max l (maxP q p)
    have m1 := mx_le q.1 p.1
    have m2 := mx_le q.2 p.2
    simp only [List.foldl_cons]
    simp only [maxP] at h1 h2 h4 h5
    refine ⟨⟨by simp only [maxP] at *; omega, by simp only [maxP] at *; omega⟩, fun r hr => ?_, ?_, ?_⟩
    · simp only [List.mem_cons] at hr
      rcases hr with rfl | hr
      · simp only [maxP] at *; omega
      · exact h3 r hr
    · rcases h4 with h4 | ⟨r, hr, h4⟩
      · rcases m1.2.2 with m | m
        · exact .inl (by simp only [maxP] at *; omega)
        · exact .inr ⟨p, by simp, by simp only [maxP] at *; omega⟩
      · exact .inr ⟨r, by simp [hr], h4⟩
    · rcases h5 with h4 | ⟨r, hr, h4⟩
      · rcases m2.2.2 with m | m
        · exact .inl (by simp only [maxP] at *; omega)
        · exact .inr ⟨p, by simp, by simp only [maxP] at *; omega⟩
      · exact .inr ⟨r, by simp [hr], h4⟩
/-- what a box is: it bounds, and each side is met -/
structure Box (l : List (Int × Int)) (lo hi : Int × Int) : Prop where
  b1 : ∀ p ∈ l, lo.1 ≤ p.1
  b2 : ∀ p ∈ l, lo.2 ≤ p.2
  b3 : ∀ p ∈ l, p.1 ≤ hi.1
  b4 : ∀ p ∈ l, p.2 ≤ hi.2
  m1 : ∃ p ∈ l, p.1 = lo.1
  m2 : ∃ p ∈ l, p.2 = lo.2
  m3 : ∃ p ∈ l, p.1 = hi.1
  m4 : ∃ p ∈ l, p.2 = hi.2
theorem box {l : List (Int × Int)} (h : l ≠ []) : Box l (bbL l) (bbH l) := by
  cases l with
  | nil => exact absurd rfl h
  | cons p l =>
    obtain ⟨⟨a1, a2⟩, a3, a4, a5⟩ := fold_min (p :: l) p
    obtain ⟨⟨c1, c2⟩, c3, c4, c5⟩ := fold_max (p :: l) p
    refine ⟨fun q hq => (a3 q hq).1, fun q hq => (a3 q hq).2, fun q hq => (c3 q hq).1, fun q hq => (c3 q hq).2, ?_, ?_, ?_, ?_⟩
    · rcases a4 with a | ⟨r, hr, a⟩
      · exact ⟨p, by simp, a.symm⟩
      · exact ⟨r, hr, a.symm⟩
    · rcases a5 with a | ⟨r, hr, a⟩
      · exact ⟨p, by simp, a.symm⟩
      · exact ⟨r, hr, a.symm⟩
    · rcases c4 with a | ⟨r, hr, a⟩
      · exact ⟨p, by simp, a.symm⟩
      · exact ⟨r, hr, a.symm⟩
    · rcases c5 with a | ⟨r, hr, a⟩
      · exact ⟨p, by simp, a.symm⟩
      · exact ⟨r, hr, a.symm⟩
theorem Box.uniq {l : List (Int × Int)} {lo hi lo' hi' : Int × Int} (h : Box l lo hi) (k : Box l lo' hi') : lo = lo' ∧ hi = hi' := by
  obtain ⟨p1, hp1, e1⟩ := h.m1
  obtain ⟨p2, hp2, e2⟩ := h.m2
  obtain ⟨p3, hp3, e3⟩ := h.m3
  obtain ⟨p4, hp4, e4⟩ := h.m4
  obtain ⟨q1, hq1, f1⟩ := k.m1
  obtain ⟨q2, hq2, f2⟩ := k.m2
  obtain ⟨q3, hq3, f3⟩ := k.m3
  obtain ⟨q4, hq4, f4⟩ := k.m4
  have := h.b1 q1 hq1; have := k.b1 p1 hp1
  have := h.b2 q2 hq2; have := k.b2 p2 hp2
  have := h.b3 q3 hq3; have := k.b3 p3 hp3
  have := h.b4 q4 hq4; have := k.b4 p4 hp4
  exact ⟨Prod.ext (by omega) (by omega), Prod.ext (by omega) (by omega)⟩
def gapZ (lo hi lo' hi' : Int × Int) : Int := mxI (mxI (mxI (mxI 0 (lo'.1 - hi.1)) (lo'.2 - hi.2)) (lo.1 - hi'.1)) (lo.2 - hi'.2)
theorem mx_mx (a b x : Int) : x = mxI a b ↔ a ≤ x ∧ b ≤ x ∧ (x = a ∨ x = b) := by unfold mxI; split <;> omega
theorem gapZ_char (lo hi lo' hi' : Int × Int) (x : Int) : x = gapZ lo hi lo' hi' ↔ (0 ≤ x ∧ lo'.1 - hi.1 ≤ x ∧ lo'.2 - hi.2 ≤ x ∧ lo.1 - hi'.1 ≤ x ∧ lo.2 - hi'.2 ≤ x) ∧ (x = 0 ∨ x = lo'.1 - hi.1 ∨ x = lo'.2 - hi.2 ∨ x = lo.1 - hi'.1 ∨ x = lo.2 - hi'.2) := by
  unfold gapZ mxI; repeat' split
  all_goals omega
end Go.Geo

namespace Go.Geo
set_option maxRecDepth 100000
set_option maxHeartbeats 4000000
set_option linter.unusedSimpArgs false
set_option linter.unusedVariables false
open Go Go.Zv
abbrev Pt := Int × Int
/-- a polygon's edges -/
def eds : List Pt → List (Pt × Pt)
  | [] => []
  | p :: t => (p :: t).zip (t ++ [p])
theorem eds_len (l : List Pt) : (eds l).length = l.length := by cases l <;> simp [eds]
theorem eds_get {l : List Pt} {k : Nat} {e : Pt × Pt} (h : (eds l)[k]? = some e) : k < l.length ∧ l[k]? = some e.1 ∧ l[(k + 1) % l.length]? = some e.2 := by
  cases l with
  | nil => simp [eds] at h
  | cons p t =>
    have hk : k < (eds (p :: t)).length := (List.getElem?_eq_some_iff.1 h).1
    rw [eds_len] at hk
    refine ⟨hk, ?_⟩
    simp only [eds] at h
    rw [List.getElem?_zip_eq_some] at h
    refine ⟨h.1, ?_⟩
    have h2 := h.2
    simp only [List.length_cons] at hk ⊢
    by_cases e1 : k = t.length
    · subst e1
      rw [Nat.mod_self]
      rw [List.getElem?_append_right (by omega)] at h2
      simpa using h2
    · rw [Nat.mod_eq_of_lt (by omega)]
      rw [List.getElem?_append_left (by omega)] at h2
      simpa using h2
theorem mod_nat {k n : Nat} (hk : k < n) (hn : n ≤ 1000000000) : (((k + 1 : Nat) : Int)).tmod (n : Int) = (((k + 1) % n : Nat) : Int) ∧ ¬ ((n : Int) = 0) ∧ ((n : Int) == 0) = false ∧ (0 : Int) ≤ (((k + 1) % n : Nat) : Int) ∧ (((k + 1) % n : Nat) : Int) < n := by
  have h := Nat.mod_lt (k + 1) (show n > 0 by omega)
  refine ⟨?_, by omega, by simp; omega, by omega, by omega⟩
  rw [Int.tmod_eq_emod_of_nonneg (by omega)]; rfl
theorem wr_k {k : Nat} (h : k ≤ 1000000000) : IntKind.i64.wrap (((k : Nat) : Int) + 1) = ((k + 1 : Nat) : Int) := wr_succ (by omega)
def arF (x : Int) (e : Pt × Pt) : Int := w64 (x + w64 (w64 (e.1.1 * e.2.2) - w64 (e.1.2 * e.2.1)))
/-- twice the area -/
def areaW (l : List Pt) : Int := (eds l).foldl arF 0
abbrev oriE (a b p : Pt) : Int := sgn (crW a.1 a.2 b.1 b.2 p.1 p.2)
/-- a point on an edge -/
def onE (p : Pt) (e : Pt × Pt) : Bool := onB e.1.1 e.1.2 e.2.1 e.2.2 p.1 p.2
/-- an edge that the ray to the right crosses -/
def flE (p : Pt) (e : Pt × Pt) : Bool := (decide (p.2 < e.1.2) != decide (p.2 < e.2.2)) && (decide (0 < sgn (crW e.1.1 e.1.2 e.2.1 e.2.2 p.1 p.2)) == decide (e.1.2 < e.2.2))
def parF (p : Pt) (b : Bool) (e : Pt × Pt) : Bool := b != flE p e
/-- where a point lies: 0 on the boundary, 1 inside, -1 outside -/
def locI (l : List Pt) (p : Pt) : Int := if (eds l).any (onE p) = true then 0 else if (eds l).foldl (parF p) false = true then 1 else -1
end Go.Geo

namespace Go.Proofs.Yteellikeoiedbaa
set_option maxRecDepth 100000
set_option maxHeartbeats 4000000
set_option linter.unusedSimpArgs false
set_option linter.unusedVariables false
open Go Go.Zv
open Go.Geo
theorem c41 (ax ay bx by_ : Int) : pc E 41 [.agg [.int .i64 ax, .int .i64 ay], .agg [.int .i64 bx, .int .i64 by_]] = some (.agg [.int .i64 (w64 (ax + bx)), .int .i64 (w64 (ay + by_))]) := by
  rw [pc_eq]; simp +contextual -implicitDefEqProofs (maxSteps := 2000000) only [go_sem, ↓reduceIte, Nat.reduceAdd, Nat.reduceMul, Nat.reduceSub, Nat.reduceEqDiff, Nat.reduceLeDiff, Nat.reduceDiv, Nat.reduceMod, Nat.reduceBEq, Nat.reduceBNe, reduceCtorEq, Int.reduceLE, Int.reduceLT, Int.reduceToNat, Int.reduceNeg, Nat.reduceLT, Int.reduceEq, Int.reduceSub, Int.reduceAdd, Int.reduceMul, Nat.reducePow, Int.reduceBEq, Int.reduceBNe, Int.reduceMod, E_41, A41]
theorem c79 (ax ay bx by_ : Int) : pc E 79 [.agg [.int .i64 ax, .int .i64 ay], .agg [.int .i64 bx, .int .i64 by_]] = some (.agg [.int .i64 (w64 (ax - bx)), .int .i64 (w64 (ay - by_))]) := by
  rw [pc_eq]; simp +contextual -implicitDefEqProofs (maxSteps := 2000000) only [go_sem, ↓reduceIte, Nat.reduceAdd, Nat.reduceMul, Nat.reduceSub, Nat.reduceEqDiff, Nat.reduceLeDiff, Nat.reduceDiv, Nat.reduceMod, Nat.reduceBEq, Nat.reduceBNe, reduceCtorEq, Int.reduceLE, Int.reduceLT, Int.reduceToNat, Int.reduceNeg, Nat.reduceLT, Int.reduceEq, Int.reduceSub, Int.reduceAdd, Int.reduceMul, Nat.reducePow, Int.reduceBEq, Int.reduceBNe, Int.reduceMod, E_79, A79]
theorem c55 (ax ay bx by_ px py : Int) : pc E 55 [.agg [.int .i64 ax, .int .i64 ay], .agg [.int .i64 bx, .int .i64 by_], .agg [.int .i64 px, .int .i64 py]] = some (.int .i64 (sgn (crW ax ay bx by_ px py))) := by
  rw [pc_eq]; simp +contextual -implicitDefEqProofs (maxSteps := 2000000) only [go_sem, ↓reduceIte, Nat.reduceAdd, Nat.reduceMul, Nat.reduceSub, Nat.reduceEqDiff, Nat.reduceLeDiff, Nat.reduceDiv, Nat.reduceMod, Nat.reduceBEq, Nat.reduceBNe, reduceCtorEq, Int.reduceLE, Int.reduceLT, Int.reduceToNat, Int.reduceNeg, Nat.reduceLT, Int.reduceEq, Int.reduceSub, Int.reduceAdd, Int.reduceMul, Nat.reducePow, Int.reduceBEq, Int.reduceBNe, Int.reduceMod, E_55, A55, c79, decide_eq_true_eq]
  unfold sgn crW; split <;> (try split) <;> rfl
theorem c78 (ax ay bx by_ px py : Int) : pc E 78 [.agg [.int .i64 ax, .int .i64 ay], .agg [.int .i64 bx, .int .i64 by_], .agg [.int .i64 px, .int .i64 py]] = some (.int .i64 (crW ax ay bx by_ px py)) := by
  rw [pc_eq]; simp +contextual -implicitDefEqProofs (maxSteps := 2000000) only [go_sem, ↓reduceIte, Nat.reduceAdd, Nat.reduceMul, Nat.reduceSub, Nat.reduceEqDiff, Nat.reduceLeDiff, Nat.reduceDiv, Nat.reduceMod, Nat.reduceBEq, Nat.reduceBNe, reduceCtorEq, Int.reduceLE, Int.reduceLT, Int.reduceToNat, Int.reduceNeg, Nat.reduceLT, Int.reduceEq, Int.reduceSub, Int.reduceAdd, Int.reduceMul, Nat.reducePow, Int.reduceBEq, Int.reduceBNe, Int.reduceMod, E_78, A78, crW]
theorem c53 (ax ay bx by_ px py : Int) : pc E 53 [.agg [.int .i64 ax, .int .i64 ay], .agg [.int .i64 bx, .int .i64 by_], .agg [.int .i64 px, .int .i64 py]] = some (.int .i64 (sgn (crW ax ay bx by_ px py))) := by
  rw [pc_eq]; simp +contextual -implicitDefEqProofs (maxSteps := 2000000) only [go_sem, ↓reduceIte, Nat.reduceAdd, Nat.reduceMul, Nat.reduceSub, Nat.reduceEqDiff, Nat.reduceLeDiff, Nat.reduceDiv, Nat.reduceMod, Nat.reduceBEq, Nat.reduceBNe, reduceCtorEq, Int.reduceLE, Int.reduceLT, Int.reduceToNat, Int.reduceNeg, Nat.reduceLT, Int.reduceEq, Int.reduceSub, Int.reduceAdd, Int.reduceMul, Nat.reducePow, Int.reduceBEq, Int.reduceBNe, Int.reduceMod, E_53, A53, c78, decide_eq_true_eq]
  unfold sgn; split <;> (try split) <;> rfl
theorem c85 (a b x : Int) : pc E 85 [.int .i64 a, .int .i64 b, .int .i64 x] = some (.bool (decide (mnI a b ≤ x) && decide (x ≤ mxI a b))) := by
  rw [pc_eq]; simp +contextual -implicitDefEqProofs (maxSteps := 2000000) only [go_sem, ↓reduceIte, Nat.reduceAdd, Nat.reduceMul, Nat.reduceSub, Nat.reduceEqDiff, Nat.reduceLeDiff, Nat.reduceDiv, Nat.reduceMod, Nat.reduceBEq, Nat.reduceBNe, reduceCtorEq, Int.reduceLE, Int.reduceLT, Int.reduceToNat, Int.reduceNeg, Nat.reduceLT, Int.reduceEq, Int.reduceSub, Int.reduceAdd, Int.reduceMul, Nat.reducePow, Int.reduceBEq, Int.reduceBNe, Int.reduceMod, E_85, A85, decide_eq_true_eq]
  split <;> simp [*]
theorem c88 (ax ay bx by_ : Int) : pc E 88 [.agg [.int .i64 ax, .int .i64 ay], .agg [.int .i64 bx, .int .i64 by_]] = some (.agg [.int .i64 (mnI ax bx), .int .i64 (mnI ay by_)]) := by
  rw [pc_eq]; simp +contextual -implicitDefEqProofs (maxSteps := 2000000) only [go_sem, ↓reduceIte, Nat.reduceAdd, Nat.reduceMul, Nat.reduceSub, Nat.reduceEqDiff, Nat.reduceLeDiff, Nat.reduceDiv, Nat.reduceMod, Nat.reduceBEq, Nat.reduceBNe, reduceCtorEq, Int.reduceLE, Int.reduceLT, Int.reduceToNat, Int.reduceNeg, Nat.reduceLT, Int.reduceEq, Int.reduceSub, Int.reduceAdd, Int.reduceMul, Nat.reducePow, Int.reduceBEq, Int.reduceBNe, Int.reduceMod, E_88, A88]
theorem c89 (ax ay bx by_ : Int) : pc E 89 [.agg [.int .i64 ax, .int .i64 ay], .agg [.int .i64 bx, .int .i64 by_]] = some (.agg [.int .i64 (mxI ax bx), .int .i64 (mxI ay by_)]) := by
  rw [pc_eq]; simp +contextual -implicitDefEqProofs (maxSteps := 2000000) only [go_sem, ↓reduceIte, Nat.reduceAdd, Nat.reduceMul, Nat.reduceSub, Nat.reduceEqDiff, Nat.reduceLeDiff, Nat.reduceDiv, Nat.reduceMod, Nat.reduceBEq, Nat.reduceBNe, reduceCtorEq, Int.reduceLE, Int.reduceLT, Int.reduceToNat, Int.reduceNeg, Nat.reduceLT, Int.reduceEq, Int.reduceSub, Int.reduceAdd, Int.reduceMul, Nat.reducePow, Int.reduceBEq, Int.reduceBNe, Int.reduceMod, E_89, A89]
theorem fold_loop (l : List (Int × Int)) (hl : l.length < 9223372036854775808) (f : FuncId) (g : Int × Int → Int × Int → Int × Int) (hg : ∀ ax ay bx by_, pc E f [.agg [.int .i64 ax, .int .i64 ay], .agg [.int .i64 bx, .int .i64 by_]] = some (.agg [.int .i64 (g (ax, ay) (bx, by_)).1, .int .i64 (g (ax, ay) (bx, by_)).2])) :
    ∀ (k i : Nat) (ax ay : Int), i + k = l.length → (K E A87_L0 ⟨[(2, .fn (.func f) [] []), (4, .ptr 1024 0), (6, .ptr 1536 0), (9, .vs (l.map c2)), (10, .int .i64 l.length), (11, .int .i64 i)], [],
      [(1536, .box [.int .i64 0, .int .i64 0]), (1024, .box [.int .i64 ax, .int .i64 ay])], 0⟩).bind (blockR 0 (some [4, 6]) [8]) =
      some (.ex .nrm ⟨[(4, .ptr 1024 0), (6, .ptr 1536 0)], [], [(1536, .box [.int .i64 0, .int .i64 0]), (1024, .box [.int .i64 ((l.drop i).foldl g (ax, ay)).1, .int .i64 ((l.drop i).foldl g (ax, ay)).2])], 0⟩)
  | 0, i, ax, ay, h => by
    have hi : ¬ ((i : Int) < l.length) := by omega
    have hd : l.drop i = [] := List.drop_of_length_le (by omega)
    rw [A87_L0_eq, hd]
    simp +contextual -implicitDefEqProofs (maxSteps := 2000000) only [go_sem, ↓reduceIte, Nat.reduceAdd, Nat.reduceMul, Nat.reduceSub, Nat.reduceEqDiff, Nat.reduceLeDiff, Nat.reduceDiv, Nat.reduceMod, Nat.reduceBEq, Nat.reduceBNe, reduceCtorEq, Int.reduceLE, Int.reduceLT, Int.reduceToNat, Int.reduceNeg, Nat.reduceLT, Int.reduceEq, Int.reduceSub, Int.reduceAdd, Int.reduceMul, Nat.reducePow, Int.reduceBEq, Int.reduceBNe, Int.reduceMod, A87_L0b, hi, List.foldl_nil]
  | k + 1, i, ax, ay, h => by
    have hi : ((i : Int) < l.length) := by omega
    have hget : l[i]? = some (l[i]'(by omega)) := List.getElem?_eq_getElem _
    generalize l[i]'(by omega) = p at hget
    have hg2 := get_c2 hget
    have hw := wr_succ (n := i) (by omega)
    have h0 : (0 : Int) ≤ (i : Int) := by omega
    have hd : l.drop i = p :: l.drop (i + 1) := by
      have hlt : i < l.length := by omega
      rw [List.drop_eq_getElem_cons hlt]
      rw [List.getElem?_eq_getElem hlt] at hget
      simp only [Option.some.injEq] at hget
      rw [hget]
    rw [A87_L0_eq, hd]
    simp +contextual -implicitDefEqProofs (maxSteps := 2000000) only [go_sem, ↓reduceIte, Nat.reduceAdd, Nat.reduceMul, Nat.reduceSub, Nat.reduceEqDiff, Nat.reduceLeDiff, Nat.reduceDiv, Nat.reduceMod, Nat.reduceBEq, Nat.reduceBNe, reduceCtorEq, Int.reduceLE, Int.reduceLT, Int.reduceToNat, Int.reduceNeg, Nat.reduceLT, Int.reduceEq, Int.reduceSub, Int.reduceAdd, Int.reduceMul, Nat.reducePow, Int.reduceBEq, Int.reduceBNe, Int.reduceMod, A87_L0b, hi, hg2, hg, h0, hw, List.foldl_cons]
    rw [fold_loop l hl f g hg k (i + 1) _ _ (by omega)]
theorem c87 (l : List (Int × Int)) (hl : l.length < 9223372036854775808) (ax ay : Int) (f : FuncId) (g : Int × Int → Int × Int → Int × Int) (hg : ∀ ax ay bx by_, pc E f [.agg [.int .i64 ax, .int .i64 ay], .agg [.int .i64 bx, .int .i64 by_]] = some (.agg [.int .i64 (g (ax, ay) (bx, by_)).1, .int .i64 (g (ax, ay) (bx, by_)).2])) :
    pc E 87 [.vs (l.map c2), .agg [.int .i64 ax, .int .i64 ay], .fn (.func f) [] []] = some (pt (l.foldl g (ax, ay))) := by
  have := fold_loop l hl f g hg l.length 0 ax ay (by omega)
  simp only [Int.ofNat_zero, Int.natCast_zero, List.drop_zero] at this
  rw [pc_eq]; simp +contextual -implicitDefEqProofs (maxSteps := 2000000) only [go_sem, ↓reduceIte, Nat.reduceAdd, Nat.reduceMul, Nat.reduceSub, Nat.reduceEqDiff, Nat.reduceLeDiff, Nat.reduceDiv, Nat.reduceMod, Nat.reduceBEq, Nat.reduceBNe, reduceCtorEq, Int.reduceLE, Int.reduceLT, Int.reduceToNat, Int.reduceNeg, Nat.reduceLT, Int.reduceEq, Int.reduceSub, Int.reduceAdd, Int.reduceMul, Nat.reducePow, Int.reduceBEq, Int.reduceBNe, Int.reduceMod, E_87, A87, List.length_map, this]
theorem c80 (l : List (Int × Int)) (hl : l.length < 9223372036854775808) : pc E 80 [.vs (l.map c2)] = some (.tup [pt (bbL l), pt (bbH l)]) := by
  cases l with
  | nil =>
    rw [pc_eq]; simp +contextual -implicitDefEqProofs only [E_80, A80, go_sem, ↓reduceIte, Nat.reduceAdd, Nat.reduceMul, Nat.reduceSub, Nat.reduceEqDiff, Nat.reduceLeDiff, Nat.reduceDiv, Nat.reduceMod, Nat.reduceBEq, Nat.reduceBNe, reduceCtorEq, Int.reduceLE, Int.reduceLT, Int.reduceToNat, Int.reduceNeg, Nat.reduceLT, Int.reduceEq, Int.reduceSub, Int.reduceAdd, Int.reduceMul, Nat.reducePow, Int.reduceBEq, Int.reduceBNe, Int.reduceMod, List.map_nil, bbL, bbH, Int.ofNat_zero, Int.natCast_zero]
  | cons p t =>
    have h1 := c87 (p :: t) hl p.1 p.2 88 minP (fun ax ay bx by_ => c88 ax ay bx by_)
    have h2 := c87 (p :: t) hl p.1 p.2 89 maxP (fun ax ay bx by_ => c89 ax ay bx by_)
    have hz : ¬ (((p :: t).length : Int) = 0) := by simp only [List.length_cons]; omega
    simp only [List.map_cons, c2, List.length_cons] at h1 h2 hz
    rw [pc_eq]; simp +contextual -implicitDefEqProofs only [E_80, A80, go_sem, ↓reduceIte, Nat.reduceAdd, Nat.reduceMul, Nat.reduceSub, Nat.reduceEqDiff, Nat.reduceLeDiff, Nat.reduceDiv, Nat.reduceMod, Nat.reduceBEq, Nat.reduceBNe, reduceCtorEq, Int.reduceLE, Int.reduceLT, Int.reduceToNat, Int.reduceNeg, Nat.reduceLT, Int.reduceEq, Int.reduceSub, Int.reduceAdd, Int.reduceMul, Nat.reducePow, Int.reduceBEq, Int.reduceBNe, Int.reduceMod, List.map_cons, c2, bbL, bbH, List.length_map, hz, h1, h2]
theorem c80_2 (ax ay bx by_ : Int) : pc E 80 [.vs [[.int .i64 ax, .int .i64 ay], [.int .i64 bx, .int .i64 by_]]] = some (.tup [pt (bbL [(ax, ay), (bx, by_)]), pt (bbH [(ax, ay), (bx, by_)])]) :=
  c80 [(ax, ay), (bx, by_)] (by simp)
theorem c56 (ax ay bx by_ px py : Int) : pc E 56 [.agg [.int .i64 ax, .int .i64 ay], .agg [.int .i64 bx, .int .i64 by_], .agg [.int .i64 px, .int .i64 py]] = some (.bool (withinB ax ay bx by_ px py)) := by
  rw [pc_eq]; simp +contextual -implicitDefEqProofs (maxSteps := 2000000) only [go_sem, ↓reduceIte, Nat.reduceAdd, Nat.reduceMul, Nat.reduceSub, Nat.reduceEqDiff, Nat.reduceLeDiff, Nat.reduceDiv, Nat.reduceMod, Nat.reduceBEq, Nat.reduceBNe, reduceCtorEq, Int.reduceLE, Int.reduceLT, Int.reduceToNat, Int.reduceNeg, Nat.reduceLT, Int.reduceEq, Int.reduceSub, Int.reduceAdd, Int.reduceMul, Nat.reducePow, Int.reduceBEq, Int.reduceBNe, Int.reduceMod, E_56, A56, c80_2, bbL, bbH, List.foldl_cons, List.foldl_nil, minP, maxP, mn_self, mx_self, withinB]
  repeat' split
  all_goals (try simp_all)
  all_goals (try (intros; omega))
theorem c58 (ax ay bx by_ px py : Int) : pc E 58 [.agg [.int .i64 ax, .int .i64 ay], .agg [.int .i64 bx, .int .i64 by_], .agg [.int .i64 px, .int .i64 py]] = some (.bool (onB ax ay bx by_ px py)) := by
  rw [pc_eq]; simp +contextual -implicitDefEqProofs (maxSteps := 2000000) only [go_sem, ↓reduceIte, Nat.reduceAdd, Nat.reduceMul, Nat.reduceSub, Nat.reduceEqDiff, Nat.reduceLeDiff, Nat.reduceDiv, Nat.reduceMod, Nat.reduceBEq, Nat.reduceBNe, reduceCtorEq, Int.reduceLE, Int.reduceLT, Int.reduceToNat, Int.reduceNeg, Nat.reduceLT, Int.reduceEq, Int.reduceSub, Int.reduceAdd, Int.reduceMul, Nat.reducePow, Int.reduceBEq, Int.reduceBNe, Int.reduceMod, E_58, A58, c56, c55, onB]
  repeat' split
  all_goals simp_all [Bool.beq_eq_decide_eq]
theorem c76 (ax ay bx by_ px py : Int) : pc E 76 [.agg [.int .i64 ax, .int .i64 ay], .agg [.int .i64 bx, .int .i64 by_], .agg [.int .i64 px, .int .i64 py]] = some (.bool (onB ax ay bx by_ px py)) := by
  rw [pc_eq]; simp +contextual -implicitDefEqProofs (maxSteps := 2000000) only [go_sem, ↓reduceIte, Nat.reduceAdd, Nat.reduceMul, Nat.reduceSub, Nat.reduceEqDiff, Nat.reduceLeDiff, Nat.reduceDiv, Nat.reduceMod, Nat.reduceBEq, Nat.reduceBNe, reduceCtorEq, Int.reduceLE, Int.reduceLT, Int.reduceToNat, Int.reduceNeg, Nat.reduceLT, Int.reduceEq, Int.reduceSub, Int.reduceAdd, Int.reduceMul, Nat.reducePow, Int.reduceBEq, Int.reduceBNe, Int.reduceMod, E_76, A76, c53, c85, onB, withinB]
  repeat' split
  all_goals (try simp_all)
  all_goals (try (intros; omega))
theorem c54 (ax ay bx by_ cx cy dx dy : Int) : pc E 54 [.agg [.int .i64 ax, .int .i64 ay], .agg [.int .i64 bx, .int .i64 by_], .agg [.int .i64 cx, .int .i64 cy], .agg [.int .i64 dx, .int .i64 dy]] =
    some (.tup [.bool (decide (sdI ax ay bx by_ cx cy dx dy < 0)), .bool (endsB ax ay bx by_ cx cy dx dy)]) := by
  rw [pc_eq]; simp +contextual -implicitDefEqProofs (maxSteps := 2000000) only [go_sem, ↓reduceIte, Nat.reduceAdd, Nat.reduceMul, Nat.reduceSub, Nat.reduceEqDiff, Nat.reduceLeDiff, Nat.reduceDiv, Nat.reduceMod, Nat.reduceBEq, Nat.reduceBNe, reduceCtorEq, Int.reduceLE, Int.reduceLT, Int.reduceToNat, Int.reduceNeg, Nat.reduceLT, Int.reduceEq, Int.reduceSub, Int.reduceAdd, Int.reduceMul, Nat.reducePow, Int.reduceBEq, Int.reduceBNe, Int.reduceMod, E_54, A54, c56, c55, sdI, endsB]
  repeat' split
  all_goals (try simp_all [wrap0])
  all_goals (try (intros; omega))
  all_goals (try rfl)
theorem c27 (ax ay bx by_ cx cy dx dy : Int) : pc E 27 [.agg [.int .i64 ax, .int .i64 ay], .agg [.int .i64 bx, .int .i64 by_], .agg [.int .i64 cx, .int .i64 cy], .agg [.int .i64 dx, .int .i64 dy]] = some (.bool (cutB ax ay bx by_ cx cy dx dy)) := by
  rw [pc_eq]; simp +contextual -implicitDefEqProofs (maxSteps := 2000000) only [go_sem, ↓reduceIte, Nat.reduceAdd, Nat.reduceMul, Nat.reduceSub, Nat.reduceEqDiff, Nat.reduceLeDiff, Nat.reduceDiv, Nat.reduceMod, Nat.reduceBEq, Nat.reduceBNe, reduceCtorEq, Int.reduceLE, Int.reduceLT, Int.reduceToNat, Int.reduceNeg, Nat.reduceLT, Int.reduceEq, Int.reduceSub, Int.reduceAdd, Int.reduceMul, Nat.reducePow, Int.reduceBEq, Int.reduceBNe, Int.reduceMod, E_27, A27, c54, cutB]
  repeat' split
  all_goals (try simp_all)
  all_goals (try (intros; omega))
  all_goals (try rfl)
theorem c50 (ax ay bx by_ cx cy dx dy : Int) : pc E 50 [.agg [.int .i64 ax, .int .i64 ay], .agg [.int .i64 bx, .int .i64 by_], .agg [.int .i64 cx, .int .i64 cy], .agg [.int .i64 dx, .int .i64 dy]] =
    some (.bool ((onB ax ay bx by_ cx cy || onB ax ay bx by_ dx dy || onB cx cy dx dy ax ay || onB cx cy dx dy bx by_) || (decide (sdI ax ay bx by_ cx cy dx dy < 0) && decide (sdI cx cy dx dy ax ay bx by_ < 0)))) := by
  cases h1 : onB ax ay bx by_ cx cy with
  | true => rw [pc_eq]; simp +contextual -implicitDefEqProofs (maxSteps := 2000000) only [go_sem, ↓reduceIte, Nat.reduceAdd, Nat.reduceMul, Nat.reduceSub, Nat.reduceEqDiff, Nat.reduceLeDiff, Nat.reduceDiv, Nat.reduceMod, Nat.reduceBEq, Nat.reduceBNe, reduceCtorEq, Int.reduceLE, Int.reduceLT, Int.reduceToNat, Int.reduceNeg, Nat.reduceLT, Int.reduceEq, Int.reduceSub, Int.reduceAdd, Int.reduceMul, Nat.reducePow, Int.reduceBEq, Int.reduceBNe, Int.reduceMod, E_50, A50, c76, h1]
  | false =>
    cases h2 : onB ax ay bx by_ dx dy with
    | true => rw [pc_eq]; simp +contextual -implicitDefEqProofs (maxSteps := 2000000) only [go_sem, ↓reduceIte, Nat.reduceAdd, Nat.reduceMul, Nat.reduceSub, Nat.reduceEqDiff, Nat.reduceLeDiff, Nat.reduceDiv, Nat.reduceMod, Nat.reduceBEq, Nat.reduceBNe, reduceCtorEq, Int.reduceLE, Int.reduceLT, Int.reduceToNat, Int.reduceNeg, Nat.reduceLT, Int.reduceEq, Int.reduceSub, Int.reduceAdd, Int.reduceMul, Nat.reducePow, Int.reduceBEq, Int.reduceBNe, Int.reduceMod, E_50, A50, c76, h1, h2]
    | false =>
      cases h3 : onB cx cy dx dy ax ay with
      | true => rw [pc_eq]; simp +contextual -implicitDefEqProofs (maxSteps := 2000000) only [go_sem, ↓reduceIte, Nat.reduceAdd, Nat.reduceMul, Nat.reduceSub, Nat.reduceEqDiff, Nat.reduceLeDiff, Nat.reduceDiv, Nat.reduceMod, Nat.reduceBEq, Nat.reduceBNe, reduceCtorEq, Int.reduceLE, Int.reduceLT, Int.reduceToNat, Int.reduceNeg, Nat.reduceLT, Int.reduceEq, Int.reduceSub, Int.reduceAdd, Int.reduceMul, Nat.reducePow, Int.reduceBEq, Int.reduceBNe, Int.reduceMod, E_50, A50, c76, h1, h2, h3]
      | false =>
        cases h4 : onB cx cy dx dy bx by_ with
        | true => rw [pc_eq]; simp +contextual -implicitDefEqProofs (maxSteps := 2000000) only [go_sem, ↓reduceIte, Nat.reduceAdd, Nat.reduceMul, Nat.reduceSub, Nat.reduceEqDiff, Nat.reduceLeDiff, Nat.reduceDiv, Nat.reduceMod, Nat.reduceBEq, Nat.reduceBNe, reduceCtorEq, Int.reduceLE, Int.reduceLT, Int.reduceToNat, Int.reduceNeg, Nat.reduceLT, Int.reduceEq, Int.reduceSub, Int.reduceAdd, Int.reduceMul, Nat.reducePow, Int.reduceBEq, Int.reduceBNe, Int.reduceMod, E_50, A50, c76, h1, h2, h3, h4]
        | false =>
          rw [pc_eq]; simp +contextual -implicitDefEqProofs (maxSteps := 2000000) only [go_sem, ↓reduceIte, Nat.reduceAdd, Nat.reduceMul, Nat.reduceSub, Nat.reduceEqDiff, Nat.reduceLeDiff, Nat.reduceDiv, Nat.reduceMod, Nat.reduceBEq, Nat.reduceBNe, reduceCtorEq, Int.reduceLE, Int.reduceLT, Int.reduceToNat, Int.reduceNeg, Nat.reduceLT, Int.reduceEq, Int.reduceSub, Int.reduceAdd, Int.reduceMul, Nat.reducePow, Int.reduceBEq, Int.reduceBNe, Int.reduceMod, E_50, A50, c76, h1, h2, h3, h4, c53, sdI]
          repeat' split
          all_goals (try simp_all)
          all_goals (try rfl)
          all_goals (intro hh; exact absurd (of_decide_eq_true hh) (by omega))
end Go.Proofs.Yteellikeoiedbaa

namespace Go.Proofs.Yteellikeoiedbaa
set_option maxRecDepth 100000
set_option maxHeartbeats 4000000
set_option linter.unusedSimpArgs false
set_option linter.unusedVariables false
open Go Go.Zv
open Go.Geo
theorem c57 (x : List (List LV)) (h : LV.closeds [.vs x] = true) : pc E 57 [.vs x] = some (.fn (.func 81) [] [.fp [.vs x]]) := by
  rw [pc_eq]; simp +contextual -implicitDefEqProofs (maxSteps := 2000000) only [go_sem, ↓reduceIte, Nat.reduceAdd, Nat.reduceMul, Nat.reduceSub, Nat.reduceEqDiff, Nat.reduceLeDiff, Nat.reduceDiv, Nat.reduceMod, Nat.reduceBEq, Nat.reduceBNe, reduceCtorEq, Int.reduceLE, Int.reduceLT, Int.reduceToNat, Int.reduceNeg, Nat.reduceLT, Int.reduceEq, Int.reduceSub, Int.reduceAdd, Int.reduceMul, Nat.reducePow, Int.reduceBEq, Int.reduceBNe, Int.reduceMod, E_57, A57, h]
end Go.Proofs.Yteellikeoiedbaa

namespace Go.Proofs.Yteellikeoiedbaa
set_option maxRecDepth 100000
set_option maxHeartbeats 4000000
set_option linter.unusedSimpArgs false
set_option linter.unusedVariables false
open Go Go.Zv
open Go.Geo
theorem cl_c2 (l : List Pt) : LV.closeds [.vs (l.map c2)] = true := rfl
theorem c57' (l : List Pt) : pc E 57 [.vs (l.map c2)] = some (.fn (.func 81) [] [.fp [.vs (l.map c2)]]) := c57 _ (cl_c2 l)
theorem c37 (l : List Pt) (hl : l.length ≤ 1000000000) : pc E 37 [.vs (l.map c2)] = some (.int .i64 (areaW l)) := by
  have h57 := c57' l
  have lp := loop_foldl (fun S => (K E A81_L0 S).bind (blockR 0 (some []) [3, 4, 24]))
    (fun k (x : Int) => ⟨[(0, .yl 1024000), (1, .fp [.vs (l.map c2)]), (5, .vs (l.map c2)), (6, .int .i64 l.length), (7, .int .i64 k)], [[(2, .int .i64 0), (3, .ptr 768 0), (7, .fn (Fn.func 81) [] [.fp [.vs (l.map c2)]])], [(0, .yl 1024000)]], [(1024000, .loop [(2, .int .i64 0), (3, .ptr 768 0), (7, .fn (Fn.func 81) [] [.fp [.vs (l.map c2)]])] [8, 9] A37_R0a A37_R0b LSt.ready AEx.nrm), (768, .box [.int .i64 x])], 1⟩)
    (eds l) arF (fun _ => True) (fun k e x hk he _ => ⟨trivial, by
      obtain ⟨hk', g1, g2⟩ := eds_get he
      have g1 := get_c2 g1
      have g2 := get_c2 g2
      obtain ⟨m1, m2, m3, m4, m5⟩ := mod_nat hk' hl
      have hw := wr_k (k := k) (by omega)
      have h1 : (k : Int) < l.length := by omega
      have h0 : (0 : Int) ≤ k := by omega
      obtain ⟨⟨px, py⟩, ⟨qx, qy⟩⟩ := e
      show (K E A81_L0 _).bind _ = (K E A81_L0 _).bind _
      conv => lhs; rw [A81_L0_eq]
      simp +contextual -implicitDefEqProofs (maxSteps := 2000000) only [go_sem, ↓reduceIte, Nat.reduceAdd, Nat.reduceMul, Nat.reduceSub, Nat.reduceEqDiff, Nat.reduceLeDiff, Nat.reduceDiv, Nat.reduceMod, Nat.reduceBEq, Nat.reduceBNe, reduceCtorEq, Int.reduceLE, Int.reduceLT, Int.reduceToNat, Int.reduceNeg, Nat.reduceLT, Int.reduceEq, Int.reduceSub, Int.reduceAdd, Int.reduceMul, Nat.reducePow, Int.reduceBEq, Int.reduceBNe, Int.reduceMod, A81_L0b, A37_R0a, A37_R0b, List.length_map, h0, h1, g1, g2, m1, m2, m3, m4, m5, hw, arF]⟩) 0 trivial
  have stop : ∀ x : Int, (K E A81_L0 ⟨[(0, .yl 1024000), (1, .fp [.vs (l.map c2)]), (5, .vs (l.map c2)), (6, .int .i64 l.length), (7, .int .i64 l.length)], [[(2, .int .i64 0), (3, .ptr 768 0), (7, .fn (Fn.func 81) [] [.fp [.vs (l.map c2)]])], [(0, .yl 1024000)]], [(1024000, .loop [(2, .int .i64 0), (3, .ptr 768 0), (7, .fn (Fn.func 81) [] [.fp [.vs (l.map c2)]])] [8, 9] A37_R0a A37_R0b LSt.ready AEx.nrm), (768, .box [.int .i64 x])], 1⟩).bind (blockR 0 (some []) [3, 4, 24]) = some (.ex .nrm ⟨[], [[(2, .int .i64 0), (3, .ptr 768 0), (7, .fn (Fn.func 81) [] [.fp [.vs (l.map c2)]])], [(0, .yl 1024000)]], [(1024000, .loop [(2, .int .i64 0), (3, .ptr 768 0), (7, .fn (Fn.func 81) [] [.fp [.vs (l.map c2)]])] [8, 9] A37_R0a A37_R0b LSt.ready AEx.nrm), (768, .box [.int .i64 x])], 1⟩) := fun x => by
    rw [A81_L0_eq]; simp +contextual -implicitDefEqProofs (maxSteps := 2000000) only [go_sem, ↓reduceIte, Nat.reduceAdd, Nat.reduceMul, Nat.reduceSub, Nat.reduceEqDiff, Nat.reduceLeDiff, Nat.reduceDiv, Nat.reduceMod, Nat.reduceBEq, Nat.reduceBNe, reduceCtorEq, Int.reduceLE, Int.reduceLT, Int.reduceToNat, Int.reduceNeg, Nat.reduceLT, Int.reduceEq, Int.reduceSub, Int.reduceAdd, Int.reduceMul, Nat.reducePow, Int.reduceBEq, Int.reduceBNe, Int.reduceMod, A81_L0b, Int.lt_irrefl]
  rw [eds_len] at lp
  simp only [stop, Int.natCast_zero, Int.ofNat_zero] at lp
  rw [pc_eq]; simp +contextual -implicitDefEqProofs (maxSteps := 2000000) only [go_sem, ↓reduceIte, Nat.reduceAdd, Nat.reduceMul, Nat.reduceSub, Nat.reduceEqDiff, Nat.reduceLeDiff, Nat.reduceDiv, Nat.reduceMod, Nat.reduceBEq, Nat.reduceBNe, reduceCtorEq, Int.reduceLE, Int.reduceLT, Int.reduceToNat, Int.reduceNeg, Nat.reduceLT, Int.reduceEq, Int.reduceSub, Int.reduceAdd, Int.reduceMul, Nat.reducePow, Int.reduceBEq, Int.reduceBNe, Int.reduceMod, E_37, A37, h57, E_81, A81, A37_R0, List.length_map, lp, areaW]
end Go.Proofs.Yteellikeoiedbaa

namespace Go.Proofs.Yteellikeoiedbaa
set_option maxRecDepth 100000
set_option maxHeartbeats 4000000
set_option linter.unusedSimpArgs false
set_option linter.unusedVariables false
open Go Go.Zv
open Go.Geo
abbrev FR28 (l : List Pt) : Env := [(3, .ptr 768 0), (4, .ptr 1024 0), (5, .ptr 1280 0), (11, .fn (Fn.func 81) [] [.fp [.vs (l.map c2)]])]
theorem c28 (l : List Pt) (hl : l.length ≤ 1000000000) (px py : Int) : pc E 28 [.vs (l.map c2), .agg [.int .i64 px, .int .i64 py]] = some (.int .i64 (locI l (px, py))) := by
  have h57 := c57' l
  have lp := loop_leave (fun S => (K E A81_L0 S).bind (blockR 0 (some []) [3, 4, 24]))
    (fun k (x : Bool) => ⟨[(0, .yl 1024000), (1, .fp [.vs (l.map c2)]), (5, .vs (l.map c2)), (6, .int .i64 l.length), (7, .int .i64 k)], [FR28 l, [(0, .yl 1024000)]], [(1024000, .loop (FR28 l) [12, 13] A28_R0a A28_R0b LSt.ready AEx.nrm), (1280, .box [.bool x]), (1024, .box [.int .i64 0]), (768, .box [.int .i64 px, .int .i64 py])], 1⟩)
    (eds l) (parF (px, py)) (onE (px, py)) (fun o => ∃ (k : Int) (x : Bool), o = some (.ex .ret ⟨[(0, .yl 1024000), (1, .fp [.vs (l.map c2)]), (5, .vs (l.map c2)), (6, .int .i64 l.length), (7, .int .i64 k), (25, .bool true)], [FR28 l, [(0, .yl 1024000)]], [(1024000, .loop (FR28 l) [12, 13] A28_R0a A28_R0b LSt.done AEx.ret), (1280, .box [.bool x]), (1024, .box [.int .i64 0]), (768, .box [.int .i64 px, .int .i64 py])], 1⟩))
    (fun x => some (.ex .nrm ⟨[], [FR28 l, [(0, .yl 1024000)]], [(1024000, .loop (FR28 l) [12, 13] A28_R0a A28_R0b LSt.ready AEx.nrm), (1280, .box [.bool x]), (1024, .box [.int .i64 0]), (768, .box [.int .i64 px, .int .i64 py])], 1⟩))
    (fun x => by
      rw [eds_len]
      show (K E A81_L0 _).bind _ = _
      rw [A81_L0_eq]; simp +contextual -implicitDefEqProofs (maxSteps := 2000000) only [go_sem, ↓reduceIte, Nat.reduceAdd, Nat.reduceMul, Nat.reduceSub, Nat.reduceEqDiff, Nat.reduceLeDiff, Nat.reduceDiv, Nat.reduceMod, Nat.reduceBEq, Nat.reduceBNe, reduceCtorEq, Int.reduceLE, Int.reduceLT, Int.reduceToNat, Int.reduceNeg, Nat.reduceLT, Int.reduceEq, Int.reduceSub, Int.reduceAdd, Int.reduceMul, Nat.reducePow, Int.reduceBEq, Int.reduceBNe, Int.reduceMod, A81_L0b, Int.lt_irrefl])
    (fun k e x hk he => by
      obtain ⟨hk', g1, g2⟩ := eds_get he
      have g1 := get_c2 g1
      have g2 := get_c2 g2
      obtain ⟨m1, m2, m3, m4, m5⟩ := mod_nat hk' hl
      have hw := wr_k (k := k) (by omega)
      have h1 : (k : Int) < l.length := by omega
      have h0 : (0 : Int) ≤ k := by omega
      obtain ⟨⟨ax, ay⟩, ⟨bx, by_⟩⟩ := e
      have o1 := c58 ax ay bx by_ px py
      have o2 := c55 ax ay bx by_ px py
      refine ⟨fun hp => ⟨k, x, ?_⟩, fun hp => ?_⟩
      · simp only [onE] at hp
        rw [hp] at o1
        show (K E A81_L0 _).bind _ = _
        rw [A81_L0_eq]
        simp +contextual -implicitDefEqProofs (maxSteps := 2000000) only [go_sem, ↓reduceIte, Nat.reduceAdd, Nat.reduceMul, Nat.reduceSub, Nat.reduceEqDiff, Nat.reduceLeDiff, Nat.reduceDiv, Nat.reduceMod, Nat.reduceBEq, Nat.reduceBNe, reduceCtorEq, Int.reduceLE, Int.reduceLT, Int.reduceToNat, Int.reduceNeg, Nat.reduceLT, Int.reduceEq, Int.reduceSub, Int.reduceAdd, Int.reduceMul, Nat.reducePow, Int.reduceBEq, Int.reduceBNe, Int.reduceMod, A81_L0b, A28_R0a, A28_R0b, List.length_map, h0, h1, g1, g2, m1, m2, m3, m4, m5, hw, o1]
      · simp only [onE] at hp
        rw [hp] at o1
        show (K E A81_L0 _).bind _ = (K E A81_L0 _).bind _
        conv => lhs; rw [A81_L0_eq]
        simp only [parF, flE]
        generalize sgn (crW ax ay bx by_ px py) = s at *
        by_cases d1 : py < ay <;> by_cases d2 : py < by_ <;> by_cases d3 : 0 < s <;> by_cases d4 : ay < by_ <;> cases x <;>
          simp +contextual -implicitDefEqProofs (maxSteps := 2000000) only [go_sem, ↓reduceIte, Nat.reduceAdd, Nat.reduceMul, Nat.reduceSub, Nat.reduceEqDiff, Nat.reduceLeDiff, Nat.reduceDiv, Nat.reduceMod, Nat.reduceBEq, Nat.reduceBNe, reduceCtorEq, Int.reduceLE, Int.reduceLT, Int.reduceToNat, Int.reduceNeg, Nat.reduceLT, Int.reduceEq, Int.reduceSub, Int.reduceAdd, Int.reduceMul, Nat.reducePow, Int.reduceBEq, Int.reduceBNe, Int.reduceMod, A81_L0b, A28_R0a, A28_R0b, List.length_map, h0, h1, g1, g2, m1, m2, m3, m4, m5, hw, o1, o2, d1, d2, d3, d4, decide_true, decide_false, bne_self_eq_false, beq_self_eq_true, Bool.and_true, Bool.and_false])
    false
  simp only [Int.natCast_zero, Int.ofNat_zero] at lp
  unfold locI
  cases ha : (eds l).any (onE (px, py)) with
  | true =>
    obtain ⟨k, x, lq⟩ := lp.1 ha
    rw [pc_eq]; simp +contextual -implicitDefEqProofs (maxSteps := 2000000) only [go_sem, ↓reduceIte, Nat.reduceAdd, Nat.reduceMul, Nat.reduceSub, Nat.reduceEqDiff, Nat.reduceLeDiff, Nat.reduceDiv, Nat.reduceMod, Nat.reduceBEq, Nat.reduceBNe, reduceCtorEq, Int.reduceLE, Int.reduceLT, Int.reduceToNat, Int.reduceNeg, Nat.reduceLT, Int.reduceEq, Int.reduceSub, Int.reduceAdd, Int.reduceMul, Nat.reducePow, Int.reduceBEq, Int.reduceBNe, Int.reduceMod, E_28, A28, h57, E_81, A81, A28_R0, List.length_map, lq]
  | false =>
    have lq := lp.2 ha
    cases hb : (eds l).foldl (parF (px, py)) false <;> rw [hb] at lq <;> rw [pc_eq] <;> simp +contextual -implicitDefEqProofs (maxSteps := 2000000) only [go_sem, ↓reduceIte, Nat.reduceAdd, Nat.reduceMul, Nat.reduceSub, Nat.reduceEqDiff, Nat.reduceLeDiff, Nat.reduceDiv, Nat.reduceMod, Nat.reduceBEq, Nat.reduceBNe, reduceCtorEq, Int.reduceLE, Int.reduceLT, Int.reduceToNat, Int.reduceNeg, Nat.reduceLT, Int.reduceEq, Int.reduceSub, Int.reduceAdd, Int.reduceMul, Nat.reducePow, Int.reduceBEq, Int.reduceBNe, Int.reduceMod, E_28, A28, h57, E_81, A81, A28_R0, List.length_map, lq]
end Go.Proofs.Yteellikeoiedbaa

namespace Go.Geo
set_option maxRecDepth 100000
set_option maxHeartbeats 4000000
set_option linter.unusedSimpArgs false
set_option linter.unusedVariables false
open Go Go.Zv
def mayB (p : Pt) : Bool := decide (mxI p.1 p.2 ≤ 439400000) && decide (-439400000 ≤ mnI p.1 p.2)
def ptn (l : List Pt) (k : Nat) : Pt := l.getD (k % l.length) (0, 0)
def adjB (n i k : Nat) : Bool := decide (k = i) || (decide (k = (i + 1) % n) || decide (i = (k + 1) % n))
def cutE (e f : Pt × Pt) : Bool := cutB e.1.1 e.1.2 e.2.1 e.2.2 f.1.1 f.1.2 f.2.1 f.2.2
def edn (l : List Pt) (k : Nat) : Pt × Pt := (ptn l k, ptn l (k + 1))
def bad2 (l : List Pt) (i k : Nat) : Bool := !adjB l.length i k && cutE (edn l i) (edn l k)
def bad1 (l : List Pt) (i : Nat) : Bool := decide (oriE (ptn l i) (ptn l (i + 1)) (ptn l (i + 2)) = 0) || (List.range l.length).any (bad2 l i)
def simB (l : List Pt) : Bool := !(List.range l.length).any (bad1 l)
/-- what polygon.Valid tells -/
def valB (l : List Pt) : Bool := decide (3 ≤ l.length) && (decide (l.length ≤ 12) && (l.all mayB && (simB l && decide (0 < areaW l))))
theorem ptn_get {l : List Pt} {k : Nat} (h : k < l.length) : l[k]? = some (ptn l k) := by
  unfold ptn; rw [Nat.mod_eq_of_lt h, List.getElem?_eq_getElem h]; simp [List.getD, h]
theorem ptn_mod {l : List Pt} {k : Nat} (h : 0 < l.length) : l[k % l.length]? = some (ptn l k) := by
  have := ptn_get (l := l) (Nat.mod_lt k h)
  rw [this]; unfold ptn; rw [Nat.mod_mod]
theorem edn_get {l : List Pt} {k : Nat} (h : k < l.length) : (eds l)[k]? = some (edn l k) := by
  have hk : k < (eds l).length := by rw [eds_len]; exact h
  obtain ⟨e, he⟩ : ∃ e, (eds l)[k]? = some e := ⟨_, List.getElem?_eq_getElem hk⟩
  obtain ⟨_, h1, h2⟩ := eds_get he
  rw [ptn_get h] at h1
  rw [ptn_mod (by omega)] at h2
  simp only [Option.some.injEq] at h1 h2
  rw [he]; unfold edn; rw [h1, h2]
theorem range_get {n k : Nat} (h : k < n) : (List.range n)[k]? = some k := by simp [h]
end Go.Geo

namespace Go.Proofs.Yteellikeoiedbaa
set_option maxRecDepth 100000
set_option maxHeartbeats 4000000
set_option linter.unusedSimpArgs false
set_option linter.unusedVariables false
open Go Go.Zv
open Go.Geo
abbrev FR67 (l : List Pt) : Env := [(1, .ptr 256 0), (2, .ptr 512 0), (3, .ptr 768 0), (11, .fn (Fn.func 81) [] [.fp [.vs (l.map c2)]])]
abbrev FI67 (l : List Pt) : Env := [(2, .ptr 512 0), (3, .ptr 768 0), (4, .ptr 2098176 0), (5, .ptr 2098432 0), (28, .fn (Fn.func 81) [] [.fp [.vs (l.map c2)]])]
abbrev FF67 (l : List Pt) (k ax ay bx by_ k1 : Int) (k1m : Nat) : List Env := [FI67 l, [(0, .yl 3121153)], [(0, .yl 1024000)], [(23, .agg [.int .i64 ax, .int .i64 ay, .int .i64 bx, .int .i64 by_]), (22, .agg [.int .i64 bx, .int .i64 by_]), (21, .fp [.int .i64 bx, .int .i64 by_]), (20, .int .i64 k1m), (19, .int .i64 l.length), (18, .vs (l.map c2)), (17, .int .i64 k1), (16, .int .i64 k), (15, .vs (l.map c2)), (14, .agg [.int .i64 ax, .int .i64 ay]), (13, .int .i64 k), (12, .yl 1024000), (0, .yl 1024000), (1, .fp [.vs (l.map c2)]), (3, .int .i64 k), (4, .ptr 1049600 0), (5, .vs (l.map c2)), (6, .int .i64 l.length), (7, .int .i64 k)], FR67 l, [(0, .yl 1024000)]]
abbrev OO67 (l : List Pt) (k ax ay bx by_ : Int) (st : LSt) (pe : AEx) : Heap := [(3121153, .loop (FI67 l) [29, 30] A67_R0a A67_R0b st pe), (2098432, .box [.int .i64 ax, .int .i64 ay, .int .i64 bx, .int .i64 by_]), (2098176, .box [.int .i64 k]), (1049600, .box [.int .i64 ax, .int .i64 ay]), (1024000, .loop (FR67 l) [12, 13] A67_R1a A67_R1b LSt.busy AEx.nrm), (768, .box [.int .i64 l.length]), (512, .box [.bool false]), (256, .box [.vs (l.map c2)])]
theorem in67 (l : List Pt) (hl : l.length ≤ 1000000000) (k : Nat) (hk : k < l.length) (ax ay bx by_ : Int) :
    ((List.range l.length).any (fun j => !adjB l.length k j && cutB ax ay bx by_ (edn l j).1.1 (edn l j).1.2 (edn l j).2.1 (edn l j).2.2) = true → ∃ j : Int, (K E A81_L0 ⟨[(0, .yl 3121153), (1, .fp [.vs (l.map c2)]), (5, .vs (l.map c2)), (6, .int .i64 l.length), (7, .int .i64 0)], FF67 l k ax ay bx by_ (k + 1 : Nat) ((k + 1) % l.length), OO67 l k ax ay bx by_ .ready .nrm, 3⟩).bind (blockR 0 (some []) [3, 4, 24]) =
      some (.ex .ret ⟨[(0, .yl 3121153), (1, .fp [.vs (l.map c2)]), (5, .vs (l.map c2)), (6, .int .i64 l.length), (7, .int .i64 j), (25, .bool true)], FF67 l k ax ay bx by_ (k + 1 : Nat) ((k + 1) % l.length), OO67 l k ax ay bx by_ .done .ret, 3⟩)) ∧
    ((List.range l.length).any (fun j => !adjB l.length k j && cutB ax ay bx by_ (edn l j).1.1 (edn l j).1.2 (edn l j).2.1 (edn l j).2.2) = false → (K E A81_L0 ⟨[(0, .yl 3121153), (1, .fp [.vs (l.map c2)]), (5, .vs (l.map c2)), (6, .int .i64 l.length), (7, .int .i64 0)], FF67 l k ax ay bx by_ (k + 1 : Nat) ((k + 1) % l.length), OO67 l k ax ay bx by_ .ready .nrm, 3⟩).bind (blockR 0 (some []) [3, 4, 24]) =
      some (.ex .nrm ⟨[], FF67 l k ax ay bx by_ (k + 1 : Nat) ((k + 1) % l.length), OO67 l k ax ay bx by_ .ready .nrm, 3⟩)) := by
  have lp := loop_leave (σ := Unit) (fun S => (K E A81_L0 S).bind (blockR 0 (some []) [3, 4, 24]))
    (fun j _ => ⟨[(0, .yl 3121153), (1, .fp [.vs (l.map c2)]), (5, .vs (l.map c2)), (6, .int .i64 l.length), (7, .int .i64 j)], FF67 l k ax ay bx by_ (k + 1 : Nat) ((k + 1) % l.length), OO67 l k ax ay bx by_ .ready .nrm, 3⟩)
    (List.range l.length) (fun _ _ => ()) (fun j => !adjB l.length k j && cutB ax ay bx by_ (edn l j).1.1 (edn l j).1.2 (edn l j).2.1 (edn l j).2.2)
    (fun o => ∃ j : Int, o = some (.ex .ret ⟨[(0, .yl 3121153), (1, .fp [.vs (l.map c2)]), (5, .vs (l.map c2)), (6, .int .i64 l.length), (7, .int .i64 j), (25, .bool true)], FF67 l k ax ay bx by_ (k + 1 : Nat) ((k + 1) % l.length), OO67 l k ax ay bx by_ .done .ret, 3⟩))
    (fun _ => some (.ex .nrm ⟨[], FF67 l k ax ay bx by_ (k + 1 : Nat) ((k + 1) % l.length), OO67 l k ax ay bx by_ .ready .nrm, 3⟩))
    (fun x => by
      rw [List.length_range]
      show (K E A81_L0 _).bind _ = _
      rw [A81_L0_eq]; simp +contextual -implicitDefEqProofs (maxSteps := 2000000) only [go_sem, ↓reduceIte, Nat.reduceAdd, Nat.reduceMul, Nat.reduceSub, Nat.reduceEqDiff, Nat.reduceLeDiff, Nat.reduceDiv, Nat.reduceMod, Nat.reduceBEq, Nat.reduceBNe, reduceCtorEq, Int.reduceLE, Int.reduceLT, Int.reduceToNat, Int.reduceNeg, Nat.reduceLT, Int.reduceEq, Int.reduceSub, Int.reduceAdd, Int.reduceMul, Nat.reducePow, Int.reduceBEq, Int.reduceBNe, Int.reduceMod, A81_L0b, Int.lt_irrefl])
    (fun j j' x hj he => by
      rw [List.length_range] at hj
      rw [range_get hj] at he
      cases he
      obtain ⟨_, g1, g2⟩ := eds_get (edn_get hj)
      have g1 := get_c2 g1
      have g2 := get_c2 g2
      obtain ⟨m1, m2, m3, m4, m5⟩ := mod_nat hj hl
      obtain ⟨n1, _, _, n4, n5⟩ := mod_nat hk hl
      have hw := wr_k (k := j) (by omega)
      have hw2 := wr_k (k := k) (by omega)
      have h1 : (j : Int) < l.length := by omega
      have h0 : (0 : Int) ≤ j := by omega
      have a1 : ((j : Int) == (k : Int)) = decide (j = k) := by rw [Bool.eq_iff_iff]; simp only [beq_iff_eq, decide_eq_true_eq]; omega
      have a2 : ((j : Int) == (((k + 1) % l.length : Nat) : Int)) = decide (j = (k + 1) % l.length) := by rw [Bool.eq_iff_iff]; simp only [beq_iff_eq, decide_eq_true_eq]; omega
      have a3 : ((k : Int) == (((j + 1) % l.length : Nat) : Int)) = decide (k = (j + 1) % l.length) := by rw [Bool.eq_iff_iff]; simp only [beq_iff_eq, decide_eq_true_eq]; omega
      generalize edn l j = e at *
      obtain ⟨⟨cx, cy⟩, ⟨dx, dy⟩⟩ := e
      have o1 := c27 ax ay bx by_ cx cy dx dy
      simp only [adjB] at *
      generalize ((k + 1) % l.length) = k1 at *
      generalize ((j + 1) % l.length) = j1 at *
      refine ⟨fun hp => ⟨j, ?_⟩, fun hp => ?_⟩
      · simp only [Bool.and_eq_true, Bool.not_eq_true', Bool.or_eq_false_iff, decide_eq_false_iff_not] at hp
        obtain ⟨⟨d1, d2, d3⟩, hc⟩ := hp
        rw [hc] at o1
        show (K E A81_L0 _).bind _ = _
        rw [A81_L0_eq]
        simp +contextual -implicitDefEqProofs (maxSteps := 2000000) only [go_sem, ↓reduceIte, Nat.reduceAdd, Nat.reduceMul, Nat.reduceSub, Nat.reduceEqDiff, Nat.reduceLeDiff, Nat.reduceDiv, Nat.reduceMod, Nat.reduceBEq, Nat.reduceBNe, reduceCtorEq, Int.reduceLE, Int.reduceLT, Int.reduceToNat, Int.reduceNeg, Nat.reduceLT, Int.reduceEq, Int.reduceSub, Int.reduceAdd, Int.reduceMul, Nat.reducePow, Int.reduceBEq, Int.reduceBNe, Int.reduceMod, OO67, FF67, FI67, FR67, A81_L0b, A67_R0a, A67_R0b, List.length_map, h0, h1, g1, g2, m1, m2, m3, m4, m5, n1, n4, n5, hw, hw2, a1, a2, a3, d1, d2, d3, decide_false, o1]
      · show (K E A81_L0 _).bind _ = (K E A81_L0 _).bind _
        conv => lhs; rw [A81_L0_eq]
        by_cases d1 : j = k
        · have e1 := decide_eq_true d1
          simp +contextual -implicitDefEqProofs (maxSteps := 2000000) only [go_sem, ↓reduceIte, Nat.reduceAdd, Nat.reduceMul, Nat.reduceSub, Nat.reduceEqDiff, Nat.reduceLeDiff, Nat.reduceDiv, Nat.reduceMod, Nat.reduceBEq, Nat.reduceBNe, reduceCtorEq, Int.reduceLE, Int.reduceLT, Int.reduceToNat, Int.reduceNeg, Nat.reduceLT, Int.reduceEq, Int.reduceSub, Int.reduceAdd, Int.reduceMul, Nat.reducePow, Int.reduceBEq, Int.reduceBNe, Int.reduceMod, OO67, FF67, FI67, FR67, A81_L0b, A67_R0a, A67_R0b, List.length_map, h0, h1, g1, g2, m1, m2, m3, m4, m5, n1, n4, n5, hw, hw2, a1, a2, a3, e1]
        · by_cases d2 : j = k1
          · have e1 := decide_eq_false d1
            have e2 := decide_eq_true d2
            simp +contextual -implicitDefEqProofs (maxSteps := 2000000) only [go_sem, ↓reduceIte, Nat.reduceAdd, Nat.reduceMul, Nat.reduceSub, Nat.reduceEqDiff, Nat.reduceLeDiff, Nat.reduceDiv, Nat.reduceMod, Nat.reduceBEq, Nat.reduceBNe, reduceCtorEq, Int.reduceLE, Int.reduceLT, Int.reduceToNat, Int.reduceNeg, Nat.reduceLT, Int.reduceEq, Int.reduceSub, Int.reduceAdd, Int.reduceMul, Nat.reducePow, Int.reduceBEq, Int.reduceBNe, Int.reduceMod, OO67, FF67, FI67, FR67, A81_L0b, A67_R0a, A67_R0b, List.length_map, h0, h1, g1, g2, m1, m2, m3, m4, m5, n1, n4, n5, hw, hw2, a1, a2, a3, e1, e2]
          · by_cases d3 : k = j1
            · have e1 := decide_eq_false d1
              have e2 := decide_eq_false d2
              have e3 := decide_eq_true d3
              simp +contextual -implicitDefEqProofs (maxSteps := 2000000) only [go_sem, ↓reduceIte, Nat.reduceAdd, Nat.reduceMul, Nat.reduceSub, Nat.reduceEqDiff, Nat.reduceLeDiff, Nat.reduceDiv, Nat.reduceMod, Nat.reduceBEq, Nat.reduceBNe, reduceCtorEq, Int.reduceLE, Int.reduceLT, Int.reduceToNat, Int.reduceNeg, Nat.reduceLT, Int.reduceEq, Int.reduceSub, Int.reduceAdd, Int.reduceMul, Nat.reducePow, Int.reduceBEq, Int.reduceBNe, Int.reduceMod, OO67, FF67, FI67, FR67, A81_L0b, A67_R0a, A67_R0b, List.length_map, h0, h1, g1, g2, m1, m2, m3, m4, m5, n1, n4, n5, hw, hw2, a1, a2, a3, e1, e2, e3]
            · simp only [d1, d2, d3, decide_false, Bool.or_false, Bool.not_false, Bool.true_and] at hp
              rw [hp] at o1
              simp +contextual -implicitDefEqProofs (maxSteps := 2000000) only [go_sem, ↓reduceIte, Nat.reduceAdd, Nat.reduceMul, Nat.reduceSub, Nat.reduceEqDiff, Nat.reduceLeDiff, Nat.reduceDiv, Nat.reduceMod, Nat.reduceBEq, Nat.reduceBNe, reduceCtorEq, Int.reduceLE, Int.reduceLT, Int.reduceToNat, Int.reduceNeg, Nat.reduceLT, Int.reduceEq, Int.reduceSub, Int.reduceAdd, Int.reduceMul, Nat.reducePow, Int.reduceBEq, Int.reduceBNe, Int.reduceMod, OO67, FF67, FI67, FR67, A81_L0b, A67_R0a, A67_R0b, List.length_map, h0, h1, g1, g2, m1, m2, m3, m4, m5, n1, n4, n5, hw, hw2, a1, a2, a3, d1, d2, d3, decide_false, o1])
    ()
  simp only [Int.natCast_zero, Int.ofNat_zero] at lp
  exact lp
end Go.Proofs.Yteellikeoiedbaa

namespace Go.Proofs.Yteellikeoiedbaa
set_option maxRecDepth 100000
set_option maxHeartbeats 4000000
set_option linter.unusedSimpArgs false
set_option linter.unusedVariables false
open Go Go.Zv
open Go.Geo
theorem wr_2 {k : Nat} (h : k ≤ 1000000000) : IntKind.i64.wrap (((k : Nat) : Int) + 2) = ((k + 2 : Nat) : Int) := by rw [wrap_small (by omega) (by omega)]; omega
theorem mod2_nat {k n : Nat} (hk : k < n) (hn : n ≤ 1000000000) : (((k + 2 : Nat) : Int)).tmod (n : Int) = (((k + 2) % n : Nat) : Int) ∧ (0 : Int) ≤ (((k + 2) % n : Nat) : Int) ∧ (((k + 2) % n : Nat) : Int) < n := by
  have h := Nat.mod_lt (k + 2) (show n > 0 by omega)
  refine ⟨?_, by omega, by omega⟩
  rw [Int.tmod_eq_emod_of_nonneg (by omega)]; rfl
theorem c67 (l : List Pt) (hl : l.length ≤ 1000000000) : pc E 67 [.vs (l.map c2)] = some (.bool (simB l)) := by
  have h57 := c57' l
  have lp := loop_leave (σ := Unit) (fun S => (K E A81_L0 S).bind (blockR 0 (some []) [3, 4, 24]))
    (fun k _ => ⟨[(0, .yl 1024000), (1, .fp [.vs (l.map c2)]), (5, .vs (l.map c2)), (6, .int .i64 l.length), (7, .int .i64 k)], [FR67 l, [(0, .yl 1024000)]], [(1024000, .loop (FR67 l) [12, 13] A67_R1a A67_R1b LSt.ready AEx.nrm), (768, .box [.int .i64 l.length]), (512, .box [.bool false]), (256, .box [.vs (l.map c2)])], 1⟩)
    (List.range l.length) (fun _ _ => ()) (bad1 l)
    (fun o => ∃ k : Int, o = some (.ex .ret ⟨[(0, .yl 1024000), (1, .fp [.vs (l.map c2)]), (5, .vs (l.map c2)), (6, .int .i64 l.length), (7, .int .i64 k), (25, .bool true)], [FR67 l, [(0, .yl 1024000)]], [(1024000, .loop (FR67 l) [12, 13] A67_R1a A67_R1b LSt.done AEx.ret), (768, .box [.int .i64 l.length]), (512, .box [.bool false]), (256, .box [.vs (l.map c2)])], 1⟩))
    (fun _ => some (.ex .nrm ⟨[], [FR67 l, [(0, .yl 1024000)]], [(1024000, .loop (FR67 l) [12, 13] A67_R1a A67_R1b LSt.ready AEx.nrm), (768, .box [.int .i64 l.length]), (512, .box [.bool false]), (256, .box [.vs (l.map c2)])], 1⟩))
    (fun x => by
      rw [List.length_range]
      show (K E A81_L0 _).bind _ = _
      rw [A81_L0_eq]; simp +contextual -implicitDefEqProofs (maxSteps := 2000000) only [go_sem, ↓reduceIte, Nat.reduceAdd, Nat.reduceMul, Nat.reduceSub, Nat.reduceEqDiff, Nat.reduceLeDiff, Nat.reduceDiv, Nat.reduceMod, Nat.reduceBEq, Nat.reduceBNe, reduceCtorEq, Int.reduceLE, Int.reduceLT, Int.reduceToNat, Int.reduceNeg, Nat.reduceLT, Int.reduceEq, Int.reduceSub, Int.reduceAdd, Int.reduceMul, Nat.reducePow, Int.reduceBEq, Int.reduceBNe, Int.reduceMod, A81_L0b, Int.lt_irrefl])
    (fun k j' x hk he => by
      rw [List.length_range] at hk
      rw [range_get hk] at he
      cases he
      obtain ⟨_, g1, g2⟩ := eds_get (edn_get hk)
      have g3 := ptn_mod (l := l) (k := k + 2) (by omega)
      have g1 := get_c2 g1
      have g2 := get_c2 g2
      have g3 := get_c2 g3
      obtain ⟨m1, m2, m3, m4, m5⟩ := mod_nat hk hl
      obtain ⟨n1, n4, n5⟩ := mod2_nat hk hl
      have hw := wr_k (k := k) (by omega)
      have hw2 := wr_2 (k := k) (by omega)
      have h1 : (k : Int) < l.length := by omega
      have h0 : (0 : Int) ≤ k := by omega
      have o1 := c55 (edn l k).1.1 (edn l k).1.2 (edn l k).2.1 (edn l k).2.2 (ptn l (k + 2)).1 (ptn l (k + 2)).2
      have q := in67 l hl k hk (edn l k).1.1 (edn l k).1.2 (edn l k).2.1 (edn l k).2.2
      have hb : bad1 l k = (decide (sgn (crW (edn l k).1.1 (edn l k).1.2 (edn l k).2.1 (edn l k).2.2 (ptn l (k + 2)).1 (ptn l (k + 2)).2) = 0) || (List.range l.length).any (fun j => !adjB l.length k j && cutB (edn l k).1.1 (edn l k).1.2 (edn l k).2.1 (edn l k).2.2 (edn l j).1.1 (edn l j).1.2 (edn l j).2.1 (edn l j).2.2)) := rfl
      rw [hb]
      generalize (List.range l.length).any (fun j => !adjB l.length k j && cutB (edn l k).1.1 (edn l k).1.2 (edn l k).2.1 (edn l k).2.2 (edn l j).1.1 (edn l j).1.2 (edn l j).2.1 (edn l j).2.2) = b2 at *
      generalize sgn (crW (edn l k).1.1 (edn l k).1.2 (edn l k).2.1 (edn l k).2.2 (ptn l (k + 2)).1 (ptn l (k + 2)).2) = s at *
      generalize edn l k = e at *
      generalize ptn l (k + 2) = c at *
      obtain ⟨⟨ax, ay⟩, ⟨bx, by_⟩⟩ := e
      obtain ⟨cx, cy⟩ := c
      simp only at g1 g2 g3 o1 q
      by_cases hs : s = 0
      · subst hs
        refine ⟨fun _ => ⟨k, ?_⟩, fun h => by simp at h⟩
        show (K E A81_L0 _).bind _ = _
        rw [A81_L0_eq]
        simp +contextual -implicitDefEqProofs (maxSteps := 2000000) only [go_sem, ↓reduceIte, Nat.reduceAdd, Nat.reduceMul, Nat.reduceSub, Nat.reduceEqDiff, Nat.reduceLeDiff, Nat.reduceDiv, Nat.reduceMod, Nat.reduceBEq, Nat.reduceBNe, reduceCtorEq, Int.reduceLE, Int.reduceLT, Int.reduceToNat, Int.reduceNeg, Nat.reduceLT, Int.reduceEq, Int.reduceSub, Int.reduceAdd, Int.reduceMul, Nat.reducePow, Int.reduceBEq, Int.reduceBNe, Int.reduceMod, FR67, A81_L0b, A67_R1a, A67_R1b, List.length_map, h0, h1, g1, g2, g3, m1, m2, m3, m4, m5, n1, n4, n5, hw, hw2, o1, beq_self_eq_true]
      · have hs' : (s == 0) = false := by simpa using hs
        cases b2 with
        | true =>
          refine ⟨fun _ => ⟨k, ?_⟩, fun h => by simp at h⟩
          obtain ⟨j, q⟩ := q.1 rfl
          simp only [OO67, FF67, FI67, FR67, A67_R0, A67_R0a, A67_R0b, A67_R1a, A67_R1b] at q
          show (K E A81_L0 _).bind _ = _
          rw [A81_L0_eq]
          simp +contextual -implicitDefEqProofs (maxSteps := 2000000) only [go_sem, ↓reduceIte, Nat.reduceAdd, Nat.reduceMul, Nat.reduceSub, Nat.reduceEqDiff, Nat.reduceLeDiff, Nat.reduceDiv, Nat.reduceMod, Nat.reduceBEq, Nat.reduceBNe, reduceCtorEq, Int.reduceLE, Int.reduceLT, Int.reduceToNat, Int.reduceNeg, Nat.reduceLT, Int.reduceEq, Int.reduceSub, Int.reduceAdd, Int.reduceMul, Nat.reducePow, Int.reduceBEq, Int.reduceBNe, Int.reduceMod, FR67, A81_L0b, A67_R0a, A67_R0b, A67_R1a, A67_R1b, List.length_map, h0, h1, g1, g2, g3, m1, m2, m3, m4, m5, n1, n4, n5, hw, hw2, o1, hs, hs', h57, E_81, A81, A67_R0, q]
        | false =>
          refine ⟨fun h => by simp [hs] at h, fun _ => ?_⟩
          have q := q.2 rfl
          simp only [OO67, FF67, FI67, FR67, A67_R0, A67_R0a, A67_R0b, A67_R1a, A67_R1b] at q
          show (K E A81_L0 _).bind _ = (K E A81_L0 _).bind _
          conv => lhs; rw [A81_L0_eq]
          simp +contextual -implicitDefEqProofs (maxSteps := 2000000) only [go_sem, ↓reduceIte, Nat.reduceAdd, Nat.reduceMul, Nat.reduceSub, Nat.reduceEqDiff, Nat.reduceLeDiff, Nat.reduceDiv, Nat.reduceMod, Nat.reduceBEq, Nat.reduceBNe, reduceCtorEq, Int.reduceLE, Int.reduceLT, Int.reduceToNat, Int.reduceNeg, Nat.reduceLT, Int.reduceEq, Int.reduceSub, Int.reduceAdd, Int.reduceMul, Nat.reducePow, Int.reduceBEq, Int.reduceBNe, Int.reduceMod, FR67, A81_L0b, A67_R0a, A67_R0b, A67_R1a, A67_R1b, List.length_map, h0, h1, g1, g2, g3, m1, m2, m3, m4, m5, n1, n4, n5, hw, hw2, o1, hs, hs', h57, E_81, A81, A67_R0, q])
    ()
  simp only [Int.natCast_zero, Int.ofNat_zero] at lp
  unfold simB
  cases ha : (List.range l.length).any (bad1 l) with
  | true =>
    obtain ⟨k, lq⟩ := lp.1 ha
    rw [pc_eq]; simp +contextual -implicitDefEqProofs (maxSteps := 2000000) only [go_sem, ↓reduceIte, Nat.reduceAdd, Nat.reduceMul, Nat.reduceSub, Nat.reduceEqDiff, Nat.reduceLeDiff, Nat.reduceDiv, Nat.reduceMod, Nat.reduceBEq, Nat.reduceBNe, reduceCtorEq, Int.reduceLE, Int.reduceLT, Int.reduceToNat, Int.reduceNeg, Nat.reduceLT, Int.reduceEq, Int.reduceSub, Int.reduceAdd, Int.reduceMul, Nat.reducePow, Int.reduceBEq, Int.reduceBNe, Int.reduceMod, E_67, A67, h57, E_81, A81, A67_R1, List.length_map, lq]
  | false =>
    have lq := lp.2 ha
    rw [pc_eq]; simp +contextual -implicitDefEqProofs (maxSteps := 2000000) only [go_sem, ↓reduceIte, Nat.reduceAdd, Nat.reduceMul, Nat.reduceSub, Nat.reduceEqDiff, Nat.reduceLeDiff, Nat.reduceDiv, Nat.reduceMod, Nat.reduceBEq, Nat.reduceBNe, reduceCtorEq, Int.reduceLE, Int.reduceLT, Int.reduceToNat, Int.reduceNeg, Nat.reduceLT, Int.reduceEq, Int.reduceSub, Int.reduceAdd, Int.reduceMul, Nat.reducePow, Int.reduceBEq, Int.reduceBNe, Int.reduceMod, E_67, A67, h57, E_81, A81, A67_R1, List.length_map, lq]
end Go.Proofs.Yteellikeoiedbaa

namespace Go.Proofs.Yteellikeoiedbaa
set_option maxRecDepth 100000
set_option maxHeartbeats 4000000
set_option linter.unusedSimpArgs false
set_option linter.unusedVariables false
open Go Go.Zv
open Go.Geo
theorem c66 (x y : Int) : pc E 66 [.agg [.int .i64 x, .int .i64 y]] = some (.bool (mayB (x, y))) := by
  have hv : mayB (x, y) = (decide (mxI x y ≤ 439400000) && decide (-439400000 ≤ mnI x y)) := rfl
  rw [hv]
  by_cases h1 : mxI x y ≤ 439400000
  · by_cases h2 : -439400000 ≤ mnI x y <;> rw [pc_eq] <;> simp +contextual -implicitDefEqProofs (maxSteps := 2000000) only [go_sem, ↓reduceIte, Nat.reduceAdd, Nat.reduceMul, Nat.reduceSub, Nat.reduceEqDiff, Nat.reduceLeDiff, Nat.reduceDiv, Nat.reduceMod, Nat.reduceBEq, Nat.reduceBNe, reduceCtorEq, Int.reduceLE, Int.reduceLT, Int.reduceToNat, Int.reduceNeg, Nat.reduceLT, Int.reduceEq, Int.reduceSub, Int.reduceAdd, Int.reduceMul, Nat.reducePow, Int.reduceBEq, Int.reduceBNe, Int.reduceMod, E_66, A66, h1, h2, decide_true, decide_false]
  · rw [pc_eq]; simp +contextual -implicitDefEqProofs (maxSteps := 2000000) only [go_sem, ↓reduceIte, Nat.reduceAdd, Nat.reduceMul, Nat.reduceSub, Nat.reduceEqDiff, Nat.reduceLeDiff, Nat.reduceDiv, Nat.reduceMod, Nat.reduceBEq, Nat.reduceBNe, reduceCtorEq, Int.reduceLE, Int.reduceLT, Int.reduceToNat, Int.reduceNeg, Nat.reduceLT, Int.reduceEq, Int.reduceSub, Int.reduceAdd, Int.reduceMul, Nat.reducePow, Int.reduceBEq, Int.reduceBNe, Int.reduceMod, E_66, A66, h1, decide_true, decide_false]
theorem c65 (x y : Int) : pc E 65 [.agg [.int .i64 x, .int .i64 y]] = some (.bool (!mayB (x, y))) := by
  have h := c66 x y
  rw [pc_eq]; simp +contextual -implicitDefEqProofs (maxSteps := 2000000) only [go_sem, ↓reduceIte, Nat.reduceAdd, Nat.reduceMul, Nat.reduceSub, Nat.reduceEqDiff, Nat.reduceLeDiff, Nat.reduceDiv, Nat.reduceMod, Nat.reduceBEq, Nat.reduceBNe, reduceCtorEq, Int.reduceLE, Int.reduceLT, Int.reduceToNat, Int.reduceNeg, Nat.reduceLT, Int.reduceEq, Int.reduceSub, Int.reduceAdd, Int.reduceMul, Nat.reducePow, Int.reduceBEq, Int.reduceBNe, Int.reduceMod, E_65, A65, h]
theorem c83 (l : List Pt) (hl : l.length ≤ 1000000000) (f : FuncId) (P : Pt → Bool) (hf : ∀ p : Pt, pc E f [.agg [.int .i64 p.1, .int .i64 p.2]] = some (.bool (P p))) :
    ∃ i : Int, pc E 83 [.vs (l.map c2), .fn (.func f) [] []] = some (.int .i64 i) ∧ decide (0 ≤ i) = l.any P := by
  have lp := loop_leave (σ := Unit) (fun S => (K E A83_L0 S).bind (blockR 0 (some []) [4, 5, 16]))
    (fun k _ => ⟨[(0, .vs (l.map c2)), (1, .fn (.func f) [] []), (7, .int .i64 l.length), (8, .int .i64 k)], [], [], 0⟩)
    l (fun _ _ => ()) P (fun o => ∃ k : Nat, o = some (.ex .ret ⟨[(4, .int .i64 k)], [], [], 0⟩))
    (fun _ => some (.ex .nrm ⟨[], [], [], 0⟩))
    (fun x => by
      show (K E A83_L0 _).bind _ = _
      rw [A83_L0_eq]; simp +contextual -implicitDefEqProofs (maxSteps := 2000000) only [go_sem, ↓reduceIte, Nat.reduceAdd, Nat.reduceMul, Nat.reduceSub, Nat.reduceEqDiff, Nat.reduceLeDiff, Nat.reduceDiv, Nat.reduceMod, Nat.reduceBEq, Nat.reduceBNe, reduceCtorEq, Int.reduceLE, Int.reduceLT, Int.reduceToNat, Int.reduceNeg, Nat.reduceLT, Int.reduceEq, Int.reduceSub, Int.reduceAdd, Int.reduceMul, Nat.reducePow, Int.reduceBEq, Int.reduceBNe, Int.reduceMod, A83_L0b, Int.lt_irrefl])
    (fun k p x hk hp => by
      have g1 := get_c2 hp
      have h1 : (k : Int) < l.length := by omega
      have h0 : (0 : Int) ≤ k := by omega
      have hw := wr_k (k := k) (by omega)
      have hq := hf p
      obtain ⟨px, py⟩ := p
      simp only at hq
      refine ⟨fun h => ⟨k, ?_⟩, fun h => ?_⟩
      · rw [h] at hq
        show (K E A83_L0 _).bind _ = _
        rw [A83_L0_eq]
        simp +contextual -implicitDefEqProofs (maxSteps := 2000000) only [go_sem, ↓reduceIte, Nat.reduceAdd, Nat.reduceMul, Nat.reduceSub, Nat.reduceEqDiff, Nat.reduceLeDiff, Nat.reduceDiv, Nat.reduceMod, Nat.reduceBEq, Nat.reduceBNe, reduceCtorEq, Int.reduceLE, Int.reduceLT, Int.reduceToNat, Int.reduceNeg, Nat.reduceLT, Int.reduceEq, Int.reduceSub, Int.reduceAdd, Int.reduceMul, Nat.reducePow, Int.reduceBEq, Int.reduceBNe, Int.reduceMod, A83_L0b, List.length_map, h0, h1, g1, hw, hq]
      · rw [h] at hq
        show (K E A83_L0 _).bind _ = (K E A83_L0 _).bind _
        conv => lhs; rw [A83_L0_eq]
        simp +contextual -implicitDefEqProofs (maxSteps := 2000000) only [go_sem, ↓reduceIte, Nat.reduceAdd, Nat.reduceMul, Nat.reduceSub, Nat.reduceEqDiff, Nat.reduceLeDiff, Nat.reduceDiv, Nat.reduceMod, Nat.reduceBEq, Nat.reduceBNe, reduceCtorEq, Int.reduceLE, Int.reduceLT, Int.reduceToNat, Int.reduceNeg, Nat.reduceLT, Int.reduceEq, Int.reduceSub, Int.reduceAdd, Int.reduceMul, Nat.reducePow, Int.reduceBEq, Int.reduceBNe, Int.reduceMod, A83_L0b, List.length_map, h0, h1, g1, hw, hq])
    ()
  simp only [Int.natCast_zero, Int.ofNat_zero] at lp
  cases ha : l.any P with
  | true =>
    obtain ⟨k, lq⟩ := lp.1 ha
    refine ⟨k, ?_, by simp⟩
    rw [pc_eq]; simp +contextual -implicitDefEqProofs (maxSteps := 2000000) only [go_sem, ↓reduceIte, Nat.reduceAdd, Nat.reduceMul, Nat.reduceSub, Nat.reduceEqDiff, Nat.reduceLeDiff, Nat.reduceDiv, Nat.reduceMod, Nat.reduceBEq, Nat.reduceBNe, reduceCtorEq, Int.reduceLE, Int.reduceLT, Int.reduceToNat, Int.reduceNeg, Nat.reduceLT, Int.reduceEq, Int.reduceSub, Int.reduceAdd, Int.reduceMul, Nat.reducePow, Int.reduceBEq, Int.reduceBNe, Int.reduceMod, E_83, A83, List.length_map, lq]
  | false =>
    have lq := lp.2 ha
    refine ⟨-1, ?_, by simp⟩
    rw [pc_eq]; simp +contextual -implicitDefEqProofs (maxSteps := 2000000) only [go_sem, ↓reduceIte, Nat.reduceAdd, Nat.reduceMul, Nat.reduceSub, Nat.reduceEqDiff, Nat.reduceLeDiff, Nat.reduceDiv, Nat.reduceMod, Nat.reduceBEq, Nat.reduceBNe, reduceCtorEq, Int.reduceLE, Int.reduceLT, Int.reduceToNat, Int.reduceNeg, Nat.reduceLT, Int.reduceEq, Int.reduceSub, Int.reduceAdd, Int.reduceMul, Nat.reducePow, Int.reduceBEq, Int.reduceBNe, Int.reduceMod, E_83, A83, List.length_map, lq]
theorem c64 (l : List Pt) (hl : l.length ≤ 1000000000) (f : FuncId) (P : Pt → Bool) (hf : ∀ p : Pt, pc E f [.agg [.int .i64 p.1, .int .i64 p.2]] = some (.bool (P p))) :
    pc E 64 [.vs (l.map c2), .fn (.func f) [] []] = some (.bool (l.any P)) := by
  obtain ⟨i, h, hi⟩ := c83 l hl f P hf
  rw [← hi]
  rw [pc_eq]; simp +contextual -implicitDefEqProofs (maxSteps := 2000000) only [go_sem, ↓reduceIte, Nat.reduceAdd, Nat.reduceMul, Nat.reduceSub, Nat.reduceEqDiff, Nat.reduceLeDiff, Nat.reduceDiv, Nat.reduceMod, Nat.reduceBEq, Nat.reduceBNe, reduceCtorEq, Int.reduceLE, Int.reduceLT, Int.reduceToNat, Int.reduceNeg, Nat.reduceLT, Int.reduceEq, Int.reduceSub, Int.reduceAdd, Int.reduceMul, Nat.reducePow, Int.reduceBEq, Int.reduceBNe, Int.reduceMod, E_64, A64, h]
theorem c36 (l : List Pt) (hl : l.length ≤ 1000000000) : pc E 36 [.vs (l.map c2)] = some (.bool (valB l)) := by
  have h1 := c64 l hl 65 (fun p => !mayB p) (fun p => c65 p.1 p.2)
  have h2 := c67 l hl
  have h3 := c37 l hl
  have e : (l.any fun p => !mayB p) = !l.all mayB := by rw [List.all_eq_not_any_not]; simp
  rw [e] at h1
  have hv : valB l = (decide (3 ≤ l.length) && (decide (l.length ≤ 12) && (l.all mayB && (simB l && decide (0 < areaW l))))) := rfl
  rw [hv]
  by_cases k1 : (l.length : Int) < 3
  · have k1' : ¬ 3 ≤ l.length := by omega
    rw [pc_eq]; simp +contextual -implicitDefEqProofs (maxSteps := 2000000) only [go_sem, ↓reduceIte, Nat.reduceAdd, Nat.reduceMul, Nat.reduceSub, Nat.reduceEqDiff, Nat.reduceLeDiff, Nat.reduceDiv, Nat.reduceMod, Nat.reduceBEq, Nat.reduceBNe, reduceCtorEq, Int.reduceLE, Int.reduceLT, Int.reduceToNat, Int.reduceNeg, Nat.reduceLT, Int.reduceEq, Int.reduceSub, Int.reduceAdd, Int.reduceMul, Nat.reducePow, Int.reduceBEq, Int.reduceBNe, Int.reduceMod, E_36, A36, List.length_map, k1, k1', decide_true, decide_false]
  · have k1' : 3 ≤ l.length := by omega
    by_cases k2 : (12 : Int) < l.length
    · have k2' : ¬ l.length ≤ 12 := by omega
      rw [pc_eq]; simp +contextual -implicitDefEqProofs (maxSteps := 2000000) only [go_sem, ↓reduceIte, Nat.reduceAdd, Nat.reduceMul, Nat.reduceSub, Nat.reduceEqDiff, Nat.reduceLeDiff, Nat.reduceDiv, Nat.reduceMod, Nat.reduceBEq, Nat.reduceBNe, reduceCtorEq, Int.reduceLE, Int.reduceLT, Int.reduceToNat, Int.reduceNeg, Nat.reduceLT, Int.reduceEq, Int.reduceSub, Int.reduceAdd, Int.reduceMul, Nat.reducePow, Int.reduceBEq, Int.reduceBNe, Int.reduceMod, E_36, A36, List.length_map, k1, k1', k2, k2', decide_true, decide_false]
    · have k2' : l.length ≤ 12 := by omega
      cases ha : l.all mayB <;> rw [ha] at h1 <;> simp only [Bool.not_true, Bool.not_false] at h1
      · rw [pc_eq]; simp +contextual -implicitDefEqProofs (maxSteps := 2000000) only [go_sem, ↓reduceIte, Nat.reduceAdd, Nat.reduceMul, Nat.reduceSub, Nat.reduceEqDiff, Nat.reduceLeDiff, Nat.reduceDiv, Nat.reduceMod, Nat.reduceBEq, Nat.reduceBNe, reduceCtorEq, Int.reduceLE, Int.reduceLT, Int.reduceToNat, Int.reduceNeg, Nat.reduceLT, Int.reduceEq, Int.reduceSub, Int.reduceAdd, Int.reduceMul, Nat.reducePow, Int.reduceBEq, Int.reduceBNe, Int.reduceMod, E_36, A36, List.length_map, k1, k1', k2, k2', h1, decide_true, decide_false]
      · cases hs : simB l <;> rw [hs] at h2
        · rw [pc_eq]; simp +contextual -implicitDefEqProofs (maxSteps := 2000000) only [go_sem, ↓reduceIte, Nat.reduceAdd, Nat.reduceMul, Nat.reduceSub, Nat.reduceEqDiff, Nat.reduceLeDiff, Nat.reduceDiv, Nat.reduceMod, Nat.reduceBEq, Nat.reduceBNe, reduceCtorEq, Int.reduceLE, Int.reduceLT, Int.reduceToNat, Int.reduceNeg, Nat.reduceLT, Int.reduceEq, Int.reduceSub, Int.reduceAdd, Int.reduceMul, Nat.reducePow, Int.reduceBEq, Int.reduceBNe, Int.reduceMod, E_36, A36, List.length_map, k1, k1', k2, k2', h1, h2, decide_true, decide_false]
        · by_cases k3 : 0 < areaW l
          · rw [pc_eq]; simp +contextual -implicitDefEqProofs (maxSteps := 2000000) only [go_sem, ↓reduceIte, Nat.reduceAdd, Nat.reduceMul, Nat.reduceSub, Nat.reduceEqDiff, Nat.reduceLeDiff, Nat.reduceDiv, Nat.reduceMod, Nat.reduceBEq, Nat.reduceBNe, reduceCtorEq, Int.reduceLE, Int.reduceLT, Int.reduceToNat, Int.reduceNeg, Nat.reduceLT, Int.reduceEq, Int.reduceSub, Int.reduceAdd, Int.reduceMul, Nat.reducePow, Int.reduceBEq, Int.reduceBNe, Int.reduceMod, E_36, A36, List.length_map, k1, k1', k2, k2', h1, h2, h3, k3, decide_true, decide_false]
          · rw [pc_eq]; simp +contextual -implicitDefEqProofs (maxSteps := 2000000) only [go_sem, ↓reduceIte, Nat.reduceAdd, Nat.reduceMul, Nat.reduceSub, Nat.reduceEqDiff, Nat.reduceLeDiff, Nat.reduceDiv, Nat.reduceMod, Nat.reduceBEq, Nat.reduceBNe, reduceCtorEq, Int.reduceLE, Int.reduceLT, Int.reduceToNat, Int.reduceNeg, Nat.reduceLT, Int.reduceEq, Int.reduceSub, Int.reduceAdd, Int.reduceMul, Nat.reducePow, Int.reduceBEq, Int.reduceBNe, Int.reduceMod, E_36, A36, List.length_map, k1, k1', k2, k2', h1, h2, h3, k3, decide_true, decide_false]
end Go.Proofs.Yteellikeoiedbaa

namespace Go.Proofs.Yteellikeoiedbaa
set_option maxRecDepth 100000
set_option maxHeartbeats 4000000
set_option linter.unusedSimpArgs false
set_option linter.unusedVariables false
open Go Go.Zv
open Go.Geo
theorem c70 (a b : List Pt) (hl : a.length ≤ 1000000000) : pc E 70 [.vs (a.map c2), .vs (b.map c2)] = some (.bool (decide (a = b))) := by
  by_cases h : a.length = b.length
  · have lp := loop_eq (fun S => (K E A70_L0 S).bind (blockR 0 (some []) [4, 5])) (fun k => ⟨[(0, .vs (a.map c2)), (1, .vs (b.map c2)), (12, .int .i64 a.length), (13, .int .i64 k)], [], [], 0⟩) a b h (some (.ex .ret ⟨[(4, .bool false)], [], [], 0⟩)) (some (.ex .nrm ⟨[], [], [], 0⟩))
      (by
        show (K E A70_L0 _).bind _ = _
        rw [A70_L0_eq]; simp +contextual -implicitDefEqProofs (maxSteps := 2000000) only [go_sem, ↓reduceIte, Nat.reduceAdd, Nat.reduceMul, Nat.reduceSub, Nat.reduceEqDiff, Nat.reduceLeDiff, Nat.reduceDiv, Nat.reduceMod, Nat.reduceBEq, Nat.reduceBNe, reduceCtorEq, Int.reduceLE, Int.reduceLT, Int.reduceToNat, Int.reduceNeg, Nat.reduceLT, Int.reduceEq, Int.reduceSub, Int.reduceAdd, Int.reduceMul, Nat.reducePow, Int.reduceBEq, Int.reduceBNe, Int.reduceMod, A70_L0b, Int.lt_irrefl, List.length_map])
      (fun k p q hk hp hq => by
        show (K E A70_L0 _).bind _ = if _ then (K E A70_L0 _).bind _ else _
        have h1 : (k : Int) < a.length := by omega
        have h2 : (k : Int) < b.length := by omega
        have h0 : (0 : Int) ≤ k := by omega
        have hw := wr_k (k := k) (by omega)
        have g1 := get_c2 hp
        have g2 := get_c2 hq
        obtain ⟨px, py⟩ := p
        obtain ⟨qx, qy⟩ := q
        conv => lhs; rw [A70_L0_eq]
        by_cases e : px = qx
        · subst e
          by_cases e2 : py = qy
          · subst e2
            simp +contextual -implicitDefEqProofs (maxSteps := 2000000) only [go_sem, ↓reduceIte, Nat.reduceAdd, Nat.reduceMul, Nat.reduceSub, Nat.reduceEqDiff, Nat.reduceLeDiff, Nat.reduceDiv, Nat.reduceMod, Nat.reduceBEq, Nat.reduceBNe, reduceCtorEq, Int.reduceLE, Int.reduceLT, Int.reduceToNat, Int.reduceNeg, Nat.reduceLT, Int.reduceEq, Int.reduceSub, Int.reduceAdd, Int.reduceMul, Nat.reducePow, Int.reduceBEq, Int.reduceBNe, Int.reduceMod, A70_L0b, List.length_map, h0, h1, h2, hw, g1, g2, bne_self_eq_false, beq_self_eq_true]
          · have e' : (py == qy) = false := by simpa using e2
            simp +contextual -implicitDefEqProofs (maxSteps := 2000000) only [go_sem, ↓reduceIte, Nat.reduceAdd, Nat.reduceMul, Nat.reduceSub, Nat.reduceEqDiff, Nat.reduceLeDiff, Nat.reduceDiv, Nat.reduceMod, Nat.reduceBEq, Nat.reduceBNe, reduceCtorEq, Int.reduceLE, Int.reduceLT, Int.reduceToNat, Int.reduceNeg, Nat.reduceLT, Int.reduceEq, Int.reduceSub, Int.reduceAdd, Int.reduceMul, Nat.reducePow, Int.reduceBEq, Int.reduceBNe, Int.reduceMod, A70_L0b, List.length_map, h0, h1, h2, hw, g1, g2, bne_self_eq_false, beq_self_eq_true, e', Prod.mk.injEq, e2]
        · have e' : (px == qx) = false := by simpa using e
          simp +contextual -implicitDefEqProofs (maxSteps := 2000000) only [go_sem, ↓reduceIte, Nat.reduceAdd, Nat.reduceMul, Nat.reduceSub, Nat.reduceEqDiff, Nat.reduceLeDiff, Nat.reduceDiv, Nat.reduceMod, Nat.reduceBEq, Nat.reduceBNe, reduceCtorEq, Int.reduceLE, Int.reduceLT, Int.reduceToNat, Int.reduceNeg, Nat.reduceLT, Int.reduceEq, Int.reduceSub, Int.reduceAdd, Int.reduceMul, Nat.reducePow, Int.reduceBEq, Int.reduceBNe, Int.reduceMod, A70_L0b, List.length_map, h0, h1, h2, hw, g1, g2, e', Prod.mk.injEq, e])
    simp only [Int.natCast_zero, Int.ofNat_zero] at lp
    have h' : ((a.length : Int) != b.length) = false := by simp [h]
    by_cases e : a = b
    · subst e
      rw [if_pos rfl] at lp
      rw [pc_eq]; simp +contextual -implicitDefEqProofs (maxSteps := 2000000) only [go_sem, ↓reduceIte, Nat.reduceAdd, Nat.reduceMul, Nat.reduceSub, Nat.reduceEqDiff, Nat.reduceLeDiff, Nat.reduceDiv, Nat.reduceMod, Nat.reduceBEq, Nat.reduceBNe, reduceCtorEq, Int.reduceLE, Int.reduceLT, Int.reduceToNat, Int.reduceNeg, Nat.reduceLT, Int.reduceEq, Int.reduceSub, Int.reduceAdd, Int.reduceMul, Nat.reducePow, Int.reduceBEq, Int.reduceBNe, Int.reduceMod, E_70, A70, List.length_map, h', lp, bne_self_eq_false]
    · rw [if_neg e] at lp
      rw [pc_eq]; simp +contextual -implicitDefEqProofs (maxSteps := 2000000) only [go_sem, ↓reduceIte, Nat.reduceAdd, Nat.reduceMul, Nat.reduceSub, Nat.reduceEqDiff, Nat.reduceLeDiff, Nat.reduceDiv, Nat.reduceMod, Nat.reduceBEq, Nat.reduceBNe, reduceCtorEq, Int.reduceLE, Int.reduceLT, Int.reduceToNat, Int.reduceNeg, Nat.reduceLT, Int.reduceEq, Int.reduceSub, Int.reduceAdd, Int.reduceMul, Nat.reducePow, Int.reduceBEq, Int.reduceBNe, Int.reduceMod, E_70, A70, List.length_map, h', lp, e]
  · have h' : ((a.length : Int) != b.length) = true := by simp; omega
    have h2 : ¬ ((a.length : Int) = b.length) := by omega
    have e : ¬ a = b := fun e => h (by rw [e])
    rw [pc_eq]; simp +contextual -implicitDefEqProofs (maxSteps := 2000000) only [go_sem, ↓reduceIte, Nat.reduceAdd, Nat.reduceMul, Nat.reduceSub, Nat.reduceEqDiff, Nat.reduceLeDiff, Nat.reduceDiv, Nat.reduceMod, Nat.reduceBEq, Nat.reduceBNe, reduceCtorEq, Int.reduceLE, Int.reduceLT, Int.reduceToNat, Int.reduceNeg, Nat.reduceLT, Int.reduceEq, Int.reduceSub, Int.reduceAdd, Int.reduceMul, Nat.reducePow, Int.reduceBEq, Int.reduceBNe, Int.reduceMod, E_70, A70, List.length_map, h', h2, e]
theorem c42 (a b : List Pt) (hl : a.length ≤ 1000000000) : pc E 42 [.vs (a.map c2), .vs (b.map c2)] = some (.bool (decide (a = b))) := by
  have h := c70 a b hl
  rw [pc_eq]; simp +contextual -implicitDefEqProofs (maxSteps := 2000000) only [go_sem, ↓reduceIte, Nat.reduceAdd, Nat.reduceMul, Nat.reduceSub, Nat.reduceEqDiff, Nat.reduceLeDiff, Nat.reduceDiv, Nat.reduceMod, Nat.reduceBEq, Nat.reduceBNe, reduceCtorEq, Int.reduceLE, Int.reduceLT, Int.reduceToNat, Int.reduceNeg, Nat.reduceLT, Int.reduceEq, Int.reduceSub, Int.reduceAdd, Int.reduceMul, Nat.reducePow, Int.reduceBEq, Int.reduceBNe, Int.reduceMod, E_42, A42, h]
end Go.Proofs.Yteellikeoiedbaa

namespace Go.Proofs.Yteellikeoiedbaa
set_option maxRecDepth 100000
set_option maxHeartbeats 4000000
set_option linter.unusedSimpArgs false
set_option linter.unusedVariables false
open Go Go.Zv
open Go.Geo
def trP (p q : Pt) : Pt := (w64 (q.1 + p.1), w64 (q.2 + p.2))
abbrev FR40 (l : List Pt) : List Env := [[(6, .fn (Fn.func 69) [] [.ptr 768 0]), (5, .vs (l.map c2)), (0, .vs (l.map c2)), (3, .ptr 768 0)]]
theorem c40 (l : List Pt) (hl : l.length ≤ 1000000000) (px py : Int) : pc E 40 [.vs (l.map c2), .agg [.int .i64 px, .int .i64 py]] = some (.vs ((l.map (trP (px, py))).map c2)) := by
  have lp := loop_idx (σ := Unit) (fun S => (K E A68_L0 S).bind (blockR 0 (some [5]) [7, 17, 18]))
    (fun k _ => ⟨[(1, .fn (Fn.func 69) [] [.ptr 768 0]), (5, .bs 1049856 0 ((l.take k).map (fun q => c2 (trP (px, py) q))).length), (8, .vs (l.map c2)), (9, .int .i64 l.length), (10, .int .i64 k)], FR40 l, [(1049856, .row 2 ((l.take k).map (fun q => c2 (trP (px, py) q)))), (1049600, .row 2 []), (1024, .row 2 []), (768, .box [.int .i64 px, .int .i64 py])], 1⟩)
    l.length (fun _ _ => True)
    (fun _ _ => some (.ex .nrm ⟨[(5, .bs 1049856 0 (l.map (fun q => c2 (trP (px, py) q))).length)], FR40 l, [(1049856, .row 2 (l.map (fun q => c2 (trP (px, py) q)))), (1049600, .row 2 []), (1024, .row 2 []), (768, .box [.int .i64 px, .int .i64 py])], 1⟩))
    (fun _ _ => by
      show (K E A68_L0 _).bind _ = _
      rw [List.take_length, A68_L0_eq]; simp +contextual -implicitDefEqProofs (maxSteps := 2000000) only [go_sem, ↓reduceIte, Nat.reduceAdd, Nat.reduceMul, Nat.reduceSub, Nat.reduceEqDiff, Nat.reduceLeDiff, Nat.reduceDiv, Nat.reduceMod, Nat.reduceBEq, Nat.reduceBNe, reduceCtorEq, Int.reduceLE, Int.reduceLT, Int.reduceToNat, Int.reduceNeg, Nat.reduceLT, Int.reduceEq, Int.reduceSub, Int.reduceAdd, Int.reduceMul, Nat.reducePow, Int.reduceBEq, Int.reduceBNe, Int.reduceMod, A68_L0b, Int.lt_irrefl])
    (fun k x hk _ => .inr ⟨(), trivial, by
      have hget : l[k]? = some (l[k]'hk) := List.getElem?_eq_getElem _
      have ht : l.take (k + 1) = l.take k ++ [l[k]'hk] := by rw [List.take_add_one, hget]; rfl
      rw [ht, List.map_append]
      generalize l[k]'hk = p at *
      have g1 := get_c2 hget
      have h1 : (k : Int) < l.length := by omega
      have h0 : (0 : Int) ≤ k := by omega
      have hw := wr_k (k := k) (by omega)
      have o1 := c41 p.1 p.2 px py
      have hr : ((l.take k).map (fun q => c2 (trP (px, py) q))).length ≤ 999999999 := by rw [List.length_map, List.length_take]; omega
      generalize (l.take k).map (fun q => c2 (trP (px, py) q)) = rows at *
      obtain ⟨x, y⟩ := p
      simp only at o1
      show (K E A68_L0 _).bind _ = (K E A68_L0 _).bind _
      conv => lhs; rw [A68_L0_eq]
      simp +contextual -implicitDefEqProofs (maxSteps := 2000000) only [go_sem, ↓reduceIte, Nat.reduceAdd, Nat.reduceMul, Nat.reduceSub, Nat.reduceEqDiff, Nat.reduceLeDiff, Nat.reduceDiv, Nat.reduceMod, Nat.reduceBEq, Nat.reduceBNe, reduceCtorEq, Int.reduceLE, Int.reduceLT, Int.reduceToNat, Int.reduceNeg, Nat.reduceLT, Int.reduceEq, Int.reduceSub, Int.reduceAdd, Int.reduceMul, Nat.reducePow, Int.reduceBEq, Int.reduceBNe, Int.reduceMod, FR40, A68_L0b, List.length_map, h0, h1, g1, hw, hr, o1, E_69, A69, trP, c2, List.map_cons, List.map_nil, List.length_append], rfl⟩) 0 () (by omega) trivial
  simp only [Int.natCast_zero, Int.ofNat_zero, List.take_zero, List.map_nil, List.length_nil] at lp
  have ht : List.take l.length (List.map (fun q => c2 (trP (px, py) q)) l) = List.map (fun q => c2 (trP (px, py) q)) l := List.take_of_length_le (by simp)
  rw [pc_eq]; simp +contextual -implicitDefEqProofs (maxSteps := 2000000) only [go_sem, ↓reduceIte, Nat.reduceAdd, Nat.reduceMul, Nat.reduceSub, Nat.reduceEqDiff, Nat.reduceLeDiff, Nat.reduceDiv, Nat.reduceMod, Nat.reduceBEq, Nat.reduceBNe, reduceCtorEq, Int.reduceLE, Int.reduceLT, Int.reduceToNat, Int.reduceNeg, Nat.reduceLT, Int.reduceEq, Int.reduceSub, Int.reduceAdd, Int.reduceMul, Nat.reducePow, Int.reduceBEq, Int.reduceBNe, Int.reduceMod, ht, E_40, A40, E_68, A68, List.length_map, lp, List.map_map, Function.comp_def]
end Go.Proofs.Yteellikeoiedbaa

namespace Go.Proofs.Yteellikeoiedbaa
set_option maxRecDepth 100000
set_option maxHeartbeats 4000000
set_option linter.unusedSimpArgs false
set_option linter.unusedVariables false
open Go Go.Zv
open Go.Geo
theorem mayB_iff' {p : Pt} : mayB p = true ↔ (-439400000 ≤ p.1 ∧ p.1 ≤ 439400000) ∧ (-439400000 ≤ p.2 ∧ p.2 ≤ 439400000) := by
  unfold mayB mxI mnI
  simp only [Bool.and_eq_true, decide_eq_true_eq]
  split <;> split <;> omega
theorem c33 (x y : Int) : pc E 33 [.agg [.int .i64 x, .int .i64 y]] = some (.bool (mayB (x, y))) := by
  have hw : IntKind.i64.wrap (-439400000) = -439400000 := by decide
  cases hb : mayB (x, y) with
  | true =>
    rw [mayB_iff'] at hb
    obtain ⟨⟨h1, h2⟩, h3, h4⟩ := hb
    simp only at h1 h2 h3 h4
    rw [pc_eq]; simp +contextual -implicitDefEqProofs (maxSteps := 2000000) only [go_sem, ↓reduceIte, Nat.reduceAdd, Nat.reduceMul, Nat.reduceSub, Nat.reduceEqDiff, Nat.reduceLeDiff, Nat.reduceDiv, Nat.reduceMod, Nat.reduceBEq, Nat.reduceBNe, reduceCtorEq, Int.reduceLE, Int.reduceLT, Int.reduceToNat, Int.reduceNeg, Nat.reduceLT, Int.reduceEq, Int.reduceSub, Int.reduceAdd, Int.reduceMul, Nat.reducePow, Int.reduceBEq, Int.reduceBNe, Int.reduceMod, E_33, A33, h1, h2, h3, h4, hw]
  | false =>
    have hn : ¬ ((-439400000 ≤ x ∧ x ≤ 439400000) ∧ (-439400000 ≤ y ∧ y ≤ 439400000)) := fun h => by rw [mayB_iff'.2 h] at hb; cases hb
    by_cases h1 : -439400000 ≤ x
    · by_cases h2 : x ≤ 439400000
      · by_cases h3 : -439400000 ≤ y
        · have h4 : ¬ y ≤ 439400000 := by omega
          rw [pc_eq]; simp +contextual -implicitDefEqProofs (maxSteps := 2000000) only [go_sem, ↓reduceIte, Nat.reduceAdd, Nat.reduceMul, Nat.reduceSub, Nat.reduceEqDiff, Nat.reduceLeDiff, Nat.reduceDiv, Nat.reduceMod, Nat.reduceBEq, Nat.reduceBNe, reduceCtorEq, Int.reduceLE, Int.reduceLT, Int.reduceToNat, Int.reduceNeg, Nat.reduceLT, Int.reduceEq, Int.reduceSub, Int.reduceAdd, Int.reduceMul, Nat.reducePow, Int.reduceBEq, Int.reduceBNe, Int.reduceMod, E_33, A33, h1, h2, h3, h4, hw, decide_false]
        · rw [pc_eq]; simp +contextual -implicitDefEqProofs (maxSteps := 2000000) only [go_sem, ↓reduceIte, Nat.reduceAdd, Nat.reduceMul, Nat.reduceSub, Nat.reduceEqDiff, Nat.reduceLeDiff, Nat.reduceDiv, Nat.reduceMod, Nat.reduceBEq, Nat.reduceBNe, reduceCtorEq, Int.reduceLE, Int.reduceLT, Int.reduceToNat, Int.reduceNeg, Nat.reduceLT, Int.reduceEq, Int.reduceSub, Int.reduceAdd, Int.reduceMul, Nat.reducePow, Int.reduceBEq, Int.reduceBNe, Int.reduceMod, E_33, A33, h1, h2, h3, hw, decide_false]
      · rw [pc_eq]; simp +contextual -implicitDefEqProofs (maxSteps := 2000000) only [go_sem, ↓reduceIte, Nat.reduceAdd, Nat.reduceMul, Nat.reduceSub, Nat.reduceEqDiff, Nat.reduceLeDiff, Nat.reduceDiv, Nat.reduceMod, Nat.reduceBEq, Nat.reduceBNe, reduceCtorEq, Int.reduceLE, Int.reduceLT, Int.reduceToNat, Int.reduceNeg, Nat.reduceLT, Int.reduceEq, Int.reduceSub, Int.reduceAdd, Int.reduceMul, Nat.reducePow, Int.reduceBEq, Int.reduceBNe, Int.reduceMod, E_33, A33, h1, h2, hw, decide_false]
    · rw [pc_eq]; simp +contextual -implicitDefEqProofs (maxSteps := 2000000) only [go_sem, ↓reduceIte, Nat.reduceAdd, Nat.reduceMul, Nat.reduceSub, Nat.reduceEqDiff, Nat.reduceLeDiff, Nat.reduceDiv, Nat.reduceMod, Nat.reduceBEq, Nat.reduceBNe, reduceCtorEq, Int.reduceLE, Int.reduceLT, Int.reduceToNat, Int.reduceNeg, Nat.reduceLT, Int.reduceEq, Int.reduceSub, Int.reduceAdd, Int.reduceMul, Nat.reducePow, Int.reduceBEq, Int.reduceBNe, Int.reduceMod, E_33, A33, h1, hw, decide_false]
end Go.Proofs.Yteellikeoiedbaa

namespace Go.Proofs.Yteellikeoiedbaa
set_option maxRecDepth 100000
set_option maxHeartbeats 4000000
set_option linter.unusedSimpArgs false
set_option linter.unusedVariables false
open Go Go.Zv
open Go.Geo
def fitB (l : List Pt) : Bool := decide (l.length ≤ 12) && l.all mayB
theorem c32 (l : List Pt) : pc E 32 [.vs (l.map c2)] = some (.bool (fitB l)) := by
  have lp := loop_leave (σ := Unit) (fun S => (K E A32_L0 S).bind (blockR 0 (some [0]) [2, 3, 18]))
    (fun k _ => ⟨[(0, .vs (l.map c2)), (3, .int .i64 k)], [], [], 0⟩)
    (l.take 20) (fun _ _ => ()) (fun p => !mayB p)
    (fun o => o = some (.ex .ret ⟨[(2, .bool false)], [], [], 0⟩))
    (fun _ => some (.ex .nrm ⟨[(0, .vs (l.map c2))], [], [], 0⟩))
    (fun x => by
      show (K E A32_L0 _).bind _ = _
      rw [A32_L0_eq]
      by_cases h : l.length ≤ 20
      · have e : (l.take 20).length = l.length := by rw [List.length_take]; omega
        rw [e]
        simp +contextual -implicitDefEqProofs (maxSteps := 2000000) only [go_sem, ↓reduceIte, Nat.reduceAdd, Nat.reduceMul, Nat.reduceSub, Nat.reduceEqDiff, Nat.reduceLeDiff, Nat.reduceDiv, Nat.reduceMod, Nat.reduceBEq, Nat.reduceBNe, reduceCtorEq, Int.reduceLE, Int.reduceLT, Int.reduceToNat, Int.reduceNeg, Nat.reduceLT, Int.reduceEq, Int.reduceSub, Int.reduceAdd, Int.reduceMul, Nat.reducePow, Int.reduceBEq, Int.reduceBNe, Int.reduceMod, A32_L0b, Int.lt_irrefl, List.length_map]
      · have e : (l.take 20).length = 20 := by rw [List.length_take]; omega
        have h1 : ((20 : Nat) : Int) < l.length := by omega
        rw [e]
        simp only [Int.cast_ofNat_Int] at h1 ⊢
        simp +contextual -implicitDefEqProofs (maxSteps := 2000000) only [go_sem, ↓reduceIte, Nat.reduceAdd, Nat.reduceMul, Nat.reduceSub, Nat.reduceEqDiff, Nat.reduceLeDiff, Nat.reduceDiv, Nat.reduceMod, Nat.reduceBEq, Nat.reduceBNe, reduceCtorEq, Int.reduceLE, Int.reduceLT, Int.reduceToNat, Int.reduceNeg, Nat.reduceLT, Int.reduceEq, Int.reduceSub, Int.reduceAdd, Int.reduceMul, Nat.reducePow, Int.reduceBEq, Int.reduceBNe, Int.reduceMod, A32_L0b, h1, List.length_map, Int.lt_irrefl])
    (fun k p x hk hp => by
      rw [List.length_take] at hk
      have g0 : l[k]? = some p := by
        rw [List.getElem?_take] at hp
        split at hp
        · exact hp
        · cases hp
      have g1 := get_c2 g0
      have h1 : (k : Int) < l.length := by omega
      have h2 : (k : Int) < 20 := by omega
      have h0 : (0 : Int) ≤ k := by omega
      have hw := wr_k (k := k) (by omega)
      obtain ⟨px, py⟩ := p
      have o1 := c33 px py
      refine ⟨fun h => ?_, fun h => ?_⟩
      · simp only [Bool.not_eq_true'] at h
        rw [h] at o1
        show (K E A32_L0 _).bind _ = _
        rw [A32_L0_eq]
        simp +contextual -implicitDefEqProofs (maxSteps := 2000000) only [go_sem, ↓reduceIte, Nat.reduceAdd, Nat.reduceMul, Nat.reduceSub, Nat.reduceEqDiff, Nat.reduceLeDiff, Nat.reduceDiv, Nat.reduceMod, Nat.reduceBEq, Nat.reduceBNe, reduceCtorEq, Int.reduceLE, Int.reduceLT, Int.reduceToNat, Int.reduceNeg, Nat.reduceLT, Int.reduceEq, Int.reduceSub, Int.reduceAdd, Int.reduceMul, Nat.reducePow, Int.reduceBEq, Int.reduceBNe, Int.reduceMod, A32_L0b, List.length_map, h0, h1, h2, g1, hw, o1]
      · simp only [Bool.not_eq_false'] at h
        rw [h] at o1
        show (K E A32_L0 _).bind _ = (K E A32_L0 _).bind _
        conv => lhs; rw [A32_L0_eq]
        simp +contextual -implicitDefEqProofs (maxSteps := 2000000) only [go_sem, ↓reduceIte, Nat.reduceAdd, Nat.reduceMul, Nat.reduceSub, Nat.reduceEqDiff, Nat.reduceLeDiff, Nat.reduceDiv, Nat.reduceMod, Nat.reduceBEq, Nat.reduceBNe, reduceCtorEq, Int.reduceLE, Int.reduceLT, Int.reduceToNat, Int.reduceNeg, Nat.reduceLT, Int.reduceEq, Int.reduceSub, Int.reduceAdd, Int.reduceMul, Nat.reducePow, Int.reduceBEq, Int.reduceBNe, Int.reduceMod, A32_L0b, List.length_map, h0, h1, h2, g1, hw, o1])
    ()
  simp only [Int.natCast_zero, Int.ofNat_zero] at lp
  have hv : fitB l = (decide (l.length ≤ 12) && l.all mayB) := rfl
  rw [hv]
  cases ha : (l.take 20).any (fun p => !mayB p) with
  | true =>
    have lq := lp.1 ha
    have hf : l.all mayB = false := by
      rw [List.any_eq_true] at ha
      obtain ⟨p, hp, hq⟩ := ha
      rw [List.all_eq_false]
      exact ⟨p, List.mem_of_mem_take hp, by simpa using hq⟩
    rw [hf, Bool.and_false]
    rw [pc_eq]; simp +contextual -implicitDefEqProofs (maxSteps := 2000000) only [go_sem, ↓reduceIte, Nat.reduceAdd, Nat.reduceMul, Nat.reduceSub, Nat.reduceEqDiff, Nat.reduceLeDiff, Nat.reduceDiv, Nat.reduceMod, Nat.reduceBEq, Nat.reduceBNe, reduceCtorEq, Int.reduceLE, Int.reduceLT, Int.reduceToNat, Int.reduceNeg, Nat.reduceLT, Int.reduceEq, Int.reduceSub, Int.reduceAdd, Int.reduceMul, Nat.reducePow, Int.reduceBEq, Int.reduceBNe, Int.reduceMod, E_32, A32, List.length_map, lq]
  | false =>
    have lq := lp.2 ha
    by_cases h : l.length ≤ 12
    · have ht : l.take 20 = l := List.take_of_length_le (by omega)
      rw [ht] at ha
      have hf : l.all mayB = true := by
        rw [List.all_eq_true]
        intro p hp
        have := List.any_eq_false.1 ha p hp
        simpa using this
      have h1 : (l.length : Int) ≤ 12 := by omega
      rw [hf]
      rw [pc_eq]; simp +contextual -implicitDefEqProofs (maxSteps := 2000000) only [go_sem, ↓reduceIte, Nat.reduceAdd, Nat.reduceMul, Nat.reduceSub, Nat.reduceEqDiff, Nat.reduceLeDiff, Nat.reduceDiv, Nat.reduceMod, Nat.reduceBEq, Nat.reduceBNe, reduceCtorEq, Int.reduceLE, Int.reduceLT, Int.reduceToNat, Int.reduceNeg, Nat.reduceLT, Int.reduceEq, Int.reduceSub, Int.reduceAdd, Int.reduceMul, Nat.reducePow, Int.reduceBEq, Int.reduceBNe, Int.reduceMod, E_32, A32, List.length_map, lq, h, h1, decide_true]
    · have h1 : ¬ (l.length : Int) ≤ 12 := by omega
      rw [pc_eq]; simp +contextual -implicitDefEqProofs (maxSteps := 2000000) only [go_sem, ↓reduceIte, Nat.reduceAdd, Nat.reduceMul, Nat.reduceSub, Nat.reduceEqDiff, Nat.reduceLeDiff, Nat.reduceDiv, Nat.reduceMod, Nat.reduceBEq, Nat.reduceBNe, reduceCtorEq, Int.reduceLE, Int.reduceLT, Int.reduceToNat, Int.reduceNeg, Nat.reduceLT, Int.reduceEq, Int.reduceSub, Int.reduceAdd, Int.reduceMul, Nat.reducePow, Int.reduceBEq, Int.reduceBNe, Int.reduceMod, E_32, A32, List.length_map, lq, h, h1, decide_false]
end Go.Proofs.Yteellikeoiedbaa

namespace Go.Geo
set_option maxRecDepth 100000
set_option maxHeartbeats 4000000
set_option linter.unusedSimpArgs false
set_option linter.unusedVariables false
open Go Go.Zv
theorem perm1 {α : Type} (g : Nat → α) (n : Nat) (h : ∀ k, g (k + n) = g k) : ((List.range n).map fun k => g (k + 1)).Perm ((List.range n).map g) := by
  cases n with
  | zero => exact List.Perm.refl _
  | succ m =>
    have e1 : (List.range (m + 1)).map (fun k => g (k + 1)) = (List.range m).map (fun k => g (k + 1)) ++ [g 0] := by
      rw [List.range_succ, List.map_append]
      have := h 0
      rw [Nat.zero_add] at this
      simp [this]
    have e2 : (List.range (m + 1)).map g = g 0 :: (List.range m).map (fun k => g (k + 1)) := by
      rw [List.range_succ_eq_map, List.map_cons, List.map_map]; rfl
    rw [e1, e2]
    exact List.perm_append_singleton _ _
theorem permR {α : Type} (g : Nat → α) (n : Nat) (h : ∀ k, g (k + n) = g k) (r : Nat) : ((List.range n).map fun k => g (k + r)).Perm ((List.range n).map g) := by
  induction r with
  | zero => exact List.Perm.refl _
  | succ r ih =>
    have := perm1 (fun k => g (k + r)) n (fun k => by show g (k + n + r) = g (k + r); rw [show k + n + r = k + r + n by omega, h])
    refine List.Perm.trans ?_ ih
    refine List.Perm.trans (List.Perm.of_eq ?_) this
    exact List.map_congr_left fun k _ => by show g (k + (r + 1)) = g (k + 1 + r); congr 1; omega
theorem edn_per (l : List Pt) (k : Nat) : edn l (k + l.length) = edn l k := by
  unfold edn ptn
  rw [Nat.add_mod_right, show k + l.length + 1 = k + 1 + l.length by omega, Nat.add_mod_right]
theorem eds_range (l : List Pt) : eds l = (List.range l.length).map (edn l) := by
  apply List.ext_getElem?
  intro i
  by_cases h : i < l.length
  · rw [edn_get h, List.getElem?_map, range_get h]; rfl
  · rw [List.getElem?_eq_none (by rw [eds_len]; omega), List.getElem?_eq_none (by simp; omega)]
/-- the polygon begun at its r-th corner -/
def rotL (r : Nat) (l : List Pt) : List Pt := (List.range l.length).map fun i => ptn l (i + r)
theorem rotL_len (r : Nat) (l : List Pt) : (rotL r l).length = l.length := by simp [rotL]
theorem ptn_rot (r : Nat) (l : List Pt) (k : Nat) (h : 0 < l.length) : ptn (rotL r l) k = ptn l (k + r) := by
  have h1 := ptn_mod (l := rotL r l) (k := k) (by rw [rotL_len]; exact h)
  have h2 : (rotL r l)[k % (rotL r l).length]? = some (ptn l (k % l.length + r)) := by
    unfold rotL
    rw [List.getElem?_map, List.length_map, List.length_range, range_get (Nat.mod_lt _ h)]; rfl
  rw [h1] at h2
  simp only [Option.some.injEq] at h2
  rw [h2]; unfold ptn; rw [Nat.mod_add_mod]
theorem edn_rot (r : Nat) (l : List Pt) (k : Nat) (h : 0 < l.length) : edn (rotL r l) k = edn l (k + r) := by
  unfold edn; rw [ptn_rot r l k h, ptn_rot r l (k + 1) h, show k + 1 + r = k + r + 1 by omega]
theorem eds_rot (r : Nat) (l : List Pt) : (eds (rotL r l)).Perm (eds l) := by
  by_cases h : 0 < l.length
  · rw [eds_range, eds_range l, rotL_len]
    have e : (List.range l.length).map (edn (rotL r l)) = (List.range l.length).map fun k => edn l (k + r) := List.map_congr_left fun k _ => edn_rot r l k h
    rw [e]
    exact permR (edn l) l.length (edn_per l) r
  · have e : l = [] := List.length_eq_zero_iff.1 (by omega)
    subst e; exact List.Perm.refl _
end Go.Geo

namespace Go.Geo
set_option maxRecDepth 100000
set_option maxHeartbeats 4000000
set_option linter.unusedSimpArgs false
set_option linter.unusedVariables false
open Go Go.Zv
/-- the rectangle about the segment from F, l times (X, Y) long, w times as wide to each side -/
def rc (fx fy l w X Y : Int) : List Pt := [(fx + w * Y, fy - w * X), (fx + l * X + w * Y, fy + l * Y - w * X), (fx + l * X - w * Y, fy + l * Y + w * X), (fx - w * Y, fy + w * X)]
theorem cut_no {ax ay bx by_ cx cy dx dy : Int} (h1 : 0 < crW ax ay bx by_ cx cy) (h2 : 0 < crW ax ay bx by_ dx dy) (h3 : 0 < crW cx cy dx dy ax ay) (h4 : 0 < crW cx cy dx dy bx by_) : cutB ax ay bx by_ cx cy dx dy = false := by
  have s : ∀ {n : Int}, 0 < n → sgn n = 1 := fun h => by unfold sgn; rw [if_pos h]
  unfold cutB endsB sdI
  rw [s h1, s h2, s h3, s h4]
  have d : decide (w64 (1 * 1) < 0) = false := by decide
  have d2 : decide ((1 : Int) = 0) = false := by decide
  simp only [d, d2, Bool.false_and, Bool.or_false]
structure RCok (fx fy l w X Y R : Int) : Prop where
  l0 : 0 < l
  w0 : 0 < w
  R0 : 0 < R
  n : X * X + Y * Y = R
  b : ∀ p ∈ rc fx fy l w X Y, (-439400000 ≤ p.1 ∧ p.1 ≤ 439400000) ∧ (-439400000 ≤ p.2 ∧ p.2 ≤ 439400000)
theorem crW_M {ax ay bx by_ px py : Int} (h1 : -439400000 ≤ ax ∧ ax ≤ 439400000) (h2 : -439400000 ≤ ay ∧ ay ≤ 439400000) (h3 : -439400000 ≤ bx ∧ bx ≤ 439400000) (h4 : -439400000 ≤ by_ ∧ by_ ≤ 439400000) (h5 : -439400000 ≤ px ∧ px ≤ 439400000) (h6 : -439400000 ≤ py ∧ py ≤ 439400000) : crW ax ay bx by_ px py = cr ax ay bx by_ px py := by
  refine crW_B ?_ ?_ ?_ ?_ ?_ ?_ <;> unfold B <;> omega
theorem mayB_iff {p : Pt} : mayB p = true ↔ (-439400000 ≤ p.1 ∧ p.1 ≤ 439400000) ∧ (-439400000 ≤ p.2 ∧ p.2 ≤ 439400000) := by
  unfold mayB mxI mnI
  simp only [Bool.and_eq_true, decide_eq_true_eq]
  split <;> split <;> omega
theorem rc_may {fx fy l w X Y R : Int} (h : RCok fx fy l w X Y R) : (rc fx fy l w X Y).all mayB = true := by
  rw [List.all_eq_true]; intro p hp; exact mayB_iff.2 (h.b p hp)
theorem rc_sim {fx fy l w X Y R : Int} (h : RCok fx fy l w X Y R) : simB (rc fx fy l w X Y) = true := by
  have b0 := h.b (fx + w * Y, fy - w * X) (by simp [rc])
  have b1 := h.b (fx + l * X + w * Y, fy + l * Y - w * X) (by simp [rc])
  have b2 := h.b (fx + l * X - w * Y, fy + l * Y + w * X) (by simp [rc])
  have b3 := h.b (fx - w * Y, fy + w * X) (by simp [rc])
  have hp : 0 < 2 * l * w * R := Int.mul_pos (Int.mul_pos (by have := h.l0; omega) h.w0) h.R0
  have n := h.n
  have e012 : cr (fx + w * Y) (fy - w * X) (fx + l * X + w * Y) (fy + l * Y - w * X) (fx + l * X - w * Y) (fy + l * Y + w * X) = 2 * l * w * R := by rw [← n]; unfold cr; grind
  have e013 : cr (fx + w * Y) (fy - w * X) (fx + l * X + w * Y) (fy + l * Y - w * X) (fx - w * Y) (fy + w * X) = 2 * l * w * R := by rw [← n]; unfold cr; grind
  have e123 : cr (fx + l * X + w * Y) (fy + l * Y - w * X) (fx + l * X - w * Y) (fy + l * Y + w * X) (fx - w * Y) (fy + w * X) = 2 * l * w * R := by rw [← n]; unfold cr; grind
  have e120 : cr (fx + l * X + w * Y) (fy + l * Y - w * X) (fx + l * X - w * Y) (fy + l * Y + w * X) (fx + w * Y) (fy - w * X) = 2 * l * w * R := by rw [← n]; unfold cr; grind
  have e230 : cr (fx + l * X - w * Y) (fy + l * Y + w * X) (fx - w * Y) (fy + w * X) (fx + w * Y) (fy - w * X) = 2 * l * w * R := by rw [← n]; unfold cr; grind
  have e231 : cr (fx + l * X - w * Y) (fy + l * Y + w * X) (fx - w * Y) (fy + w * X) (fx + l * X + w * Y) (fy + l * Y - w * X) = 2 * l * w * R := by rw [← n]; unfold cr; grind
  have e301 : cr (fx - w * Y) (fy + w * X) (fx + w * Y) (fy - w * X) (fx + l * X + w * Y) (fy + l * Y - w * X) = 2 * l * w * R := by rw [← n]; unfold cr; grind
  have e302 : cr (fx - w * Y) (fy + w * X) (fx + w * Y) (fy - w * X) (fx + l * X - w * Y) (fy + l * Y + w * X) = 2 * l * w * R := by rw [← n]; unfold cr; grind
  unfold rc
  generalize fx + w * Y = x0 at *
  generalize fy - w * X = y0 at *
  generalize fx + l * X + w * Y = x1 at *
  generalize fy + l * Y - w * X = y1 at *
  generalize fx + l * X - w * Y = x2 at *
  generalize fy + l * Y + w * X = y2 at *
  generalize fx - w * Y = x3 at *
  generalize fy + w * X = y3 at *
  simp only at b0 b1 b2 b3
  rw [← crW_M b0.1 b0.2 b1.1 b1.2 b2.1 b2.2] at e012
  rw [← crW_M b0.1 b0.2 b1.1 b1.2 b3.1 b3.2] at e013
  rw [← crW_M b1.1 b1.2 b2.1 b2.2 b3.1 b3.2] at e123
  rw [← crW_M b1.1 b1.2 b2.1 b2.2 b0.1 b0.2] at e120
  rw [← crW_M b2.1 b2.2 b3.1 b3.2 b0.1 b0.2] at e230
  rw [← crW_M b2.1 b2.2 b3.1 b3.2 b1.1 b1.2] at e231
  rw [← crW_M b3.1 b3.2 b0.1 b0.2 b1.1 b1.2] at e301
  rw [← crW_M b3.1 b3.2 b0.1 b0.2 b2.1 b2.2] at e302
  have q02 := cut_no (by rw [e012]; exact hp) (by rw [e013]; exact hp) (by rw [e230]; exact hp) (by rw [e231]; exact hp)
  have q20 := cut_no (by rw [e230]; exact hp) (by rw [e231]; exact hp) (by rw [e012]; exact hp) (by rw [e013]; exact hp)
  have q13 := cut_no (by rw [e123]; exact hp) (by rw [e120]; exact hp) (by rw [e301]; exact hp) (by rw [e302]; exact hp)
  have q31 := cut_no (by rw [e301]; exact hp) (by rw [e302]; exact hp) (by rw [e123]; exact hp) (by rw [e120]; exact hp)
  have s : ∀ {n : Int}, n = 2 * l * w * R → ¬ (sgn n = 0) := fun h => by rw [h]; unfold sgn; rw [if_pos hp]; decide
  have hr : List.range 4 = [0, 1, 2, 3] := rfl
  have s0 := s e012
  have s1 := s e123
  have s2 := s e230
  have s3 := s e301
  simp [simB, bad1, bad2, adjB, edn, cutE, ptn, oriE, hr, s0, s1, s2, s3, q02, q13, q20, q31]
theorem seg_on {ax ay bx by_ px py : Int} (h1 : -439400000 ≤ ax ∧ ax ≤ 439400000) (h2 : -439400000 ≤ ay ∧ ay ≤ 439400000) (h3 : -439400000 ≤ bx ∧ bx ≤ 439400000) (h4 : -439400000 ≤ by_ ∧ by_ ≤ 439400000) (h5 : ax + bx = 2 * px) (h6 : ay + by_ = 2 * py) : onB ax ay bx by_ px py = true := by
  unfold onB
  rw [crW_M h1 h2 h3 h4 (by omega) (by omega)]
  have e : cr ax ay bx by_ px py = 0 := by
    have e1 : bx = 2 * px - ax := by omega
    have e2 : by_ = 2 * py - ay := by omega
    rw [e1, e2]; unfold cr; grind
  rw [e, sgn_zero]
  simp only [decide_true, Bool.and_true]
  unfold withinB mnI mxI
  simp only [Bool.and_eq_true, decide_eq_true_eq]
  split <;> split <;> omega
theorem rc_loc {fx fy l w X Y R : Int} (h : RCok fx fy l w X Y R) : locI (rc fx fy l w X Y) (fx, fy) = 0 ∧ locI (rc fx fy l w X Y) (fx + l * X, fy + l * Y) = 0 := by
  have b0 := h.b (fx + w * Y, fy - w * X) (by simp [rc])
  have b1 := h.b (fx + l * X + w * Y, fy + l * Y - w * X) (by simp [rc])
  have b2 := h.b (fx + l * X - w * Y, fy + l * Y + w * X) (by simp [rc])
  have b3 := h.b (fx - w * Y, fy + w * X) (by simp [rc])
  simp only at b0 b1 b2 b3
  have k1 := seg_on (px := fx) (py := fy) b3.1 b3.2 b0.1 b0.2 (by omega) (by omega)
  have k2 := seg_on (px := fx + l * X) (py := fy + l * Y) b1.1 b1.2 b2.1 b2.2 (by omega) (by omega)
  unfold locI
  constructor
  · rw [if_pos]; simp [rc, eds, onE, k1]
  · rw [if_pos]; simp [rc, eds, onE, k2]
theorem arF_M {x : Int} {e : Pt × Pt} (hx : -2000000000000000000 ≤ x ∧ x ≤ 2000000000000000000) (h1 : -439400000 ≤ e.1.1 ∧ e.1.1 ≤ 439400000) (h2 : -439400000 ≤ e.1.2 ∧ e.1.2 ≤ 439400000) (h3 : -439400000 ≤ e.2.1 ∧ e.2.1 ≤ 439400000) (h4 : -439400000 ≤ e.2.2 ∧ e.2.2 ≤ 439400000) :
    arF x e = x + (e.1.1 * e.2.2 - e.1.2 * e.2.1) ∧ -400000000000000000 ≤ e.1.1 * e.2.2 - e.1.2 * e.2.1 ∧ e.1.1 * e.2.2 - e.1.2 * e.2.1 ≤ 400000000000000000 := by
  have m1 := mul_bd h1.1 h1.2 h4.1 h4.2
  have m2 := mul_bd h2.1 h2.2 h3.1 h3.2
  unfold arF w64
  refine ⟨?_, by omega, by omega⟩
  rw [wrap_small (n := e.1.1 * e.2.2) (by omega) (by omega), wrap_small (n := e.1.2 * e.2.1) (by omega) (by omega), wrap_small (n := e.1.1 * e.2.2 - e.1.2 * e.2.1) (by omega) (by omega), wrap_small (by omega) (by omega)]
theorem rc_area {fx fy l w X Y R : Int} (h : RCok fx fy l w X Y R) : areaW (rc fx fy l w X Y) = 4 * l * w * R := by
  have b0 := h.b (fx + w * Y, fy - w * X) (by simp [rc])
  have b1 := h.b (fx + l * X + w * Y, fy + l * Y - w * X) (by simp [rc])
  have b2 := h.b (fx + l * X - w * Y, fy + l * Y + w * X) (by simp [rc])
  have b3 := h.b (fx - w * Y, fy + w * X) (by simp [rc])
  have n := h.n
  have fin : (0 + ((fx + w * Y) * (fy + l * Y - w * X) - (fy - w * X) * (fx + l * X + w * Y)) + ((fx + l * X + w * Y) * (fy + l * Y + w * X) - (fy + l * Y - w * X) * (fx + l * X - w * Y)) + ((fx + l * X - w * Y) * (fy + w * X) - (fy + l * Y + w * X) * (fx - w * Y)) + ((fx - w * Y) * (fy - w * X) - (fy + w * X) * (fx + w * Y))) = 4 * l * w * R := by rw [← n]; grind
  rw [← fin]
  unfold rc areaW
  simp only at b0 b1 b2 b3
  generalize fx + w * Y = x0 at *
  generalize fy - w * X = y0 at *
  generalize fx + l * X + w * Y = x1 at *
  generalize fy + l * Y - w * X = y1 at *
  generalize fx + l * X - w * Y = x2 at *
  generalize fy + l * Y + w * X = y2 at *
  generalize fx - w * Y = x3 at *
  generalize fy + w * X = y3 at *
  have a0 := arF_M (x := 0) (e := ((x0, y0), (x1, y1))) (by omega) b0.1 b0.2 b1.1 b1.2
  simp only at a0
  have a1 := arF_M (x := 0 + (x0 * y1 - y0 * x1)) (e := ((x1, y1), (x2, y2))) (by omega) b1.1 b1.2 b2.1 b2.2
  simp only at a1
  have a2 := arF_M (x := 0 + (x0 * y1 - y0 * x1) + (x1 * y2 - y1 * x2)) (e := ((x2, y2), (x3, y3))) (by omega) b2.1 b2.2 b3.1 b3.2
  simp only at a2
  have a3 := arF_M (x := 0 + (x0 * y1 - y0 * x1) + (x1 * y2 - y1 * x2) + (x2 * y3 - y2 * x3)) (e := ((x3, y3), (x0, y0))) (by omega) b3.1 b3.2 b0.1 b0.2
  simp only at a3
  show arF (arF (arF (arF 0 ((x0, y0), (x1, y1))) ((x1, y1), (x2, y2))) ((x2, y2), (x3, y3))) ((x3, y3), (x0, y0)) = _
  rw [a0.1, a1.1, a2.1, a3.1]
theorem rc_val {fx fy l w X Y R : Int} (h : RCok fx fy l w X Y R) : valB (rc fx fy l w X Y) = true := by
  unfold valB
  rw [rc_may h, rc_sim h, rc_area h]
  have hp : 0 < 4 * l * w * R := Int.mul_pos (Int.mul_pos (by have := h.l0; omega) h.w0) h.R0
  simp [rc, hp]
end Go.Geo

namespace Go.Geo
set_option maxRecDepth 100000
set_option maxHeartbeats 4000000
set_option linter.unusedSimpArgs false
set_option linter.unusedVariables false
open Go Go.Zv
theorem par_comm (p : Pt) (b : Bool) (x y : Pt × Pt) : parF p (parF p b x) y = parF p (parF p b y) x := by
  unfold parF; cases b <;> cases flE p x <;> cases flE p y <;> rfl
theorem locI_perm {l m : List Pt} (h : (eds l).Perm (eds m)) (p : Pt) : locI l p = locI m p := by
  have e1 : (eds l).any (onE p) = (eds m).any (onE p) := by
    rw [Bool.eq_iff_iff, List.any_eq_true, List.any_eq_true]
    exact ⟨fun ⟨x, hx, hp⟩ => ⟨x, h.mem_iff.1 hx, hp⟩, fun ⟨x, hx, hp⟩ => ⟨x, h.mem_iff.2 hx, hp⟩⟩
  have e2 : (eds l).foldl (parF p) false = (eds m).foldl (parF p) false := h.foldl_eq' (fun x _ y _ z => par_comm p z x y) false
  unfold locI
  rw [e1, e2]
theorem locI_rot (r : Nat) (l : List Pt) (p : Pt) : locI (rotL r l) p = locI l p := locI_perm (eds_rot r l) p
theorem w64_add (x y : Int) : w64 (w64 x + y) = w64 (x + y) := by
  simp only [w64, IntKind.wrap, IntKind.signed, IntKind.bits]; simp; omega
theorem arF_comm (x : Int) (e f : Pt × Pt) : arF (arF x e) f = arF (arF x f) e := by
  unfold arF
  rw [w64_add, w64_add]; congr 1; omega
theorem areaW_perm {l m : List Pt} (h : (eds l).Perm (eds m)) : areaW l = areaW m := h.foldl_eq' (fun x _ y _ z => arF_comm z x y) 0
theorem areaW_rot (r : Nat) (l : List Pt) : areaW (rotL r l) = areaW l := areaW_perm (eds_rot r l)
end Go.Geo

namespace Go.Geo
set_option maxRecDepth 100000
set_option maxHeartbeats 4000000
set_option linter.unusedSimpArgs false
set_option linter.unusedVariables false
open Go Go.Zv
theorem mod_cancel (a b r n : Nat) : (a + r) % n = (b + r) % n ↔ a % n = b % n := by
  have h := Int.emod_add_cancel_right (m := (a : Int)) (k := (b : Int)) (n := (n : Int)) (r : Int)
  constructor
  · intro e
    have e2 : ((a : Int) + r) % n = ((b : Int) + r) % n := by exact_mod_cast congrArg (fun x : Nat => (x : Int)) e
    have := h.1 e2
    exact_mod_cast this
  · intro e
    have e2 : (a : Int) % n = (b : Int) % n := by exact_mod_cast congrArg (fun x : Nat => (x : Int)) e
    have := h.2 e2
    exact_mod_cast this
def adjM (n i k : Nat) : Bool := decide (k % n = i % n) || (decide (k % n = (i + 1) % n) || decide (i % n = (k + 1) % n))
theorem adjM_eq {n i k : Nat} (hi : i < n) (hk : k < n) : adjB n i k = adjM n i k := by
  unfold adjB adjM; rw [Nat.mod_eq_of_lt hi, Nat.mod_eq_of_lt hk]
theorem adjM_sh (n i k r : Nat) : adjM n (i + r) (k + r) = adjM n i k := by
  unfold adjM
  have e1 := mod_cancel k i r n
  have e2 := mod_cancel k (i + 1) r n
  have e3 := mod_cancel i (k + 1) r n
  rw [show i + r + 1 = i + 1 + r by omega, show k + r + 1 = k + 1 + r by omega, decide_eq_decide.2 e1, decide_eq_decide.2 e2, decide_eq_decide.2 e3]
def badM (l : List Pt) (i k : Nat) : Bool := !adjM l.length i k && cutE (edn l i) (edn l k)
def badN (l : List Pt) (i : Nat) : Bool := decide (oriE (ptn l i) (ptn l (i + 1)) (ptn l (i + 2)) = 0) || ((List.range l.length).map (badM l i)).any id
theorem any_map_id (l : List Nat) (f : Nat → Bool) : l.any f = (l.map f).any id := by rw [List.any_map]; rfl
theorem any_congr {l : List Nat} {f g : Nat → Bool} (h : ∀ x ∈ l, f x = g x) : l.any f = l.any g := by
  rw [any_map_id, any_map_id, List.map_congr_left h]
theorem bad1_N {l : List Pt} {i : Nat} (h : i < l.length) : bad1 l i = badN l i := by
  unfold bad1 badN
  rw [← any_map_id, any_congr (g := badM l i)]
  intro k hk
  unfold bad2 badM
  rw [adjM_eq h (List.mem_range.1 hk)]
theorem simB_N (l : List Pt) : simB l = !((List.range l.length).map (badN l)).any id := by
  unfold simB
  rw [any_congr (g := badN l) (fun i hi => bad1_N (List.mem_range.1 hi)), any_map_id]
theorem ptn_per (l : List Pt) (k : Nat) : ptn l (k + l.length) = ptn l k := by unfold ptn; rw [Nat.add_mod_right]
theorem any_perm {a b : List Bool} (h : a.Perm b) : a.any id = b.any id := by
  rw [Bool.eq_iff_iff, List.any_eq_true, List.any_eq_true]
  exact ⟨fun ⟨x, hx, hp⟩ => ⟨x, h.mem_iff.1 hx, hp⟩, fun ⟨x, hx, hp⟩ => ⟨x, h.mem_iff.2 hx, hp⟩⟩
theorem badM_per (l : List Pt) (i k : Nat) : badM l i (k + l.length) = badM l i k := by
  unfold badM adjM
  rw [edn_per, Nat.add_mod_right, show k + l.length + 1 = k + 1 + l.length by omega, Nat.add_mod_right]
theorem badN_per (l : List Pt) (i : Nat) : badN l (i + l.length) = badN l i := by
  unfold badN
  rw [ptn_per, show i + l.length + 1 = i + 1 + l.length by omega, ptn_per, show i + l.length + 2 = i + 2 + l.length by omega, ptn_per]
  congr 2
  refine List.map_congr_left fun k _ => ?_
  unfold badM adjM
  rw [edn_per, Nat.add_mod_right, show i + l.length + 1 = i + 1 + l.length by omega, Nat.add_mod_right]
theorem badN_rot (r : Nat) (l : List Pt) (i : Nat) (h : 0 < l.length) : badN (rotL r l) i = badN l (i + r) := by
  unfold badN
  rw [ptn_rot r l _ h, ptn_rot r l _ h, ptn_rot r l _ h, rotL_len, show i + 1 + r = i + r + 1 by omega, show i + 2 + r = i + r + 2 by omega]
  congr 1
  have e : (List.range l.length).map (badM (rotL r l) i) = (List.range l.length).map fun k => badM l (i + r) (k + r) := List.map_congr_left fun k _ => by
    unfold badM; rw [rotL_len, edn_rot r l _ h, edn_rot r l _ h, adjM_sh]
  rw [e]
  exact any_perm (permR (badM l (i + r)) l.length (badM_per l (i + r)) r)
theorem simB_rot (r : Nat) (l : List Pt) : simB (rotL r l) = simB l := by
  by_cases h : 0 < l.length
  · rw [simB_N, simB_N, rotL_len]
    have e : (List.range l.length).map (badN (rotL r l)) = (List.range l.length).map fun k => badN l (k + r) := List.map_congr_left fun k _ => badN_rot r l k h
    rw [e, any_perm (permR (badN l) l.length (badN_per l) r)]
  · have e : l = [] := List.length_eq_zero_iff.1 (by omega)
    subst e; rfl
theorem rot_mem {r : Nat} {l : List Pt} : (rotL r l).Perm l := by
  have e : l = (List.range l.length).map (ptn l) := by
    apply List.ext_getElem?
    intro i
    by_cases h : i < l.length
    · rw [ptn_get h, List.getElem?_map, range_get h]; rfl
    · rw [List.getElem?_eq_none (by omega), List.getElem?_eq_none (by simp; omega)]
  have := permR (ptn l) l.length (ptn_per l) r
  rw [← e] at this
  exact this
theorem valB_rot (r : Nat) (l : List Pt) : valB (rotL r l) = valB l := by
  have e : (rotL r l).all mayB = l.all mayB := by
    rw [Bool.eq_iff_iff, List.all_eq_true, List.all_eq_true]
    exact ⟨fun h x hx => h x (rot_mem.mem_iff.2 hx), fun h x hx => h x (rot_mem.mem_iff.1 hx)⟩
  unfold valB
  rw [rotL_len, simB_rot, areaW_rot, e]
end Go.Geo

namespace Go.Geo
set_option maxRecDepth 100000
set_option maxHeartbeats 4000000
set_option linter.unusedSimpArgs false
set_option linter.unusedVariables false
open Go Go.Zv
theorem w64_sub (x y : Int) : w64 (w64 x - y) = w64 (x - y) := by
  have := w64_add x (-y); rw [Int.sub_eq_add_neg, Int.sub_eq_add_neg]; exact this
theorem w64_add' (x y : Int) : w64 (x + w64 y) = w64 (x + y) := by rw [Int.add_comm, w64_add, Int.add_comm]
theorem w64_neg (x : Int) : w64 (-w64 x) = w64 (-x) := by
  simp only [w64, IntKind.wrap, IntKind.signed, IntKind.bits]; simp; omega
theorem w64_sub' (x y : Int) : w64 (x - w64 y) = w64 (x - y) := by
  rw [Int.sub_eq_add_neg, ← w64_add' x (-w64 y), w64_neg, w64_add', ← Int.sub_eq_add_neg]
def dE (e : Pt × Pt) : Int := e.1.1 * e.2.2 - e.1.2 * e.2.1
theorem arF_d (x : Int) (e : Pt × Pt) : arF x e = w64 (x + dE e) := by
  unfold arF dE
  rw [w64_sub, w64_sub', w64_add']
theorem fold_d (l : List (Pt × Pt)) : ∀ x : Int, w64 (l.foldl arF x) = w64 (x + (l.map dE).sum) := by
  induction l with
  | nil => intro x; simp
  | cons e l ih => intro x; rw [List.foldl_cons, ih, arF_d, w64_add, List.map_cons, List.sum_cons, Int.add_assoc]
theorem w64_idem (x : Int) : w64 (w64 x) = w64 x := by have := w64_add x 0; simpa using this
theorem areaW_sum (l : List Pt) : areaW l = w64 ((eds l).map dE).sum := by
  have h := fold_d (eds l) 0
  rw [Int.zero_add] at h
  rw [← h]
  unfold areaW
  cases hl : eds l with
  | nil => rfl
  | cons e t =>
    have : ∀ (t : List (Pt × Pt)) (x : Int), w64 x = x → w64 (t.foldl arF x) = t.foldl arF x := by
      intro t
      induction t with
      | nil => intro x hx; exact hx
      | cons f t ih => intro x hx; rw [List.foldl_cons]; exact ih _ (by rw [arF_d, w64_idem])
    exact (this (e :: t) 0 (by decide)).symm
def swE (e : Pt × Pt) : Pt × Pt := (e.2, e.1)
theorem dE_sw (e : Pt × Pt) : dE (swE e) = -dE e := by unfold dE swE; grind
theorem ptn_rev (l : List Pt) (k : Nat) (h : k < l.length) : ptn l.reverse k = ptn l (l.length - 1 - k) := by
  have h1 := ptn_get (l := l.reverse) (k := k) (by simpa using h)
  rw [List.getElem?_reverse h, ptn_get (by omega)] at h1
  simpa using h1.symm
theorem edn_rev (l : List Pt) (k : Nat) (h : k < l.length) : edn l.reverse k = swE (edn l (2 * l.length - 2 - k)) := by
  unfold edn swE
  rw [ptn_rev l k h]
  simp only [Prod.mk.injEq]
  constructor
  · rw [show 2 * l.length - 2 - k + 1 = (l.length - 1 - k) + l.length by omega, ptn_per]
  · by_cases e : k + 1 < l.length
    · rw [ptn_rev l (k + 1) e, show 2 * l.length - 2 - k = (l.length - 1 - (k + 1)) + l.length by omega, ptn_per]
    · have e1 : k + 1 = 0 + l.reverse.length := by rw [List.length_reverse]; omega
      rw [e1, ptn_per, ptn_rev l 0 (by omega)]
      congr 1; omega
theorem sum_perm {a b : List Int} (h : a.Perm b) : a.sum = b.sum := by
  induction h with
  | nil => rfl
  | cons x _ ih => simp [ih]
  | swap x y l => simp; omega
  | trans _ _ h1 h2 => exact h1.trans h2
theorem eds_rev (l : List Pt) : (eds l.reverse).Perm ((eds l).map swE) := by
  rw [eds_range, eds_range l, List.length_reverse, List.map_map]
  have e : (List.range l.length).map (edn l.reverse) = ((List.range l.length).map fun j => (swE ∘ edn l) (j + (l.length - 1))).reverse := by
    apply List.ext_getElem?
    intro i
    by_cases h : i < l.length
    · rw [List.getElem?_map, range_get h, List.getElem?_reverse (by simpa using h), List.getElem?_map, List.length_map, List.length_range, range_get (by omega)]
      simp only [Option.map_some, Function.comp_apply, Option.some.injEq]
      rw [edn_rev l i h]
      congr 2; omega
    · rw [List.getElem?_eq_none (by simp; omega), List.getElem?_eq_none (by simp; omega)]
  rw [e]
  refine (List.reverse_perm _).trans ?_
  exact permR (swE ∘ edn l) l.length (fun k => by simp only [Function.comp_apply, edn_per]) (l.length - 1)
theorem sum_neg (l : List (Pt × Pt)) : ((l.map swE).map dE).sum = -(l.map dE).sum := by
  induction l with
  | nil => rfl
  | cons e l ih => simp only [List.map_cons, List.sum_cons, ih, dE_sw]; omega
theorem areaW_rev (l : List Pt) : areaW l.reverse = w64 (-areaW l) := by
  rw [areaW_sum, areaW_sum, w64_neg, sum_perm ((eds_rev l).map dE), sum_neg]
end Go.Geo

namespace Go.Geo
set_option maxRecDepth 100000
set_option maxHeartbeats 4000000
set_option linter.unusedSimpArgs false
set_option linter.unusedVariables false
open Go Go.Zv
/-! Winding numbers over the rationals -/
abbrev Q2 := Rat × Rat
/-- cross product -/
def xq (u v : Q2) : Rat := u.1 * v.2 - u.2 * v.1
/-- scalar product -/
def dq (u v : Q2) : Rat := u.1 * v.1 + u.2 * v.2
def sq (a x : Q2) : Q2 := (a.1 - x.1, a.2 - x.2)
/-- the signed crossing of the ray d from the origin with the edge from u to v -/
def hit (d u v : Q2) : Int := if 0 < xq d u then (if 0 < xq d v then 0 else if xq u v < 0 then -1 else 0) else if 0 < xq d v then (if 0 < xq u v then 1 else 0) else 0
/-- the origin lies on the segment from u to v -/
def OnV (u v : Q2) : Prop := xq u v = 0 ∧ dq u v ≤ 0
def Wd (d e u : Q2) : Int := if 0 < xq d u then (if 0 < xq e u then 0 else 1) else 0
theorem r_sq_nn (x : Rat) : 0 ≤ x * x := by
  rcases Rat.le_total (a := 0) (b := x) with h | h
  · exact Rat.mul_nonneg h h
  · have : 0 ≤ (-x) * (-x) := Rat.mul_nonneg (by grind) (by grind)
    grind
theorem r_sq_pos {x : Rat} (h : x ≠ 0) : 0 < x * x := by
  rcases Rat.le_total (a := 0) (b := x) with h1 | h1
  · exact Rat.mul_pos (by grind) (by grind)
  · have : 0 < (-x) * (-x) := Rat.mul_pos (by grind) (by grind)
    grind
theorem dq_nn (u : Q2) : 0 ≤ dq u u := by
  have h1 := r_sq_nn u.1
  have h2 := r_sq_nn u.2
  unfold dq; grind
theorem dq_pos {u : Q2} (h : u ≠ (0, 0)) : 0 < dq u u := by
  have h1 := r_sq_nn u.1
  have h2 := r_sq_nn u.2
  by_cases e1 : u.1 = 0
  · have e2 : u.2 ≠ 0 := fun e2 => h (Prod.ext e1 e2)
    have := r_sq_pos e2
    unfold dq; grind
  · have := r_sq_pos e1
    unfold dq; grind
theorem pm (p s : Rat) : (0 < p ∧ 0 < s ∧ 0 < p * s) ∨ (0 < p ∧ ¬ 0 < s ∧ p * s ≤ 0) ∨ (¬ 0 < p ∧ 0 < s ∧ p * s ≤ 0) ∨ (¬ 0 < p ∧ ¬ 0 < s ∧ 0 ≤ p * s) := by
  by_cases h1 : 0 < p <;> by_cases h2 : 0 < s
  · exact .inl ⟨h1, h2, Rat.mul_pos h1 h2⟩
  · have : 0 ≤ p * (-s) := Rat.mul_nonneg (by grind) (by grind)
    exact .inr (.inl ⟨h1, h2, by grind⟩)
  · have : 0 ≤ (-p) * s := Rat.mul_nonneg (by grind) (by grind)
    exact .inr (.inr (.inl ⟨h1, h2, by grind⟩))
  · have : 0 ≤ (-p) * (-s) := Rat.mul_nonneg (by grind) (by grind)
    exact .inr (.inr (.inr ⟨h1, h2, by grind⟩))
theorem pos_iff_of_mul {U q k p : Rat} (hU : 0 < U) (hk : 0 < k) (h : U * q = k * p) : 0 < q ↔ 0 < p := by
  constructor
  · intro hq
    have := Rat.mul_pos hU hq
    rw [h] at this
    exact (Rat.mul_pos_iff_of_pos_left hk).1 this
  · intro hp
    have := Rat.mul_pos hk hp
    rw [← h] at this
    exact (Rat.mul_pos_iff_of_pos_left hU).1 this
/-- two directions with the sector between them -/
theorem wedge {d e u v : Q2} (h : 0 < xq d e) (n : ¬ OnV u v) : hit d u v - hit e u v = Wd d e v - Wd d e u := by
  have id1 : xq d e * xq u v = xq d u * xq e v - xq d v * xq e u := by unfold xq; grind
  have id2 : dq u u * xq d v = dq u v * xq d u + dq d u * xq u v := by unfold xq dq; grind
  have id3 : dq u u * xq e v = dq u v * xq e u + dq e u * xq u v := by unfold xq dq; grind
  by_cases c0 : xq u v = 0
  · have hk : 0 < dq u v := by
      refine Classical.byContradiction fun hk => n ⟨c0, by grind⟩
    have hU : 0 < dq u u := by
      refine dq_pos fun e => ?_
      subst e
      unfold dq at hk; grind
    rw [c0] at id2 id3
    have e1 := pos_iff_of_mul (q := xq d v) (p := xq d u) hU hk (by grind)
    have e2 := pos_iff_of_mul (q := xq e v) (p := xq e u) hU hk (by grind)
    unfold hit Wd
    rw [c0]
    by_cases h1 : 0 < xq d u <;> by_cases h2 : 0 < xq e u <;> simp [h1, h2, e1, e2]
  · unfold hit Wd
    generalize xq d u = p at *
    generalize xq d v = q at *
    generalize xq e u = r at *
    generalize xq e v = s at *
    generalize xq u v = c at *
    generalize xq d e = D at *
    have hc : (0 < c ∧ 0 < D * c ∧ ¬ c < 0) ∨ (¬ 0 < c ∧ D * c < 0 ∧ c < 0) := by
      rcases Rat.le_total (a := 0) (b := c) with h1 | h1
      · left; have : 0 < c := by grind
        exact ⟨this, Rat.mul_pos h this, by grind⟩
      · right; have : 0 < -c := by grind
        have h2 := Rat.mul_pos h this
        exact ⟨by grind, by grind, by grind⟩
    rw [id1] at hc
    rcases pm p s with ⟨a1, a2, a3⟩ | ⟨a1, a2, a3⟩ | ⟨a1, a2, a3⟩ | ⟨a1, a2, a3⟩ <;> rcases pm q r with ⟨b1, b2, b3⟩ | ⟨b1, b2, b3⟩ | ⟨b1, b2, b3⟩ | ⟨b1, b2, b3⟩ <;> rcases hc with ⟨k1, k2, k3⟩ | ⟨k1, k2, k3⟩ <;> simp only [a1, a2, b1, b2, k1, k3, if_true, if_false] <;> first | rfl | (exfalso; grind)
/-- a chain of edges from p to q -/
def Path (p q : Q2) (es : List (Q2 × Q2)) : Prop := ∀ f : Q2 → Int, (es.map fun e => f e.2 - f e.1).sum = f q - f p
def OnE (x : Q2) (e : Q2 × Q2) : Prop := OnV (sq e.1 x) (sq e.2 x)
/-- the winding number, counted along the ray d from x -/
def wn (d x : Q2) (es : List (Q2 × Q2)) : Int := (es.map fun e => hit d (sq e.1 x) (sq e.2 x)).sum
theorem sum_sub (l : List (Q2 × Q2)) (f g : Q2 × Q2 → Int) : (l.map f).sum - (l.map g).sum = (l.map fun e => f e - g e).sum := by
  induction l with
  | nil => rfl
  | cons a l ih => simp only [List.map_cons, List.sum_cons, ← ih]; omega
theorem wn_wedge {p q d e x : Q2} {es : List (Q2 × Q2)} (hp : Path p q es) (h : 0 < xq d e) (n : ∀ g ∈ es, ¬ OnE x g) : wn d x es - wn e x es = Wd d e (sq q x) - Wd d e (sq p x) := by
  unfold wn
  rw [sum_sub, ← hp (fun u => Wd d e (sq u x))]
  congr 1
  exact List.map_congr_left fun g hg => wedge h (n g hg)
theorem xq_swap (u v : Q2) : xq u v = -xq v u := by unfold xq; grind
theorem wn_dir1 {p d e x : Q2} {es : List (Q2 × Q2)} (hp : Path p p es) (h : xq d e ≠ 0) (n : ∀ g ∈ es, ¬ OnE x g) : wn d x es = wn e x es := by
  by_cases h1 : 0 < xq d e
  · have := wn_wedge hp h1 n; omega
  · have h2 : 0 < xq e d := by rw [xq_swap]; grind
    have := wn_wedge hp h2 n; omega
/-- off the edges, the direction does not matter -/
theorem wn_dir {p d e x : Q2} {es : List (Q2 × Q2)} (hp : Path p p es) (hd : d ≠ (0, 0)) (he : e ≠ (0, 0)) (n : ∀ g ∈ es, ¬ OnE x g) : wn d x es = wn e x es := by
  by_cases h : xq d e = 0
  · have h1 : xq d (-d.2, d.1) ≠ 0 := by
      have := dq_pos hd
      unfold dq at this; unfold xq; grind
    have h2 : xq (-d.2, d.1) e ≠ 0 := by
      have k1 := dq_pos hd
      have k2 := dq_pos he
      have k3 : dq d e * dq d e + xq d e * xq d e = dq d d * dq e e := by unfold dq xq; grind
      have k4 := Rat.mul_pos k1 k2
      rw [← k3, h] at k4
      intro hx
      have : dq d e = 0 := by unfold dq; unfold xq at hx; grind
      rw [this] at k4
      grind
    rw [wn_dir1 hp h1 n, wn_dir1 hp h2 n]
  · exact wn_dir1 hp h n
end Go.Geo

namespace Go.Geo
set_option maxRecDepth 100000
set_option maxHeartbeats 4000000
set_option linter.unusedSimpArgs false
set_option linter.unusedVariables false
open Go Go.Zv
theorem r_inv {x : Rat} (h : x ≠ 0) : x * x⁻¹ = 1 := Rat.mul_inv_cancel x h
def onp (a b : Q2) (s : Rat) : Q2 := (a.1 + s * (b.1 - a.1), a.2 + s * (b.2 - a.2))
theorem on_of_param {a b : Q2} {s : Rat} (h0 : 0 ≤ s) (h1 : s ≤ 1) : OnE (onp a b s) (a, b) := by
  have h2 : 0 ≤ s * (1 - s) := Rat.mul_nonneg h0 (by grind)
  have h3 := Rat.mul_nonneg h2 (dq_nn (sq b a))
  unfold OnE OnV onp
  unfold dq sq at *
  unfold xq
  simp only at *
  constructor
  · grind
  · grind
theorem on_param {x a b : Q2} (h : OnE x (a, b)) : ∃ s : Rat, 0 ≤ s ∧ s ≤ 1 ∧ x = onp a b s := by
  obtain ⟨hc, hd⟩ := h
  simp only at hc hd
  have k1 := dq_nn (sq a x)
  have k2 := dq_nn (sq b x)
  by_cases hw : sq b a = (0, 0)
  · refine ⟨0, by grind, by grind, ?_⟩
    simp only [sq, Prod.mk.injEq] at hw
    have e : dq (sq a x) (sq a x) = 0 := by
      have e2 : dq (sq a x) (sq b x) = dq (sq a x) (sq a x) := by unfold dq sq; grind
      grind
    have e3 : sq a x = (0, 0) := by
      refine Classical.byContradiction fun h => ?_
      have := dq_pos h
      grind
    simp only [sq, Prod.mk.injEq] at e3
    refine Prod.ext ?_ ?_ <;> simp only [onp] <;> grind
  · have hN := dq_pos hw
    have hi := r_inv (x := dq (sq b a) (sq b a)) (by grind)
    have hp : 0 < (dq (sq b a) (sq b a))⁻¹ := Rat.inv_pos.2 hN
    generalize hNe : dq (sq b a) (sq b a) = N at *
    have hk0 : 0 ≤ -dq (sq a x) (sq b a) := by
      have : -dq (sq a x) (sq b a) = dq (sq a x) (sq a x) - dq (sq a x) (sq b x) := by unfold dq sq; grind
      grind
    have hk1 : 0 ≤ N + dq (sq a x) (sq b a) := by
      have : N + dq (sq a x) (sq b a) = dq (sq b x) (sq b x) - dq (sq a x) (sq b x) := by rw [← hNe]; unfold dq sq; grind
      grind
    refine ⟨-dq (sq a x) (sq b a) * N⁻¹, Rat.mul_nonneg hk0 (by grind), ?_, ?_⟩
    · have := Rat.mul_nonneg hk1 (show 0 ≤ N⁻¹ by grind)
      grind
    · have e1 : N * (a.1 - x.1) = dq (sq a x) (sq b a) * (b.1 - a.1) := by
        rw [← hNe]; unfold dq sq; unfold xq sq at hc; grind
      have e2 : N * (a.2 - x.2) = dq (sq a x) (sq b a) * (b.2 - a.2) := by
        rw [← hNe]; unfold dq sq; unfold xq sq at hc; grind
      generalize dq (sq a x) (sq b a) = k at *
      generalize N⁻¹ = M at *
      refine Prod.ext ?_ ?_ <;> simp only [onp] <;> grind
def Meets (a b x y : Q2) : Prop := ∃ z, OnE z (a, b) ∧ OnE z (x, y)
/-- what differs for two points lies between them -/
theorem hit_seg {x y a b : Q2} (h : ¬ Meets a b x y) : hit (sq y x) (sq a x) (sq b x) = hit (sq y x) (sq a y) (sq b y) := by
  have hp : xq (sq y x) (sq a y) = xq (sq y x) (sq a x) := by unfold xq sq; grind
  have hq : xq (sq y x) (sq b y) = xq (sq y x) (sq b x) := by unfold xq sq; grind
  have hc : xq (sq a y) (sq b y) = xq (sq a x) (sq b x) + xq (sq y x) (sq a x) - xq (sq y x) (sq b x) := by unfold xq sq; grind
  have key : ∀ s t : Rat, 0 ≤ s → s ≤ 1 → 0 ≤ t → t ≤ 1 → s * (xq (sq y x) (sq b x) - xq (sq y x) (sq a x)) = - xq (sq y x) (sq a x) → t * (xq (sq y x) (sq b x) - xq (sq y x) (sq a x)) = xq (sq a x) (sq b x) → xq (sq y x) (sq b x) - xq (sq y x) (sq a x) ≠ 0 → False := by
    intro s t s0 s1 t0 t1 e1 e2 hD
    refine h ⟨onp a b s, on_of_param s0 s1, ?_⟩
    have : onp a b s = onp x y t := by
      have hi := r_inv hD
      have i1 : xq (sq y x) (sq b x) * (a.1 - x.1) - xq (sq y x) (sq a x) * (b.1 - x.1) = xq (sq a x) (sq b x) * (y.1 - x.1) := by unfold xq sq; grind
      have i2 : xq (sq y x) (sq b x) * (a.2 - x.2) - xq (sq y x) (sq a x) * (b.2 - x.2) = xq (sq a x) (sq b x) * (y.2 - x.2) := by unfold xq sq; grind
      generalize xq (sq y x) (sq b x) = q at *
      generalize xq (sq y x) (sq a x) = p at *
      generalize xq (sq a x) (sq b x) = c at *
      generalize (q - p)⁻¹ = M at *
      refine Prod.ext ?_ ?_ <;> simp only [onp] <;> grind
    rw [this]; exact on_of_param t0 t1
  unfold hit
  rw [hp, hq, hc]
  generalize xq (sq y x) (sq b x) = q at *
  generalize xq (sq y x) (sq a x) = p at *
  generalize xq (sq a x) (sq b x) = c at *
  by_cases h1 : 0 < p
  · by_cases h2 : 0 < q
    · simp [h1, h2]
    · simp only [h1, h2, if_true, if_false]
      by_cases c1 : c < 0
      · by_cases c2 : c + p - q < 0
        · simp [c1, c2]
        · exfalso
          have hi := r_inv (x := q - p) (by grind)
          have hM : 0 < (p - q)⁻¹ := Rat.inv_pos.2 (by grind)
          have hi2 := r_inv (x := p - q) (by grind)
          have m1 := Rat.mul_nonneg (a := p) (b := (p - q)⁻¹) (by grind) (by grind)
          have m2 := Rat.mul_nonneg (a := -q) (b := (p - q)⁻¹) (by grind) (by grind)
          have m3 := Rat.mul_nonneg (a := -c) (b := (p - q)⁻¹) (by grind) (by grind)
          have m4 := Rat.mul_nonneg (a := c + p - q) (b := (p - q)⁻¹) (by grind) (by grind)
          generalize (p - q)⁻¹ = M at *
          exact key (p * M) (-c * M) (by grind) (by grind) (by grind) (by grind) (by grind) (by grind) (by grind)
      · have c2 : ¬ c + p - q < 0 := by grind
        simp [c1, c2]
  · by_cases h2 : 0 < q
    · simp only [h1, h2, if_true, if_false]
      by_cases c1 : 0 < c + p - q
      · have c2 : 0 < c := by grind
        simp [c1, c2]
      · by_cases c2 : 0 < c
        · exfalso
          have hM : 0 < (q - p)⁻¹ := Rat.inv_pos.2 (by grind)
          have hi2 := r_inv (x := q - p) (by grind)
          have m1 := Rat.mul_nonneg (a := -p) (b := (q - p)⁻¹) (by grind) (by grind)
          have m2 := Rat.mul_nonneg (a := q) (b := (q - p)⁻¹) (by grind) (by grind)
          have m3 := Rat.mul_nonneg (a := c) (b := (q - p)⁻¹) (by grind) (by grind)
          have m4 := Rat.mul_nonneg (a := q - p - c) (b := (q - p)⁻¹) (by grind) (by grind)
          generalize (q - p)⁻¹ = M at *
          exact key (-p * M) (c * M) (by grind) (by grind) (by grind) (by grind) (by grind) (by grind) (by grind)
        · simp [c1, c2]
    · simp [h1, h2]
theorem wn_seg {x y : Q2} {es : List (Q2 × Q2)} (h : ∀ e ∈ es, ¬ Meets e.1 e.2 x y) : wn (sq y x) x es = wn (sq y x) y es := by
  unfold wn
  congr 1
  exact List.map_congr_left fun e he => hit_seg (h e he)
theorem on_left (x y : Q2) : OnE x (x, y) := by
  unfold OnE OnV xq dq sq; simp only; constructor <;> grind
theorem on_right (x y : Q2) : OnE y (x, y) := by
  unfold OnE OnV xq dq sq; simp only; constructor <;> grind
theorem sq_ne {x y : Q2} (h : x ≠ y) : sq y x ≠ (0, 0) := by
  intro e
  simp only [sq, Prod.mk.injEq] at e
  exact h (Prod.ext (by grind) (by grind))
/-- along a segment that meets no edge the winding number stays -/
theorem wn_walk {p d x y : Q2} {es : List (Q2 × Q2)} (hp : Path p p es) (hd : d ≠ (0, 0)) (h : ∀ e ∈ es, ¬ Meets e.1 e.2 x y) : wn d x es = wn d y es := by
  by_cases e : x = y
  · rw [e]
  · have h1 : ∀ g ∈ es, ¬ OnE x g := fun g hg ho => h g hg ⟨x, ho, on_left x y⟩
    have h2 : ∀ g ∈ es, ¬ OnE y g := fun g hg ho => h g hg ⟨y, ho, on_right x y⟩
    rw [wn_dir hp hd (sq_ne e) h1, wn_dir hp hd (sq_ne e) h2]
    exact wn_seg h
theorem wn_all_left {d x : Q2} {es : List (Q2 × Q2)} (h : ∀ e ∈ es, 0 < xq d (sq e.1 x) ∧ 0 < xq d (sq e.2 x)) : wn d x es = 0 := by
  unfold wn
  rw [List.map_congr_left (g := fun _ => (0 : Int)) fun e he => by unfold hit; simp [(h e he).1, (h e he).2]]
  induction es with
  | nil => rfl
  | cons a l ih => simp only [List.map_cons, List.sum_cons, ih (fun e he => h e (by simp [he])), Int.zero_add]
theorem wn_none_left {d x : Q2} {es : List (Q2 × Q2)} (h : ∀ e ∈ es, ¬ 0 < xq d (sq e.1 x) ∧ ¬ 0 < xq d (sq e.2 x)) : wn d x es = 0 := by
  unfold wn
  rw [List.map_congr_left (g := fun _ => (0 : Int)) fun e he => by unfold hit; simp [(h e he).1, (h e he).2]]
  induction es with
  | nil => rfl
  | cons a l ih => simp only [List.map_cons, List.sum_cons, ih (fun e he => h e (by simp [he])), Int.zero_add]
theorem hit_scale {k : Rat} {d u v : Q2} (hk : 0 < k) : hit (k * d.1, k * d.2) u v = hit d u v := by
  have h : ∀ w : Q2, 0 < xq (k * d.1, k * d.2) w ↔ 0 < xq d w := fun w => by
    have : xq (k * d.1, k * d.2) w = k * xq d w := by unfold xq; grind
    rw [this]; exact Rat.mul_pos_iff_of_pos_left hk
  unfold hit
  simp only [h]
theorem hit_neg (d u v : Q2) : hit d v u = - hit d u v := by
  have h1 : xq v u < 0 ↔ 0 < xq u v := by rw [xq_swap]; constructor <;> intro h <;> grind
  have h2 : xq u v < 0 ↔ 0 < xq v u := by rw [xq_swap]; constructor <;> intro h <;> grind
  unfold hit
  simp only [h1, h2]
  by_cases a : 0 < xq d u <;> by_cases b : 0 < xq d v <;> simp only [a, b, if_true, if_false] <;> (try split) <;> simp
end Go.Geo
