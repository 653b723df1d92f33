/- Part of the proof: the evaluation of the program's code and its tie to the machine, or what functions of the program compute over it. -/
import Derived.Test.YtnecdcaaknhgpaaPart1
namespace Go.Proofs.Ytnecdcaaknhgpaa
open Go Go.Zv
set_option maxRecDepth 100000
/-- ambidexter/ambidextertop.head07 -/
def A34 : AFn := .code [.t 0] (
(.seq (
.reg none [
  ⟨some 0, .as (.c (.bool false)), none, true⟩] (some []) []) (
(.seq (
.reg none [
  ⟨some 5, .call 63 [], none, true⟩,
  ⟨some 1, .alloc [.int .i64 0, .int .i64 0, .int .i64 0, .int .i64 0, .int .i64 0, .int .i64 0, .int .i64 0, .int .i64 0, .int .i64 0, .int .i64 0, .int .i64 0, .int .i64 0], none, true⟩,
  ⟨none, .store 12 (.t 1) (.t 5), none, true⟩] (some [1]) []) (
(.seq (
.reg none [
  ⟨some 6, .load true 12 (.t 1), none, true⟩,
  ⟨some 7, .build [.int .i64 0, .int .i64 0, .int .i64 0] [(0, 1, .c (.int .i64 0)), (1, 1, .c (.int .i64 9)), (2, 1, .c (.int .i64 0))], none, true⟩,
  ⟨some 8, .call 27 [.t 6, .t 7], none, true⟩,
  ⟨some 2, .alloc [.int .i64 0, .int .i64 0, .int .i64 0, .int .i64 0, .int .i64 0, .int .i64 0, .int .i64 0, .int .i64 0], none, true⟩,
  ⟨none, .store 8 (.t 2) (.t 8), none, true⟩] (some [1, 2]) []) (
(.seq (
.reg none [
  ⟨some 9, .load true 12 (.t 1), none, true⟩,
  ⟨some 10, .build [.int .i64 0, .int .i64 0, .int .i64 0] [(0, 1, .c (.int .i64 0)), (1, 1, .c (.int .i64 0)), (2, 1, .c (.int .i64 0))], none, true⟩,
  ⟨some 11, .call 20 [.t 9, .t 10], none, true⟩,
  ⟨some 3, .alloc [.nils 2, .nils 2, .nils 2], none, true⟩,
  ⟨none, .store 3 (.t 3) (.t 11), none, true⟩] (some [1, 2, 3]) []) (
(.seq (
.reg none [
  ⟨some 4, .as (.c (.int .i64 4394000)), none, true⟩] (some [1, 2, 3, 4]) []) (
(.seq (
.reg none [
  ⟨some 12, .load true 12 (.t 1), none, true⟩,
  ⟨some 13, .call 15 [.t 12], none, true⟩,
  ⟨some 14, .mv (.t 13), none, true⟩,
  ⟨some 15, .load true 12 (.t 1), some (14, true), true⟩,
  ⟨some 16, .build [.int .i64 0, .int .i64 0, .int .i64 0] [(0, 1, .c (.int .i64 18)), (1, 1, .c (.int .i64 (-17))), (2, 1, .c (.int .i64 0))], some (14, true), true⟩,
  ⟨some 17, .call 17 [.t 15, .t 16], some (14, true), true⟩,
  ⟨some 18, .pick (.t 14) (.t 17) (.c (.bool false)), none, true⟩,
  ⟨some 19, .mv (.t 18), none, true⟩,
  ⟨some 20, .iaa 4 2 (.t 2) (.c (.int .i64 1)), some (19, true), true⟩,
  ⟨some 21, .load true 2 (.t 20), some (19, true), true⟩,
  ⟨some 22, .mv (.t 4), some (19, true), true⟩,
  ⟨some 23, .bin .mul (.c (.int .i64 3)) (.t 22), some (19, true), true⟩,
  ⟨some 24, .build [.int .i64 0, .int .i64 0] [(0, 1, .t 23)], some (19, true), true⟩,
  ⟨some 25, .eqa false [0, 0] (.t 21) (.t 24), some (19, true), true⟩,
  ⟨some 26, .pick (.t 19) (.t 25) (.c (.bool false)), none, true⟩,
  ⟨some 27, .mv (.t 26), none, true⟩,
  ⟨some 28, .iaa 4 2 (.t 2) (.c (.int .i64 3)), some (27, true), true⟩,
  ⟨some 29, .load true 2 (.t 28), some (27, true), true⟩,
  ⟨some 30, .mv (.t 4), some (27, true), true⟩,
  ⟨some 31, .bin .mul (.c (.int .i64 3)) (.t 30), some (27, true), true⟩,
  ⟨some 32, .mv (.t 4), some (27, true), true⟩,
  ⟨some 33, .bin .mul (.c (.int .i64 3)) (.t 32), some (27, true), true⟩,
  ⟨some 34, .build [.int .i64 0, .int .i64 0] [(0, 1, .t 31), (1, 1, .t 33)], some (27, true), true⟩,
  ⟨some 35, .eqa false [0, 0] (.t 29) (.t 34), some (27, true), true⟩,
  ⟨some 36, .pick (.t 27) (.t 35) (.c (.bool false)), none, true⟩,
  ⟨some 37, .mv (.t 36), none, true⟩,
  ⟨some 38, .iaa 3 1 (.t 3) (.c (.int .i64 0)), some (37, true), true⟩,
  ⟨some 39, .load false 1 (.t 38), some (37, true), true⟩,
  ⟨some 40, .mv (.t 4), some (37, true), true⟩,
  ⟨some 41, .un .neg (.t 40), some (37, true), true⟩,
  ⟨some 42, .build [.int .i64 0, .int .i64 0] [(0, 1, .c (.int .i64 0)), (1, 1, .t 41)], some (37, true), true⟩,
  ⟨some 43, .mv (.t 4), some (37, true), true⟩,
  ⟨some 44, .bin .mul (.c (.int .i64 3)) (.t 43), some (37, true), true⟩,
  ⟨some 45, .mv (.t 4), some (37, true), true⟩,
  ⟨some 46, .un .neg (.t 45), some (37, true), true⟩,
  ⟨some 47, .build [.int .i64 0, .int .i64 0] [(0, 1, .t 44), (1, 1, .t 46)], some (37, true), true⟩,
  ⟨some 48, .mv (.t 4), some (37, true), true⟩,
  ⟨some 49, .bin .mul (.c (.int .i64 3)) (.t 48), some (37, true), true⟩,
  ⟨some 50, .mv (.t 4), some (37, true), true⟩,
  ⟨some 51, .build [.int .i64 0, .int .i64 0] [(0, 1, .t 49), (1, 1, .t 50)], some (37, true), true⟩,
  ⟨some 52, .mv (.t 4), some (37, true), true⟩,
  ⟨some 53, .build [.int .i64 0, .int .i64 0] [(0, 1, .c (.int .i64 0)), (1, 1, .t 52)], some (37, true), true⟩,
  ⟨some 54, .bsl 2 4 [.int .i64 0, .int .i64 0] [(0, .t 42), (1, .t 47), (2, .t 51), (3, .t 53)], some (37, true), true⟩,
  ⟨some 55, .call 36 [.t 39, .t 54], some (37, true), true⟩,
  ⟨some 56, .pick (.t 37) (.t 55) (.c (.bool false)), none, true⟩,
  ⟨some 57, .mv (.t 56), none, true⟩,
  ⟨some 58, .iaa 3 1 (.t 3) (.c (.int .i64 0)), some (57, true), true⟩,
  ⟨some 59, .load false 1 (.t 58), some (57, true), true⟩,
  ⟨some 60, .iaa 3 1 (.t 3) (.c (.int .i64 1)), some (57, true), true⟩,
  ⟨some 61, .load false 1 (.t 60), some (57, true), true⟩,
  ⟨some 62, .call 37 [.t 59, .t 61], some (57, true), true⟩,
  ⟨some 63, .pick (.t 57) (.t 62) (.c (.bool false)), none, true⟩,
  ⟨some 64, .mv (.t 63), none, true⟩,
  ⟨some 65, .iaa 3 1 (.t 3) (.c (.int .i64 0)), some (64, true), true⟩,
  ⟨some 66, .load false 1 (.t 65), some (64, true), true⟩,
  ⟨some 67, .iaa 3 1 (.t 3) (.c (.int .i64 2)), some (64, true), true⟩,
  ⟨some 68, .load false 1 (.t 67), some (64, true), true⟩,
  ⟨some 69, .call 37 [.t 66, .t 68], some (64, true), true⟩,
  ⟨some 70, .un .not (.t 69), some (64, true), true⟩,
  ⟨some 71, .pick (.t 64) (.t 70) (.c (.bool false)), none, true⟩,
  ⟨some 72, .mv (.t 71), none, true⟩,
  ⟨some 73, .iaa 4 2 (.t 2) (.c (.int .i64 1)), some (72, true), true⟩,
  ⟨some 74, .load true 2 (.t 73), some (72, true), true⟩,
  ⟨some 75, .call 64 [.t 74], some (72, true), true⟩,
  ⟨some 76, .mv (.t 4), some (72, true), true⟩,
  ⟨some 77, .bin .mul (.c (.int .i64 3)) (.t 76), some (72, true), true⟩,
  ⟨some 78, .build [.int .i64 0, .int .i64 0] [(1, 1, .t 77)], some (72, true), true⟩,
  ⟨some 79, .eqa false [0, 0] (.t 75) (.t 78), some (72, true), true⟩,
  ⟨some 80, .pick (.t 72) (.t 79) (.c (.bool false)), none, true⟩,
  ⟨some 0, .as (.t 80), none, true⟩] (some [0]) [1, 2, 3]) (
.ret)))))))))))))
/-- ambidexter/ambidextertop.quarterR14 -/
def A35 : AFn := .code [.t 4, .t 5] (
(.seq (
.reg none [
  ⟨some 3, .box (.t 1), none, true⟩,
  ⟨some 4, .as (.c (.nils 2)), none, true⟩,
  ⟨some 5, .as (.c (.bool false)), none, true⟩] (some [0, 3]) []) (
(.seq (
.reg none [
  ⟨some 9, .mv (.t 0), none, true⟩,
  ⟨some 10, .build [.int .i64 0, .int .i64 0] [], none, true⟩,
  ⟨some 11, .load true 2 (.t 3), none, true⟩,
  ⟨some 12, .call 67 [.t 10, .t 11], none, true⟩,
  ⟨some 13, .call 66 [.t 9, .t 12], none, true⟩,
  ⟨some 14, .call 65 [.t 13, .c (.int .i64 9)], none, true⟩,
  ⟨some 8, .mv (.t 14), none, true⟩,
  ⟨some 15, .ext (.t 8) 0, none, true⟩,
  ⟨some 16, .ext (.t 8) 1, none, true⟩,
  ⟨some 6, .as (.t 15), none, true⟩,
  ⟨some 7, .as (.t 16), none, true⟩] (some [3, 6, 7]) []) (
(.seq (
.reg none [
  ⟨some 17, .mv (.t 6), none, true⟩,
  ⟨some 18, .load true 2 (.t 3), none, true⟩,
  ⟨some 19, .call 66 [.t 17, .t 18], none, true⟩,
  ⟨some 20, .mv (.t 7), none, true⟩,
  ⟨some 4, .as (.t 19), none, true⟩,
  ⟨some 5, .as (.t 20), none, true⟩] (some [4, 5]) [3]) (
.ret)))))))
/-- ambidexter/polygon.Equal -/
def A36 : AFn := .code [.t 4] (
(.seq (
.reg none [
  ⟨some 4, .as (.c (.bool false)), none, true⟩] (some [0, 1]) []) (
(.seq (
.reg none [
  ⟨some 5, .mv (.t 0), none, true⟩,
  ⟨some 6, .mv (.t 1), none, true⟩,
  ⟨some 7, .call 68 [.t 5, .t 6], none, true⟩,
  ⟨some 4, .as (.t 7), none, true⟩] (some [4]) []) (
.ret)))))
/-- ambidexter/intersect.Polygons -/
def A37 : AFn := .code [.t 4] (
(.seq (
.reg none [
  ⟨some 4, .as (.c (.bool false)), none, true⟩] (some [0, 1]) []) (
(.seq (
.reg none [
  ⟨some 8, .mv (.t 0), none, true⟩,
  ⟨some 9, .mv (.t 1), none, true⟩,
  ⟨some 10, .call 69 [.t 8, .t 9], none, true⟩,
  ⟨some 7, .mv (.t 10), none, true⟩,
  ⟨some 11, .ext (.t 7) 0, none, true⟩,
  ⟨some 12, .ext (.t 7) 1, none, true⟩,
  ⟨some 5, .alloc [.int .i64 0, .int .i64 0, .int .i64 0], none, true⟩,
  ⟨none, .store 3 (.t 5) (.t 11), none, true⟩,
  ⟨some 6, .as (.t 12), none, true⟩] (some [6]) [5]) (
(.seq (
.reg none [
  ⟨some 13, .mv (.t 6), none, true⟩,
  ⟨some 4, .as (.t 13), none, true⟩] (some [4]) []) (
.ret)))))))
/-- ambidexter/ambidexterlaw27.head -/
def A38 : AFn := .code [.t 0] (
(.seq (
.reg none [
  ⟨some 0, .as (.c (.bool false)), none, true⟩] (some []) []) (
(.seq (
.reg none [
  ⟨some 11, .call 70 [], none, true⟩,
  ⟨some 1, .alloc [.int .i64 0, .int .i64 0, .int .i64 0, .int .i64 0, .int .i64 0, .int .i64 0, .int .i64 0, .int .i64 0, .int .i64 0, .int .i64 0, .int .i64 0, .int .i64 0, .int .i64 0, .int .i64 0, .int .i64 0, .int .i64 0, .int .i64 0, .int .i64 0, .int .i64 0, .int .i64 0, .int .i64 0, .int .i64 0, .int .i64 0, .int .i64 0, .int .i64 0, .int .i64 0, .int .i64 0, .int .i64 0, .int .i64 0, .int .i64 0, .nils 1, .nils 6, .nils 3, .nils 1, .int .i64 0, .int .i64 0, .int .i64 0, .int .i64 0, .int .i64 0, .int .i64 0, .int .i64 0, .nils 1, .int .i64 0, .int .i64 0], none, true⟩,
  ⟨none, .store 44 (.t 1) (.t 11), none, true⟩] (some [1]) []) (
(.seq (
.reg none [
  ⟨some 12, .build [.int .i64 0, .int .i64 0, .int .i64 0] [], none, true⟩,
  ⟨some 13, .build [.int .i64 0, .int .i64 0, .int .i64 0] [(0, 1, .c (.int .i64 108)), (1, 1, .c (.int .i64 0)), (2, 1, .c (.int .i64 0))], none, true⟩,
  ⟨some 14, .build [.int .i64 0, .int .i64 0, .int .i64 0, .int .i64 0, .int .i64 0, .int .i64 0] [(0, 3, .t 12), (3, 3, .t 13)], none, true⟩,
  ⟨some 2, .alloc [.int .i64 0, .int .i64 0, .int .i64 0, .int .i64 0, .int .i64 0, .int .i64 0], none, true⟩,
  ⟨none, .store 6 (.t 2) (.t 14), none, true⟩] (some [1, 2]) []) (
(.seq (
.reg none [
  ⟨some 15, .load true 6 (.t 2), none, true⟩,
  ⟨some 3, .alloc [.int .i64 0, .int .i64 0, .int .i64 0, .int .i64 0, .int .i64 0, .int .i64 0], none, true⟩,
  ⟨none, .store 6 (.t 3) (.t 15), none, true⟩] (some [1, 2, 3]) []) (
(.seq (
.reg none [
  ⟨some 16, .iaa 2 3 (.t 3) (.c (.int .i64 0)), none, true⟩,
  ⟨some 17, .iaa 3 1 (.t 16) (.c (.int .i64 2)), none, true⟩,
  ⟨none, .store 1 (.t 17) (.c (.int .i64 9)), none, true⟩] (some [1, 2, 3]) []) (
(.seq (
.reg none [
  ⟨some 18, .iaa 2 3 (.t 3) (.c (.int .i64 1)), none, true⟩,
  ⟨some 19, .iaa 3 1 (.t 18) (.c (.int .i64 0)), none, true⟩,
  ⟨none, .store 1 (.t 19) (.c (.int .i64 105)), none, true⟩] (some [1, 2, 3]) []) (
(.seq (
.reg none [
  ⟨some 21, .build [.int .i64 0, .int .i64 0, .int .i64 0] [(0, 1, .c (.int .i64 (-1))), (1, 1, .c (.int .i64 12)), (2, 1, .c (.int .i64 13))], none, true⟩,
  ⟨some 22, .call 39 [.t 21], none, true⟩,
  ⟨some 20, .mv (.t 22), none, true⟩,
  ⟨some 23, .ext (.t 20) 0, none, true⟩,
  ⟨some 24, .ext (.t 20) 1, none, true⟩,
  ⟨some 4, .alloc [.int .i64 0, .int .i64 0, .int .i64 0], none, true⟩,
  ⟨some 5, .alloc [.int .i64 0, .int .i64 0, .int .i64 0], none, true⟩,
  ⟨none, .store 3 (.t 4) (.t 23), none, true⟩,
  ⟨none, .store 3 (.t 5) (.t 24), none, true⟩] (some [1, 2, 3, 4, 5]) []) (
(.seq (
.reg none [
  ⟨some 25, .load true 44 (.t 1), none, true⟩,
  ⟨some 26, .load true 6 (.t 2), none, true⟩,
  ⟨some 27, .load true 6 (.t 2), none, true⟩,
  ⟨some 28, .bsl 1 1 [.bool false] [(0, .c (.bool false))], none, true⟩,
  ⟨some 29, .call 41 [.t 25, .t 26, .t 27, .t 28], none, true⟩,
  ⟨some 6, .as (.t 29), none, true⟩] (some [1, 2, 3, 4, 5, 6]) []) (
(.seq (
.reg none [
  ⟨some 30, .load true 44 (.t 1), none, true⟩,
  ⟨some 31, .load true 6 (.t 2), none, true⟩,
  ⟨some 32, .load true 6 (.t 2), none, true⟩,
  ⟨some 33, .bsl 1 1 [.bool false] [(0, .c (.bool true))], none, true⟩,
  ⟨some 34, .call 41 [.t 30, .t 31, .t 32, .t 33], none, true⟩,
  ⟨some 7, .as (.t 34), none, true⟩] (some [1, 2, 3, 4, 5, 6, 7]) []) (
(.seq (
.reg none [
  ⟨some 35, .load true 44 (.t 1), none, true⟩,
  ⟨some 36, .load true 6 (.t 2), none, true⟩,
  ⟨some 37, .load true 6 (.t 3), none, true⟩,
  ⟨some 38, .bsl 1 1 [.bool false] [(0, .c (.bool false))], none, true⟩,
  ⟨some 39, .call 41 [.t 35, .t 36, .t 37, .t 38], none, true⟩,
  ⟨some 8, .as (.t 39), none, true⟩] (some [1, 2, 3, 4, 5, 6, 7, 8]) []) (
(.seq (
.reg none [
  ⟨some 40, .load true 44 (.t 1), none, true⟩,
  ⟨some 41, .load true 6 (.t 2), none, true⟩,
  ⟨some 42, .load true 6 (.t 3), none, true⟩,
  ⟨some 43, .bsl 1 1 [.bool false] [(0, .c (.bool true))], none, true⟩,
  ⟨some 44, .call 41 [.t 40, .t 41, .t 42, .t 43], none, true⟩,
  ⟨some 9, .as (.t 44), none, true⟩] (some [1, 2, 4, 5, 6, 7, 8, 9]) [3]) (
(.seq (
.reg none [
  ⟨some 45, .fad 42 (.t 1), none, true⟩,
  ⟨none, .store 1 (.t 45) (.c (.int .i64 16)), none, true⟩] (some [1, 2, 4, 5, 6, 7, 8, 9]) []) (
(.seq (
.reg none [
  ⟨some 46, .load true 44 (.t 1), none, true⟩,
  ⟨some 47, .load true 6 (.t 2), none, true⟩,
  ⟨some 48, .load true 6 (.t 2), none, true⟩,
  ⟨some 49, .bsl 1 1 [.bool false] [(0, .c (.bool false))], none, true⟩,
  ⟨some 50, .call 41 [.t 46, .t 47, .t 48, .t 49], none, true⟩,
  ⟨some 10, .as (.t 50), none, true⟩] (some [1, 2, 4, 5, 6, 7, 8, 9, 10]) []) (
(.seq (
.reg none [
  ⟨some 51, .load true 3 (.t 4), none, true⟩,
  ⟨some 52, .build [.int .i64 0, .int .i64 0, .int .i64 0] [(0, 1, .c (.int .i64 (-1))), (1, 1, .c (.int .i64 1)), (2, 1, .c (.int .i64 1))], none, true⟩,
  ⟨some 53, .eqa false [0, 0, 0] (.t 51) (.t 52), none, true⟩,
  ⟨some 54, .mv (.t 53), none, true⟩,
  ⟨some 55, .load true 3 (.t 5), some (54, true), true⟩,
  ⟨some 56, .build [.int .i64 0, .int .i64 0, .int .i64 0] [(0, 1, .c (.int .i64 0)), (1, 1, .c (.int .i64 1)), (2, 1, .c (.int .i64 2))], some (54, true), true⟩,
  ⟨some 57, .eqa false [0, 0, 0] (.t 55) (.t 56), some (54, true), true⟩,
  ⟨some 58, .pick (.t 54) (.t 57) (.c (.bool false)), none, true⟩,
  ⟨some 59, .mv (.t 58), none, true⟩,
  ⟨some 60, .mv (.t 6), some (59, true), true⟩,
  ⟨some 61, .len 0 (.t 60), some (59, true), true⟩,
  ⟨some 62, .bin .eql (.t 61) (.c (.int .i64 0)), some (59, true), true⟩,
  ⟨some 63, .pick (.t 59) (.t 62) (.c (.bool false)), none, true⟩,
  ⟨some 64, .mv (.t 63), none, true⟩,
  ⟨some 65, .mv (.t 7), some (64, true), true⟩,
  ⟨some 66, .build [.int .i64 0, .int .i64 0, .int .i64 0, .int .i64 0] [(0, 1, .c (.int .i64 3))], some (64, true), true⟩,
  ⟨some 67, .build [.int .i64 0, .int .i64 0, .int .i64 0, .int .i64 0] [(0, 1, .c (.int .i64 4))], some (64, true), true⟩,
  ⟨some 68, .bsl 4 2 [.int .i64 0, .int .i64 0, .int .i64 0, .int .i64 0] [(0, .t 66), (1, .t 67)], some (64, true), true⟩,
  ⟨some 69, .call 71 [.t 65, .t 68], some (64, true), true⟩,
  ⟨some 70, .pick (.t 64) (.t 69) (.c (.bool false)), none, true⟩,
  ⟨some 71, .mv (.t 70), none, true⟩,
  ⟨some 72, .mv (.t 8), some (71, true), true⟩,
  ⟨some 73, .build [.int .i64 0, .int .i64 0, .int .i64 0, .int .i64 0] [(0, 1, .c (.int .i64 1)), (2, 1, .c (.int .i64 2))], some (71, true), true⟩,
  ⟨some 74, .bsl 4 1 [.int .i64 0, .int .i64 0, .int .i64 0, .int .i64 0] [(0, .t 73)], some (71, true), true⟩,
  ⟨some 75, .call 71 [.t 72, .t 74], some (71, true), true⟩,
  ⟨some 76, .pick (.t 71) (.t 75) (.c (.bool false)), none, true⟩,
  ⟨some 77, .mv (.t 76), none, true⟩,
  ⟨some 78, .mv (.t 9), some (77, true), true⟩,
  ⟨some 79, .build [.int .i64 0, .int .i64 0, .int .i64 0, .int .i64 0] [(0, 1, .c (.int .i64 1)), (2, 1, .c (.int .i64 2))], some (77, true), true⟩,
  ⟨some 80, .build [.int .i64 0, .int .i64 0, .int .i64 0, .int .i64 0] [(0, 1, .c (.int .i64 1)), (1, 1, .c (.int .i64 1))], some (77, true), true⟩,
  ⟨some 81, .build [.int .i64 0, .int .i64 0, .int .i64 0, .int .i64 0] [(0, 1, .c (.int .i64 3))], some (77, true), true⟩,
  ⟨some 82, .build [.int .i64 0, .int .i64 0, .int .i64 0, .int .i64 0] [(0, 1, .c (.int .i64 4))], some (77, true), true⟩,
  ⟨some 83, .bsl 4 4 [.int .i64 0, .int .i64 0, .int .i64 0, .int .i64 0] [(0, .t 79), (1, .t 80), (2, .t 81), (3, .t 82)], some (77, true), true⟩,
  ⟨some 84, .call 71 [.t 78, .t 83], some (77, true), true⟩,
  ⟨some 85, .pick (.t 77) (.t 84) (.c (.bool false)), none, true⟩,
  ⟨some 86, .mv (.t 85), none, true⟩,
  ⟨some 87, .load true 44 (.t 1), some (86, true), true⟩,
  ⟨some 88, .load true 6 (.t 2), some (86, true), true⟩,
  ⟨some 89, .call 44 [.t 87, .t 88], some (86, true), true⟩,
  ⟨some 90, .un .not (.t 89), some (86, true), true⟩,
  ⟨some 91, .pick (.t 86) (.t 90) (.c (.bool false)), none, true⟩,
  ⟨some 92, .mv (.t 91), none, true⟩,
  ⟨some 93, .mv (.t 10), some (92, true), true⟩,
  ⟨some 94, .build [.int .i64 0, .int .i64 0, .int .i64 0, .int .i64 0] [(0, 1, .c (.int .i64 2))], some (92, true), true⟩,
  ⟨some 95, .bsl 4 1 [.int .i64 0, .int .i64 0, .int .i64 0, .int .i64 0] [(0, .t 94)], some (92, true), true⟩,
  ⟨some 96, .call 71 [.t 93, .t 95], some (92, true), true⟩,
  ⟨some 97, .pick (.t 92) (.t 96) (.c (.bool false)), none, true⟩,
  ⟨some 0, .as (.t 97), none, true⟩] (some [0]) [1, 2, 4, 5]) (
.ret)))))))))))))))))))))))))))))
def A39_L0b : ACode := 
  (.seq (
  .reg none [
    ⟨some 10, .bin .lss (.t 9) (.c (.int .i64 3)), none, true⟩] (some [2, 3, 4, 5, 8, 9, 10]) []) (
  (.seq (
  (.cond (.t 10) (
    .skip) (
    .exit 0))) (
  (.seq (
  (.block 1 (
  (.seq (
  .reg none [
    ⟨some 11, .mv (.t 9), none, true⟩,
    ⟨some 12, .ixa false 3 1 (.t 8) (.t 9), none, true⟩,
    ⟨some 6, .as (.t 11), none, true⟩,
    ⟨some 7, .as (.t 12), none, true⟩] (some [2, 3, 4, 5, 6, 7, 8, 9]) []) (
  .reg (some [.dr [16, 19] [], .dr [16, 19] [], .dr [] [], .dr [] [], .dr [16] [], .dr [16] [], .dr [] [], .dr [] [], .dr [19] [], .dr [] [], .free, .free]) [
    ⟨some 13, .mv (.t 6), none, true⟩,
    ⟨some 14, .mv (.t 6), none, true⟩,
    ⟨some 15, .mv (.t 7), none, true⟩,
    ⟨some 16, .call 72 [.t 15, .c (.int .i64 12)], none, true⟩,
    ⟨some 17, .mv (.t 7), none, true⟩,
    ⟨some 18, .un .neg (.t 17), none, true⟩,
    ⟨some 19, .call 72 [.t 18, .c (.int .i64 12)], none, true⟩,
    ⟨some 20, .un .neg (.t 19), none, true⟩,
    ⟨some 21, .iaa 3 1 (.t 4) (.t 13), none, true⟩,
    ⟨none, .store 1 (.t 21) (.t 16), none, true⟩,
    ⟨some 22, .iaa 3 1 (.t 5) (.t 14), none, true⟩,
    ⟨none, .store 1 (.t 22) (.t 20), none, true⟩] (some [2, 3, 4, 5, 8, 9]) []))) (some [2, 3, 4, 5, 8, 9]) [6, 7, 16, 19])) (
  .reg none [
    ⟨some 23, .bin .add (.t 9) (.c (.int .i64 1)), none, true⟩,
    ⟨some 9, .mv (.t 23), none, true⟩] (some [2, 3, 4, 5, 8, 9]) []))))))
def A39_L0 : ACode := .loop A39_L0b (some [2, 3, 4, 5, 8, 9]) [6, 7, 16, 19]
/-- ambidexter/monitor.BracketingJoints -/
def A39 : AFn := .code [.cell true 3 2, .cell true 3 3] (
(.seq (
.reg none [
  ⟨some 1, .box (.t 0), none, true⟩,
  ⟨some 2, .alloc [.int .i64 0, .int .i64 0, .int .i64 0], none, true⟩,
  ⟨some 3, .alloc [.int .i64 0, .int .i64 0, .int .i64 0], none, true⟩] (some [1, 2, 3]) []) (
(.seq (
.reg none [
  ⟨some 4, .alloc [.int .i64 0, .int .i64 0, .int .i64 0], none, true⟩,
  ⟨some 5, .alloc [.int .i64 0, .int .i64 0, .int .i64 0], none, true⟩] (some [1, 2, 3, 4, 5]) []) (
(.seq (
(.seq (
.reg none [
  ⟨some 8, .load true 3 (.t 1), none, true⟩,
  ⟨some 9, .mv (.c (.int .i64 0)), none, true⟩] (some [2, 3, 4, 5, 8, 9]) [1]) (
(.block 0 (
A39_L0) (some [2, 3, 4, 5]) [6, 7, 16, 19])))) (
(.seq (
.reg (some [.dr [25] [], .dr [24] [2], .dr [25] [], .free]) [
  ⟨some 24, .load true 3 (.t 4), none, true⟩,
  ⟨some 25, .load true 3 (.t 5), none, true⟩,
  ⟨none, .store 3 (.t 2) (.t 24), none, true⟩,
  ⟨none, .store 3 (.t 3) (.t 25), none, true⟩] (some [2, 3]) [4, 5]) (
.ret)))))))))
/-- ambidexter/ambidexterlaw27.Fits -/
def A40 : AFn := .code [.t 6] (
(.seq (
.reg none [
  ⟨some 3, .box (.t 0), none, true⟩,
  ⟨some 4, .box (.t 1), none, true⟩,
  ⟨some 6, .as (.c (.bool false)), none, true⟩] (some [2, 3, 4]) []) (
(.seq (
(.seq (
.reg none [
  ⟨some 7, .fad 30 (.t 3), none, true⟩,
  ⟨some 8, .load false 1 (.t 7), none, true⟩,
  ⟨some 9, .len 0 (.t 8), none, true⟩,
  ⟨some 10, .bin .gtr (.t 9) (.c (.int .i64 16)), none, true⟩,
  ⟨some 11, .mv (.t 10), none, true⟩,
  ⟨some 12, .fad 41 (.t 3), some (11, false), true⟩,
  ⟨some 13, .load false 1 (.t 12), some (11, false), true⟩,
  ⟨some 14, .len 0 (.t 13), some (11, false), true⟩,
  ⟨some 15, .bin .gtr (.t 14) (.c (.int .i64 16)), some (11, false), true⟩,
  ⟨some 16, .pick (.t 11) (.c (.bool true)) (.t 15), none, true⟩,
  ⟨some 17, .mv (.t 16), none, true⟩,
  ⟨some 18, .fad 31 (.t 3), some (17, false), true⟩,
  ⟨some 19, .load false 1 (.t 18), some (17, false), true⟩,
  ⟨some 20, .len 0 (.t 19), some (17, false), true⟩,
  ⟨some 21, .bin .gtr (.t 20) (.c (.int .i64 16)), some (17, false), true⟩,
  ⟨some 22, .pick (.t 17) (.c (.bool true)) (.t 21), none, true⟩,
  ⟨some 23, .mv (.t 22), none, true⟩,
  ⟨some 24, .fad 32 (.t 3), some (23, false), true⟩,
  ⟨some 25, .load false 1 (.t 24), some (23, false), true⟩,
  ⟨some 26, .len 0 (.t 25), some (23, false), true⟩,
  ⟨some 27, .bin .gtr (.t 26) (.c (.int .i64 8)), some (23, false), true⟩,
  ⟨some 28, .pick (.t 23) (.c (.bool true)) (.t 27), none, true⟩,
  ⟨some 29, .mv (.t 28), none, true⟩,
  ⟨some 30, .fad 33 (.t 3), some (29, false), true⟩,
  ⟨some 31, .load false 1 (.t 30), some (29, false), true⟩,
  ⟨some 32, .len 0 (.t 31), some (29, false), true⟩,
  ⟨some 33, .bin .gtr (.t 32) (.c (.int .i64 16)), some (29, false), true⟩,
  ⟨some 34, .pick (.t 29) (.c (.bool true)) (.t 33), none, true⟩] (some [2, 3, 4, 34]) []) (
(.cond (.t 34) (
  (.seq (
  .reg none [
    ⟨some 6, .as (.c (.bool false)), none, true⟩] (some [6]) []) (
  .ret))) (
  .skip))))) (
(.seq (
.reg none [
  ⟨some 35, .load true 44 (.t 3), none, true⟩,
  ⟨some 36, .call 73 [.t 35], none, true⟩,
  ⟨some 37, .mv (.t 36), none, true⟩,
  ⟨some 38, .mv (.t 2), some (37, true), true⟩,
  ⟨some 39, .len 0 (.t 38), some (37, true), true⟩,
  ⟨some 40, .fad 41 (.t 3), some (37, true), true⟩,
  ⟨some 41, .load false 1 (.t 40), some (37, true), true⟩,
  ⟨some 42, .len 0 (.t 41), some (37, true), true⟩,
  ⟨some 43, .bin .eql (.t 39) (.t 42), some (37, true), true⟩,
  ⟨some 44, .pick (.t 37) (.t 43) (.c (.bool false)), none, true⟩,
  ⟨some 45, .mv (.t 44), none, true⟩,
  ⟨some 46, .fad 0 (.t 3), some (45, true), true⟩,
  ⟨some 47, .iaa 2 12 (.t 46) (.c (.int .i64 0)), some (45, true), true⟩,
  ⟨some 48, .load true 12 (.t 47), some (45, true), true⟩,
  ⟨some 49, .iaa 2 3 (.t 4) (.c (.int .i64 0)), some (45, true), true⟩,
  ⟨some 50, .load true 3 (.t 49), some (45, true), true⟩,
  ⟨some 51, .call 74 [.t 48, .t 50], some (45, true), true⟩,
  ⟨some 52, .pick (.t 45) (.t 51) (.c (.bool false)), none, true⟩,
  ⟨some 53, .mv (.t 52), none, true⟩,
  ⟨some 54, .fad 0 (.t 3), some (53, true), true⟩,
  ⟨some 55, .iaa 2 12 (.t 54) (.c (.int .i64 1)), some (53, true), true⟩,
  ⟨some 56, .load true 12 (.t 55), some (53, true), true⟩,
  ⟨some 57, .iaa 2 3 (.t 4) (.c (.int .i64 1)), some (53, true), true⟩,
  ⟨some 58, .load true 3 (.t 57), some (53, true), true⟩,
  ⟨some 59, .call 74 [.t 56, .t 58], some (53, true), true⟩,
  ⟨some 60, .pick (.t 53) (.t 59) (.c (.bool false)), none, true⟩,
  ⟨some 6, .as (.t 60), none, true⟩] (some [6]) [3, 4]) (
.ret)))))))
def A41_L0b : ACode := 
  (.seq (
  .reg none [
    ⟨some 15, .bin .lss (.t 14) (.t 13), none, true⟩] (some [3, 4, 5, 6, 9, 12, 13, 14, 15]) []) (
  (.seq (
  (.cond (.t 15) (
    .skip) (
    .exit 0))) (
  (.seq (
  (.block 1 (
  (.seq (
  .reg none [
    ⟨some 16, .ias 1 (.t 12) (.t 14), none, true⟩,
    ⟨some 17, .load false 1 (.t 16), none, true⟩,
    ⟨some 11, .as (.t 17), none, true⟩] (some [3, 4, 5, 6, 9, 11, 12, 13, 14]) []) (
  .reg none [
    ⟨some 18, .mv (.t 9), none, true⟩,
    ⟨some 19, .mv (.t 11), none, true⟩,
    ⟨some 20, .load true 44 (.t 4), none, true⟩,
    ⟨some 21, .load true 6 (.t 5), none, true⟩,
    ⟨some 22, .load true 6 (.t 6), none, true⟩,
    ⟨some 23, .mv (.t 3), none, true⟩,
    ⟨some 24, .build [.int .i64 0, .int .i64 0, .int .i64 0, .int .i64 0, .int .i64 0, .int .i64 0, .int .i64 0, .int .i64 0, .int .i64 0, .int .i64 0, .int .i64 0, .int .i64 0, .int .i64 0, .int .i64 0, .int .i64 0, .int .i64 0, .int .i64 0, .int .i64 0, .int .i64 0, .int .i64 0, .int .i64 0, .int .i64 0, .int .i64 0, .int .i64 0, .int .i64 0, .int .i64 0, .int .i64 0, .int .i64 0, .int .i64 0, .int .i64 0, .nils 1, .nils 6, .nils 3, .nils 1, .int .i64 0, .int .i64 0, .int .i64 0, .int .i64 0, .int .i64 0, .int .i64 0, .int .i64 0, .nils 1, .int .i64 0, .int .i64 0, .int .i64 0, .int .i64 0, .int .i64 0, .int .i64 0, .int .i64 0, .int .i64 0, .int .i64 0, .int .i64 0, .int .i64 0, .int .i64 0, .int .i64 0, .int .i64 0, .nils 1] [(0, 44, .t 20), (44, 6, .t 21), (50, 6, .t 22), (56, 1, .t 23)], none, true⟩,
    ⟨some 25, .cal (.t 19) [.t 24], none, true⟩,
    ⟨some 26, .app 4 (.t 18) (.t 25), none, true⟩,
    ⟨some 9, .as (.t 26), none, true⟩] (some [3, 4, 5, 6, 9, 12, 13, 14]) []))) (some [3, 4, 5, 6, 9, 12, 13, 14]) [11, 25])) (
  .reg none [
    ⟨some 27, .bin .add (.t 14) (.c (.int .i64 1)), none, true⟩,
    ⟨some 14, .mv (.t 27), none, true⟩] (some [3, 4, 5, 6, 9, 12, 13, 14]) []))))))
def A41_L0 : ACode := .loop A41_L0b (some [3, 4, 5, 6, 9, 12, 13, 14]) [11, 25]
/-- ambidexter/monitor.Violations -/
def A41 : AFn := .code [.t 8] (
(.seq (
.reg none [
  ⟨some 4, .box (.t 0), none, true⟩,
  ⟨some 5, .box (.t 1), none, true⟩,
  ⟨some 6, .box (.t 2), none, true⟩,
  ⟨some 8, .as (.c (.nils 4)), none, true⟩] (some [3, 4, 5, 6]) []) (
(.seq (
.reg none [
  ⟨some 9, .as (.c (.nils 4)), none, true⟩] (some [3, 4, 5, 6, 9]) []) (
(.seq (
(.seq (
.reg none [
  ⟨some 12, .bsl 1 4 [.nilf] [(0, .fu 75), (1, .fu 76), (2, .fu 77), (3, .fu 78)], none, true⟩,
  ⟨some 13, .len 0 (.t 12), none, true⟩,
  ⟨some 14, .mv (.c (.int .i64 0)), none, true⟩] (some [3, 4, 5, 6, 9, 12, 13, 14]) []) (
(.block 0 (
A41_L0) (some [9]) [11, 25])))) (
(.seq (
.reg none [
  ⟨some 28, .mv (.t 9), none, true⟩,
  ⟨some 8, .as (.t 28), none, true⟩] (some [8]) []) (
.ret)))))))))
def A42_L0b : ACode := 
  (.seq (
  (.seq (
  .reg none [
    ⟨some 4, .mv (.t 3), none, true⟩,
    ⟨some 5, .mv (.t 0), none, true⟩,
    ⟨some 6, .len 0 (.t 5), none, true⟩,
    ⟨some 7, .bin .lss (.t 4) (.t 6), none, true⟩] (some [0, 3, 7]) []) (
  (.cond (.t 7) (
    .skip) (
    .exit 0))))) (
  (.seq (
  (.block 1 (
  (.seq (
  .reg none [
    ⟨some 10, .mv (.t 0), none, true⟩,
    ⟨some 11, .mv (.t 3), none, true⟩,
    ⟨some 12, .ias 1 (.t 10) (.t 11), none, true⟩,
    ⟨some 13, .load false 1 (.t 12), none, true⟩] (some [0, 3, 13]) []) (
  (.cond (.t 13) (
    (.seq (
    .reg none [
      ⟨some 2, .as (.c (.bool true)), none, true⟩] (some [2]) []) (
    .ret))) (
    .skip))))) (some [0, 3]) [2])) (
  .reg none [
    ⟨some 8, .mv (.t 3), none, true⟩,
    ⟨some 9, .bin .add (.t 8) (.c (.int .i64 1)), none, true⟩,
    ⟨some 3, .as (.t 9), none, true⟩] (some [0, 3]) []))))
def A42_L0 : ACode := .loop A42_L0b (some [0, 3]) [2]
/-- ambidexter/ambidexterref27.Any -/
def A42 : AFn := .code [.t 2] (
(.seq (
.reg none [
  ⟨some 2, .as (.c (.bool false)), none, true⟩] (some [0]) []) (
(.seq (
(.seq (
.reg none [
  ⟨some 3, .as (.c (.int .i64 0)), none, true⟩] (some [0, 3]) []) (
(.block 0 (
A42_L0) (some []) [2, 3])))) (
(.seq (
.reg none [
  ⟨some 2, .as (.c (.bool false)), none, true⟩] (some [2]) []) (
.ret)))))))
def A43_L0b : ACode := 
  (.seq (
  (.seq (
  .reg none [
    ⟨some 6, .mv (.t 5), none, true⟩,
    ⟨some 7, .mv (.t 0), none, true⟩,
    ⟨some 8, .len 0 (.t 7), none, true⟩,
    ⟨some 9, .bin .lss (.t 6) (.t 8), none, true⟩] (some [0, 3, 5, 9]) []) (
  (.cond (.t 9) (
    .skip) (
    .exit 0))))) (
  (.seq (
  (.block 1 (
  (.seq (
  .reg (some [.dr [16] [], .dr [16] [], .dr [16] [], .dr [16] [], .dr [14, 15] [], .free]) [
    ⟨some 12, .mv (.t 0), none, true⟩,
    ⟨some 13, .mv (.t 5), none, true⟩,
    ⟨some 14, .ias 4 (.t 12) (.t 13), none, true⟩,
    ⟨some 15, .load true 4 (.t 14), none, true⟩,
    ⟨some 16, .load true 4 (.t 3), none, true⟩,
    ⟨some 17, .eqa false [0, 0, 0, 0] (.t 15) (.t 16), none, true⟩] (some [0, 3, 5, 17]) []) (
  (.cond (.t 17) (
    (.seq (
    .reg none [
      ⟨some 4, .as (.c (.bool true)), none, true⟩] (some [4]) []) (
    .ret))) (
    .skip))))) (some [0, 3, 5]) [4])) (
  .reg none [
    ⟨some 10, .mv (.t 5), none, true⟩,
    ⟨some 11, .bin .add (.t 10) (.c (.int .i64 1)), none, true⟩,
    ⟨some 5, .as (.t 11), none, true⟩] (some [0, 3, 5]) []))))
def A43_L0 : ACode := .loop A43_L0b (some [0, 3, 5]) [4]
/-- ambidexter/ambidexterref27.Has -/
def A43 : AFn := .code [.t 4] (
(.seq (
.reg none [
  ⟨some 3, .box (.t 1), none, true⟩,
  ⟨some 4, .as (.c (.bool false)), none, true⟩] (some [0, 3]) []) (
(.seq (
(.seq (
.reg none [
  ⟨some 5, .as (.c (.int .i64 0)), none, true⟩] (some [0, 3, 5]) []) (
(.block 0 (
A43_L0) (some []) [4, 5])))) (
(.seq (
.reg none [
  ⟨some 4, .as (.c (.bool false)), none, true⟩] (some [4]) []) (
.ret)))))))
def A44_R0a : ACode := 
    .reg none [
      ⟨some 6, .as (.t 20), none, true⟩] (some [2, 4, 5, 6]) []
def A44_R0b : ACode := 
    (.block 3 (
    (.seq (
    .reg (some [.dr [25] [], .dr [21, 25] [], .dr [25] [], .dr [21, 23] [], .dr [21, 23] [], .dr [21, 23] [], .free]) [
      ⟨some 21, .load false 1 (.t 5), none, true⟩,
      ⟨some 22, .mv (.t 6), none, true⟩,
      ⟨some 23, .call 80 [.t 21, .t 22], none, true⟩,
      ⟨some 24, .fad 42 (.t 2), none, true⟩,
      ⟨some 25, .load false 1 (.t 24), none, true⟩,
      ⟨some 26, .bin .mul (.t 25) (.c (.int .i64 4394000)), none, true⟩,
      ⟨some 27, .bin .lss (.t 23) (.t 26), none, true⟩] (some [4, 27]) [2, 5]) (
    (.cond (.t 27) (
      (.seq (
      .reg none [
        ⟨none, .store 1 (.t 4) (.c (.bool false)), none, true⟩] (some []) []) (
      .ret))) (
      .skip))))) (some []) [23])
def A44_R0 : ACode := .rf 1 (.t 19) [20]  A44_R0a A44_R0b
def A44_R1a : ACode := 
  .reg none [
    ⟨some 5, .alloc [.nils 2], none, true⟩,
    ⟨none, .store 1 (.t 5) (.t 13), none, true⟩] (some [2, 3, 4, 5]) []
def A44_R1b : ACode := 
  (.block 1 (
  (.seq (
  .reg none [
    ⟨some 14, .fad 0 (.t 2), none, true⟩,
    ⟨some 15, .iaa 2 12 (.t 14) (.c (.int .i64 1)), none, true⟩,
    ⟨some 16, .load true 12 (.t 15), none, true⟩,
    ⟨some 17, .iaa 2 3 (.t 3) (.c (.int .i64 1)), none, true⟩,
    ⟨some 18, .load true 3 (.t 17), none, true⟩,
    ⟨some 19, .call 79 [.t 16, .t 18], none, true⟩] (some [2, 4, 5, 19]) [3]) (
  (.block 2 (
  A44_R0) (some []) [6, 23])))) (some []) [6, 19, 23])
def A44_R1 : ACode := .rf 0 (.t 12) [13]  A44_R1a A44_R1b
/-- ambidexter/monitor.KeepsDistance -/
def A44 : AFn := .code [.cell false 1 4] (
(.seq (
.reg none [
  ⟨some 2, .box (.t 0), none, true⟩,
  ⟨some 3, .box (.t 1), none, true⟩,
  ⟨some 4, .alloc [.bool false], none, true⟩] (some [2, 3, 4]) []) (
(.seq (
(.seq (
.reg none [
  ⟨some 7, .fad 0 (.t 2), none, true⟩,
  ⟨some 8, .iaa 2 12 (.t 7) (.c (.int .i64 0)), none, true⟩,
  ⟨some 9, .load true 12 (.t 8), none, true⟩,
  ⟨some 10, .iaa 2 3 (.t 3) (.c (.int .i64 0)), none, true⟩,
  ⟨some 11, .load true 3 (.t 10), none, true⟩,
  ⟨some 12, .call 79 [.t 9, .t 11], none, true⟩] (some [2, 3, 4, 12]) []) (
(.block 0 (
A44_R1) (some [4]) [5, 6, 19, 23])))) (
(.seq (
.reg none [
  ⟨none, .store 1 (.t 4) (.c (.bool true)), none, true⟩] (some [4]) []) (
.ret)))))))
/-- ambidexter/ambidexterlaw07.One -/
def A45 : AFn := .code [.cell true 12 0] (
(.seq (
.reg none [
  ⟨some 0, .alloc [.int .i64 0, .int .i64 0, .int .i64 0, .int .i64 0, .int .i64 0, .int .i64 0, .int .i64 0, .int .i64 0, .int .i64 0, .int .i64 0, .int .i64 0, .int .i64 0], none, true⟩] (some [0]) []) (
(.seq (
.reg none [
  ⟨some 1, .build [.int .i64 0, .int .i64 0, .int .i64 0] [(0, 1, .c (.int .i64 1)), (1, 1, .c (.int .i64 1)), (2, 1, .c (.int .i64 1))], none, true⟩,
  ⟨some 2, .build [.int .i64 0, .int .i64 0, .int .i64 0] [(0, 1, .c (.int .i64 (-17))), (1, 1, .c (.int .i64 (-17))), (2, 1, .c (.int .i64 (-17)))], none, true⟩,
  ⟨some 3, .build [.int .i64 0, .int .i64 0, .int .i64 0] [(0, 1, .c (.int .i64 18)), (1, 1, .c (.int .i64 18)), (2, 1, .c (.int .i64 18))], none, true⟩,
  ⟨some 4, .build [.int .i64 0, .int .i64 0, .int .i64 0, .int .i64 0, .int .i64 0, .int .i64 0, .int .i64 0, .int .i64 0, .int .i64 0, .int .i64 0, .int .i64 0, .int .i64 0] [(2, 3, .t 1), (5, 1, .c (.int .i64 1)), (6, 3, .t 2), (9, 3, .t 3)], none, true⟩,
  ⟨none, .store 12 (.t 0) (.t 4), none, true⟩] (some [0]) []) (
.ret)))))
/-- ambidexter/ambidexterref07.far -/
def A46 : AFn := .code [.t 2] (
(.seq (
.reg none [
  ⟨some 1, .box (.t 0), none, true⟩,
  ⟨some 2, .as (.c (.bool false)), none, true⟩] (some [1]) []) (
(.seq (
.reg none [
  ⟨some 3, .fad 0 (.t 1), none, true⟩,
  ⟨some 4, .fad 0 (.t 3), none, true⟩,
  ⟨some 5, .load false 1 (.t 4), none, true⟩,
  ⟨some 6, .bin .gtr (.t 5) (.c (.int .i64 1000000000)), none, true⟩,
  ⟨some 7, .mv (.t 6), none, true⟩,
  ⟨some 8, .fad 0 (.t 1), some (7, false), true⟩,
  ⟨some 9, .fad 0 (.t 8), some (7, false), true⟩,
  ⟨some 10, .load false 1 (.t 9), some (7, false), true⟩,
  ⟨some 11, .bin .lss (.t 10) (.c (.int .i64 (-1000000000))), some (7, false), true⟩,
  ⟨some 12, .pick (.t 7) (.c (.bool true)) (.t 11), none, true⟩,
  ⟨some 13, .mv (.t 12), none, true⟩,
  ⟨some 14, .fad 0 (.t 1), some (13, false), true⟩,
  ⟨some 15, .fad 1 (.t 14), some (13, false), true⟩,
  ⟨some 16, .load false 1 (.t 15), some (13, false), true⟩,
  ⟨some 17, .bin .gtr (.t 16) (.c (.int .i64 1000000000)), some (13, false), true⟩,
  ⟨some 18, .pick (.t 13) (.c (.bool true)) (.t 17), none, true⟩,
  ⟨some 19, .mv (.t 18), none, true⟩,
  ⟨some 20, .fad 0 (.t 1), some (19, false), true⟩,
  ⟨some 21, .fad 1 (.t 20), some (19, false), true⟩,
  ⟨some 22, .load false 1 (.t 21), some (19, false), true⟩,
  ⟨some 23, .bin .lss (.t 22) (.c (.int .i64 (-1000000000))), some (19, false), true⟩,
  ⟨some 24, .pick (.t 19) (.c (.bool true)) (.t 23), none, true⟩,
  ⟨some 2, .as (.t 24), none, true⟩] (some [2]) [1]) (
.ret)))))
/-- ambidexter/ambidexterref07.size -/
def A47 : AFn := .code [.t 2] (
(.seq (
.reg none [
  ⟨some 2, .as (.c (.int .i64 0)), none, true⟩] (some [0]) []) (
(.seq (
(.seq (
.reg none [
  ⟨some 3, .mv (.t 0), none, true⟩,
  ⟨some 4, .bin .lss (.t 3) (.c (.int .i64 0)), none, true⟩] (some [0, 4]) []) (
(.cond (.t 4) (
  (.seq (
  .reg none [
    ⟨some 5, .mv (.t 0), none, true⟩,
    ⟨some 6, .un .neg (.t 5), none, true⟩,
    ⟨some 2, .as (.t 6), none, true⟩] (some [2]) []) (
  .ret))) (
  .skip))))) (
(.seq (
.reg none [
  ⟨some 7, .mv (.t 0), none, true⟩,
  ⟨some 2, .as (.t 7), none, true⟩] (some [2]) []) (
.ret)))))))
/-- (ambidexter/arm.posed).link -/
def A48 : AFn := .code [.t 8] (
(.seq (
.reg none [
  ⟨some 4, .box (.t 0), none, true⟩,
  ⟨some 5, .box (.t 1), none, true⟩,
  ⟨some 6, .box (.t 2), none, true⟩,
  ⟨some 7, .box (.t 3), none, true⟩,
  ⟨some 8, .as (.c (.nils 2)), none, true⟩] (some [4, 5, 6, 7]) []) (
(.seq (
.reg none [
  ⟨some 10, .load true 3 (.t 5), none, true⟩,
  ⟨some 11, .fad 0 (.t 4), none, true⟩,
  ⟨some 12, .fad 5 (.t 11), none, true⟩,
  ⟨some 13, .load false 1 (.t 12), none, true⟩,
  ⟨some 14, .call 55 [.t 10, .t 13], none, true⟩,
  ⟨some 15, .call 64 [.t 14], none, true⟩,
  ⟨some 9, .alloc [.int .i64 0, .int .i64 0], none, true⟩,
  ⟨none, .store 2 (.t 9) (.t 15), none, true⟩] (some [6, 7, 9]) [4, 5]) (
(.seq (
.reg (some [.dr [17, 19, 20, 22, 23, 25, 26] [], .dr [16, 19, 20, 22, 23, 25, 26] [], .dr [19, 20, 22, 23, 25, 26] [], .dr [16, 17, 18, 20, 22, 23, 25, 26] [], .dr [16, 17, 18, 19, 22, 23, 25, 26] [], .dr [22, 23, 25, 26] [], .dr [16, 17, 18, 19, 20, 21, 23, 25, 26] [], .dr [16, 17, 18, 19, 20, 21, 22, 25, 26] [], .dr [25, 26] [], .dr [16, 17, 18, 19, 20, 21, 22, 23, 24, 26] [], .dr [16, 17, 18, 19, 20, 21, 22, 23, 24, 25] [], .free, .free, .free]) [
  ⟨some 16, .load true 2 (.t 6), none, true⟩,
  ⟨some 17, .load true 2 (.t 9), none, true⟩,
  ⟨some 18, .call 67 [.t 16, .t 17], none, true⟩,
  ⟨some 19, .load true 2 (.t 7), none, true⟩,
  ⟨some 20, .load true 2 (.t 9), none, true⟩,
  ⟨some 21, .call 67 [.t 19, .t 20], none, true⟩,
  ⟨some 22, .load true 2 (.t 7), none, true⟩,
  ⟨some 23, .load true 2 (.t 9), none, true⟩,
  ⟨some 24, .call 54 [.t 22, .t 23], none, true⟩,
  ⟨some 25, .load true 2 (.t 6), none, true⟩,
  ⟨some 26, .load true 2 (.t 9), none, true⟩,
  ⟨some 27, .call 54 [.t 25, .t 26], none, true⟩,
  ⟨some 28, .bsl 2 4 [.int .i64 0, .int .i64 0] [(0, .t 18), (1, .t 21), (2, .t 24), (3, .t 27)], none, true⟩,
  ⟨some 8, .as (.t 28), none, true⟩] (some [8]) [6, 7, 9]) (
.ret)))))))
/-- ambidexter/ambidexterref01.Fine -/
def A49 : AFn := .code [.cell true 2 4] (
(.seq (
.reg none [
  ⟨some 2, .box (.t 0), none, true⟩,
  ⟨some 4, .alloc [.int .i64 0, .int .i64 0], none, true⟩] (some [1, 2, 4]) []) (
(.seq (
.reg none [
  ⟨some 6, .fad 2 (.t 2), none, true⟩,
  ⟨some 7, .load false 1 (.t 6), none, true⟩,
  ⟨some 8, .call 81 [.t 7], none, true⟩,
  ⟨some 5, .as (.t 8), none, true⟩] (some [1, 2, 4, 5]) []) (
(.seq (
.reg (some [.dr [14, 21] [], .dr [14, 21] [], .dr [14, 21] [], .dr [14, 21] [], .dr [21] [], .dr [21] [], .dr [21] [], .dr [14, 21] [], .dr [14, 21] [], .dr [14, 21] [], .dr [14, 21] [], .dr [14] [], .dr [14] [], .dr [14] [], .free, .free]) [
  ⟨some 9, .mv (.t 1), none, true⟩,
  ⟨some 10, .mv (.t 5), none, true⟩,
  ⟨some 11, .bin .quo (.c (.int .i64 4394000)) (.t 10), none, true⟩,
  ⟨some 12, .bin .mul (.t 9) (.t 11), none, true⟩,
  ⟨some 13, .fad 0 (.t 2), none, true⟩,
  ⟨some 14, .load false 1 (.t 13), none, true⟩,
  ⟨some 15, .bin .mul (.t 12) (.t 14), none, true⟩,
  ⟨some 16, .mv (.t 1), none, true⟩,
  ⟨some 17, .mv (.t 5), none, true⟩,
  ⟨some 18, .bin .quo (.c (.int .i64 4394000)) (.t 17), none, true⟩,
  ⟨some 19, .bin .mul (.t 16) (.t 18), none, true⟩,
  ⟨some 20, .fad 1 (.t 2), none, true⟩,
  ⟨some 21, .load false 1 (.t 20), none, true⟩,
  ⟨some 22, .bin .mul (.t 19) (.t 21), none, true⟩,
  ⟨some 23, .build [.int .i64 0, .int .i64 0] [(0, 1, .t 15), (1, 1, .t 22)], none, true⟩,
  ⟨none, .store 2 (.t 4) (.t 23), none, true⟩] (some [4]) [2]) (
.ret)))))))
/-- ambidexter/ambidexterref07.plus -/
def A50 : AFn := .code [.cell true 2 4] (
(.seq (
.reg none [
  ⟨some 2, .box (.t 0), none, true⟩,
  ⟨some 3, .box (.t 1), none, true⟩,
  ⟨some 4, .alloc [.int .i64 0, .int .i64 0], none, true⟩] (some [2, 3, 4]) []) (
(.seq (
.reg none [
  ⟨some 5, .fad 0 (.t 2), none, true⟩,
  ⟨some 6, .load false 1 (.t 5), none, true⟩,
  ⟨some 7, .fad 0 (.t 3), none, true⟩,
  ⟨some 8, .load false 1 (.t 7), none, true⟩,
  ⟨some 9, .bin .add (.t 6) (.t 8), none, true⟩,
  ⟨some 10, .fad 1 (.t 2), none, true⟩,
  ⟨some 11, .load false 1 (.t 10), none, true⟩,
  ⟨some 12, .fad 1 (.t 3), none, true⟩,
  ⟨some 13, .load false 1 (.t 12), none, true⟩,
  ⟨some 14, .bin .add (.t 11) (.t 13), none, true⟩,
  ⟨some 15, .build [.int .i64 0, .int .i64 0] [(0, 1, .t 9), (1, 1, .t 14)], none, true⟩,
  ⟨none, .store 2 (.t 4) (.t 15), none, true⟩] (some [4]) [2, 3]) (
.ret)))))
/-- ambidexter/rotation.Compose -/
def A51 : AFn := .code [.cell true 3 4] (
(.seq (
.reg none [
  ⟨some 2, .box (.t 0), none, true⟩,
  ⟨some 4, .alloc [.int .i64 0, .int .i64 0, .int .i64 0], none, true⟩] (some [1, 2, 4]) []) (
(.seq (
(.seq (
.reg none [
  ⟨some 6, .load true 3 (.t 2), none, true⟩,
  ⟨some 7, .call 82 [.t 6], none, true⟩,
  ⟨some 8, .un .not (.t 7), none, true⟩,
  ⟨some 9, .mv (.t 8), none, true⟩,
  ⟨some 10, .fad 2 (.t 2), some (9, false), true⟩,
  ⟨some 11, .load false 1 (.t 10), some (9, false), true⟩,
  ⟨some 12, .bin .eql (.t 11) (.c (.int .i64 3)), some (9, false), true⟩,
  ⟨some 13, .pick (.t 9) (.c (.bool true)) (.t 12), none, true⟩] (some [1, 2, 4, 13]) []) (
(.cond (.t 13) (
  (.seq (
  .reg none [
    ⟨some 14, .build [.int .i64 0, .int .i64 0, .int .i64 0] [], none, true⟩,
    ⟨none, .store 3 (.t 4) (.t 14), none, true⟩] (some [4]) []) (
  .ret))) (
  .skip))))) (
(.seq (
.reg none [
  ⟨some 15, .fad 0 (.t 2), none, true⟩,
  ⟨some 16, .load false 1 (.t 15), none, true⟩,
  ⟨some 17, .fad 1 (.t 2), none, true⟩,
  ⟨some 18, .load false 1 (.t 17), none, true⟩,
  ⟨some 19, .build [.int .i64 0, .int .i64 0] [(0, 1, .t 16), (1, 1, .t 18)], none, true⟩,
  ⟨some 20, .mv (.t 1), none, true⟩,
  ⟨some 21, .call 83 [.t 19, .t 20], none, true⟩,
  ⟨some 5, .alloc [.int .i64 0, .int .i64 0], none, true⟩,
  ⟨none, .store 2 (.t 5) (.t 21), none, true⟩] (some [2, 4, 5]) []) (
(.seq (
.reg none [
  ⟨some 22, .fad 0 (.t 5), none, true⟩,
  ⟨some 23, .load false 1 (.t 22), none, true⟩,
  ⟨some 24, .fad 1 (.t 5), none, true⟩,
  ⟨some 25, .load false 1 (.t 24), none, true⟩,
  ⟨some 26, .fad 2 (.t 2), none, true⟩,
  ⟨some 27, .load false 1 (.t 26), none, true⟩,
  ⟨some 28, .bin .add (.t 27) (.c (.int .i64 1)), none, true⟩,
  ⟨some 29, .build [.int .i64 0, .int .i64 0, .int .i64 0] [(0, 1, .t 23), (1, 1, .t 25), (2, 1, .t 28)], none, true⟩,
  ⟨none, .store 3 (.t 4) (.t 29), none, true⟩] (some [4]) [2, 5]) (
.ret)))))))))
/-- ambidexter/ambidexterref01.Add -/
def A52 : AFn := .code [.cell true 3 4] (
(.seq (
.reg none [
  ⟨some 2, .box (.t 0), none, true⟩,
  ⟨some 4, .alloc [.int .i64 0, .int .i64 0, .int .i64 0], none, true⟩] (some [1, 2, 4]) []) (
(.seq (
(.seq (
.reg none [
  ⟨some 7, .load true 3 (.t 2), none, true⟩,
  ⟨some 8, .call 84 [.t 7], none, true⟩,
  ⟨some 9, .un .not (.t 8), none, true⟩,
  ⟨some 10, .mv (.t 9), none, true⟩,
  ⟨some 11, .fad 2 (.t 2), some (10, false), true⟩,
  ⟨some 12, .load false 1 (.t 11), some (10, false), true⟩,
  ⟨some 13, .bin .eql (.t 12) (.c (.int .i64 3)), some (10, false), true⟩,
  ⟨some 14, .pick (.t 10) (.c (.bool true)) (.t 13), none, true⟩] (some [1, 2, 4, 14]) []) (
(.cond (.t 14) (
  (.seq (
  .reg none [
    ⟨some 15, .build [.int .i64 0, .int .i64 0, .int .i64 0] [], none, true⟩,
    ⟨none, .store 3 (.t 4) (.t 15), none, true⟩] (some [4]) []) (
  .ret))) (
  .skip))))) (
(.seq (
.reg none [
  ⟨some 17, .mv (.t 1), none, true⟩,
  ⟨some 18, .call 85 [.t 17], none, true⟩,
  ⟨some 16, .mv (.t 18), none, true⟩,
  ⟨some 19, .ext (.t 16) 0, none, true⟩,
  ⟨some 20, .ext (.t 16) 1, none, true⟩,
  ⟨some 5, .as (.t 19), none, true⟩,
  ⟨some 6, .as (.t 20), none, true⟩] (some [2, 4, 5, 6]) []) (
(.seq (
.reg none [
  ⟨some 21, .fad 0 (.t 2), none, true⟩,
  ⟨some 22, .load false 1 (.t 21), none, true⟩,
  ⟨some 23, .mv (.t 5), none, true⟩,
  ⟨some 24, .bin .mul (.t 22) (.t 23), none, true⟩,
  ⟨some 25, .fad 1 (.t 2), none, true⟩,
  ⟨some 26, .load false 1 (.t 25), none, true⟩,
  ⟨some 27, .mv (.t 6), none, true⟩,
  ⟨some 28, .bin .mul (.t 26) (.t 27), none, true⟩,
  ⟨some 29, .bin .sub (.t 24) (.t 28), none, true⟩,
  ⟨some 30, .fad 0 (.t 2), none, true⟩,
  ⟨some 31, .load false 1 (.t 30), none, true⟩,
  ⟨some 32, .mv (.t 6), none, true⟩,
  ⟨some 33, .bin .mul (.t 31) (.t 32), none, true⟩,
  ⟨some 34, .fad 1 (.t 2), none, true⟩,
  ⟨some 35, .load false 1 (.t 34), none, true⟩,
  ⟨some 36, .mv (.t 5), none, true⟩,
  ⟨some 37, .bin .mul (.t 35) (.t 36), none, true⟩,
  ⟨some 38, .bin .add (.t 33) (.t 37), none, true⟩,
  ⟨some 39, .fad 2 (.t 2), none, true⟩,
  ⟨some 40, .load false 1 (.t 39), none, true⟩,
  ⟨some 41, .bin .add (.t 40) (.c (.int .i64 1)), none, true⟩,
  ⟨some 42, .build [.int .i64 0, .int .i64 0, .int .i64 0] [(0, 1, .t 29), (1, 1, .t 38), (2, 1, .t 41)], none, true⟩,
  ⟨none, .store 3 (.t 4) (.t 42), none, true⟩] (some [4]) [2]) (
.ret)))))))))
/-- ambidexter/arm.JointPoints$1 -/
def A53 : AFn := .code [.cell true 2 3] (
(.seq (
.reg none [
  ⟨some 2, .box (.t 0), none, true⟩,
  ⟨some 3, .alloc [.int .i64 0, .int .i64 0], none, true⟩] (some [1, 2, 3]) []) (
(.seq (
.reg none [
  ⟨some 4, .load true 2 (.t 1), none, true⟩,
  ⟨some 5, .load true 2 (.t 2), none, true⟩,
  ⟨some 6, .call 54 [.t 4, .t 5], none, true⟩,
  ⟨none, .store 2 (.t 1) (.t 6), none, true⟩] (some [1, 3]) [2]) (
(.seq (
.reg none [
  ⟨some 7, .load true 2 (.t 1), none, true⟩,
  ⟨none, .store 2 (.t 3) (.t 7), none, true⟩] (some [3]) []) (
.ret)))))))
/-- ambidexter/geom.Add -/
def A54 : AFn := .code [.cell true 2 4] (
(.seq (
.reg none [
  ⟨some 2, .box (.t 0), none, true⟩,
  ⟨some 3, .box (.t 1), none, true⟩,
  ⟨some 4, .alloc [.int .i64 0, .int .i64 0], none, true⟩] (some [2, 3, 4]) []) (
(.seq (
.reg none [
  ⟨some 5, .fad 0 (.t 2), none, true⟩,
  ⟨some 6, .load false 1 (.t 5), none, true⟩,
  ⟨some 7, .fad 0 (.t 3), none, true⟩,
  ⟨some 8, .load false 1 (.t 7), none, true⟩,
  ⟨some 9, .bin .add (.t 6) (.t 8), none, true⟩,
  ⟨some 10, .fad 1 (.t 2), none, true⟩,
  ⟨some 11, .load false 1 (.t 10), none, true⟩,
  ⟨some 12, .fad 1 (.t 3), none, true⟩,
  ⟨some 13, .load false 1 (.t 12), none, true⟩,
  ⟨some 14, .bin .add (.t 11) (.t 13), none, true⟩,
  ⟨some 15, .build [.int .i64 0, .int .i64 0] [(0, 1, .t 9), (1, 1, .t 14)], none, true⟩,
  ⟨none, .store 2 (.t 4) (.t 15), none, true⟩] (some [4]) [2, 3]) (
.ret)))))
/-- ambidexter/rotation.Offset -/
def A55 : AFn := .code [.cell true 2 4] (
(.seq (
.reg none [
  ⟨some 2, .box (.t 0), none, true⟩,
  ⟨some 4, .alloc [.int .i64 0, .int .i64 0], none, true⟩] (some [1, 2, 4]) []) (
(.seq (
.reg none [
  ⟨some 6, .mv (.t 1), none, true⟩,
  ⟨some 7, .fad 2 (.t 2), none, true⟩,
  ⟨some 8, .load false 1 (.t 7), none, true⟩,
  ⟨some 9, .call 86 [.t 8], none, true⟩,
  ⟨some 10, .bin .quo (.c (.int .i64 4394000)) (.t 9), none, true⟩,
  ⟨some 11, .bin .mul (.t 6) (.t 10), none, true⟩,
  ⟨some 5, .as (.t 11), none, true⟩] (some [2, 4, 5]) []) (
(.seq (
.reg none [
  ⟨some 12, .mv (.t 5), none, true⟩,
  ⟨some 13, .fad 0 (.t 2), none, true⟩,
  ⟨some 14, .load false 1 (.t 13), none, true⟩,
  ⟨some 15, .bin .mul (.t 12) (.t 14), none, true⟩,
  ⟨some 16, .mv (.t 5), none, true⟩,
  ⟨some 17, .fad 1 (.t 2), none, true⟩,
  ⟨some 18, .load false 1 (.t 17), none, true⟩,
  ⟨some 19, .bin .mul (.t 16) (.t 18), none, true⟩,
  ⟨some 20, .build [.int .i64 0, .int .i64 0] [(0, 1, .t 15), (1, 1, .t 19)], none, true⟩,
  ⟨none, .store 2 (.t 4) (.t 20), none, true⟩] (some [4]) [2]) (
.ret)))))))
/-- slices.ContainsFunc[ambidexter/api.Polygon,ambidexter/api.Point] -/
def A56 : AFn := .code [.t 4] (
(.seq (
.reg none [
  ⟨some 4, .as (.c (.bool false)), none, true⟩] (some [0, 1]) []) (
(.seq (
.reg none [
  ⟨some 5, .mv (.t 0), none, true⟩,
  ⟨some 6, .mv (.t 1), none, true⟩,
  ⟨some 7, .call 87 [.t 5, .t 6], none, true⟩,
  ⟨some 8, .bin .geq (.t 7) (.c (.int .i64 0)), none, true⟩,
  ⟨some 4, .as (.t 8), none, true⟩] (some [4]) []) (
.ret)))))
/-- ambidexter/polygon.Valid$1 -/
def A57 : AFn := .code [.t 2] (
(.seq (
.reg none [
  ⟨some 1, .box (.t 0), none, true⟩,
  ⟨some 2, .as (.c (.bool false)), none, true⟩] (some [1]) []) (
(.seq (
.reg none [
  ⟨some 3, .load true 2 (.t 1), none, true⟩,
  ⟨some 4, .call 58 [.t 3], none, true⟩,
  ⟨some 5, .un .not (.t 4), none, true⟩,
  ⟨some 2, .as (.t 5), none, true⟩] (some [2]) [1]) (
.ret)))))
/-- ambidexter/polygon.may -/
def A58 : AFn := .code [.t 2] (
(.seq (
.reg none [
  ⟨some 1, .box (.t 0), none, true⟩,
  ⟨some 2, .as (.c (.bool false)), none, true⟩] (some [1]) []) (
(.seq (
.reg none [
  ⟨some 3, .fad 0 (.t 1), none, true⟩,
  ⟨some 4, .load false 1 (.t 3), none, true⟩,
  ⟨some 5, .fad 1 (.t 1), none, true⟩,
  ⟨some 6, .load false 1 (.t 5), none, true⟩,
  ⟨some 7, .mx [.t 4, .t 6], none, true⟩,
  ⟨some 8, .bin .leq (.t 7) (.c (.int .i64 439400000)), none, true⟩,
  ⟨some 9, .mv (.t 8), none, true⟩,
  ⟨some 10, .fad 0 (.t 1), some (9, true), true⟩,
  ⟨some 11, .load false 1 (.t 10), some (9, true), true⟩,
  ⟨some 12, .fad 1 (.t 1), some (9, true), true⟩,
  ⟨some 13, .load false 1 (.t 12), some (9, true), true⟩,
  ⟨some 14, .mn [.t 11, .t 13], some (9, true), true⟩,
  ⟨some 15, .bin .geq (.t 14) (.c (.int .i64 (-439400000))), some (9, true), true⟩,
  ⟨some 16, .pick (.t 9) (.t 15) (.c (.bool false)), none, true⟩,
  ⟨some 2, .as (.t 16), none, true⟩] (some [2]) [1]) (
.ret)))))
def A59_R0a : ACode := 
    (.seq (
    .reg none [
      ⟨some 6, .as (.t 29), none, true⟩] (some [2, 3, 4, 5, 6, 30]) []) (
    .reg none [
      ⟨some 7, .alloc [.int .i64 0, .int .i64 0, .int .i64 0, .int .i64 0], none, true⟩,
      ⟨none, .store 4 (.t 7) (.t 30), none, true⟩] (some [2, 3, 4, 5, 6, 7]) []))
def A59_R0b : ACode := 
    (.block 3 (
    (.seq (
    (.seq (
    .reg (some [.dr [32] [], .dr [] [], .free, .free, .dr [36, 38] [], .dr [38] [], .dr [38] [], .dr [36] [], .dr [] [], .free, .free, .free, .dr [46] [], .dr [43, 46] [], .dr [43, 46] [], .dr [43] [], .dr [43] [], .free, .free]) [
      ⟨some 31, .mv (.t 6), none, true⟩,
      ⟨some 32, .load false 1 (.t 4), none, true⟩,
      ⟨some 33, .bin .eql (.t 31) (.t 32), none, true⟩,
      ⟨some 34, .mv (.t 33), none, true⟩,
      ⟨some 35, .mv (.t 6), some (34, false), true⟩,
      ⟨some 36, .load false 1 (.t 4), some (34, false), true⟩,
      ⟨some 37, .bin .add (.t 36) (.c (.int .i64 1)), some (34, false), true⟩,
      ⟨some 38, .load false 1 (.t 3), some (34, false), true⟩,
      ⟨some 39, .bin .rem (.t 37) (.t 38), some (34, false), true⟩,
      ⟨some 40, .bin .eql (.t 35) (.t 39), some (34, false), true⟩,
      ⟨some 41, .pick (.t 34) (.c (.bool true)) (.t 40), none, true⟩,
      ⟨some 42, .mv (.t 41), none, true⟩,
      ⟨some 43, .load false 1 (.t 4), some (42, false), true⟩,
      ⟨some 44, .mv (.t 6), some (42, false), true⟩,
      ⟨some 45, .bin .add (.t 44) (.c (.int .i64 1)), some (42, false), true⟩,
      ⟨some 46, .load false 1 (.t 3), some (42, false), true⟩,
      ⟨some 47, .bin .rem (.t 45) (.t 46), some (42, false), true⟩,
      ⟨some 48, .bin .eql (.t 43) (.t 47), some (42, false), true⟩,
      ⟨some 49, .pick (.t 42) (.c (.bool true)) (.t 48), none, true⟩] (some [2, 5, 7, 49]) [3, 4]) (
    (.cond (.t 49) (
      .exit 3) (
      .skip))))) (
    (.seq (
    .reg none [
      ⟨some 50, .iaa 2 2 (.t 5) (.c (.int .i64 0)), none, true⟩,
      ⟨some 51, .load true 2 (.t 50), none, true⟩,
      ⟨some 52, .iaa 2 2 (.t 5) (.c (.int .i64 1)), none, true⟩,
      ⟨some 53, .load true 2 (.t 52), none, true⟩,
      ⟨some 54, .iaa 2 2 (.t 7) (.c (.int .i64 0)), none, true⟩,
      ⟨some 55, .load true 2 (.t 54), none, true⟩,
      ⟨some 56, .iaa 2 2 (.t 7) (.c (.int .i64 1)), none, true⟩,
      ⟨some 57, .load true 2 (.t 56), none, true⟩,
      ⟨some 58, .call 88 [.t 51, .t 53, .t 55, .t 57], none, true⟩] (some [2, 58]) [5, 7]) (
    (.cond (.t 58) (
      (.seq (
      .reg none [
        ⟨none, .store 1 (.t 2) (.c (.bool false)), none, true⟩] (some []) []) (
      .ret))) (
      .skip))))))) (some []) [58])
def A59_R0 : ACode := .rf 1 (.t 28) [29, 30]  A59_R0a A59_R0b
def A59_R1a : ACode := 
  (.seq (
  .reg none [
    ⟨some 4, .alloc [.int .i64 0], none, true⟩,
    ⟨none, .store 1 (.t 4) (.t 12), none, true⟩] (some [1, 2, 3, 4, 13]) []) (
  .reg none [
    ⟨some 5, .alloc [.int .i64 0, .int .i64 0, .int .i64 0, .int .i64 0], none, true⟩,
    ⟨none, .store 4 (.t 5) (.t 13), none, true⟩] (some [1, 2, 3, 4, 5]) []))
def A59_R1b : ACode := 
  (.block 1 (
  (.seq (
  (.seq (
  .reg (some [.dr [17, 18, 19, 21, 23, 24] [], .dr [17, 18, 19, 21, 23, 24] [], .dr [15, 18, 19, 21, 23, 24] [], .dr [15, 18, 19, 21, 23, 24] [], .dr [15, 17, 19, 21] [], .dr [15, 17, 18, 21] [], .dr [15, 17, 18, 21] [], .dr [15, 17, 18, 19] [], .dr [15, 17, 18] [], .dr [15, 17] [], .dr [15, 17] [], .free, .free]) [
    ⟨some 14, .iaa 2 2 (.t 5) (.c (.int .i64 0)), none, true⟩,
    ⟨some 15, .load true 2 (.t 14), none, true⟩,
    ⟨some 16, .iaa 2 2 (.t 5) (.c (.int .i64 1)), none, true⟩,
    ⟨some 17, .load true 2 (.t 16), none, true⟩,
    ⟨some 18, .load false 1 (.t 1), none, true⟩,
    ⟨some 19, .load false 1 (.t 4), none, true⟩,
    ⟨some 20, .bin .add (.t 19) (.c (.int .i64 2)), none, true⟩,
    ⟨some 21, .load false 1 (.t 3), none, true⟩,
    ⟨some 22, .bin .rem (.t 20) (.t 21), none, true⟩,
    ⟨some 23, .ias 2 (.t 18) (.t 22), none, true⟩,
    ⟨some 24, .load true 2 (.t 23), none, true⟩,
    ⟨some 25, .call 62 [.t 15, .t 17, .t 24], none, true⟩,
    ⟨some 26, .bin .eql (.t 25) (.c (.int .i64 0)), none, true⟩] (some [1, 2, 3, 4, 5, 26]) []) (
  (.cond (.t 26) (
    (.seq (
    .reg none [
      ⟨none, .store 1 (.t 2) (.c (.bool false)), none, true⟩] (some []) []) (
    .ret))) (
    .skip))))) (
  (.seq (
  .reg none [
    ⟨some 27, .load false 1 (.t 1), none, true⟩,
    ⟨some 28, .call 60 [.t 27], none, true⟩] (some [2, 3, 4, 5, 28]) [1]) (
  (.block 2 (
  A59_R0) (some []) [6, 7, 58])))))) (some []) [6, 7, 25, 28, 58])
def A59_R1 : ACode := .rf 0 (.t 11) [12, 13]  A59_R1a A59_R1b
/-- ambidexter/polygon.simple -/
def A59 : AFn := .code [.cell false 1 2] (
(.seq (
.reg none [
  ⟨some 1, .box (.t 0), none, true⟩,
  ⟨some 2, .alloc [.bool false], none, true⟩] (some [1, 2]) []) (
(.seq (
.reg none [
  ⟨some 8, .load false 1 (.t 1), none, true⟩,
  ⟨some 9, .len 0 (.t 8), none, true⟩,
  ⟨some 3, .alloc [.int .i64 0], none, true⟩,
  ⟨none, .store 1 (.t 3) (.t 9), none, true⟩] (some [1, 2, 3]) []) (
(.seq (
(.seq (
.reg none [
  ⟨some 10, .load false 1 (.t 1), none, true⟩,
  ⟨some 11, .call 60 [.t 10], none, true⟩] (some [1, 2, 3, 11]) []) (
(.block 0 (
A59_R1) (some [2]) [4, 5, 6, 7, 25, 28, 58])))) (
(.seq (
.reg none [
  ⟨none, .store 1 (.t 2) (.c (.bool true)), none, true⟩] (some [2]) []) (
.ret)))))))))
/-- ambidexter/polygon.edges -/
def A60 : AFn := .code [.t 2] (
(.seq (
.reg none [
  ⟨some 1, .box (.t 0), none, true⟩,
  ⟨some 2, .as (.c (.nilf)), none, true⟩] (some [1]) []) (
(.seq (
.reg none [
  ⟨some 3, .mkf (.func 89) [] [.t 1], none, true⟩,
  ⟨some 2, .as (.t 3), none, true⟩] (some [2]) []) (
.ret)))))
/-- ambidexter/geom.OnSegment -/
def A61 : AFn := .code [.t 6] (
(.seq (
.reg none [
  ⟨some 3, .box (.t 0), none, true⟩,
  ⟨some 4, .box (.t 1), none, true⟩,
  ⟨some 5, .box (.t 2), none, true⟩,
  ⟨some 6, .as (.c (.bool false)), none, true⟩] (some [3, 4, 5]) []) (
(.seq (
.reg none [
  ⟨some 7, .load true 2 (.t 3), none, true⟩,
  ⟨some 8, .load true 2 (.t 4), none, true⟩,
  ⟨some 9, .load true 2 (.t 5), none, true⟩,
  ⟨some 10, .call 90 [.t 7, .t 8, .t 9], none, true⟩,
  ⟨some 11, .mv (.t 10), none, true⟩,
  ⟨some 12, .load true 2 (.t 3), some (11, true), true⟩,
  ⟨some 13, .load true 2 (.t 4), some (11, true), true⟩,
  ⟨some 14, .load true 2 (.t 5), some (11, true), true⟩,
  ⟨some 15, .call 62 [.t 12, .t 13, .t 14], some (11, true), true⟩,
  ⟨some 16, .bin .eql (.t 15) (.c (.int .i64 0)), some (11, true), true⟩,
  ⟨some 17, .pick (.t 11) (.t 16) (.c (.bool false)), none, true⟩,
  ⟨some 6, .as (.t 17), none, true⟩] (some [6]) [3, 4, 5]) (
.ret)))))
/-- ambidexter/geom.Orientation -/
def A62 : AFn := .code [.t 6] (
(.seq (
.reg none [
  ⟨some 3, .box (.t 0), none, true⟩,
  ⟨some 4, .box (.t 1), none, true⟩,
  ⟨some 5, .box (.t 2), none, true⟩,
  ⟨some 6, .as (.c (.int .i64 0)), none, true⟩] (some [3, 4, 5]) []) (
(.seq (
.reg (some [.dr [11, 13, 14, 7, 8] [], .dr [10, 13, 14, 7, 8] [], .dr [13, 14, 7, 8] [], .dr [10, 11, 12, 14, 7, 8] [], .dr [10, 11, 12, 13, 7, 8] [], .dr [7, 8] [], .dr [10, 11, 12, 13, 14, 15, 8] [], .dr [10, 11, 12, 13, 14, 15, 7] [], .free, .free]) [
  ⟨some 10, .load true 2 (.t 4), none, true⟩,
  ⟨some 11, .load true 2 (.t 3), none, true⟩,
  ⟨some 12, .call 67 [.t 10, .t 11], none, true⟩,
  ⟨some 13, .load true 2 (.t 5), none, true⟩,
  ⟨some 14, .load true 2 (.t 3), none, true⟩,
  ⟨some 15, .call 67 [.t 13, .t 14], none, true⟩,
  ⟨some 7, .alloc [.int .i64 0, .int .i64 0], none, true⟩,
  ⟨some 8, .alloc [.int .i64 0, .int .i64 0], none, true⟩,
  ⟨none, .store 2 (.t 7) (.t 12), none, true⟩,
  ⟨none, .store 2 (.t 8) (.t 15), none, true⟩] (some [7, 8]) [3, 4, 5]) (
(.seq (
(.seq (
.reg none [
  ⟨some 16, .fad 0 (.t 7), none, true⟩,
  ⟨some 17, .load false 1 (.t 16), none, true⟩,
  ⟨some 18, .fad 1 (.t 8), none, true⟩,
  ⟨some 19, .load false 1 (.t 18), none, true⟩,
  ⟨some 20, .bin .mul (.t 17) (.t 19), none, true⟩,
  ⟨some 21, .fad 1 (.t 7), none, true⟩,
  ⟨some 22, .load false 1 (.t 21), none, true⟩,
  ⟨some 23, .fad 0 (.t 8), none, true⟩,
  ⟨some 24, .load false 1 (.t 23), none, true⟩,
  ⟨some 25, .bin .mul (.t 22) (.t 24), none, true⟩,
  ⟨some 26, .bin .sub (.t 20) (.t 25), none, true⟩,
  ⟨some 9, .as (.t 26), none, true⟩] (some [9]) [7, 8]) (
(.block 0 (
(.seq (
.reg none [
  ⟨some 28, .mv (.t 9), none, true⟩,
  ⟨some 29, .bin .gtr (.t 28) (.c (.int .i64 0)), none, true⟩,
  ⟨some 27, .as (.t 29), none, true⟩] (some [9, 27]) []) (
(.cond (.t 27) (
  (.seq (
  .reg none [
    ⟨some 6, .as (.c (.int .i64 1)), none, true⟩] (some [6]) []) (
  .ret))) (
  (.seq (
  .reg none [
    ⟨some 31, .mv (.t 9), none, true⟩,
    ⟨some 32, .bin .lss (.t 31) (.c (.int .i64 0)), none, true⟩,
    ⟨some 30, .as (.t 32), none, true⟩] (some [30]) []) (
  (.cond (.t 30) (
    (.seq (
    .reg none [
      ⟨some 6, .as (.c (.int .i64 (-1))), none, true⟩] (some [6]) []) (
    .ret))) (
    .skip))))))))) (some []) [6, 27, 30])))) (
(.seq (
.reg none [
  ⟨some 6, .as (.c (.int .i64 0)), none, true⟩] (some [6]) []) (
.ret)))))))))
/-- ambidexter/ambidextertop.smallR14 -/
def A63 : AFn := .code [.cell true 12 0] (
(.seq (
.reg none [
  ⟨some 0, .alloc [.int .i64 0, .int .i64 0, .int .i64 0, .int .i64 0, .int .i64 0, .int .i64 0, .int .i64 0, .int .i64 0, .int .i64 0, .int .i64 0, .int .i64 0, .int .i64 0], none, true⟩] (some [0]) []) (
(.seq (
.reg none [
  ⟨some 1, .build [.int .i64 0, .int .i64 0, .int .i64 0] [(0, 1, .c (.int .i64 3)), (1, 1, .c (.int .i64 2)), (2, 1, .c (.int .i64 1))], none, true⟩,
  ⟨some 2, .build [.int .i64 0, .int .i64 0, .int .i64 0] [(0, 1, .c (.int .i64 (-17))), (1, 1, .c (.int .i64 (-17))), (2, 1, .c (.int .i64 (-17)))], none, true⟩,
  ⟨some 3, .build [.int .i64 0, .int .i64 0, .int .i64 0] [(0, 1, .c (.int .i64 18)), (1, 1, .c (.int .i64 18)), (2, 1, .c (.int .i64 18))], none, true⟩,
  ⟨some 4, .build [.int .i64 0, .int .i64 0, .int .i64 0, .int .i64 0, .int .i64 0, .int .i64 0, .int .i64 0, .int .i64 0, .int .i64 0, .int .i64 0, .int .i64 0, .int .i64 0] [(2, 3, .t 1), (5, 1, .c (.int .i64 1)), (6, 3, .t 2), (9, 3, .t 3)], none, true⟩,
  ⟨none, .store 12 (.t 0) (.t 4), none, true⟩] (some [0]) []) (
.ret)))))
/-- ambidexter/rotation.RotateQuarter -/
def A64 : AFn := .code [.cell true 2 2] (
(.seq (
.reg none [
  ⟨some 1, .box (.t 0), none, true⟩,
  ⟨some 2, .alloc [.int .i64 0, .int .i64 0], none, true⟩] (some [1, 2]) []) (
(.seq (
.reg none [
  ⟨some 4, .fad 0 (.t 1), none, true⟩,
  ⟨some 5, .load false 1 (.t 4), none, true⟩,
  ⟨some 6, .fad 1 (.t 1), none, true⟩,
  ⟨some 7, .load false 1 (.t 6), none, true⟩,
  ⟨some 8, .build [.int .i64 0, .int .i64 0] [(0, 1, .t 5), (1, 1, .t 7)], none, true⟩,
  ⟨some 9, .call 91 [.t 8], none, true⟩,
  ⟨some 3, .alloc [.int .i64 0, .int .i64 0], none, true⟩,
  ⟨none, .store 2 (.t 3) (.t 9), none, true⟩] (some [2, 3]) [1]) (
(.seq (
.reg none [
  ⟨some 10, .fad 0 (.t 3), none, true⟩,
  ⟨some 11, .load false 1 (.t 10), none, true⟩,
  ⟨some 12, .fad 1 (.t 3), none, true⟩,
  ⟨some 13, .load false 1 (.t 12), none, true⟩,
  ⟨some 14, .build [.int .i64 0, .int .i64 0] [(0, 1, .t 11), (1, 1, .t 13)], none, true⟩,
  ⟨none, .store 2 (.t 2) (.t 14), none, true⟩] (some [2]) [3]) (
.ret)))))))
/-- ambidexter/polygon.Rotate -/
def A65 : AFn := .code [.t 4, .t 5] (
(.seq (
.reg none [
  ⟨some 3, .box (.t 1), none, true⟩,
  ⟨some 4, .as (.c (.nils 2)), none, true⟩,
  ⟨some 5, .as (.c (.bool false)), none, true⟩] (some [0, 3]) []) (
(.seq (
.reg none [
  ⟨some 6, .alloc [.bool false], none, true⟩,
  ⟨none, .store 1 (.t 6) (.c (.bool true)), none, true⟩] (some [0, 3, 6]) []) (
(.seq (
.reg none [
  ⟨some 8, .mv (.t 0), none, true⟩,
  ⟨some 9, .mkf (.func 93) [] [.t 3, .t 6], none, true⟩,
  ⟨some 10, .call 92 [.t 8, .t 9], none, true⟩,
  ⟨some 7, .as (.t 10), none, true⟩] (some [6, 7]) []) (
(.seq (
(.seq (
.reg none [
  ⟨some 11, .load false 1 (.t 6), none, true⟩,
  ⟨some 12, .un .not (.t 11), none, true⟩] (some [7, 12]) []) (
(.cond (.t 12) (
  (.seq (
  .reg none [
    ⟨some 4, .as (.c (.nils 2)), none, true⟩,
    ⟨some 5, .as (.c (.bool false)), none, true⟩] (some [4, 5]) []) (
  .ret))) (
  .skip))))) (
(.seq (
.reg none [
  ⟨some 13, .mv (.t 7), none, true⟩,
  ⟨some 4, .as (.t 13), none, true⟩,
  ⟨some 5, .as (.c (.bool true)), none, true⟩] (some [4, 5]) []) (
.ret)))))))))))
/-- ambidexter/polygon.Translate -/
def A66 : AFn := .code [.t 4] (
(.seq (
.reg none [
  ⟨some 3, .box (.t 1), none, true⟩,
  ⟨some 4, .as (.c (.nils 2)), none, true⟩] (some [0, 3]) []) (
(.seq (
.reg none [
  ⟨some 5, .mv (.t 0), none, true⟩,
  ⟨some 6, .mkf (.func 95) [] [.t 3], none, true⟩,
  ⟨some 7, .call 92 [.t 5, .t 6], none, true⟩,
  ⟨some 4, .as (.t 7), none, true⟩] (some [4]) []) (
.ret)))))
/-- ambidexter/geom.Sub -/
def A67 : AFn := .code [.cell true 2 4] (
(.seq (
.reg none [
  ⟨some 2, .box (.t 0), none, true⟩,
  ⟨some 3, .box (.t 1), none, true⟩,
  ⟨some 4, .alloc [.int .i64 0, .int .i64 0], none, true⟩] (some [2, 3, 4]) []) (
(.seq (
.reg none [
  ⟨some 5, .fad 0 (.t 2), none, true⟩,
  ⟨some 6, .load false 1 (.t 5), none, true⟩,
  ⟨some 7, .fad 0 (.t 3), none, true⟩,
  ⟨some 8, .load false 1 (.t 7), none, true⟩,
  ⟨some 9, .bin .sub (.t 6) (.t 8), none, true⟩,
  ⟨some 10, .fad 1 (.t 2), none, true⟩,
  ⟨some 11, .load false 1 (.t 10), none, true⟩,
  ⟨some 12, .fad 1 (.t 3), none, true⟩,
  ⟨some 13, .load false 1 (.t 12), none, true⟩,
  ⟨some 14, .bin .sub (.t 11) (.t 13), none, true⟩,
  ⟨some 15, .build [.int .i64 0, .int .i64 0] [(0, 1, .t 9), (1, 1, .t 14)], none, true⟩,
  ⟨none, .store 2 (.t 4) (.t 15), none, true⟩] (some [4]) [2, 3]) (
.ret)))))
def A68_L0b : ACode := 
  (.seq (
  .reg none [
    ⟨some 14, .bin .lss (.t 13) (.t 12), none, true⟩] (some [0, 1, 12, 13, 14]) []) (
  (.seq (
  (.cond (.t 14) (
    .skip) (
    .exit 0))) (
  (.seq (
  (.block 1 (
  (.seq (
  .reg none [
    ⟨some 15, .mv (.t 13), none, true⟩,
    ⟨some 5, .as (.t 15), none, true⟩] (some [0, 1, 5, 12, 13]) []) (
  (.seq (
  .reg (some [.dr [22, 23] [], .dr [22, 23] [], .dr [22, 23] [], .dr [22, 23] [], .dr [18, 19] [], .dr [18, 19] [], .dr [18, 19] [], .dr [18, 19] [], .free]) [
    ⟨some 16, .mv (.t 0), none, true⟩,
    ⟨some 17, .mv (.t 5), none, true⟩,
    ⟨some 18, .ias 2 (.t 16) (.t 17), none, true⟩,
    ⟨some 19, .load true 2 (.t 18), none, true⟩,
    ⟨some 20, .mv (.t 1), none, true⟩,
    ⟨some 21, .mv (.t 5), none, true⟩,
    ⟨some 22, .ias 2 (.t 20) (.t 21), none, true⟩,
    ⟨some 23, .load true 2 (.t 22), none, true⟩,
    ⟨some 24, .eqa true [0, 0] (.t 19) (.t 23), none, true⟩] (some [0, 1, 12, 13, 24]) []) (
  (.cond (.t 24) (
    (.seq (
    .reg none [
      ⟨some 4, .as (.c (.bool false)), none, true⟩] (some [4]) []) (
    .ret))) (
    .skip))))))) (some [0, 1, 12, 13]) [4, 5])) (
  .reg none [
    ⟨some 25, .bin .add (.t 13) (.c (.int .i64 1)), none, true⟩,
    ⟨some 13, .mv (.t 25), none, true⟩] (some [0, 1, 12, 13]) []))))))
def A68_L0 : ACode := .loop A68_L0b (some [0, 1, 12, 13]) [4, 5]
/-- slices.Equal[ambidexter/api.Polygon,ambidexter/api.Point] -/
def A68 : AFn := .code [.t 4] (
(.seq (
.reg none [
  ⟨some 4, .as (.c (.bool false)), none, true⟩] (some [0, 1]) []) (
(.seq (
(.seq (
.reg none [
  ⟨some 6, .mv (.t 0), none, true⟩,
  ⟨some 7, .len 0 (.t 6), none, true⟩,
  ⟨some 8, .mv (.t 1), none, true⟩,
  ⟨some 9, .len 0 (.t 8), none, true⟩,
  ⟨some 10, .bin .neq (.t 7) (.t 9), none, true⟩] (some [0, 1, 10]) []) (
(.cond (.t 10) (
  (.seq (
  .reg none [
    ⟨some 4, .as (.c (.bool false)), none, true⟩] (some [4]) []) (
  .ret))) (
  .skip))))) (
(.seq (
(.seq (
.reg none [
  ⟨some 11, .mv (.t 0), none, true⟩,
  ⟨some 12, .len 0 (.t 11), none, true⟩,
  ⟨some 13, .mv (.c (.int .i64 0)), none, true⟩] (some [0, 1, 12, 13]) []) (
(.block 0 (
A68_L0) (some []) [4, 5])))) (
(.seq (
.reg none [
  ⟨some 4, .as (.c (.bool true)), none, true⟩] (some [4]) []) (
.ret)))))))))
def A69_L0b : ACode := 
  (.seq (
  .reg none [
    ⟨some 47, .bin .lss (.t 46) (.t 45), none, true⟩] (some [0, 3, 4, 5, 45, 46, 47]) []) (
  (.seq (
  (.cond (.t 47) (
    .skip) (
    .exit 6))) (
  (.seq (
  (.block 7 (
  (.seq (
  .reg none [
    ⟨some 48, .mv (.t 46), none, true⟩,
    ⟨some 11, .as (.t 48), none, true⟩] (some [0, 3, 4, 5, 11, 45, 46]) []) (
  (.seq (
  .reg none [
    ⟨some 49, .load false 1 (.t 3), none, true⟩,
    ⟨some 50, .mv (.t 11), none, true⟩,
    ⟨some 51, .mv (.t 0), none, true⟩,
    ⟨some 52, .call 97 [.t 49, .t 50, .t 51], none, true⟩] (some [0, 3, 4, 5, 11, 45, 46, 52]) []) (
  (.cond (.t 52) (
    (.seq (
    .reg none [
      ⟨some 53, .mv (.t 11), none, true⟩,
      ⟨some 54, .build [.int .i64 0, .int .i64 0, .int .i64 0] [(0, 1, .c (.int .i64 3)), (2, 1, .t 53)], none, true⟩,
      ⟨none, .store 3 (.t 4) (.t 54), none, true⟩,
      ⟨none, .store 1 (.t 5) (.c (.bool true)), none, true⟩] (some [4, 5]) []) (
    .ret))) (
    .skip))))))) (some [0, 3, 4, 5, 45, 46]) [52])) (
  .reg none [
    ⟨some 55, .bin .add (.t 46) (.c (.int .i64 1)), none, true⟩,
    ⟨some 46, .mv (.t 55), none, true⟩] (some [0, 3, 4, 5, 45, 46]) []))))))
def A69_L0 : ACode := .loop A69_L0b (some [0, 3, 4, 5, 45, 46]) [52]
def A69_L1b : ACode := 
  (.seq (
  .reg none [
    ⟨some 35, .bin .lss (.t 34) (.t 33), none, true⟩] (some [0, 3, 4, 5, 33, 34, 35]) []) (
  (.seq (
  (.cond (.t 35) (
    .skip) (
    .exit 4))) (
  (.seq (
  (.block 5 (
  (.seq (
  .reg none [
    ⟨some 36, .mv (.t 34), none, true⟩,
    ⟨some 10, .as (.t 36), none, true⟩] (some [0, 3, 4, 5, 10, 33, 34]) []) (
  (.seq (
  .reg none [
    ⟨some 37, .mv (.t 0), none, true⟩,
    ⟨some 38, .mv (.t 10), none, true⟩,
    ⟨some 39, .load false 1 (.t 3), none, true⟩,
    ⟨some 40, .call 97 [.t 37, .t 38, .t 39], none, true⟩] (some [0, 3, 4, 5, 10, 33, 34, 40]) []) (
  (.cond (.t 40) (
    (.seq (
    .reg none [
      ⟨some 41, .mv (.t 10), none, true⟩,
      ⟨some 42, .build [.int .i64 0, .int .i64 0, .int .i64 0] [(0, 1, .c (.int .i64 2)), (1, 1, .t 41)], none, true⟩,
      ⟨none, .store 3 (.t 4) (.t 42), none, true⟩,
      ⟨none, .store 1 (.t 5) (.c (.bool true)), none, true⟩] (some [4, 5]) []) (
    .ret))) (
    .skip))))))) (some [0, 3, 4, 5, 33, 34]) [40])) (
  .reg none [
    ⟨some 43, .bin .add (.t 34) (.c (.int .i64 1)), none, true⟩,
    ⟨some 34, .mv (.t 43), none, true⟩] (some [0, 3, 4, 5, 33, 34]) []))))))
def A69_L1 : ACode := .loop A69_L1b (some [0, 3, 4, 5, 33, 34]) [40]
def A69_R2a : ACode := 
    (.seq (
    .reg none [
      ⟨some 8, .as (.t 18), none, true⟩] (some [4, 5, 6, 7, 8, 19]) []) (
    .reg none [
      ⟨some 9, .alloc [.int .i64 0, .int .i64 0, .int .i64 0, .int .i64 0], none, true⟩,
      ⟨none, .store 4 (.t 9) (.t 19), none, true⟩] (some [4, 5, 6, 7, 8, 9]) []))
def A69_R2b : ACode := 
    (.block 3 (
    (.seq (
    .reg none [
      ⟨some 20, .fad 0 (.t 7), none, true⟩,
      ⟨some 21, .load true 2 (.t 20), none, true⟩,
      ⟨some 22, .fad 2 (.t 7), none, true⟩,
      ⟨some 23, .load true 2 (.t 22), none, true⟩,
      ⟨some 24, .fad 0 (.t 9), none, true⟩,
      ⟨some 25, .load true 2 (.t 24), none, true⟩,
      ⟨some 26, .fad 2 (.t 9), none, true⟩,
      ⟨some 27, .load true 2 (.t 26), none, true⟩,
      ⟨some 28, .call 88 [.t 21, .t 23, .t 25, .t 27], none, true⟩] (some [4, 5, 6, 8, 28]) [7, 9]) (
    (.cond (.t 28) (
      (.seq (
      .reg none [
        ⟨some 29, .load false 1 (.t 6), none, true⟩,
        ⟨some 30, .mv (.t 8), none, true⟩,
        ⟨some 31, .build [.int .i64 0, .int .i64 0, .int .i64 0] [(0, 1, .c (.int .i64 1)), (1, 1, .t 29), (2, 1, .t 30)], none, true⟩,
        ⟨none, .store 3 (.t 4) (.t 31), none, true⟩,
        ⟨none, .store 1 (.t 5) (.c (.bool true)), none, true⟩] (some []) [6]) (
      .ret))) (
      .skip))))) (some []) [28])
def A69_R2 : ACode := .rf 1 (.t 17) [18, 19]  A69_R2a A69_R2b
def A69_R3a : ACode := 
  (.seq (
  .reg none [
    ⟨some 6, .alloc [.int .i64 0], none, true⟩,
    ⟨none, .store 1 (.t 6) (.t 14), none, true⟩] (some [3, 4, 5, 6, 15]) []) (
  .reg none [
    ⟨some 7, .alloc [.int .i64 0, .int .i64 0, .int .i64 0, .int .i64 0], none, true⟩,
    ⟨none, .store 4 (.t 7) (.t 15), none, true⟩] (some [3, 4, 5, 6, 7]) []))
def A69_R3b : ACode := 
  (.block 1 (
  (.seq (
  .reg none [
    ⟨some 16, .load false 1 (.t 3), none, true⟩,
    ⟨some 17, .call 96 [.t 16], none, true⟩] (some [4, 5, 6, 7, 17]) [3]) (
  (.block 2 (
  A69_R2) (some []) [8, 9, 28])))) (some []) [8, 9, 17, 28])
def A69_R3 : ACode := .rf 0 (.t 13) [14, 15]  A69_R3a A69_R3b
/-- ambidexter/intersect.FindContact -/
def A69 : AFn := .code [.cell true 3 4, .cell false 1 5] (
(.seq (
.reg none [
  ⟨some 3, .box (.t 1), none, true⟩,
  ⟨some 4, .alloc [.int .i64 0, .int .i64 0, .int .i64 0], none, true⟩,
  ⟨some 5, .alloc [.bool false], none, true⟩] (some [0, 3, 4, 5]) []) (
(.seq (
(.seq (
.reg none [
  ⟨some 12, .mv (.t 0), none, true⟩,
  ⟨some 13, .call 96 [.t 12], none, true⟩] (some [0, 3, 4, 5, 13]) []) (
(.block 0 (
A69_R3) (some [0, 3, 4, 5]) [6, 7, 9, 17, 28])))) (
(.seq (
(.seq (
.reg none [
  ⟨some 32, .mv (.t 0), none, true⟩,
  ⟨some 33, .len 0 (.t 32), none, true⟩,
  ⟨some 34, .mv (.c (.int .i64 0)), none, true⟩] (some [0, 3, 4, 5, 33, 34]) []) (
(.block 4 (
A69_L1) (some [0, 3, 4, 5]) [40])))) (
(.seq (
(.seq (
.reg none [
  ⟨some 44, .load false 1 (.t 3), none, true⟩,
  ⟨some 45, .len 0 (.t 44), none, true⟩,
  ⟨some 46, .mv (.c (.int .i64 0)), none, true⟩] (some [0, 3, 4, 5, 45, 46]) []) (
(.block 6 (
A69_L0) (some [4, 5]) [52])))) (
(.seq (
.reg none [
  ⟨some 56, .build [.int .i64 0, .int .i64 0, .int .i64 0] [], none, true⟩,
  ⟨none, .store 3 (.t 4) (.t 56), none, true⟩,
  ⟨none, .store 1 (.t 5) (.c (.bool false)), none, true⟩] (some [4, 5]) []) (
.ret)))))))))))
/-- ambidexter/ambidexterlaw27.Cell -/
def A70 : AFn := .code [.cell true 44 0] (
(.seq (
.reg none [
  ⟨some 0, .alloc [.int .i64 0, .int .i64 0, .int .i64 0, .int .i64 0, .int .i64 0, .int .i64 0, .int .i64 0, .int .i64 0, .int .i64 0, .int .i64 0, .int .i64 0, .int .i64 0, .int .i64 0, .int .i64 0, .int .i64 0, .int .i64 0, .int .i64 0, .int .i64 0, .int .i64 0, .int .i64 0, .int .i64 0, .int .i64 0, .int .i64 0, .int .i64 0, .int .i64 0, .int .i64 0, .int .i64 0, .int .i64 0, .int .i64 0, .int .i64 0, .nils 1, .nils 6, .nils 3, .nils 1, .int .i64 0, .int .i64 0, .int .i64 0, .int .i64 0, .int .i64 0, .int .i64 0, .int .i64 0, .nils 1, .int .i64 0, .int .i64 0], none, true⟩] (some [0]) []) (
(.seq (
.reg none [
  ⟨some 3, .call 98 [], none, true⟩,
  ⟨some 1, .alloc [.int .i64 0, .int .i64 0, .int .i64 0, .int .i64 0, .int .i64 0, .int .i64 0, .int .i64 0, .int .i64 0, .int .i64 0, .int .i64 0, .int .i64 0, .int .i64 0, .int .i64 0, .int .i64 0, .int .i64 0, .int .i64 0, .int .i64 0, .int .i64 0, .int .i64 0, .int .i64 0, .int .i64 0, .int .i64 0, .int .i64 0, .int .i64 0, .int .i64 0, .int .i64 0, .int .i64 0, .int .i64 0, .int .i64 0, .int .i64 0, .nils 1, .nils 6, .nils 3, .nils 1, .int .i64 0, .int .i64 0, .int .i64 0, .int .i64 0, .int .i64 0, .int .i64 0, .int .i64 0, .nils 1, .int .i64 0, .int .i64 0], none, true⟩,
  ⟨none, .store 44 (.t 1) (.t 3), none, true⟩] (some [0, 1]) []) (
(.seq (
.reg none [
  ⟨some 2, .as (.c (.int .i64 4394000)), none, true⟩] (some [0, 1, 2]) []) (
(.seq (
.reg none [
  ⟨some 4, .mv (.t 2), none, true⟩,
  ⟨some 5, .bin .mul (.c (.int .i64 8)) (.t 4), none, true⟩,
  ⟨some 6, .mv (.t 2), none, true⟩,
  ⟨some 7, .bin .mul (.c (.int .i64 (-4))) (.t 6), none, true⟩,
  ⟨some 8, .build [.int .i64 0, .int .i64 0] [(0, 1, .t 5), (1, 1, .t 7)], none, true⟩,
  ⟨some 9, .mv (.t 2), none, true⟩,
  ⟨some 10, .bin .mul (.c (.int .i64 12)) (.t 9), none, true⟩,
  ⟨some 11, .mv (.t 2), none, true⟩,
  ⟨some 12, .bin .mul (.c (.int .i64 (-4))) (.t 11), none, true⟩,
  ⟨some 13, .build [.int .i64 0, .int .i64 0] [(0, 1, .t 10), (1, 1, .t 12)], none, true⟩,
  ⟨some 14, .mv (.t 2), none, true⟩,
  ⟨some 15, .bin .mul (.c (.int .i64 12)) (.t 14), none, true⟩,
  ⟨some 16, .build [.int .i64 0, .int .i64 0] [(0, 1, .t 15), (1, 1, .c (.int .i64 0))], none, true⟩,
  ⟨some 17, .mv (.t 2), none, true⟩,
  ⟨some 18, .bin .mul (.c (.int .i64 8)) (.t 17), none, true⟩,
  ⟨some 19, .build [.int .i64 0, .int .i64 0] [(0, 1, .t 18), (1, 1, .c (.int .i64 0))], none, true⟩,
  ⟨some 20, .bsl 2 4 [.int .i64 0, .int .i64 0] [(0, .t 8), (1, .t 13), (2, .t 16), (3, .t 19)], none, true⟩,
  ⟨some 21, .build [.nils 2] [(0, 1, .t 20)], none, true⟩,
  ⟨some 22, .bsl 1 1 [.nils 2] [(0, .t 21)], none, true⟩,
  ⟨some 23, .fad 41 (.t 1), none, true⟩,
  ⟨none, .store 1 (.t 23) (.t 22), none, true⟩] (some [0, 1, 2]) []) (
(.seq (
.reg none [
  ⟨some 24, .mv (.t 2), none, true⟩,
  ⟨some 25, .bin .mul (.c (.int .i64 25)) (.t 24), none, true⟩,
  ⟨some 26, .fad 0 (.t 1), none, true⟩,
  ⟨some 27, .iaa 2 12 (.t 26) (.c (.int .i64 1)), none, true⟩,
  ⟨some 28, .fad 0 (.t 27), none, true⟩,
  ⟨some 29, .fad 0 (.t 28), none, true⟩,
  ⟨none, .store 1 (.t 29) (.t 25), none, true⟩] (some [0, 1]) []) (
(.seq (
.reg none [
  ⟨some 30, .fad 42 (.t 1), none, true⟩,
  ⟨none, .store 1 (.t 30) (.c (.int .i64 10)), none, true⟩] (some [0, 1]) []) (
(.seq (
.reg none [
  ⟨some 31, .load true 44 (.t 1), none, true⟩,
  ⟨none, .store 44 (.t 0) (.t 31), none, true⟩] (some [0]) [1]) (
.ret)))))))))))))))
def A71_L0b : ACode := 
  (.seq (
  (.seq (
  .reg none [
    ⟨some 11, .mv (.t 5), none, true⟩,
    ⟨some 12, .mv (.t 0), none, true⟩,
    ⟨some 13, .len 0 (.t 12), none, true⟩,
    ⟨some 14, .bin .lss (.t 11) (.t 13), none, true⟩] (some [0, 1, 5, 14]) []) (
  (.cond (.t 14) (
    .skip) (
    .exit 0))))) (
  (.seq (
  (.block 1 (
  (.seq (
  .reg (some [.dr [23, 24] [], .dr [23, 24] [], .dr [23, 24] [], .dr [23, 24] [], .dr [19, 20] [], .dr [19, 20] [], .dr [19, 20] [], .dr [19, 20] [], .free]) [
    ⟨some 17, .mv (.t 0), none, true⟩,
    ⟨some 18, .mv (.t 5), none, true⟩,
    ⟨some 19, .ias 4 (.t 17) (.t 18), none, true⟩,
    ⟨some 20, .load true 4 (.t 19), none, true⟩,
    ⟨some 21, .mv (.t 1), none, true⟩,
    ⟨some 22, .mv (.t 5), none, true⟩,
    ⟨some 23, .ias 4 (.t 21) (.t 22), none, true⟩,
    ⟨some 24, .load true 4 (.t 23), none, true⟩,
    ⟨some 25, .eqa true [0, 0, 0, 0] (.t 20) (.t 24), none, true⟩] (some [0, 1, 5, 25]) []) (
  (.cond (.t 25) (
    (.seq (
    .reg none [
      ⟨some 4, .as (.c (.bool false)), none, true⟩] (some [4]) []) (
    .ret))) (
    .skip))))) (some [0, 1, 5]) [4])) (
  .reg none [
    ⟨some 15, .mv (.t 5), none, true⟩,
    ⟨some 16, .bin .add (.t 15) (.c (.int .i64 1)), none, true⟩,
    ⟨some 5, .as (.t 16), none, true⟩] (some [0, 1, 5]) []))))
def A71_L0 : ACode := .loop A71_L0b (some [0, 1, 5]) [4]
/-- ambidexter/ambidexterref27.Same -/
def A71 : AFn := .code [.t 4] (
(.seq (
.reg none [
  ⟨some 4, .as (.c (.bool false)), none, true⟩] (some [0, 1]) []) (
(.seq (
(.seq (
.reg none [
  ⟨some 6, .mv (.t 0), none, true⟩,
  ⟨some 7, .len 0 (.t 6), none, true⟩,
  ⟨some 8, .mv (.t 1), none, true⟩,
  ⟨some 9, .len 0 (.t 8), none, true⟩,
  ⟨some 10, .bin .neq (.t 7) (.t 9), none, true⟩] (some [0, 1, 10]) []) (
(.cond (.t 10) (
  (.seq (
  .reg none [
    ⟨some 4, .as (.c (.bool false)), none, true⟩] (some [4]) []) (
  .ret))) (
  .skip))))) (
(.seq (
(.seq (
.reg none [
  ⟨some 5, .as (.c (.int .i64 0)), none, true⟩] (some [0, 1, 5]) []) (
(.block 0 (
A71_L0) (some []) [4, 5])))) (
(.seq (
.reg none [
  ⟨some 4, .as (.c (.bool true)), none, true⟩] (some [4]) []) (
.ret)))))))))
/-- ambidexter/monitor.below -/
def A72 : AFn := .code [.t 4] (
(.seq (
.reg none [
  ⟨some 4, .as (.c (.int .i64 0)), none, true⟩] (some [0, 1]) []) (
(.seq (
.reg none [
  ⟨some 6, .mv (.t 0), none, true⟩,
  ⟨some 7, .mv (.t 1), none, true⟩,
  ⟨some 8, .bin .quo (.t 6) (.t 7), none, true⟩,
  ⟨some 5, .as (.t 8), none, true⟩] (some [0, 1, 5]) []) (
(.seq (
(.seq (
.reg none [
  ⟨some 9, .mv (.t 0), none, true⟩,
  ⟨some 10, .mv (.t 1), none, true⟩,
  ⟨some 11, .bin .rem (.t 9) (.t 10), none, true⟩,
  ⟨some 12, .bin .lss (.t 11) (.c (.int .i64 0)), none, true⟩] (some [5, 12]) []) (
(.cond (.t 12) (
  .reg none [
    ⟨some 13, .mv (.t 5), none, true⟩,
    ⟨some 14, .bin .sub (.t 13) (.c (.int .i64 1)), none, true⟩,
    ⟨some 5, .as (.t 14), none, true⟩] (some [5]) []) (
  .skip))))) (
(.seq (
.reg none [
  ⟨some 15, .mv (.t 5), none, true⟩,
  ⟨some 4, .as (.t 15), none, true⟩] (some [4]) []) (
.ret)))))))))
def A73_L0b : ACode := 
  (.seq (
  (.seq (
  .reg none [
    ⟨some 7, .mv (.t 3), none, true⟩,
    ⟨some 8, .bin .lss (.t 7) (.c (.int .i64 2)), none, true⟩] (some [1, 3, 8]) []) (
  (.cond (.t 8) (
    .skip) (
    .exit 0))))) (
  (.seq (
  (.block 1 (
  (.seq (
  .reg none [
    ⟨some 11, .mv (.t 3), none, true⟩,
    ⟨some 12, .fad 0 (.t 1), none, true⟩,
    ⟨some 13, .iaa 2 12 (.t 12) (.t 11), none, true⟩,
    ⟨some 14, .load true 12 (.t 13), none, true⟩,
    ⟨some 4, .alloc [.int .i64 0, .int .i64 0, .int .i64 0, .int .i64 0, .int .i64 0, .int .i64 0, .int .i64 0, .int .i64 0, .int .i64 0, .int .i64 0, .int .i64 0, .int .i64 0], none, true⟩,
    ⟨none, .store 12 (.t 4) (.t 14), none, true⟩] (some [1, 3, 4]) []) (
  (.seq (
  (.seq (
  .reg (some [.free, .free, .free, .free, .dr [23] [], .dr [19] [], .dr [19] [], .dr [19] [], .dr [19] [], .free, .free, .free]) [
    ⟨some 15, .load true 12 (.t 4), none, true⟩,
    ⟨some 16, .call 16 [.t 15], none, true⟩,
    ⟨some 17, .un .not (.t 16), none, true⟩,
    ⟨some 18, .mv (.t 17), none, true⟩,
    ⟨some 19, .load true 12 (.t 4), some (18, false), true⟩,
    ⟨some 20, .mv (.t 3), some (18, false), true⟩,
    ⟨some 21, .fad 24 (.t 1), some (18, false), true⟩,
    ⟨some 22, .iaa 2 3 (.t 21) (.t 20), some (18, false), true⟩,
    ⟨some 23, .load true 3 (.t 22), some (18, false), true⟩,
    ⟨some 24, .call 18 [.t 19, .t 23], some (18, false), true⟩,
    ⟨some 25, .un .not (.t 24), some (18, false), true⟩,
    ⟨some 26, .pick (.t 18) (.c (.bool true)) (.t 25), none, true⟩] (some [1, 3, 4, 26]) []) (
  (.cond (.t 26) (
    (.seq (
    .reg none [
      ⟨some 2, .as (.c (.bool false)), none, true⟩] (some [2]) []) (
    .ret))) (
    .skip))))) (
  (.seq (
  .reg none [
    ⟨some 27, .fad 2 (.t 4), none, true⟩,
    ⟨some 28, .iaa 3 1 (.t 27) (.c (.int .i64 0)), none, true⟩,
    ⟨some 29, .load false 1 (.t 28), none, true⟩,
    ⟨some 30, .fad 2 (.t 4), none, true⟩,
    ⟨some 31, .iaa 3 1 (.t 30) (.c (.int .i64 1)), none, true⟩,
    ⟨some 32, .load false 1 (.t 31), none, true⟩,
    ⟨some 33, .bin .add (.t 29) (.t 32), none, true⟩,
    ⟨some 34, .fad 2 (.t 4), none, true⟩,
    ⟨some 35, .iaa 3 1 (.t 34) (.c (.int .i64 2)), none, true⟩,
    ⟨some 36, .load false 1 (.t 35), none, true⟩,
    ⟨some 37, .bin .add (.t 33) (.t 36), none, true⟩,
    ⟨some 38, .bin .add (.t 37) (.c (.int .i64 15)), none, true⟩,
    ⟨some 39, .bin .mul (.c (.int .i64 39546000)) (.t 38), none, true⟩,
    ⟨some 5, .as (.t 39), none, true⟩] (some [1, 3, 4, 5]) []) (
  (.seq (
  .reg none [
    ⟨some 40, .fad 0 (.t 4), none, true⟩,
    ⟨some 41, .fad 0 (.t 40), none, true⟩,
    ⟨some 42, .load false 1 (.t 41), none, true⟩,
    ⟨some 43, .fad 0 (.t 4), none, true⟩,
    ⟨some 44, .fad 0 (.t 43), none, true⟩,
    ⟨some 45, .load false 1 (.t 44), none, true⟩,
    ⟨some 46, .un .neg (.t 45), none, true⟩,
    ⟨some 47, .mx [.t 42, .t 46], none, true⟩,
    ⟨some 48, .bin .mul (.c (.int .i64 8)) (.t 47), none, true⟩,
    ⟨some 49, .mv (.t 5), none, true⟩,
    ⟨some 50, .bin .add (.t 48) (.t 49), none, true⟩,
    ⟨some 51, .bin .gtr (.t 50) (.c (.int .i64 3515200000)), none, true⟩,
    ⟨some 52, .mv (.t 51), none, true⟩,
    ⟨some 53, .fad 0 (.t 4), some (52, false), true⟩,
    ⟨some 54, .fad 1 (.t 53), some (52, false), true⟩,
    ⟨some 55, .load false 1 (.t 54), some (52, false), true⟩,
    ⟨some 56, .fad 0 (.t 4), some (52, false), true⟩,
    ⟨some 57, .fad 1 (.t 56), some (52, false), true⟩,
    ⟨some 58, .load false 1 (.t 57), some (52, false), true⟩,
    ⟨some 59, .un .neg (.t 58), some (52, false), true⟩,
    ⟨some 60, .mx [.t 55, .t 59], some (52, false), true⟩,
    ⟨some 61, .bin .mul (.c (.int .i64 8)) (.t 60), some (52, false), true⟩,
    ⟨some 62, .mv (.t 5), some (52, false), true⟩,
    ⟨some 63, .bin .add (.t 61) (.t 62), some (52, false), true⟩,
    ⟨some 64, .bin .gtr (.t 63) (.c (.int .i64 3515200000)), some (52, false), true⟩,
    ⟨some 65, .pick (.t 52) (.c (.bool true)) (.t 64), none, true⟩] (some [1, 3, 65]) [4]) (
  (.cond (.t 65) (
    (.seq (
    .reg none [
      ⟨some 2, .as (.c (.bool false)), none, true⟩] (some [2]) []) (
    .ret))) (
    .skip))))))))))) (some [1, 3]) [2, 4, 5, 16, 24])) (
  .reg none [
    ⟨some 9, .mv (.t 3), none, true⟩,
    ⟨some 10, .bin .add (.t 9) (.c (.int .i64 1)), none, true⟩,
    ⟨some 3, .as (.t 10), none, true⟩] (some [1, 3]) []))))
def A73_L0 : ACode := .loop A73_L0b (some [1, 3]) [2, 4, 5, 16, 24]
/-- ambidexter/ambidexterref09.Right -/
def A73 : AFn := .code [.t 2] (
(.seq (
.reg none [
  ⟨some 1, .box (.t 0), none, true⟩,
  ⟨some 2, .as (.c (.bool false)), none, true⟩] (some [1]) []) (
(.seq (
(.seq (
.reg none [
  ⟨some 3, .as (.c (.int .i64 0)), none, true⟩] (some [1, 3]) []) (
(.block 0 (
A73_L0) (some [1]) [2, 3, 4, 5, 16, 24])))) (
(.seq (
(.seq (
.reg none [
  ⟨some 66, .fad 31 (.t 1), none, true⟩,
  ⟨some 67, .load false 1 (.t 66), none, true⟩,
  ⟨some 68, .len 0 (.t 67), none, true⟩,
  ⟨some 69, .bin .gtr (.t 68) (.c (.int .i64 16)), none, true⟩,
  ⟨some 70, .mv (.t 69), none, true⟩,
  ⟨some 71, .fad 32 (.t 1), some (70, false), true⟩,
  ⟨some 72, .load false 1 (.t 71), some (70, false), true⟩,
  ⟨some 73, .len 0 (.t 72), some (70, false), true⟩,
  ⟨some 74, .bin .gtr (.t 73) (.c (.int .i64 8)), some (70, false), true⟩,
  ⟨some 75, .pick (.t 70) (.c (.bool true)) (.t 74), none, true⟩,
  ⟨some 76, .mv (.t 75), none, true⟩,
  ⟨some 77, .fad 33 (.t 1), some (76, false), true⟩,
  ⟨some 78, .load false 1 (.t 77), some (76, false), true⟩,
  ⟨some 79, .len 0 (.t 78), some (76, false), true⟩,
  ⟨some 80, .bin .gtr (.t 79) (.c (.int .i64 16)), some (76, false), true⟩,
  ⟨some 81, .pick (.t 76) (.c (.bool true)) (.t 80), none, true⟩] (some [1, 81]) []) (
(.cond (.t 81) (
  (.seq (
  .reg none [
    ⟨some 2, .as (.c (.bool false)), none, true⟩] (some [2]) []) (
  .ret))) (
  .skip))))) (
(.seq (
.reg none [
  ⟨some 82, .fad 35 (.t 1), none, true⟩,
  ⟨some 83, .load true 3 (.t 82), none, true⟩,
  ⟨some 84, .call 99 [.t 83], none, true⟩,
  ⟨some 85, .mv (.t 84), none, true⟩,
  ⟨some 86, .fad 38 (.t 1), some (85, true), true⟩,
  ⟨some 87, .load true 3 (.t 86), some (85, true), true⟩,
  ⟨some 88, .call 99 [.t 87], some (85, true), true⟩,
  ⟨some 89, .pick (.t 85) (.t 88) (.c (.bool false)), none, true⟩,
  ⟨some 90, .mv (.t 89), none, true⟩,
  ⟨some 91, .fad 38 (.t 1), some (90, true), true⟩,
  ⟨some 92, .fad 0 (.t 91), some (90, true), true⟩,
  ⟨some 93, .load false 1 (.t 92), some (90, true), true⟩,
  ⟨some 94, .fad 35 (.t 1), some (90, true), true⟩,
  ⟨some 95, .fad 0 (.t 94), some (90, true), true⟩,
  ⟨some 96, .load false 1 (.t 95), some (90, true), true⟩,
  ⟨some 97, .bin .leq (.t 93) (.t 96), some (90, true), true⟩,
  ⟨some 98, .pick (.t 90) (.t 97) (.c (.bool false)), none, true⟩,
  ⟨some 99, .mv (.t 98), none, true⟩,
  ⟨some 100, .fad 38 (.t 1), some (99, true), true⟩,
  ⟨some 101, .fad 1 (.t 100), some (99, true), true⟩,
  ⟨some 102, .load false 1 (.t 101), some (99, true), true⟩,
  ⟨some 103, .fad 35 (.t 1), some (99, true), true⟩,
  ⟨some 104, .fad 1 (.t 103), some (99, true), true⟩,
  ⟨some 105, .load false 1 (.t 104), some (99, true), true⟩,
  ⟨some 106, .bin .leq (.t 102) (.t 105), some (99, true), true⟩,
  ⟨some 107, .pick (.t 99) (.t 106) (.c (.bool false)), none, true⟩,
  ⟨some 108, .mv (.t 107), none, true⟩,
  ⟨some 109, .fad 38 (.t 1), some (108, true), true⟩,
  ⟨some 110, .fad 2 (.t 109), some (108, true), true⟩,
  ⟨some 111, .load false 1 (.t 110), some (108, true), true⟩,
  ⟨some 112, .fad 35 (.t 1), some (108, true), true⟩,
  ⟨some 113, .fad 2 (.t 112), some (108, true), true⟩,
  ⟨some 114, .load false 1 (.t 113), some (108, true), true⟩,
  ⟨some 115, .bin .leq (.t 111) (.t 114), some (108, true), true⟩,
  ⟨some 116, .pick (.t 108) (.t 115) (.c (.bool false)), none, true⟩,
  ⟨some 6, .as (.t 116), none, true⟩] (some [1, 6]) []) (
(.seq (
.reg none [
  ⟨some 117, .fad 30 (.t 1), none, true⟩,
  ⟨some 118, .load false 1 (.t 117), none, true⟩,
  ⟨some 119, .call 100 [.t 118], none, true⟩,
  ⟨some 120, .mv (.t 119), none, true⟩,
  ⟨some 121, .load true 44 (.t 1), some (120, true), true⟩,
  ⟨some 122, .call 101 [.t 121], some (120, true), true⟩,
  ⟨some 123, .call 100 [.t 122], some (120, true), true⟩,
  ⟨some 124, .pick (.t 120) (.t 123) (.c (.bool false)), none, true⟩,
  ⟨some 125, .mv (.t 124), none, true⟩,
  ⟨some 126, .fad 31 (.t 1), some (125, true), true⟩,
  ⟨some 127, .load false 1 (.t 126), some (125, true), true⟩,
  ⟨some 128, .call 102 [.t 127], some (125, true), true⟩,
  ⟨some 129, .pick (.t 125) (.t 128) (.c (.bool false)), none, true⟩,
  ⟨some 130, .mv (.t 129), none, true⟩,
  ⟨some 131, .fad 32 (.t 1), some (130, true), true⟩,
  ⟨some 132, .load false 1 (.t 131), some (130, true), true⟩,
  ⟨some 133, .fad 31 (.t 1), some (130, true), true⟩,
  ⟨some 134, .load false 1 (.t 133), some (130, true), true⟩,
  ⟨some 135, .len 0 (.t 134), some (130, true), true⟩,
  ⟨some 136, .call 103 [.t 132, .t 135], some (130, true), true⟩,
  ⟨some 137, .pick (.t 130) (.t 136) (.c (.bool false)), none, true⟩,
  ⟨some 138, .mv (.t 137), none, true⟩,
  ⟨some 139, .fad 33 (.t 1), some (138, true), true⟩,
  ⟨some 140, .load false 1 (.t 139), some (138, true), true⟩,
  ⟨some 141, .fad 31 (.t 1), some (138, true), true⟩,
  ⟨some 142, .load false 1 (.t 141), some (138, true), true⟩,
  ⟨some 143, .len 0 (.t 142), some (138, true), true⟩,
  ⟨some 144, .call 104 [.t 140, .t 143], some (138, true), true⟩,
  ⟨some 145, .pick (.t 138) (.t 144) (.c (.bool false)), none, true⟩,
  ⟨some 146, .mv (.t 145), none, true⟩,
  ⟨some 147, .fad 34 (.t 1), some (146, true), true⟩,
  ⟨some 148, .load false 1 (.t 147), some (146, true), true⟩,
  ⟨some 149, .bin .geq (.t 148) (.c (.int .i64 0)), some (146, true), true⟩,
  ⟨some 150, .pick (.t 146) (.t 149) (.c (.bool false)), none, true⟩,
  ⟨some 151, .mv (.t 150), none, true⟩,
  ⟨some 152, .fad 34 (.t 1), some (151, true), true⟩,
  ⟨some 153, .load false 1 (.t 152), some (151, true), true⟩,
  ⟨some 154, .bin .leq (.t 153) (.c (.int .i64 100)), some (151, true), true⟩,
  ⟨some 155, .pick (.t 151) (.t 154) (.c (.bool false)), none, true⟩,
  ⟨some 156, .mv (.t 155), none, true⟩,
  ⟨some 157, .mv (.t 6), some (156, true), true⟩,
  ⟨some 158, .pick (.t 156) (.t 157) (.c (.bool false)), none, true⟩,
  ⟨some 159, .mv (.t 158), none, true⟩,
  ⟨some 160, .fad 42 (.t 1), some (159, true), true⟩,
  ⟨some 161, .load false 1 (.t 160), some (159, true), true⟩,
  ⟨some 162, .bin .geq (.t 161) (.c (.int .i64 0)), some (159, true), true⟩,
  ⟨some 163, .pick (.t 159) (.t 162) (.c (.bool false)), none, true⟩,
  ⟨some 164, .mv (.t 163), none, true⟩,
  ⟨some 165, .fad 42 (.t 1), some (164, true), true⟩,
  ⟨some 166, .load false 1 (.t 165), some (164, true), true⟩,
  ⟨some 167, .bin .leq (.t 166) (.c (.int .i64 20)), some (164, true), true⟩,
  ⟨some 168, .pick (.t 164) (.t 167) (.c (.bool false)), none, true⟩,
  ⟨some 169, .mv (.t 168), none, true⟩,
  ⟨some 170, .fad 43 (.t 1), some (169, true), true⟩,
  ⟨some 171, .load false 1 (.t 170), some (169, true), true⟩,
  ⟨some 172, .bin .geq (.t 171) (.c (.int .i64 1)), some (169, true), true⟩,
  ⟨some 173, .pick (.t 169) (.t 172) (.c (.bool false)), none, true⟩,
  ⟨some 174, .mv (.t 173), none, true⟩,
  ⟨some 175, .fad 43 (.t 1), some (174, true), true⟩,
  ⟨some 176, .load false 1 (.t 175), some (174, true), true⟩,
  ⟨some 177, .bin .leq (.t 176) (.c (.int .i64 8)), some (174, true), true⟩,
  ⟨some 178, .pick (.t 174) (.t 177) (.c (.bool false)), none, true⟩,
  ⟨some 2, .as (.t 178), none, true⟩] (some [2]) [1]) (
.ret)))))))))))
def A74_L0b : ACode := 
  (.seq (
  (.seq (
  .reg none [
    ⟨some 6, .mv (.t 5), none, true⟩,
    ⟨some 7, .bin .lss (.t 6) (.c (.int .i64 3)), none, true⟩] (some [2, 3, 5, 7]) []) (
  (.cond (.t 7) (
    .skip) (
    .exit 0))))) (
  (.seq (
  (.block 1 (
  (.seq (
  .reg (some [.dr [16] [], .dr [16] [], .dr [16] [], .dr [12] [], .dr [12] [], .dr [12] [], .dr [12] [], .dr [12] [], .free, .free, .dr [26] [], .dr [26] [], .dr [26] [], .dr [22] [], .dr [22] [], .dr [22] [], .dr [22] [], .dr [22] [], .free, .free]) [
    ⟨some 10, .mv (.t 5), none, true⟩,
    ⟨some 11, .iaa 3 1 (.t 3) (.t 10), none, true⟩,
    ⟨some 12, .load false 1 (.t 11), none, true⟩,
    ⟨some 13, .mv (.t 5), none, true⟩,
    ⟨some 14, .fad 6 (.t 2), none, true⟩,
    ⟨some 15, .iaa 3 1 (.t 14) (.t 13), none, true⟩,
    ⟨some 16, .load false 1 (.t 15), none, true⟩,
    ⟨some 17, .bin .mul (.c (.int .i64 12)) (.t 16), none, true⟩,
    ⟨some 18, .bin .lss (.t 12) (.t 17), none, true⟩,
    ⟨some 19, .mv (.t 18), none, true⟩,
    ⟨some 20, .mv (.t 5), some (19, false), true⟩,
    ⟨some 21, .iaa 3 1 (.t 3) (.t 20), some (19, false), true⟩,
    ⟨some 22, .load false 1 (.t 21), some (19, false), true⟩,
    ⟨some 23, .mv (.t 5), some (19, false), true⟩,
    ⟨some 24, .fad 9 (.t 2), some (19, false), true⟩,
    ⟨some 25, .iaa 3 1 (.t 24) (.t 23), some (19, false), true⟩,
    ⟨some 26, .load false 1 (.t 25), some (19, false), true⟩,
    ⟨some 27, .bin .mul (.c (.int .i64 12)) (.t 26), some (19, false), true⟩,
    ⟨some 28, .bin .gtr (.t 22) (.t 27), some (19, false), true⟩,
    ⟨some 29, .pick (.t 19) (.c (.bool true)) (.t 28), none, true⟩] (some [2, 3, 5, 29]) []) (
  (.cond (.t 29) (
    (.seq (
    .reg none [
      ⟨some 4, .as (.c (.bool false)), none, true⟩] (some [4]) []) (
    .ret))) (
    .skip))))) (some [2, 3, 5]) [4])) (
  .reg none [
    ⟨some 8, .mv (.t 5), none, true⟩,
    ⟨some 9, .bin .add (.t 8) (.c (.int .i64 1)), none, true⟩,
    ⟨some 5, .as (.t 9), none, true⟩] (some [2, 3, 5]) []))))
def A74_L0 : ACode := .loop A74_L0b (some [2, 3, 5]) [4]
/-- ambidexter/ambidexterref27.May -/
def A74 : AFn := .code [.t 4] (
(.seq (
.reg none [
  ⟨some 2, .box (.t 0), none, true⟩,
  ⟨some 3, .box (.t 1), none, true⟩,
  ⟨some 4, .as (.c (.bool false)), none, true⟩] (some [2, 3]) []) (
(.seq (
(.seq (
.reg none [
  ⟨some 5, .as (.c (.int .i64 0)), none, true⟩] (some [2, 3, 5]) []) (
(.block 0 (
A74_L0) (some []) [4, 5])))) (
(.seq (
.reg none [
  ⟨some 4, .as (.c (.bool true)), none, true⟩] (some [4]) []) (
.ret)))))))
def A75_L0b : ACode := 
    (.seq (
    .reg none [
      ⟨some 30, .bin .lss (.t 29) (.c (.int .i64 3)), none, true⟩] (some [1, 3, 4, 5, 23, 24, 28, 29, 30]) []) (
    (.seq (
    (.cond (.t 30) (
      .skip) (
      .exit 2))) (
    (.seq (
    (.block 3 (
    (.seq (
    .reg none [
      ⟨some 31, .mv (.t 29), none, true⟩,
      ⟨some 32, .ixa false 3 1 (.t 28) (.t 29), none, true⟩,
      ⟨some 7, .as (.t 31), none, true⟩,
      ⟨some 8, .as (.t 32), none, true⟩] (some [1, 3, 4, 5, 7, 8, 23, 24, 28, 29]) []) (
    (.seq (
    .reg none [
      ⟨some 33, .mv (.t 8), none, true⟩,
      ⟨some 34, .mv (.t 5), none, true⟩,
      ⟨some 35, .mv (.t 7), none, true⟩,
      ⟨some 36, .fad 44 (.t 1), none, true⟩,
      ⟨some 37, .iaa 2 3 (.t 36) (.t 34), none, true⟩,
      ⟨some 38, .iaa 3 1 (.t 37) (.t 35), none, true⟩,
      ⟨some 39, .load false 1 (.t 38), none, true⟩,
      ⟨some 40, .bin .sub (.t 33) (.t 39), none, true⟩,
      ⟨some 9, .as (.t 40), none, true⟩] (some [1, 3, 4, 5, 7, 9, 23, 24, 28, 29]) []) (
    (.seq (
    .reg none [
      ⟨some 41, .mv (.t 9), none, true⟩,
      ⟨some 42, .mv (.t 9), none, true⟩,
      ⟨some 43, .un .neg (.t 42), none, true⟩,
      ⟨some 44, .mx [.t 41, .t 43], none, true⟩,
      ⟨some 45, .mv (.t 4), none, true⟩,
      ⟨some 46, .bin .gtr (.t 44) (.t 45), none, true⟩] (some [1, 3, 4, 5, 7, 23, 24, 28, 29, 46]) []) (
    (.cond (.t 46) (
      .reg none [
        ⟨some 47, .mv (.t 3), none, true⟩,
        ⟨some 48, .mv (.t 5), none, true⟩,
        ⟨some 49, .mv (.t 7), none, true⟩,
        ⟨some 50, .build [.int .i64 0, .int .i64 0, .int .i64 0, .int .i64 0] [(0, 1, .c (.int .i64 1)), (1, 1, .t 48), (2, 1, .t 49)], none, true⟩,
        ⟨some 51, .bsl 4 1 [.int .i64 0, .int .i64 0, .int .i64 0, .int .i64 0] [(0, .t 50)], none, true⟩,
        ⟨some 52, .app 4 (.t 47) (.t 51), none, true⟩,
        ⟨some 3, .as (.t 52), none, true⟩] (some [1, 3, 4, 5, 23, 24, 28, 29]) []) (
      .skip))))))))) (some [1, 3, 4, 5, 23, 24, 28, 29]) [7, 8, 9, 51])) (
    .reg none [
      ⟨some 53, .bin .add (.t 29) (.c (.int .i64 1)), none, true⟩,
      ⟨some 29, .mv (.t 53), none, true⟩] (some [1, 3, 4, 5, 23, 24, 28, 29]) []))))))
def A75_L0 : ACode := .loop A75_L0b (some [1, 3, 4, 5, 23, 24, 28, 29]) [7, 8, 9, 51]
def A75_L1b : ACode := 
  (.seq (
  .reg none [
    ⟨some 25, .bin .lss (.t 24) (.c (.int .i64 2)), none, true⟩] (some [1, 3, 4, 23, 24, 25]) []) (
  (.seq (
  (.cond (.t 25) (
    .skip) (
    .exit 0))) (
  (.seq (
  (.block 1 (
  (.seq (
  .reg none [
    ⟨some 26, .mv (.t 24), none, true⟩,
    ⟨some 27, .ixa true 2 3 (.t 23) (.t 24), none, true⟩,
    ⟨some 6, .alloc [.int .i64 0, .int .i64 0, .int .i64 0], none, true⟩,
    ⟨some 5, .as (.t 26), none, true⟩,
    ⟨none, .store 3 (.t 6) (.t 27), none, true⟩] (some [1, 3, 4, 5, 6, 23, 24]) []) (
  (.seq (
  .reg none [
    ⟨some 28, .load true 3 (.t 6), none, true⟩,
    ⟨some 29, .mv (.c (.int .i64 0)), none, true⟩] (some [1, 3, 4, 5, 23, 24, 28, 29]) [6]) (
  (.block 2 (
  A75_L0) (some [1, 3, 4, 23, 24]) [7, 8, 9, 51])))))) (some [1, 3, 4, 23, 24]) [5, 6, 7, 8, 9, 51])) (
  .reg none [
    ⟨some 54, .bin .add (.t 24) (.c (.int .i64 1)), none, true⟩,
    ⟨some 24, .mv (.t 54), none, true⟩] (some [1, 3, 4, 23, 24]) []))))))
def A75_L1 : ACode := .loop A75_L1b (some [1, 3, 4, 23, 24]) [5, 6, 7, 8, 9, 51]
/-- (ambidexter/monitor.view).fast -/
def A75 : AFn := .code [.t 2] (
(.seq (
.reg none [
  ⟨some 1, .box (.t 0), none, true⟩,
  ⟨some 2, .as (.c (.nils 4)), none, true⟩] (some [1]) []) (
(.seq (
.reg none [
  ⟨some 3, .as (.c (.nils 4)), none, true⟩] (some [1, 3]) []) (
(.seq (
.reg none [
  ⟨some 10, .fad 0 (.t 1), none, true⟩,
  ⟨some 11, .fad 35 (.t 10), none, true⟩,
  ⟨some 12, .fad 0 (.t 11), none, true⟩,
  ⟨some 13, .load false 1 (.t 12), none, true⟩,
  ⟨some 4, .as (.t 13), none, true⟩] (some [1, 3, 4]) []) (
(.seq (
(.seq (
.reg none [
  ⟨some 14, .fad 56 (.t 1), none, true⟩,
  ⟨some 15, .load false 1 (.t 14), none, true⟩,
  ⟨some 16, .call 105 [.t 15, .c (.bool true)], none, true⟩] (some [1, 3, 4, 16]) []) (
(.cond (.t 16) (
  .reg none [
    ⟨some 17, .mv (.t 4), none, true⟩,
    ⟨some 18, .fad 0 (.t 1), none, true⟩,
    ⟨some 19, .fad 43 (.t 18), none, true⟩,
    ⟨some 20, .load false 1 (.t 19), none, true⟩,
    ⟨some 21, .mn [.t 17, .t 20], none, true⟩,
    ⟨some 4, .as (.t 21), none, true⟩] (some [1, 3, 4]) []) (
  .skip))))) (
(.seq (
(.seq (
.reg none [
  ⟨some 22, .fad 50 (.t 1), none, true⟩,
  ⟨some 23, .load true 6 (.t 22), none, true⟩,
  ⟨some 24, .mv (.c (.int .i64 0)), none, true⟩] (some [1, 3, 4, 23, 24]) []) (
(.block 0 (
A75_L1) (some [3]) [5, 6, 7, 8, 9, 51])))) (
(.seq (
.reg none [
  ⟨some 55, .mv (.t 3), none, true⟩,
  ⟨some 2, .as (.t 55), none, true⟩] (some [2]) []) (
.ret)))))))))))))
/-- (ambidexter/monitor.view).near -/
def A76 : AFn := .code [.t 2] (
(.seq (
.reg none [
  ⟨some 1, .box (.t 0), none, true⟩,
  ⟨some 2, .as (.c (.nils 4)), none, true⟩] (some [1]) []) (
(.seq (
(.seq (
.reg none [
  ⟨some 3, .fad 0 (.t 1), none, true⟩,
  ⟨some 4, .load true 44 (.t 3), none, true⟩,
  ⟨some 5, .fad 50 (.t 1), none, true⟩,
  ⟨some 6, .load true 6 (.t 5), none, true⟩,
  ⟨some 7, .call 44 [.t 4, .t 6], none, true⟩] (some [7]) [1]) (
(.cond (.t 7) (
  (.seq (
  .reg none [
    ⟨some 2, .as (.c (.nils 4)), none, true⟩] (some [2]) []) (
  .ret))) (
  .skip))))) (
(.seq (
.reg none [
  ⟨some 8, .build [.int .i64 0, .int .i64 0, .int .i64 0, .int .i64 0] [(0, 1, .c (.int .i64 2))], none, true⟩,
  ⟨some 9, .bsl 4 1 [.int .i64 0, .int .i64 0, .int .i64 0, .int .i64 0] [(0, .t 8)], none, true⟩,
  ⟨some 2, .as (.t 9), none, true⟩] (some [2]) []) (
.ret)))))))
def A77_R0a : ACode := 
      .reg none [
        ⟨some 8, .as (.t 37), none, true⟩] (some [3, 4, 6, 7, 8]) []
def A77_R0b : ACode := 
      (.block 5 (
      (.seq (
      .reg none [
        ⟨some 38, .mv (.t 8), none, true⟩,
        ⟨some 39, .fad 0 (.t 7), none, true⟩,
        ⟨some 40, .load false 1 (.t 39), none, true⟩,
        ⟨some 41, .call 37 [.t 38, .t 40], none, true⟩] (some [3, 4, 6, 41]) [7]) (
      (.cond (.t 41) (
        (.seq (
        .reg none [
          ⟨some 42, .load false 1 (.t 3), none, true⟩,
          ⟨some 43, .load false 1 (.t 4), none, true⟩,
          ⟨some 44, .load false 1 (.t 6), none, true⟩,
          ⟨some 45, .build [.int .i64 0, .int .i64 0, .int .i64 0, .int .i64 0] [(0, 1, .c (.int .i64 3)), (1, 1, .t 43), (3, 1, .t 44)], none, true⟩,
          ⟨some 46, .bsl 4 1 [.int .i64 0, .int .i64 0, .int .i64 0, .int .i64 0] [(0, .t 45)], none, true⟩,
          ⟨some 47, .app 4 (.t 42) (.t 46), none, true⟩,
          ⟨none, .store 1 (.t 3) (.t 47), none, true⟩] (some []) [3, 4, 6]) (
        .exit 4))) (
        .skip))))) (some []) [41, 46, 47])
def A77_R0 : ACode := .rf 0 (.t 36) [37]  A77_R0a A77_R0b
def A77_L1b : ACode := 
    (.seq (
    .reg none [
      ⟨some 20, .bin .lss (.t 19) (.t 18), none, true⟩] (some [1, 2, 3, 4, 5, 10, 11, 17, 18, 19, 20]) []) (
    (.seq (
    (.cond (.t 20) (
      .skip) (
      .exit 2))) (
    (.seq (
    (.block 3 (
    (.seq (
    .reg none [
      ⟨some 21, .mv (.t 19), none, true⟩,
      ⟨some 22, .ias 1 (.t 17) (.t 19), none, true⟩,
      ⟨some 23, .load true 1 (.t 22), none, true⟩,
      ⟨some 6, .alloc [.int .i64 0], none, true⟩,
      ⟨some 7, .alloc [.nils 2], none, true⟩,
      ⟨none, .store 1 (.t 6) (.t 21), none, true⟩,
      ⟨none, .store 1 (.t 7) (.t 23), none, true⟩] (some [1, 2, 3, 4, 5, 6, 7, 10, 11, 17, 18, 19]) []) (
    (.seq (
    (.seq (
    .reg none [
      ⟨some 24, .fad 56 (.t 1), none, true⟩,
      ⟨some 25, .load false 1 (.t 24), none, true⟩,
      ⟨some 26, .load false 1 (.t 6), none, true⟩,
      ⟨some 27, .ias 1 (.t 25) (.t 26), none, true⟩,
      ⟨some 28, .load false 1 (.t 27), none, true⟩,
      ⟨some 29, .un .not (.t 28), none, true⟩] (some [1, 2, 3, 4, 5, 6, 7, 10, 11, 17, 18, 19, 29]) []) (
    (.cond (.t 29) (
      .exit 3) (
      .skip))))) (
    (.seq (
    .reg (some [.dr [35] [], .dr [30, 35] [], .dr [30, 35] [], .dr [35] [], .dr [35] [], .dr [30, 34] [], .free]) [
      ⟨some 30, .load false 1 (.t 4), none, true⟩,
      ⟨some 31, .fad 0 (.t 1), none, true⟩,
      ⟨some 32, .fad 0 (.t 31), none, true⟩,
      ⟨some 33, .iaa 2 12 (.t 32) (.t 30), none, true⟩,
      ⟨some 34, .load true 12 (.t 33), none, true⟩,
      ⟨some 35, .load true 3 (.t 5), none, true⟩,
      ⟨some 36, .call 79 [.t 34, .t 35], none, true⟩] (some [1, 2, 3, 4, 5, 6, 7, 10, 11, 17, 18, 19, 36]) []) (
    (.block 4 (
    A77_R0) (some [1, 2, 3, 4, 5, 10, 11, 17, 18, 19]) [8, 41, 46])))))))) (some [1, 2, 3, 4, 5, 10, 11, 17, 18, 19]) [6, 7, 8, 36, 41, 46])) (
    .reg none [
      ⟨some 48, .bin .add (.t 19) (.c (.int .i64 1)), none, true⟩,
      ⟨some 19, .mv (.t 48), none, true⟩] (some [1, 2, 3, 4, 5, 10, 11, 17, 18, 19]) []))))))
def A77_L1 : ACode := .loop A77_L1b (some [1, 2, 3, 4, 5, 10, 11, 17, 18, 19]) [6, 7, 8, 36, 41, 46]
def A77_L2b : ACode := 
  (.seq (
  .reg none [
    ⟨some 12, .bin .lss (.t 11) (.c (.int .i64 2)), none, true⟩] (some [1, 2, 3, 10, 11, 12]) []) (
  (.seq (
  (.cond (.t 12) (
    .skip) (
    .exit 0))) (
  (.seq (
  (.block 1 (
  (.seq (
  .reg none [
    ⟨some 13, .mv (.t 11), none, true⟩,
    ⟨some 14, .ixa true 2 3 (.t 10) (.t 11), none, true⟩,
    ⟨some 4, .alloc [.int .i64 0], none, true⟩,
    ⟨some 5, .alloc [.int .i64 0, .int .i64 0, .int .i64 0], none, true⟩,
    ⟨none, .store 1 (.t 4) (.t 13), none, true⟩,
    ⟨none, .store 3 (.t 5) (.t 14), none, true⟩] (some [1, 2, 3, 4, 5, 10, 11]) []) (
  (.seq (
  .reg none [
    ⟨some 15, .fad 0 (.t 1), none, true⟩,
    ⟨some 16, .fad 41 (.t 15), none, true⟩,
    ⟨some 17, .load false 1 (.t 16), none, true⟩,
    ⟨some 18, .len 0 (.t 17), none, true⟩,
    ⟨some 19, .mv (.c (.int .i64 0)), none, true⟩] (some [1, 2, 3, 4, 5, 10, 11, 17, 18, 19]) []) (
  (.block 2 (
  A77_L1) (some [1, 2, 3, 10, 11]) [6, 7, 8, 36, 41, 46])))))) (some [1, 2, 3, 10, 11]) [4, 5, 6, 7, 8, 36, 41, 46])) (
  .reg none [
    ⟨some 49, .bin .add (.t 11) (.c (.int .i64 1)), none, true⟩,
    ⟨some 11, .mv (.t 49), none, true⟩] (some [1, 2, 3, 10, 11]) []))))))
def A77_L2 : ACode := .loop A77_L2b (some [1, 2, 3, 10, 11]) [4, 5, 6, 7, 8, 36, 41, 46]
/-- (ambidexter/monitor.view).in -/
def A77 : AFn := .code [.t 2] (
(.seq (
.reg none [
  ⟨some 1, .box (.t 0), none, true⟩,
  ⟨some 2, .as (.c (.nils 4)), none, true⟩] (some [1, 2]) []) (
(.seq (
.reg none [
  ⟨some 3, .alloc [.nils 4], none, true⟩] (some [1, 2, 3]) []) (
(.seq (
(.seq (
.reg none [
  ⟨some 9, .fad 50 (.t 1), none, true⟩,
  ⟨some 10, .load true 6 (.t 9), none, true⟩,
  ⟨some 11, .mv (.c (.int .i64 0)), none, true⟩] (some [1, 2, 3, 10, 11]) []) (
(.block 0 (
A77_L2) (some [3]) [4, 5, 6, 7, 8, 36, 41, 46])))) (
(.seq (
.reg none [
  ⟨some 50, .load false 1 (.t 3), none, true⟩,
  ⟨some 2, .as (.t 50), none, true⟩] (some [2]) [3]) (
.ret)))))))))
def A78_L0b : ACode := 
  (.seq (
  .reg none [
    ⟨some 10, .bin .lss (.t 9) (.t 8), none, true⟩] (some [3, 7, 8, 9, 10]) []) (
  (.seq (
  (.cond (.t 10) (
    .skip) (
    .exit 0))) (
  (.seq (
  (.block 1 (
  (.seq (
  .reg none [
    ⟨some 11, .mv (.t 9), none, true⟩,
    ⟨some 12, .ias 1 (.t 7) (.t 9), none, true⟩,
    ⟨some 13, .load false 1 (.t 12), none, true⟩,
    ⟨some 4, .as (.t 11), none, true⟩,
    ⟨some 5, .as (.t 13), none, true⟩] (some [3, 4, 5, 7, 8, 9]) []) (
  (.seq (
  .reg none [
    ⟨some 14, .mv (.t 5), none, true⟩] (some [3, 4, 7, 8, 9, 14]) []) (
  (.cond (.t 14) (
    .reg none [
      ⟨some 15, .mv (.t 3), none, true⟩,
      ⟨some 16, .mv (.t 4), none, true⟩,
      ⟨some 17, .build [.int .i64 0, .int .i64 0, .int .i64 0, .int .i64 0] [(0, 1, .c (.int .i64 4)), (3, 1, .t 16)], none, true⟩,
      ⟨some 18, .bsl 4 1 [.int .i64 0, .int .i64 0, .int .i64 0, .int .i64 0] [(0, .t 17)], none, true⟩,
      ⟨some 19, .app 4 (.t 15) (.t 18), none, true⟩,
      ⟨some 3, .as (.t 19), none, true⟩] (some [3, 7, 8, 9]) []) (
    .skip))))))) (some [3, 7, 8, 9]) [4, 5, 18])) (
  .reg none [
    ⟨some 20, .bin .add (.t 9) (.c (.int .i64 1)), none, true⟩,
    ⟨some 9, .mv (.t 20), none, true⟩] (some [3, 7, 8, 9]) []))))))
def A78_L0 : ACode := .loop A78_L0b (some [3, 7, 8, 9]) [4, 5, 18]
/-- (ambidexter/monitor.view).unlit -/
def A78 : AFn := .code [.t 2] (
(.seq (
.reg none [
  ⟨some 1, .box (.t 0), none, true⟩,
  ⟨some 2, .as (.c (.nils 4)), none, true⟩] (some [1]) []) (
(.seq (
.reg none [
  ⟨some 3, .as (.c (.nils 4)), none, true⟩] (some [1, 3]) []) (
(.seq (
(.seq (
.reg none [
  ⟨some 6, .fad 56 (.t 1), none, true⟩,
  ⟨some 7, .load false 1 (.t 6), none, true⟩,
  ⟨some 8, .len 0 (.t 7), none, true⟩,
  ⟨some 9, .mv (.c (.int .i64 0)), none, true⟩] (some [3, 7, 8, 9]) [1]) (
(.block 0 (
A78_L0) (some [3]) [4, 5, 18])))) (
(.seq (
.reg none [
  ⟨some 21, .mv (.t 3), none, true⟩,
  ⟨some 2, .as (.t 21), none, true⟩] (some [2]) []) (
.ret)))))))))
/-- ambidexter/monitor.bodies -/
def A79 : AFn := .code [.t 4] (
(.seq (
.reg none [
  ⟨some 2, .box (.t 0), none, true⟩,
  ⟨some 3, .box (.t 1), none, true⟩,
  ⟨some 4, .as (.c (.nilf)), none, true⟩] (some [2, 3]) []) (
(.seq (
.reg none [
  ⟨some 5, .mkf (.func 106) [] [.t 3, .t 2], none, true⟩,
  ⟨some 4, .as (.t 5), none, true⟩] (some [4]) []) (
.ret)))))
/-- ambidexter/geom.BoxDistance -/
def A80 : AFn := .code [.t 4] (
(.seq (
.reg none [
  ⟨some 4, .as (.c (.int .i64 0)), none, true⟩] (some [0, 1]) []) (
(.seq (
(.seq (
.reg none [
  ⟨some 11, .mv (.t 0), none, true⟩,
  ⟨some 12, .len 0 (.t 11), none, true⟩,
  ⟨some 13, .bin .eql (.t 12) (.c (.int .i64 0)), none, true⟩,
  ⟨some 14, .mv (.t 13), none, true⟩,
  ⟨some 15, .mv (.t 1), some (14, false), true⟩,
  ⟨some 16, .len 0 (.t 15), some (14, false), true⟩,
  ⟨some 17, .bin .eql (.t 16) (.c (.int .i64 0)), some (14, false), true⟩,
  ⟨some 18, .pick (.t 14) (.c (.bool true)) (.t 17), none, true⟩] (some [0, 1, 18]) []) (
(.cond (.t 18) (
  (.seq (
  .reg none [
    ⟨some 4, .as (.c (.int .i64 0)), none, true⟩] (some [4]) []) (
  .ret))) (
  .skip))))) (
(.seq (
.reg none [
  ⟨some 20, .mv (.t 0), none, true⟩,
  ⟨some 21, .call 107 [.t 20], none, true⟩,
  ⟨some 19, .mv (.t 21), none, true⟩,
  ⟨some 22, .ext (.t 19) 0, none, true⟩,
  ⟨some 23, .ext (.t 19) 1, none, true⟩,
  ⟨some 5, .alloc [.int .i64 0, .int .i64 0], none, true⟩,
  ⟨some 6, .alloc [.int .i64 0, .int .i64 0], none, true⟩,
  ⟨none, .store 2 (.t 5) (.t 22), none, true⟩,
  ⟨none, .store 2 (.t 6) (.t 23), none, true⟩] (some [1, 5, 6]) []) (
(.seq (
.reg none [
  ⟨some 25, .mv (.t 1), none, true⟩,
  ⟨some 26, .call 107 [.t 25], none, true⟩,
  ⟨some 24, .mv (.t 26), none, true⟩,
  ⟨some 27, .ext (.t 24) 0, none, true⟩,
  ⟨some 28, .ext (.t 24) 1, none, true⟩,
  ⟨some 7, .alloc [.int .i64 0, .int .i64 0], none, true⟩,
  ⟨some 8, .alloc [.int .i64 0, .int .i64 0], none, true⟩,
  ⟨none, .store 2 (.t 7) (.t 27), none, true⟩,
  ⟨none, .store 2 (.t 8) (.t 28), none, true⟩] (some [5, 6, 7, 8]) []) (
(.seq (
.reg (some [.dr [30, 32, 33, 9, 10] [], .dr [29, 32, 33, 9, 10] [], .dr [32, 33, 9, 10] [], .dr [29, 30, 31, 33, 9, 10] [], .dr [29, 30, 31, 32, 9, 10] [], .dr [9, 10] [], .dr [29, 30, 31, 32, 33, 34, 10] [], .dr [29, 30, 31, 32, 33, 34, 9] [], .free, .free]) [
  ⟨some 29, .load true 2 (.t 7), none, true⟩,
  ⟨some 30, .load true 2 (.t 6), none, true⟩,
  ⟨some 31, .call 67 [.t 29, .t 30], none, true⟩,
  ⟨some 32, .load true 2 (.t 5), none, true⟩,
  ⟨some 33, .load true 2 (.t 8), none, true⟩,
  ⟨some 34, .call 67 [.t 32, .t 33], none, true⟩,
  ⟨some 9, .alloc [.int .i64 0, .int .i64 0], none, true⟩,
  ⟨some 10, .alloc [.int .i64 0, .int .i64 0], none, true⟩,
  ⟨none, .store 2 (.t 9) (.t 31), none, true⟩,
  ⟨none, .store 2 (.t 10) (.t 34), none, true⟩] (some [9, 10]) [5, 6, 7, 8]) (
(.seq (
.reg none [
  ⟨some 35, .fad 0 (.t 9), none, true⟩,
  ⟨some 36, .load false 1 (.t 35), none, true⟩,
  ⟨some 37, .fad 1 (.t 9), none, true⟩,
  ⟨some 38, .load false 1 (.t 37), none, true⟩,
  ⟨some 39, .fad 0 (.t 10), none, true⟩,
  ⟨some 40, .load false 1 (.t 39), none, true⟩,
  ⟨some 41, .fad 1 (.t 10), none, true⟩,
  ⟨some 42, .load false 1 (.t 41), none, true⟩,
  ⟨some 43, .mx [.c (.int .i64 0), .t 36, .t 38, .t 40, .t 42], none, true⟩,
  ⟨some 4, .as (.t 43), none, true⟩] (some [4]) [9, 10]) (
.ret)))))))))))))
def A81_L0b : ACode := 
  (.seq (
  (.seq (
  .reg none [
    ⟨some 5, .mv (.t 4), none, true⟩,
    ⟨some 6, .mv (.t 0), none, true⟩,
    ⟨some 7, .bin .lss (.t 5) (.t 6), none, true⟩] (some [0, 3, 4, 7]) []) (
  (.cond (.t 7) (
    .skip) (
    .exit 0))))) (
  (.seq (
  (.block 1 (
  .reg none [
    ⟨some 10, .mv (.t 3), none, true⟩,
    ⟨some 11, .bin .mul (.c (.int .i64 65)) (.t 10), none, true⟩,
    ⟨some 3, .as (.t 11), none, true⟩] (some [0, 3, 4]) []) (some [0, 3, 4]) [])) (
  .reg none [
    ⟨some 8, .mv (.t 4), none, true⟩,
    ⟨some 9, .bin .add (.t 8) (.c (.int .i64 1)), none, true⟩,
    ⟨some 4, .as (.t 9), none, true⟩] (some [0, 3, 4]) []))))
def A81_L0 : ACode := .loop A81_L0b (some [0, 3, 4]) []
/-- ambidexter/ambidexterref01.Pow -/
def A81 : AFn := .code [.t 2] (
(.seq (
.reg none [
  ⟨some 2, .as (.c (.int .i64 0)), none, true⟩] (some [0]) []) (
(.seq (
.reg none [
  ⟨some 3, .as (.c (.int .i64 1)), none, true⟩] (some [0, 3]) []) (
(.seq (
(.seq (
.reg none [
  ⟨some 4, .as (.c (.int .i64 0)), none, true⟩] (some [0, 3, 4]) []) (
(.block 0 (
A81_L0) (some [3]) [4])))) (
(.seq (
.reg none [
  ⟨some 12, .mv (.t 3), none, true⟩,
  ⟨some 2, .as (.t 12), none, true⟩] (some [2]) []) (
.ret)))))))))
/-- ambidexter/rotation.ValidDirection -/
def A82 : AFn := .code [.t 2] (
(.seq (
.reg none [
  ⟨some 1, .box (.t 0), none, true⟩,
  ⟨some 2, .as (.c (.bool false)), none, true⟩] (some [1]) []) (
(.seq (
(.seq (
.reg none [
  ⟨some 6, .fad 2 (.t 1), none, true⟩,
  ⟨some 7, .load false 1 (.t 6), none, true⟩,
  ⟨some 8, .bin .lss (.t 7) (.c (.int .i64 0)), none, true⟩,
  ⟨some 9, .mv (.t 8), none, true⟩,
  ⟨some 10, .fad 2 (.t 1), some (9, false), true⟩,
  ⟨some 11, .load false 1 (.t 10), some (9, false), true⟩,
  ⟨some 12, .bin .gtr (.t 11) (.c (.int .i64 3)), some (9, false), true⟩,
  ⟨some 13, .pick (.t 9) (.c (.bool true)) (.t 12), none, true⟩] (some [1, 13]) []) (
(.cond (.t 13) (
  (.seq (
  .reg none [
    ⟨some 2, .as (.c (.bool false)), none, true⟩] (some [2]) []) (
  .ret))) (
  .skip))))) (
(.seq (
.reg none [
  ⟨some 14, .fad 2 (.t 1), none, true⟩,
  ⟨some 15, .load false 1 (.t 14), none, true⟩,
  ⟨some 16, .mkf (.func 86) [.t 15] [], none, true⟩,
  ⟨some 3, .as (.t 16), none, true⟩] (some [1, 3]) []) (
(.seq (
.reg none [
  ⟨some 17, .mv (.t 3), none, true⟩,
  ⟨some 18, .cal (.t 17) [], none, true⟩,
  ⟨some 4, .alloc [.int .i64 0], none, true⟩,
  ⟨none, .store 1 (.t 4) (.t 18), none, true⟩] (some [1, 4]) []) (
(.seq (
.reg none [
  ⟨some 19, .mkf (.func 108) [] [.t 4], none, true⟩,
  ⟨some 5, .as (.t 19), none, true⟩] (some [1, 4, 5]) []) (
(.seq (
.reg none [
  ⟨some 20, .mv (.t 5), none, true⟩,
  ⟨some 21, .fad 0 (.t 1), none, true⟩,
  ⟨some 22, .load false 1 (.t 21), none, true⟩,
  ⟨some 23, .cal (.t 20) [.t 22], none, true⟩,
  ⟨some 24, .mv (.t 23), none, true⟩,
  ⟨some 25, .mv (.t 5), some (24, true), true⟩,
  ⟨some 26, .fad 1 (.t 1), some (24, true), true⟩,
  ⟨some 27, .load false 1 (.t 26), some (24, true), true⟩,
  ⟨some 28, .cal (.t 25) [.t 27], some (24, true), true⟩,
  ⟨some 29, .pick (.t 24) (.t 28) (.c (.bool false)), none, true⟩,
  ⟨some 30, .mv (.t 29), none, true⟩,
  ⟨some 31, .fad 0 (.t 1), some (30, true), true⟩,
  ⟨some 32, .load false 1 (.t 31), some (30, true), true⟩,
  ⟨some 33, .fad 0 (.t 1), some (30, true), true⟩,
  ⟨some 34, .load false 1 (.t 33), some (30, true), true⟩,
  ⟨some 35, .bin .mul (.t 32) (.t 34), some (30, true), true⟩,
  ⟨some 36, .fad 1 (.t 1), some (30, true), true⟩,
  ⟨some 37, .load false 1 (.t 36), some (30, true), true⟩,
  ⟨some 38, .fad 1 (.t 1), some (30, true), true⟩,
  ⟨some 39, .load false 1 (.t 38), some (30, true), true⟩,
  ⟨some 40, .bin .mul (.t 37) (.t 39), some (30, true), true⟩,
  ⟨some 41, .bin .add (.t 35) (.t 40), some (30, true), true⟩,
  ⟨some 42, .load false 1 (.t 4), some (30, true), true⟩,
  ⟨some 43, .load false 1 (.t 4), some (30, true), true⟩,
  ⟨some 44, .bin .mul (.t 42) (.t 43), some (30, true), true⟩,
  ⟨some 45, .bin .eql (.t 41) (.t 44), some (30, true), true⟩,
  ⟨some 46, .pick (.t 30) (.t 45) (.c (.bool false)), none, true⟩,
  ⟨some 2, .as (.t 46), none, true⟩] (some [2]) [1]) (
.ret)))))))))))))
/-- (ambidexter/rotation.vector).by -/
def A83 : AFn := .code [.cell true 2 4] (
(.seq (
.reg none [
  ⟨some 2, .box (.t 0), none, true⟩,
  ⟨some 4, .alloc [.int .i64 0, .int .i64 0], none, true⟩] (some [1, 2, 4]) []) (
(.seq (
.reg none [
  ⟨some 8, .mv (.t 1), none, true⟩,
  ⟨some 9, .call 109 [.t 8], none, true⟩,
  ⟨some 7, .mv (.t 9), none, true⟩,
  ⟨some 10, .ext (.t 7) 0, none, true⟩,
  ⟨some 11, .ext (.t 7) 1, none, true⟩,
  ⟨some 5, .as (.t 10), none, true⟩,
  ⟨some 6, .as (.t 11), none, true⟩] (some [2, 4, 5, 6]) []) (
(.seq (
.reg none [
  ⟨some 12, .fad 0 (.t 2), none, true⟩,
  ⟨some 13, .load false 1 (.t 12), none, true⟩,
  ⟨some 14, .mv (.t 5), none, true⟩,
  ⟨some 15, .bin .mul (.t 13) (.t 14), none, true⟩,
  ⟨some 16, .fad 1 (.t 2), none, true⟩,
  ⟨some 17, .load false 1 (.t 16), none, true⟩,
  ⟨some 18, .mv (.t 6), none, true⟩,
  ⟨some 19, .bin .mul (.t 17) (.t 18), none, true⟩,
  ⟨some 20, .bin .sub (.t 15) (.t 19), none, true⟩,
  ⟨some 21, .fad 0 (.t 2), none, true⟩,
  ⟨some 22, .load false 1 (.t 21), none, true⟩,
  ⟨some 23, .mv (.t 6), none, true⟩,
  ⟨some 24, .bin .mul (.t 22) (.t 23), none, true⟩,
  ⟨some 25, .fad 1 (.t 2), none, true⟩,
  ⟨some 26, .load false 1 (.t 25), none, true⟩,
  ⟨some 27, .mv (.t 5), none, true⟩,
  ⟨some 28, .bin .mul (.t 26) (.t 27), none, true⟩,
  ⟨some 29, .bin .add (.t 24) (.t 28), none, true⟩,
  ⟨some 30, .build [.int .i64 0, .int .i64 0] [(0, 1, .t 20), (1, 1, .t 29)], none, true⟩,
  ⟨none, .store 2 (.t 4) (.t 30), none, true⟩] (some [4]) [2]) (
.ret)))))))
/-- ambidexter/ambidexterref01.Right -/
def A84 : AFn := .code [.t 2] (
(.seq (
.reg none [
  ⟨some 1, .box (.t 0), none, true⟩,
  ⟨some 2, .as (.c (.bool false)), none, true⟩] (some [1]) []) (
(.seq (
(.seq (
.reg none [
  ⟨some 4, .fad 2 (.t 1), none, true⟩,
  ⟨some 5, .load false 1 (.t 4), none, true⟩,
  ⟨some 6, .bin .lss (.t 5) (.c (.int .i64 0)), none, true⟩,
  ⟨some 7, .mv (.t 6), none, true⟩,
  ⟨some 8, .fad 2 (.t 1), some (7, false), true⟩,
  ⟨some 9, .load false 1 (.t 8), some (7, false), true⟩,
  ⟨some 10, .bin .gtr (.t 9) (.c (.int .i64 3)), some (7, false), true⟩,
  ⟨some 11, .pick (.t 7) (.c (.bool true)) (.t 10), none, true⟩] (some [1, 11]) []) (
(.cond (.t 11) (
  (.seq (
  .reg none [
    ⟨some 2, .as (.c (.bool false)), none, true⟩] (some [2]) []) (
  .ret))) (
  .skip))))) (
(.seq (
.reg none [
  ⟨some 12, .fad 2 (.t 1), none, true⟩,
  ⟨some 13, .load false 1 (.t 12), none, true⟩,
  ⟨some 14, .call 81 [.t 13], none, true⟩,
  ⟨some 3, .as (.t 14), none, true⟩] (some [1, 3]) []) (
(.seq (
.reg none [
  ⟨some 15, .fad 0 (.t 1), none, true⟩,
  ⟨some 16, .load false 1 (.t 15), none, true⟩,
  ⟨some 17, .mv (.t 3), none, true⟩,
  ⟨some 18, .un .neg (.t 17), none, true⟩,
  ⟨some 19, .bin .geq (.t 16) (.t 18), none, true⟩,
  ⟨some 20, .mv (.t 19), none, true⟩,
  ⟨some 21, .fad 0 (.t 1), some (20, true), true⟩,
  ⟨some 22, .load false 1 (.t 21), some (20, true), true⟩,
  ⟨some 23, .mv (.t 3), some (20, true), true⟩,
  ⟨some 24, .bin .leq (.t 22) (.t 23), some (20, true), true⟩,
  ⟨some 25, .pick (.t 20) (.t 24) (.c (.bool false)), none, true⟩,
  ⟨some 26, .mv (.t 25), none, true⟩,
  ⟨some 27, .fad 1 (.t 1), some (26, true), true⟩,
  ⟨some 28, .load false 1 (.t 27), some (26, true), true⟩,
  ⟨some 29, .mv (.t 3), some (26, true), true⟩,
  ⟨some 30, .un .neg (.t 29), some (26, true), true⟩,
  ⟨some 31, .bin .geq (.t 28) (.t 30), some (26, true), true⟩,
  ⟨some 32, .pick (.t 26) (.t 31) (.c (.bool false)), none, true⟩,
  ⟨some 33, .mv (.t 32), none, true⟩,
  ⟨some 34, .fad 1 (.t 1), some (33, true), true⟩,
  ⟨some 35, .load false 1 (.t 34), some (33, true), true⟩,
  ⟨some 36, .mv (.t 3), some (33, true), true⟩,
  ⟨some 37, .bin .leq (.t 35) (.t 36), some (33, true), true⟩,
  ⟨some 38, .pick (.t 33) (.t 37) (.c (.bool false)), none, true⟩,
  ⟨some 39, .mv (.t 38), none, true⟩,
  ⟨some 40, .fad 0 (.t 1), some (39, true), true⟩,
  ⟨some 41, .load false 1 (.t 40), some (39, true), true⟩,
  ⟨some 42, .fad 0 (.t 1), some (39, true), true⟩,
  ⟨some 43, .load false 1 (.t 42), some (39, true), true⟩,
  ⟨some 44, .bin .mul (.t 41) (.t 43), some (39, true), true⟩,
  ⟨some 45, .fad 1 (.t 1), some (39, true), true⟩,
  ⟨some 46, .load false 1 (.t 45), some (39, true), true⟩,
  ⟨some 47, .fad 1 (.t 1), some (39, true), true⟩,
  ⟨some 48, .load false 1 (.t 47), some (39, true), true⟩,
  ⟨some 49, .bin .mul (.t 46) (.t 48), some (39, true), true⟩,
  ⟨some 50, .bin .add (.t 44) (.t 49), some (39, true), true⟩,
  ⟨some 51, .mv (.t 3), some (39, true), true⟩,
  ⟨some 52, .mv (.t 3), some (39, true), true⟩,
  ⟨some 53, .bin .mul (.t 51) (.t 52), some (39, true), true⟩,
  ⟨some 54, .bin .eql (.t 50) (.t 53), some (39, true), true⟩,
  ⟨some 55, .pick (.t 39) (.t 54) (.c (.bool false)), none, true⟩,
  ⟨some 2, .as (.t 55), none, true⟩] (some [2]) [1]) (
.ret)))))))))
def A85_L0b : ACode := 
  (.seq (
  (.seq (
  .reg none [
    ⟨some 24, .mv (.t 9), none, true⟩,
    ⟨some 25, .mv (.t 6), none, true⟩,
    ⟨some 26, .bin .quo (.t 25) (.c (.int .i64 9)), none, true⟩,
    ⟨some 27, .bin .lss (.t 24) (.t 26), none, true⟩] (some [6, 7, 8, 9, 27]) []) (
  (.cond (.t 27) (
    .skip) (
    .exit 0))))) (
  (.seq (
  (.block 1 (
  .reg none [
    ⟨some 30, .mv (.t 8), none, true⟩,
    ⟨some 31, .un .neg (.t 30), none, true⟩,
    ⟨some 32, .mv (.t 7), none, true⟩,
    ⟨some 7, .as (.t 31), none, true⟩,
    ⟨some 8, .as (.t 32), none, true⟩] (some [6, 7, 8, 9]) []) (some [6, 7, 8, 9]) [])) (
  .reg none [
    ⟨some 28, .mv (.t 9), none, true⟩,
    ⟨some 29, .bin .add (.t 28) (.c (.int .i64 1)), none, true⟩,
    ⟨some 9, .as (.t 29), none, true⟩] (some [6, 7, 8, 9]) []))))
def A85_L0 : ACode := .loop A85_L0b (some [6, 7, 8, 9]) []
/-- ambidexter/ambidexterref01.Of -/
def A85 : AFn := .code [.t 2, .t 3] (
(.seq (
.reg none [
  ⟨some 2, .as (.c (.int .i64 0)), none, true⟩,
  ⟨some 3, .as (.c (.int .i64 0)), none, true⟩] (some [0]) []) (
(.seq (
.reg none [
  ⟨some 10, .bsl 1 9 [.int .i64 0] [(0, .c (.int .i64 65)), (1, .c (.int .i64 63)), (2, .c (.int .i64 60)), (3, .c (.int .i64 56)), (4, .c (.int .i64 52)), (5, .c (.int .i64 39)), (6, .c (.int .i64 33)), (7, .c (.int .i64 25)), (8, .c (.int .i64 16))], none, true⟩,
  ⟨some 4, .as (.t 10), none, true⟩] (some [0, 4]) []) (
(.seq (
.reg none [
  ⟨some 11, .bsl 1 9 [.int .i64 0] [(0, .c (.int .i64 0)), (1, .c (.int .i64 16)), (2, .c (.int .i64 25)), (3, .c (.int .i64 33)), (4, .c (.int .i64 39)), (5, .c (.int .i64 52)), (6, .c (.int .i64 56)), (7, .c (.int .i64 60)), (8, .c (.int .i64 63))], none, true⟩,
  ⟨some 5, .as (.t 11), none, true⟩] (some [0, 4, 5]) []) (
(.seq (
.reg none [
  ⟨some 12, .mv (.t 0), none, true⟩,
  ⟨some 13, .call 110 [.t 12], none, true⟩,
  ⟨some 6, .as (.t 13), none, true⟩] (some [4, 5, 6]) []) (
(.seq (
.reg none [
  ⟨some 14, .mv (.t 4), none, true⟩,
  ⟨some 15, .mv (.t 6), none, true⟩,
  ⟨some 16, .bin .rem (.t 15) (.c (.int .i64 9)), none, true⟩,
  ⟨some 17, .ias 1 (.t 14) (.t 16), none, true⟩,
  ⟨some 18, .load false 1 (.t 17), none, true⟩,
  ⟨some 7, .as (.t 18), none, true⟩] (some [5, 6, 7]) []) (
(.seq (
.reg none [
  ⟨some 19, .mv (.t 5), none, true⟩,
  ⟨some 20, .mv (.t 6), none, true⟩,
  ⟨some 21, .bin .rem (.t 20) (.c (.int .i64 9)), none, true⟩,
  ⟨some 22, .ias 1 (.t 19) (.t 21), none, true⟩,
  ⟨some 23, .load false 1 (.t 22), none, true⟩,
  ⟨some 8, .as (.t 23), none, true⟩] (some [6, 7, 8]) []) (
(.seq (
(.seq (
.reg none [
  ⟨some 9, .as (.c (.int .i64 0)), none, true⟩] (some [6, 7, 8, 9]) []) (
(.block 0 (
A85_L0) (some [7, 8]) [9])))) (
(.seq (
.reg none [
  ⟨some 33, .mv (.t 7), none, true⟩,
  ⟨some 34, .mv (.t 8), none, true⟩,
  ⟨some 2, .as (.t 33), none, true⟩,
  ⟨some 3, .as (.t 34), none, true⟩] (some [2, 3]) []) (
.ret)))))))))))))))))
def A86_L0b : ACode := 
  (.seq (
  .reg none [
    ⟨some 6, .bin .lss (.t 5) (.t 4), none, true⟩] (some [3, 4, 5, 6]) []) (
  (.seq (
  (.cond (.t 6) (
    .skip) (
    .exit 0))) (
  (.seq (
  (.block 1 (
  .reg none [
    ⟨some 7, .mv (.t 3), none, true⟩,
    ⟨some 8, .bin .mul (.t 7) (.c (.int .i64 65)), none, true⟩,
    ⟨some 3, .as (.t 8), none, true⟩] (some [3, 4, 5]) []) (some [3, 4, 5]) [])) (
  .reg none [
    ⟨some 9, .bin .add (.t 5) (.c (.int .i64 1)), none, true⟩,
    ⟨some 5, .mv (.t 9), none, true⟩] (some [3, 4, 5]) []))))))
def A86_L0 : ACode := .loop A86_L0b (some [3, 4, 5]) []
/-- (ambidexter/rotation.power).of -/
def A86 : AFn := .code [.t 2] (
(.seq (
.reg none [
  ⟨some 2, .as (.c (.int .i64 0)), none, true⟩] (some [0]) []) (
(.seq (
.reg none [
  ⟨some 3, .as (.c (.int .i64 1)), none, true⟩] (some [0, 3]) []) (
(.seq (
(.seq (
.reg none [
  ⟨some 4, .mv (.t 0), none, true⟩,
  ⟨some 5, .mv (.c (.int .i64 0)), none, true⟩] (some [3, 4, 5]) []) (
(.block 0 (
A86_L0) (some [3]) [])))) (
(.seq (
.reg none [
  ⟨some 10, .mv (.t 3), none, true⟩,
  ⟨some 2, .as (.t 10), none, true⟩] (some [2]) []) (
.ret)))))))))
def A87_L0b : ACode := 
  (.seq (
  .reg none [
    ⟨some 9, .bin .lss (.t 8) (.t 7), none, true⟩] (some [0, 1, 7, 8, 9]) []) (
  (.seq (
  (.cond (.t 9) (
    .skip) (
    .exit 0))) (
  (.seq (
  (.block 1 (
  (.seq (
  .reg none [
    ⟨some 10, .mv (.t 8), none, true⟩,
    ⟨some 5, .as (.t 10), none, true⟩] (some [0, 1, 5, 7, 8]) []) (
  (.seq (
  .reg none [
    ⟨some 11, .mv (.t 1), none, true⟩,
    ⟨some 12, .mv (.t 0), none, true⟩,
    ⟨some 13, .mv (.t 5), none, true⟩,
    ⟨some 14, .ias 2 (.t 12) (.t 13), none, true⟩,
    ⟨some 15, .load true 2 (.t 14), none, true⟩,
    ⟨some 16, .cal (.t 11) [.t 15], none, true⟩] (some [0, 1, 5, 7, 8, 16]) []) (
  (.cond (.t 16) (
    (.seq (
    .reg none [
      ⟨some 17, .mv (.t 5), none, true⟩,
      ⟨some 4, .as (.t 17), none, true⟩] (some [4]) []) (
    .ret))) (
    .skip))))))) (some [0, 1, 7, 8]) [4, 5, 16])) (
  .reg none [
    ⟨some 18, .bin .add (.t 8) (.c (.int .i64 1)), none, true⟩,
    ⟨some 8, .mv (.t 18), none, true⟩] (some [0, 1, 7, 8]) []))))))
def A87_L0 : ACode := .loop A87_L0b (some [0, 1, 7, 8]) [4, 5, 16]
/-- slices.IndexFunc[ambidexter/api.Polygon,ambidexter/api.Point] -/
def A87 : AFn := .code [.t 4] (
(.seq (
.reg none [
  ⟨some 4, .as (.c (.int .i64 0)), none, true⟩] (some [0, 1]) []) (
(.seq (
(.seq (
.reg none [
  ⟨some 6, .mv (.t 0), none, true⟩,
  ⟨some 7, .len 0 (.t 6), none, true⟩,
  ⟨some 8, .mv (.c (.int .i64 0)), none, true⟩] (some [0, 1, 7, 8]) []) (
(.block 0 (
A87_L0) (some []) [4, 5, 16])))) (
(.seq (
.reg none [
  ⟨some 4, .as (.c (.int .i64 (-1))), none, true⟩] (some [4]) []) (
.ret)))))))
/-- ambidexter/geom.SegmentsIntersect -/
def A88 : AFn := .code [.t 8] (
(.seq (
.reg none [
  ⟨some 4, .box (.t 0), none, true⟩,
  ⟨some 5, .box (.t 1), none, true⟩,
  ⟨some 6, .box (.t 2), none, true⟩,
  ⟨some 7, .box (.t 3), none, true⟩,
  ⟨some 8, .as (.c (.bool false)), none, true⟩] (some [4, 5, 6, 7]) []) (
(.seq (
.reg none [
  ⟨some 9, .as (.fu 111), none, true⟩] (some [4, 5, 6, 7, 9]) []) (
(.seq (
.reg none [
  ⟨some 15, .mv (.t 9), none, true⟩,
  ⟨some 16, .load true 2 (.t 4), none, true⟩,
  ⟨some 17, .load true 2 (.t 5), none, true⟩,
  ⟨some 18, .load true 2 (.t 6), none, true⟩,
  ⟨some 19, .load true 2 (.t 7), none, true⟩,
  ⟨some 20, .cal (.t 15) [.t 16, .t 17, .t 18, .t 19], none, true⟩,
  ⟨some 14, .mv (.t 20), none, true⟩,
  ⟨some 21, .ext (.t 14) 0, none, true⟩,
  ⟨some 22, .ext (.t 14) 1, none, true⟩,
  ⟨some 10, .as (.t 21), none, true⟩,
  ⟨some 11, .as (.t 22), none, true⟩] (some [4, 5, 6, 7, 9, 10, 11]) []) (
(.seq (
.reg none [
  ⟨some 24, .mv (.t 9), none, true⟩,
  ⟨some 25, .load true 2 (.t 6), none, true⟩,
  ⟨some 26, .load true 2 (.t 7), none, true⟩,
  ⟨some 27, .load true 2 (.t 4), none, true⟩,
  ⟨some 28, .load true 2 (.t 5), none, true⟩,
  ⟨some 29, .cal (.t 24) [.t 25, .t 26, .t 27, .t 28], none, true⟩,
  ⟨some 23, .mv (.t 29), none, true⟩,
  ⟨some 30, .ext (.t 23) 0, none, true⟩,
  ⟨some 31, .ext (.t 23) 1, none, true⟩,
  ⟨some 12, .as (.t 30), none, true⟩,
  ⟨some 13, .as (.t 31), none, true⟩] (some [10, 11, 12, 13]) [4, 5, 6, 7]) (
(.seq (
.reg none [
  ⟨some 32, .mv (.t 10), none, true⟩,
  ⟨some 33, .mv (.t 32), none, true⟩,
  ⟨some 34, .mv (.t 12), some (33, true), true⟩,
  ⟨some 35, .pick (.t 33) (.t 34) (.c (.bool false)), none, true⟩,
  ⟨some 36, .mv (.t 35), none, true⟩,
  ⟨some 37, .mv (.t 11), some (36, false), true⟩,
  ⟨some 38, .pick (.t 36) (.c (.bool true)) (.t 37), none, true⟩,
  ⟨some 39, .mv (.t 38), none, true⟩,
  ⟨some 40, .mv (.t 13), some (39, false), true⟩,
  ⟨some 41, .pick (.t 39) (.c (.bool true)) (.t 40), none, true⟩,
  ⟨some 8, .as (.t 41), none, true⟩] (some [8]) []) (
.ret)))))))))))
def A89_L0b : ACode := 
  (.seq (
  .reg none [
    ⟨some 8, .bin .lss (.t 7) (.t 6), none, true⟩] (some [0, 1, 5, 6, 7, 8]) []) (
  (.seq (
  (.cond (.t 8) (
    .skip) (
    .exit 0))) (
  (.seq (
  (.block 1 (
  (.seq (
  .reg none [
    ⟨some 9, .mv (.t 7), none, true⟩,
    ⟨some 10, .ias 2 (.t 5) (.t 7), none, true⟩,
    ⟨some 11, .load true 2 (.t 10), none, true⟩,
    ⟨some 4, .alloc [.int .i64 0, .int .i64 0], none, true⟩,
    ⟨some 3, .as (.t 9), none, true⟩,
    ⟨none, .store 2 (.t 4) (.t 11), none, true⟩] (some [0, 1, 3, 4, 5, 6, 7]) []) (
  (.seq (
  .reg (some [.dr [14, 15, 18, 19, 21, 22] [], .dr [14, 15, 18, 19, 21, 22] [], .dr [15, 18, 19, 21, 22] [], .dr [14, 18, 19] [], .dr [14, 15, 18, 19] [], .dr [14, 15, 18, 19] [], .dr [14, 15] [], .dr [14, 15] [], .dr [14, 15] [], .dr [14] [], .dr [14] [], .dr [] [], .free, .free]) [
    ⟨some 12, .mv (.t 0), none, true⟩,
    ⟨some 13, .mv (.t 3), none, true⟩,
    ⟨some 14, .load true 2 (.t 4), none, true⟩,
    ⟨some 15, .load false 1 (.t 1), none, true⟩,
    ⟨some 16, .mv (.t 3), none, true⟩,
    ⟨some 17, .bin .add (.t 16) (.c (.int .i64 1)), none, true⟩,
    ⟨some 18, .load false 1 (.t 1), none, true⟩,
    ⟨some 19, .len 0 (.t 18), none, true⟩,
    ⟨some 20, .bin .rem (.t 17) (.t 19), none, true⟩,
    ⟨some 21, .ias 2 (.t 15) (.t 20), none, true⟩,
    ⟨some 22, .load true 2 (.t 21), none, true⟩,
    ⟨some 23, .build [.int .i64 0, .int .i64 0, .int .i64 0, .int .i64 0] [(0, 2, .t 14), (2, 2, .t 22)], none, true⟩,
    ⟨some 24, .cal (.t 12) [.t 13, .t 23], none, true⟩,
    ⟨some 25, .un .not (.t 24), none, true⟩] (some [0, 1, 5, 6, 7, 25]) [4]) (
  (.cond (.t 25) (
    .ret) (
    .skip))))))) (some [0, 1, 5, 6, 7]) [3, 4, 24])) (
  .reg none [
    ⟨some 26, .bin .add (.t 7) (.c (.int .i64 1)), none, true⟩,
    ⟨some 7, .mv (.t 26), none, true⟩] (some [0, 1, 5, 6, 7]) []))))))
def A89_L0 : ACode := .loop A89_L0b (some [0, 1, 5, 6, 7]) [3, 4, 24]
/-- ambidexter/polygon.edges$1 -/
def A89 : AFn := .code [] (
(.seq (
.reg none [
  ⟨some 5, .load false 1 (.t 1), none, true⟩,
  ⟨some 6, .len 0 (.t 5), none, true⟩,
  ⟨some 7, .mv (.c (.int .i64 0)), none, true⟩] (some [0, 1, 5, 6, 7]) []) (
(.block 0 (
A89_L0) (some []) [3, 4, 24]))))
/-- ambidexter/geom.within -/
def A90 : AFn := .code [.t 6] (
(.seq (
.reg none [
  ⟨some 3, .box (.t 0), none, true⟩,
  ⟨some 4, .box (.t 1), none, true⟩,
  ⟨some 5, .box (.t 2), none, true⟩,
  ⟨some 6, .as (.c (.bool false)), none, true⟩] (some [3, 4, 5]) []) (
(.seq (
.reg none [
  ⟨some 10, .load true 2 (.t 3), none, true⟩,
  ⟨some 11, .load true 2 (.t 4), none, true⟩,
  ⟨some 12, .bsl 2 2 [.int .i64 0, .int .i64 0] [(0, .t 10), (1, .t 11)], none, true⟩,
  ⟨some 13, .call 107 [.t 12], none, true⟩,
  ⟨some 9, .mv (.t 13), none, true⟩,
  ⟨some 14, .ext (.t 9) 0, none, true⟩,
  ⟨some 15, .ext (.t 9) 1, none, true⟩,
  ⟨some 7, .alloc [.int .i64 0, .int .i64 0], none, true⟩,
  ⟨some 8, .alloc [.int .i64 0, .int .i64 0], none, true⟩,
  ⟨none, .store 2 (.t 7) (.t 14), none, true⟩,
  ⟨none, .store 2 (.t 8) (.t 15), none, true⟩] (some [5, 7, 8]) [3, 4]) (
(.seq (
.reg none [
  ⟨some 16, .fad 0 (.t 5), none, true⟩,
  ⟨some 17, .load false 1 (.t 16), none, true⟩,
  ⟨some 18, .fad 0 (.t 7), none, true⟩,
  ⟨some 19, .load false 1 (.t 18), none, true⟩,
  ⟨some 20, .bin .geq (.t 17) (.t 19), none, true⟩,
  ⟨some 21, .mv (.t 20), none, true⟩,
  ⟨some 22, .fad 0 (.t 5), some (21, true), true⟩,
  ⟨some 23, .load false 1 (.t 22), some (21, true), true⟩,
  ⟨some 24, .fad 0 (.t 8), some (21, true), true⟩,
  ⟨some 25, .load false 1 (.t 24), some (21, true), true⟩,
  ⟨some 26, .bin .leq (.t 23) (.t 25), some (21, true), true⟩,
  ⟨some 27, .pick (.t 21) (.t 26) (.c (.bool false)), none, true⟩,
  ⟨some 28, .mv (.t 27), none, true⟩,
  ⟨some 29, .fad 1 (.t 5), some (28, true), true⟩,
  ⟨some 30, .load false 1 (.t 29), some (28, true), true⟩,
  ⟨some 31, .fad 1 (.t 7), some (28, true), true⟩,
  ⟨some 32, .load false 1 (.t 31), some (28, true), true⟩,
  ⟨some 33, .bin .geq (.t 30) (.t 32), some (28, true), true⟩,
  ⟨some 34, .pick (.t 28) (.t 33) (.c (.bool false)), none, true⟩,
  ⟨some 35, .mv (.t 34), none, true⟩,
  ⟨some 36, .fad 1 (.t 5), some (35, true), true⟩,
  ⟨some 37, .load false 1 (.t 36), some (35, true), true⟩,
  ⟨some 38, .fad 1 (.t 8), some (35, true), true⟩,
  ⟨some 39, .load false 1 (.t 38), some (35, true), true⟩,
  ⟨some 40, .bin .leq (.t 37) (.t 39), some (35, true), true⟩,
  ⟨some 41, .pick (.t 35) (.t 40) (.c (.bool false)), none, true⟩,
  ⟨some 6, .as (.t 41), none, true⟩] (some [6]) [5, 7, 8]) (
.ret)))))))
/-- (ambidexter/rotation.vector).left -/
def A91 : AFn := .code [.cell true 2 2] (
(.seq (
.reg none [
  ⟨some 1, .box (.t 0), none, true⟩,
  ⟨some 2, .alloc [.int .i64 0, .int .i64 0], none, true⟩] (some [1, 2]) []) (
(.seq (
.reg none [
  ⟨some 3, .fad 1 (.t 1), none, true⟩,
  ⟨some 4, .load false 1 (.t 3), none, true⟩,
  ⟨some 5, .un .neg (.t 4), none, true⟩,
  ⟨some 6, .fad 0 (.t 1), none, true⟩,
  ⟨some 7, .load false 1 (.t 6), none, true⟩,
  ⟨some 8, .build [.int .i64 0, .int .i64 0] [(0, 1, .t 5), (1, 1, .t 7)], none, true⟩,
  ⟨none, .store 2 (.t 2) (.t 8), none, true⟩] (some [2]) [1]) (
.ret)))))
def A92_L0b : ACode := 
  (.seq (
  .reg none [
    ⟨some 11, .bin .lss (.t 10) (.t 9), none, true⟩] (some [1, 5, 8, 9, 10, 11]) []) (
  (.seq (
  (.cond (.t 11) (
    .skip) (
    .exit 0))) (
  (.seq (
  (.block 1 (
  (.seq (
  .reg none [
    ⟨some 12, .ias 2 (.t 8) (.t 10), none, true⟩,
    ⟨some 13, .load true 2 (.t 12), none, true⟩,
    ⟨some 7, .alloc [.int .i64 0, .int .i64 0], none, true⟩,
    ⟨none, .store 2 (.t 7) (.t 13), none, true⟩] (some [1, 5, 7, 8, 9, 10]) []) (
  .reg none [
    ⟨some 14, .mv (.t 5), none, true⟩,
    ⟨some 15, .mv (.t 1), none, true⟩,
    ⟨some 16, .load true 2 (.t 7), none, true⟩,
    ⟨some 17, .cal (.t 15) [.t 16], none, true⟩,
    ⟨some 18, .bsl 2 1 [.int .i64 0, .int .i64 0] [(0, .t 17)], none, true⟩,
    ⟨some 19, .app 2 (.t 14) (.t 18), none, true⟩,
    ⟨some 5, .as (.t 19), none, true⟩] (some [1, 5, 8, 9, 10]) [7]))) (some [1, 5, 8, 9, 10]) [7, 17, 18])) (
  .reg none [
    ⟨some 20, .bin .add (.t 10) (.c (.int .i64 1)), none, true⟩,
    ⟨some 10, .mv (.t 20), none, true⟩] (some [1, 5, 8, 9, 10]) []))))))
def A92_L0 : ACode := .loop A92_L0b (some [1, 5, 8, 9, 10]) [7, 17, 18]
/-- ambidexter/polygon.each[ambidexter/api.Point,ambidexter/api.Polygon] -/
def A92 : AFn := .code [.t 4] (
(.seq (
.reg none [
  ⟨some 4, .as (.c (.nils 2)), none, true⟩] (some [0, 1]) []) (
(.seq (
.reg none [
  ⟨some 5, .as (.c (.nils 2)), none, true⟩] (some [0, 1, 5]) []) (
(.seq (
(.seq (
.reg none [
  ⟨some 8, .mv (.t 0), none, true⟩,
  ⟨some 9, .len 0 (.t 8), none, true⟩,
  ⟨some 10, .mv (.c (.int .i64 0)), none, true⟩] (some [1, 5, 8, 9, 10]) []) (
(.block 0 (
A92_L0) (some [5]) [7, 17, 18])))) (
(.seq (
.reg none [
  ⟨some 21, .mv (.t 5), none, true⟩,
  ⟨some 4, .as (.t 21), none, true⟩] (some [4]) []) (
.ret)))))))))
/-- ambidexter/polygon.Rotate$1 -/
def A93 : AFn := .code [.cell true 2 4] (
(.seq (
.reg none [
  ⟨some 3, .box (.t 0), none, true⟩,
  ⟨some 4, .alloc [.int .i64 0, .int .i64 0], none, true⟩] (some [1, 2, 3, 4]) []) (
(.seq (
.reg none [
  ⟨some 8, .load true 2 (.t 3), none, true⟩,
  ⟨some 9, .load false 1 (.t 1), none, true⟩,
  ⟨some 10, .call 94 [.t 8, .t 9], none, true⟩,
  ⟨some 7, .mv (.t 10), none, true⟩,
  ⟨some 11, .ext (.t 7) 0, none, true⟩,
  ⟨some 12, .ext (.t 7) 1, none, true⟩,
  ⟨some 5, .alloc [.int .i64 0, .int .i64 0], none, true⟩,
  ⟨none, .store 2 (.t 5) (.t 11), none, true⟩,
  ⟨some 6, .as (.t 12), none, true⟩] (some [2, 4, 5, 6]) [3]) (
(.seq (
.reg none [
  ⟨some 13, .load false 1 (.t 2), none, true⟩,
  ⟨some 14, .mv (.t 13), none, true⟩,
  ⟨some 15, .mv (.t 6), some (14, true), true⟩,
  ⟨some 16, .pick (.t 14) (.t 15) (.c (.bool false)), none, true⟩,
  ⟨none, .store 1 (.t 2) (.t 16), none, true⟩] (some [4, 5]) []) (
(.seq (
.reg none [
  ⟨some 17, .load true 2 (.t 5), none, true⟩,
  ⟨none, .store 2 (.t 4) (.t 17), none, true⟩] (some [4]) [5]) (
.ret)))))))))
/-- ambidexter/rotation.RotatePoint -/
def A94 : AFn := .code [.cell true 2 4, .t 5] (
(.seq (
.reg none [
  ⟨some 2, .box (.t 0), none, true⟩,
  ⟨some 4, .alloc [.int .i64 0, .int .i64 0], none, true⟩,
  ⟨some 5, .as (.c (.bool false)), none, true⟩] (some [1, 2, 4]) []) (
(.seq (
.reg none [
  ⟨some 7, .fad 0 (.t 2), none, true⟩,
  ⟨some 8, .load false 1 (.t 7), none, true⟩,
  ⟨some 9, .fad 1 (.t 2), none, true⟩,
  ⟨some 10, .load false 1 (.t 9), none, true⟩,
  ⟨some 11, .build [.int .i64 0, .int .i64 0] [(0, 1, .t 8), (1, 1, .t 10)], none, true⟩,
  ⟨some 12, .mv (.t 1), none, true⟩,
  ⟨some 13, .call 83 [.t 11, .t 12], none, true⟩,
  ⟨some 6, .alloc [.int .i64 0, .int .i64 0], none, true⟩,
  ⟨none, .store 2 (.t 6) (.t 13), none, true⟩] (some [4, 6]) [2]) (
(.seq (
(.seq (
.reg none [
  ⟨some 14, .fad 0 (.t 6), none, true⟩,
  ⟨some 15, .load false 1 (.t 14), none, true⟩,
  ⟨some 16, .bin .rem (.t 15) (.c (.int .i64 65)), none, true⟩,
  ⟨some 17, .bin .neq (.t 16) (.c (.int .i64 0)), none, true⟩,
  ⟨some 18, .mv (.t 17), none, true⟩,
  ⟨some 19, .fad 1 (.t 6), some (18, false), true⟩,
  ⟨some 20, .load false 1 (.t 19), some (18, false), true⟩,
  ⟨some 21, .bin .rem (.t 20) (.c (.int .i64 65)), some (18, false), true⟩,
  ⟨some 22, .bin .neq (.t 21) (.c (.int .i64 0)), some (18, false), true⟩,
  ⟨some 23, .pick (.t 18) (.c (.bool true)) (.t 22), none, true⟩] (some [4, 6, 23]) []) (
(.cond (.t 23) (
  (.seq (
  .reg none [
    ⟨some 24, .build [.int .i64 0, .int .i64 0] [], none, true⟩,
    ⟨none, .store 2 (.t 4) (.t 24), none, true⟩,
    ⟨some 5, .as (.c (.bool false)), none, true⟩] (some [4, 5]) []) (
  .ret))) (
  .skip))))) (
(.seq (
.reg none [
  ⟨some 25, .fad 0 (.t 6), none, true⟩,
  ⟨some 26, .load false 1 (.t 25), none, true⟩,
  ⟨some 27, .bin .quo (.t 26) (.c (.int .i64 65)), none, true⟩,
  ⟨some 28, .fad 1 (.t 6), none, true⟩,
  ⟨some 29, .load false 1 (.t 28), none, true⟩,
  ⟨some 30, .bin .quo (.t 29) (.c (.int .i64 65)), none, true⟩,
  ⟨some 31, .build [.int .i64 0, .int .i64 0] [(0, 1, .t 27), (1, 1, .t 30)], none, true⟩,
  ⟨none, .store 2 (.t 4) (.t 31), none, true⟩,
  ⟨some 5, .as (.c (.bool true)), none, true⟩] (some [4, 5]) [6]) (
.ret)))))))))
/-- ambidexter/polygon.Translate$1 -/
def A95 : AFn := .code [.cell true 2 3] (
(.seq (
.reg none [
  ⟨some 2, .box (.t 0), none, true⟩,
  ⟨some 3, .alloc [.int .i64 0, .int .i64 0], none, true⟩] (some [1, 2, 3]) []) (
(.seq (
.reg none [
  ⟨some 4, .load true 2 (.t 2), none, true⟩,
  ⟨some 5, .load true 2 (.t 1), none, true⟩,
  ⟨some 6, .call 54 [.t 4, .t 5], none, true⟩,
  ⟨none, .store 2 (.t 3) (.t 6), none, true⟩] (some [3]) [2]) (
.ret)))))
/-- ambidexter/intersect.edges -/
def A96 : AFn := .code [.t 2] (
(.seq (
.reg none [
  ⟨some 1, .box (.t 0), none, true⟩,
  ⟨some 2, .as (.c (.nilf)), none, true⟩] (some [1]) []) (
(.seq (
.reg none [
  ⟨some 3, .mkf (.func 112) [] [.t 1], none, true⟩,
  ⟨some 2, .as (.t 3), none, true⟩] (some [2]) []) (
.ret)))))
/-- ambidexter/intersect.inside -/
def A97 : AFn := .code [.t 6] (
(.seq (
.reg none [
  ⟨some 6, .as (.c (.bool false)), none, true⟩] (some [0, 1, 2]) []) (
(.seq (
.reg none [
  ⟨some 7, .mv (.t 1), none, true⟩,
  ⟨some 8, .bin .geq (.t 7) (.c (.int .i64 0)), none, true⟩,
  ⟨some 9, .mv (.t 8), none, true⟩,
  ⟨some 10, .mv (.t 1), some (9, true), true⟩,
  ⟨some 11, .mv (.t 0), some (9, true), true⟩,
  ⟨some 12, .len 0 (.t 11), some (9, true), true⟩,
  ⟨some 13, .bin .lss (.t 10) (.t 12), some (9, true), true⟩,
  ⟨some 14, .pick (.t 9) (.t 13) (.c (.bool false)), none, true⟩,
  ⟨some 15, .mv (.t 14), none, true⟩,
  ⟨some 16, .mv (.t 2), some (15, true), true⟩,
  ⟨some 17, .mv (.t 0), some (15, true), true⟩,
  ⟨some 18, .mv (.t 1), some (15, true), true⟩,
  ⟨some 19, .ias 2 (.t 17) (.t 18), some (15, true), true⟩,
  ⟨some 20, .load true 2 (.t 19), some (15, true), true⟩,
  ⟨some 21, .call 33 [.t 16, .t 20], some (15, true), true⟩,
  ⟨some 22, .bin .neq (.t 21) (.c (.int .i64 (-1))), some (15, true), true⟩,
  ⟨some 23, .pick (.t 15) (.t 22) (.c (.bool false)), none, true⟩,
  ⟨some 6, .as (.t 23), none, true⟩] (some [6]) []) (
.ret)))))
/-- ambidexter/ambidexterlaw15.Cell -/
def A98 : AFn := .code [.cell true 44 0] (
(.seq (
.reg none [
  ⟨some 0, .alloc [.int .i64 0, .int .i64 0, .int .i64 0, .int .i64 0, .int .i64 0, .int .i64 0, .int .i64 0, .int .i64 0, .int .i64 0, .int .i64 0, .int .i64 0, .int .i64 0, .int .i64 0, .int .i64 0, .int .i64 0, .int .i64 0, .int .i64 0, .int .i64 0, .int .i64 0, .int .i64 0, .int .i64 0, .int .i64 0, .int .i64 0, .int .i64 0, .int .i64 0, .int .i64 0, .int .i64 0, .int .i64 0, .int .i64 0, .int .i64 0, .nils 1, .nils 6, .nils 3, .nils 1, .int .i64 0, .int .i64 0, .int .i64 0, .int .i64 0, .int .i64 0, .int .i64 0, .int .i64 0, .nils 1, .int .i64 0, .int .i64 0], none, true⟩] (some [0]) []) (
(.seq (
.reg none [
  ⟨some 1, .as (.c (.int .i64 4394000)), none, true⟩] (some [0, 1]) []) (
(.seq (
.reg none [
  ⟨some 4, .build [.int .i64 0, .int .i64 0, .int .i64 0] [(0, 1, .c (.int .i64 4)), (1, 1, .c (.int .i64 3)), (2, 1, .c (.int .i64 2))], none, true⟩,
  ⟨some 5, .build [.int .i64 0, .int .i64 0, .int .i64 0] [(0, 1, .c (.int .i64 (-17))), (1, 1, .c (.int .i64 (-17))), (2, 1, .c (.int .i64 (-17)))], none, true⟩,
  ⟨some 6, .build [.int .i64 0, .int .i64 0, .int .i64 0] [(0, 1, .c (.int .i64 18)), (1, 1, .c (.int .i64 18)), (2, 1, .c (.int .i64 18))], none, true⟩,
  ⟨some 7, .build [.int .i64 0, .int .i64 0, .int .i64 0, .int .i64 0, .int .i64 0, .int .i64 0, .int .i64 0, .int .i64 0, .int .i64 0, .int .i64 0, .int .i64 0, .int .i64 0] [(2, 3, .t 4), (5, 1, .c (.int .i64 1)), (6, 3, .t 5), (9, 3, .t 6)], none, true⟩,
  ⟨some 2, .alloc [.int .i64 0, .int .i64 0, .int .i64 0, .int .i64 0, .int .i64 0, .int .i64 0, .int .i64 0, .int .i64 0, .int .i64 0, .int .i64 0, .int .i64 0, .int .i64 0], none, true⟩,
  ⟨none, .store 12 (.t 2) (.t 7), none, true⟩] (some [0, 1, 2]) []) (
(.seq (
.reg none [
  ⟨some 8, .load true 12 (.t 2), none, true⟩,
  ⟨some 3, .alloc [.int .i64 0, .int .i64 0, .int .i64 0, .int .i64 0, .int .i64 0, .int .i64 0, .int .i64 0, .int .i64 0, .int .i64 0, .int .i64 0, .int .i64 0, .int .i64 0], none, true⟩,
  ⟨none, .store 12 (.t 3) (.t 8), none, true⟩] (some [0, 1, 2, 3]) []) (
(.seq (
.reg none [
  ⟨some 9, .mv (.t 1), none, true⟩,
  ⟨some 10, .bin .mul (.c (.int .i64 40)) (.t 9), none, true⟩,
  ⟨some 11, .fad 0 (.t 3), none, true⟩,
  ⟨some 12, .fad 0 (.t 11), none, true⟩,
  ⟨none, .store 1 (.t 12) (.t 10), none, true⟩] (some [0, 1, 2, 3]) []) (
(.seq (
.reg none [
  ⟨some 13, .load true 12 (.t 2), none, true⟩,
  ⟨some 14, .load true 12 (.t 3), none, true⟩,
  ⟨some 15, .build [.int .i64 0, .int .i64 0, .int .i64 0, .int .i64 0, .int .i64 0, .int .i64 0, .int .i64 0, .int .i64 0, .int .i64 0, .int .i64 0, .int .i64 0, .int .i64 0, .int .i64 0, .int .i64 0, .int .i64 0, .int .i64 0, .int .i64 0, .int .i64 0, .int .i64 0, .int .i64 0, .int .i64 0, .int .i64 0, .int .i64 0, .int .i64 0] [(0, 12, .t 13), (12, 12, .t 14)], none, true⟩,
  ⟨some 16, .build [.int .i64 0, .int .i64 0, .int .i64 0] [], none, true⟩,
  ⟨some 17, .build [.int .i64 0, .int .i64 0, .int .i64 0] [(0, 1, .c (.int .i64 9)), (1, 1, .c (.int .i64 0)), (2, 1, .c (.int .i64 0))], none, true⟩,
  ⟨some 18, .build [.int .i64 0, .int .i64 0, .int .i64 0, .int .i64 0, .int .i64 0, .int .i64 0] [(0, 3, .t 16), (3, 3, .t 17)], none, true⟩,
  ⟨some 19, .mv (.t 1), none, true⟩,
  ⟨some 20, .bin .mul (.c (.int .i64 6)) (.t 19), none, true⟩,
  ⟨some 21, .mv (.t 1), none, true⟩,
  ⟨some 22, .bin .mul (.c (.int .i64 2)) (.t 21), none, true⟩,
  ⟨some 23, .build [.int .i64 0, .int .i64 0] [(0, 1, .t 20), (1, 1, .t 22)], none, true⟩,
  ⟨some 24, .mv (.t 1), none, true⟩,
  ⟨some 25, .bin .mul (.c (.int .i64 9)) (.t 24), none, true⟩,
  ⟨some 26, .mv (.t 1), none, true⟩,
  ⟨some 27, .bin .mul (.c (.int .i64 2)) (.t 26), none, true⟩,
  ⟨some 28, .build [.int .i64 0, .int .i64 0] [(0, 1, .t 25), (1, 1, .t 27)], none, true⟩,
  ⟨some 29, .mv (.t 1), none, true⟩,
  ⟨some 30, .bin .mul (.c (.int .i64 9)) (.t 29), none, true⟩,
  ⟨some 31, .mv (.t 1), none, true⟩,
  ⟨some 32, .bin .mul (.c (.int .i64 4)) (.t 31), none, true⟩,
  ⟨some 33, .build [.int .i64 0, .int .i64 0] [(0, 1, .t 30), (1, 1, .t 32)], none, true⟩,
  ⟨some 34, .mv (.t 1), none, true⟩,
  ⟨some 35, .bin .mul (.c (.int .i64 6)) (.t 34), none, true⟩,
  ⟨some 36, .mv (.t 1), none, true⟩,
  ⟨some 37, .bin .mul (.c (.int .i64 4)) (.t 36), none, true⟩,
  ⟨some 38, .build [.int .i64 0, .int .i64 0] [(0, 1, .t 35), (1, 1, .t 37)], none, true⟩,
  ⟨some 39, .bsl 2 4 [.int .i64 0, .int .i64 0] [(0, .t 23), (1, .t 28), (2, .t 33), (3, .t 38)], none, true⟩,
  ⟨some 40, .bsl 1 1 [.nils 2] [(0, .t 39)], none, true⟩,
  ⟨some 41, .build [.int .i64 0, .int .i64 0, .int .i64 0] [(0, 1, .c (.int .i64 8)), (1, 1, .c (.int .i64 4)), (2, 1, .c (.int .i64 2))], none, true⟩,
  ⟨some 42, .build [.int .i64 0, .int .i64 0, .int .i64 0] [(0, 1, .c (.int .i64 4)), (1, 1, .c (.int .i64 2)), (2, 1, .c (.int .i64 1))], none, true⟩,
  ⟨some 43, .build [.int .i64 0, .int .i64 0, .int .i64 0, .int .i64 0, .int .i64 0, .int .i64 0, .int .i64 0, .int .i64 0, .int .i64 0, .int .i64 0, .int .i64 0, .int .i64 0, .int .i64 0, .int .i64 0, .int .i64 0, .int .i64 0, .int .i64 0, .int .i64 0, .int .i64 0, .int .i64 0, .int .i64 0, .int .i64 0, .int .i64 0, .int .i64 0, .int .i64 0, .int .i64 0, .int .i64 0, .int .i64 0, .int .i64 0, .int .i64 0, .nils 1, .nils 6, .nils 3, .nils 1, .int .i64 0, .int .i64 0, .int .i64 0, .int .i64 0, .int .i64 0, .int .i64 0, .int .i64 0, .nils 1, .int .i64 0, .int .i64 0] [(0, 24, .t 15), (24, 6, .t 18), (30, 1, .t 40), (35, 3, .t 41), (38, 3, .t 42), (43, 1, .c (.int .i64 2))], none, true⟩,
  ⟨none, .store 44 (.t 0) (.t 43), none, true⟩] (some [0]) [2, 3]) (
.ret)))))))))))))
/-- ambidexter/ambidexterref09.bounded -/
def A99 : AFn := .code [.t 2] (
(.seq (
.reg none [
  ⟨some 1, .box (.t 0), none, true⟩,
  ⟨some 2, .as (.c (.bool false)), none, true⟩] (some [1]) []) (
(.seq (
.reg none [
  ⟨some 3, .fad 0 (.t 1), none, true⟩,
  ⟨some 4, .load false 1 (.t 3), none, true⟩,
  ⟨some 5, .bin .geq (.t 4) (.c (.int .i64 1)), none, true⟩,
  ⟨some 6, .mv (.t 5), none, true⟩,
  ⟨some 7, .fad 0 (.t 1), some (6, true), true⟩,
  ⟨some 8, .load false 1 (.t 7), some (6, true), true⟩,
  ⟨some 9, .bin .leq (.t 8) (.c (.int .i64 8)), some (6, true), true⟩,
  ⟨some 10, .pick (.t 6) (.t 9) (.c (.bool false)), none, true⟩,
  ⟨some 11, .mv (.t 10), none, true⟩,
  ⟨some 12, .fad 1 (.t 1), some (11, true), true⟩,
  ⟨some 13, .load false 1 (.t 12), some (11, true), true⟩,
  ⟨some 14, .bin .geq (.t 13) (.c (.int .i64 1)), some (11, true), true⟩,
  ⟨some 15, .pick (.t 11) (.t 14) (.c (.bool false)), none, true⟩,
  ⟨some 16, .mv (.t 15), none, true⟩,
  ⟨some 17, .fad 1 (.t 1), some (16, true), true⟩,
  ⟨some 18, .load false 1 (.t 17), some (16, true), true⟩,
  ⟨some 19, .bin .leq (.t 18) (.c (.int .i64 4)), some (16, true), true⟩,
  ⟨some 20, .pick (.t 16) (.t 19) (.c (.bool false)), none, true⟩,
  ⟨some 21, .mv (.t 20), none, true⟩,
  ⟨some 22, .fad 2 (.t 1), some (21, true), true⟩,
  ⟨some 23, .load false 1 (.t 22), some (21, true), true⟩,
  ⟨some 24, .bin .geq (.t 23) (.c (.int .i64 1)), some (21, true), true⟩,
  ⟨some 25, .pick (.t 21) (.t 24) (.c (.bool false)), none, true⟩,
  ⟨some 26, .mv (.t 25), none, true⟩,
  ⟨some 27, .fad 2 (.t 1), some (26, true), true⟩,
  ⟨some 28, .load false 1 (.t 27), some (26, true), true⟩,
  ⟨some 29, .bin .leq (.t 28) (.c (.int .i64 2)), some (26, true), true⟩,
  ⟨some 30, .pick (.t 26) (.t 29) (.c (.bool false)), none, true⟩,
  ⟨some 2, .as (.t 30), none, true⟩] (some [2]) [1]) (
.ret)))))
def A100_L0b : ACode := 
  (.seq (
  (.seq (
  .reg none [
    ⟨some 7, .mv (.t 3), none, true⟩,
    ⟨some 8, .mv (.t 0), none, true⟩,
    ⟨some 9, .len 0 (.t 8), none, true⟩,
    ⟨some 10, .bin .lss (.t 7) (.t 9), none, true⟩] (some [0, 3, 10]) []) (
  (.cond (.t 10) (
    .skip) (
    .exit 0))))) (
  (.seq (
  (.block 1 (
  (.seq (
  .reg none [
    ⟨some 13, .mv (.t 0), none, true⟩,
    ⟨some 14, .mv (.t 3), none, true⟩,
    ⟨some 15, .ias 1 (.t 13) (.t 14), none, true⟩,
    ⟨some 16, .load false 1 (.t 15), none, true⟩,
    ⟨some 17, .call 113 [.t 16], none, true⟩,
    ⟨some 18, .un .not (.t 17), none, true⟩] (some [0, 3, 18]) []) (
  (.cond (.t 18) (
    (.seq (
    .reg none [
      ⟨some 2, .as (.c (.bool false)), none, true⟩] (some [2]) []) (
    .ret))) (
    .skip))))) (some [0, 3]) [2, 17])) (
  .reg none [
    ⟨some 11, .mv (.t 3), none, true⟩,
    ⟨some 12, .bin .add (.t 11) (.c (.int .i64 1)), none, true⟩,
    ⟨some 3, .as (.t 12), none, true⟩] (some [0, 3]) []))))
def A100_L0 : ACode := .loop A100_L0b (some [0, 3]) [2, 17]
/-- ambidexter/ambidexterref09.polys -/
def A100 : AFn := .code [.t 2] (
(.seq (
.reg none [
  ⟨some 2, .as (.c (.bool false)), none, true⟩] (some [0]) []) (
(.seq (
(.seq (
.reg none [
  ⟨some 4, .mv (.t 0), none, true⟩,
  ⟨some 5, .len 0 (.t 4), none, true⟩,
  ⟨some 6, .bin .gtr (.t 5) (.c (.int .i64 16)), none, true⟩] (some [0, 6]) []) (
(.cond (.t 6) (
  (.seq (
  .reg none [
    ⟨some 2, .as (.c (.bool false)), none, true⟩] (some [2]) []) (
  .ret))) (
  .skip))))) (
(.seq (
(.seq (
.reg none [
  ⟨some 3, .as (.c (.int .i64 0)), none, true⟩] (some [0, 3]) []) (
(.block 0 (
A100_L0) (some []) [2, 3, 17])))) (
(.seq (
.reg none [
  ⟨some 2, .as (.c (.bool true)), none, true⟩] (some [2]) []) (
.ret)))))))))
def A101_L0b : ACode := 
  (.seq (
  (.seq (
  .reg none [
    ⟨some 5, .mv (.t 4), none, true⟩,
    ⟨some 6, .fad 41 (.t 1), none, true⟩,
    ⟨some 7, .load false 1 (.t 6), none, true⟩,
    ⟨some 8, .len 0 (.t 7), none, true⟩,
    ⟨some 9, .bin .lss (.t 5) (.t 8), none, true⟩] (some [1, 3, 4, 9]) []) (
  (.cond (.t 9) (
    .skip) (
    .exit 0))))) (
  (.seq (
  (.block 1 (
  .reg none [
    ⟨some 12, .mv (.t 3), none, true⟩,
    ⟨some 13, .fad 41 (.t 1), none, true⟩,
    ⟨some 14, .load false 1 (.t 13), none, true⟩,
    ⟨some 15, .mv (.t 4), none, true⟩,
    ⟨some 16, .ias 1 (.t 14) (.t 15), none, true⟩,
    ⟨some 17, .fad 0 (.t 16), none, true⟩,
    ⟨some 18, .load false 1 (.t 17), none, true⟩,
    ⟨some 19, .bsl 1 1 [.nils 2] [(0, .t 18)], none, true⟩,
    ⟨some 20, .app 1 (.t 12) (.t 19), none, true⟩,
    ⟨some 3, .as (.t 20), none, true⟩] (some [1, 3, 4]) []) (some [1, 3, 4]) [19])) (
  .reg none [
    ⟨some 10, .mv (.t 4), none, true⟩,
    ⟨some 11, .bin .add (.t 10) (.c (.int .i64 1)), none, true⟩,
    ⟨some 4, .as (.t 11), none, true⟩] (some [1, 3, 4]) []))))
def A101_L0 : ACode := .loop A101_L0b (some [1, 3, 4]) [19]
/-- ambidexter/ambidexterref09.areas -/
def A101 : AFn := .code [.t 2] (
(.seq (
.reg none [
  ⟨some 1, .box (.t 0), none, true⟩,
  ⟨some 2, .as (.c (.nils 1)), none, true⟩] (some [1]) []) (
(.seq (
.reg none [
  ⟨some 3, .as (.c (.nils 1)), none, true⟩] (some [1, 3]) []) (
(.seq (
(.seq (
.reg none [
  ⟨some 4, .as (.c (.int .i64 0)), none, true⟩] (some [1, 3, 4]) []) (
(.block 0 (
A101_L0) (some [3]) [4, 19])))) (
(.seq (
.reg none [
  ⟨some 21, .mv (.t 3), none, true⟩,
  ⟨some 2, .as (.t 21), none, true⟩] (some [2]) []) (
.ret)))))))))
def A102_L0b : ACode := 
  (.seq (
  (.seq (
  .reg none [
    ⟨some 6, .mv (.t 4), none, true⟩,
    ⟨some 7, .mv (.t 0), none, true⟩,
    ⟨some 8, .len 0 (.t 7), none, true⟩,
    ⟨some 9, .bin .lss (.t 6) (.t 8), none, true⟩] (some [0, 3, 4, 9]) []) (
  (.cond (.t 9) (
    .skip) (
    .exit 0))))) (
  (.seq (
  (.block 1 (
  (.seq (
  .reg none [
    ⟨some 12, .mv (.t 0), none, true⟩,
    ⟨some 13, .mv (.t 4), none, true⟩,
    ⟨some 14, .ias 6 (.t 12) (.t 13), none, true⟩,
    ⟨some 15, .load true 6 (.t 14), none, true⟩,
    ⟨some 5, .alloc [.str [], .int .i64 0, .int .i64 0, .int .i64 0, .int .i64 0, .int .i64 0], none, true⟩,
    ⟨none, .store 6 (.t 5) (.t 15), none, true⟩] (some [0, 3, 4, 5]) []) (
  (.seq (
  .reg none [
    ⟨some 16, .mv (.t 3), none, true⟩,
    ⟨some 17, .fad 0 (.t 5), none, true⟩,
    ⟨some 18, .load false 1 (.t 17), none, true⟩,
    ⟨some 19, .bsl 1 1 [.str []] [(0, .t 18)], none, true⟩,
    ⟨some 20, .app 1 (.t 16) (.t 19), none, true⟩,
    ⟨some 3, .as (.t 20), none, true⟩] (some [0, 3, 4, 5]) []) (
  (.seq (
  .reg none [
    ⟨some 21, .fad 1 (.t 5), none, true⟩,
    ⟨some 22, .fad 0 (.t 21), none, true⟩,
    ⟨some 23, .load false 1 (.t 22), none, true⟩,
    ⟨some 24, .bin .rem (.t 23) (.c (.int .i64 16)), none, true⟩,
    ⟨some 25, .bin .neq (.t 24) (.c (.int .i64 0)), none, true⟩,
    ⟨some 26, .mv (.t 25), none, true⟩,
    ⟨some 27, .fad 1 (.t 5), some (26, false), true⟩,
    ⟨some 28, .fad 1 (.t 27), some (26, false), true⟩,
    ⟨some 29, .load false 1 (.t 28), some (26, false), true⟩,
    ⟨some 30, .bin .rem (.t 29) (.c (.int .i64 16)), some (26, false), true⟩,
    ⟨some 31, .bin .neq (.t 30) (.c (.int .i64 0)), some (26, false), true⟩,
    ⟨some 32, .pick (.t 26) (.c (.bool true)) (.t 31), none, true⟩,
    ⟨some 33, .mv (.t 32), none, true⟩,
    ⟨some 34, .fad 1 (.t 5), some (33, false), true⟩,
    ⟨some 35, .fad 0 (.t 34), some (33, false), true⟩,
    ⟨some 36, .load false 1 (.t 35), some (33, false), true⟩,
    ⟨some 37, .fad 1 (.t 5), some (33, false), true⟩,
    ⟨some 38, .fad 1 (.t 37), some (33, false), true⟩,
    ⟨some 39, .load false 1 (.t 38), some (33, false), true⟩,
    ⟨some 40, .mx [.t 36, .t 39], some (33, false), true⟩,
    ⟨some 41, .bin .gtr (.t 40) (.c (.int .i64 373490000)), some (33, false), true⟩,
    ⟨some 42, .pick (.t 33) (.c (.bool true)) (.t 41), none, true⟩,
    ⟨some 43, .mv (.t 42), none, true⟩,
    ⟨some 44, .fad 1 (.t 5), some (43, false), true⟩,
    ⟨some 45, .fad 0 (.t 44), some (43, false), true⟩,
    ⟨some 46, .load false 1 (.t 45), some (43, false), true⟩,
    ⟨some 47, .fad 1 (.t 5), some (43, false), true⟩,
    ⟨some 48, .fad 1 (.t 47), some (43, false), true⟩,
    ⟨some 49, .load false 1 (.t 48), some (43, false), true⟩,
    ⟨some 50, .mn [.t 46, .t 49], some (43, false), true⟩,
    ⟨some 51, .bin .lss (.t 50) (.c (.int .i64 (-373490000))), some (43, false), true⟩,
    ⟨some 52, .pick (.t 43) (.c (.bool true)) (.t 51), none, true⟩,
    ⟨some 53, .mv (.t 52), none, true⟩,
    ⟨some 54, .fad 3 (.t 5), some (53, false), true⟩,
    ⟨some 55, .fad 2 (.t 54), some (53, false), true⟩,
    ⟨some 56, .load false 1 (.t 55), some (53, false), true⟩,
    ⟨some 57, .bin .neq (.t 56) (.c (.int .i64 3)), some (53, false), true⟩,
    ⟨some 58, .pick (.t 53) (.c (.bool true)) (.t 57), none, true⟩,
    ⟨some 59, .mv (.t 58), none, true⟩,
    ⟨some 60, .fad 3 (.t 5), some (59, false), true⟩,
    ⟨some 61, .load true 3 (.t 60), some (59, false), true⟩,
    ⟨some 62, .call 84 [.t 61], some (59, false), true⟩,
    ⟨some 63, .un .not (.t 62), some (59, false), true⟩,
    ⟨some 64, .pick (.t 59) (.c (.bool true)) (.t 63), none, true⟩] (some [0, 3, 4, 64]) [5]) (
  (.cond (.t 64) (
    (.seq (
    .reg none [
      ⟨some 2, .as (.c (.bool false)), none, true⟩] (some [2]) []) (
    .ret))) (
    .skip))))))))) (some [0, 3, 4]) [2, 5, 19, 62])) (
  .reg none [
    ⟨some 10, .mv (.t 4), none, true⟩,
    ⟨some 11, .bin .add (.t 10) (.c (.int .i64 1)), none, true⟩,
    ⟨some 4, .as (.t 11), none, true⟩] (some [0, 3, 4]) []))))
def A102_L0 : ACode := .loop A102_L0b (some [0, 3, 4]) [2, 5, 19, 62]
/-- ambidexter/ambidexterref09.places -/
def A102 : AFn := .code [.t 2] (
(.seq (
.reg none [
  ⟨some 2, .as (.c (.bool false)), none, true⟩] (some [0]) []) (
(.seq (
.reg none [
  ⟨some 3, .as (.c (.nils 1)), none, true⟩] (some [0, 3]) []) (
(.seq (
(.seq (
.reg none [
  ⟨some 4, .as (.c (.int .i64 0)), none, true⟩] (some [0, 3, 4]) []) (
(.block 0 (
A102_L0) (some [0, 3]) [2, 4, 5, 19, 62])))) (
(.seq (
.reg none [
  ⟨some 65, .mv (.t 0), none, true⟩,
  ⟨some 66, .len 0 (.t 65), none, true⟩,
  ⟨some 67, .bin .leq (.t 66) (.c (.int .i64 16)), none, true⟩,
  ⟨some 68, .mv (.t 67), none, true⟩,
  ⟨some 69, .mv (.t 3), some (68, true), true⟩,
  ⟨some 70, .call 114 [.t 69], some (68, true), true⟩,
  ⟨some 71, .pick (.t 68) (.t 70) (.c (.bool false)), none, true⟩,
  ⟨some 2, .as (.t 71), none, true⟩] (some [2]) []) (
.ret)))))))))
def A103_L0b : ACode := 
  (.seq (
  (.seq (
  .reg none [
    ⟨some 8, .mv (.t 7), none, true⟩,
    ⟨some 9, .mv (.t 0), none, true⟩,
    ⟨some 10, .len 0 (.t 9), none, true⟩,
    ⟨some 11, .bin .lss (.t 8) (.t 10), none, true⟩] (some [0, 1, 5, 6, 7, 11]) []) (
  (.cond (.t 11) (
    .skip) (
    .exit 0))))) (
  (.seq (
  (.block 1 (
  (.seq (
  .reg none [
    ⟨some 14, .mv (.t 5), none, true⟩,
    ⟨some 15, .mv (.t 0), none, true⟩,
    ⟨some 16, .mv (.t 7), none, true⟩,
    ⟨some 17, .ias 3 (.t 15) (.t 16), none, true⟩,
    ⟨some 18, .fad 0 (.t 17), none, true⟩,
    ⟨some 19, .load false 1 (.t 18), none, true⟩,
    ⟨some 20, .bsl 1 1 [.str []] [(0, .t 19)], none, true⟩,
    ⟨some 21, .app 1 (.t 14) (.t 20), none, true⟩,
    ⟨some 5, .as (.t 21), none, true⟩] (some [0, 1, 5, 6, 7]) []) (
  (.seq (
  .reg none [
    ⟨some 22, .mv (.t 6), none, true⟩,
    ⟨some 23, .mv (.t 0), none, true⟩,
    ⟨some 24, .mv (.t 7), none, true⟩,
    ⟨some 25, .ias 3 (.t 23) (.t 24), none, true⟩,
    ⟨some 26, .fad 2 (.t 25), none, true⟩,
    ⟨some 27, .load false 1 (.t 26), none, true⟩,
    ⟨some 28, .bsl 1 1 [.int .i64 0] [(0, .t 27)], none, true⟩,
    ⟨some 29, .app 1 (.t 22) (.t 28), none, true⟩,
    ⟨some 6, .as (.t 29), none, true⟩] (some [0, 1, 5, 6, 7]) []) (
  (.seq (
  .reg none [
    ⟨some 30, .mv (.t 0), none, true⟩,
    ⟨some 31, .mv (.t 7), none, true⟩,
    ⟨some 32, .ias 3 (.t 30) (.t 31), none, true⟩,
    ⟨some 33, .fad 1 (.t 32), none, true⟩,
    ⟨some 34, .load false 1 (.t 33), none, true⟩,
    ⟨some 35, .call 115 [.t 34], none, true⟩,
    ⟨some 36, .un .not (.t 35), none, true⟩] (some [0, 1, 5, 6, 7, 36]) []) (
  (.cond (.t 36) (
    (.seq (
    .reg none [
      ⟨some 4, .as (.c (.bool false)), none, true⟩] (some [4]) []) (
    .ret))) (
    .skip))))))))) (some [0, 1, 5, 6, 7]) [4, 20, 28, 35])) (
  .reg none [
    ⟨some 12, .mv (.t 7), none, true⟩,
    ⟨some 13, .bin .add (.t 12) (.c (.int .i64 1)), none, true⟩,
    ⟨some 7, .as (.t 13), none, true⟩] (some [0, 1, 5, 6, 7]) []))))
def A103_L0 : ACode := .loop A103_L0b (some [0, 1, 5, 6, 7]) [4, 20, 28, 35]
/-- ambidexter/ambidexterref09.parts -/
def A103 : AFn := .code [.t 4] (
(.seq (
.reg none [
  ⟨some 4, .as (.c (.bool false)), none, true⟩] (some [0, 1]) []) (
(.seq (
.reg none [
  ⟨some 5, .as (.c (.nils 1)), none, true⟩] (some [0, 1, 5]) []) (
(.seq (
.reg none [
  ⟨some 6, .as (.c (.nils 1)), none, true⟩] (some [0, 1, 5, 6]) []) (
(.seq (
(.seq (
.reg none [
  ⟨some 7, .as (.c (.int .i64 0)), none, true⟩] (some [0, 1, 5, 6, 7]) []) (
(.block 0 (
A103_L0) (some [0, 1, 5, 6]) [4, 7, 20, 28, 35])))) (
(.seq (
.reg none [
  ⟨some 37, .mv (.t 0), none, true⟩,
  ⟨some 38, .len 0 (.t 37), none, true⟩,
  ⟨some 39, .bin .leq (.t 38) (.c (.int .i64 8)), none, true⟩,
  ⟨some 40, .mv (.t 39), none, true⟩,
  ⟨some 41, .mv (.t 5), some (40, true), true⟩,
  ⟨some 42, .call 114 [.t 41], some (40, true), true⟩,
  ⟨some 43, .pick (.t 40) (.t 42) (.c (.bool false)), none, true⟩,
  ⟨some 44, .mv (.t 43), none, true⟩,
  ⟨some 45, .mv (.t 6), some (44, true), true⟩,
  ⟨some 46, .mv (.t 1), some (44, true), true⟩,
  ⟨some 47, .call 104 [.t 45, .t 46], some (44, true), true⟩,
  ⟨some 48, .pick (.t 44) (.t 47) (.c (.bool false)), none, true⟩,
  ⟨some 4, .as (.t 48), none, true⟩] (some [4]) []) (
.ret)))))))))))
def A104_L0b : ACode := 
    (.seq (
    (.seq (
    .reg none [
      ⟨some 26, .mv (.t 6), none, true⟩,
      ⟨some 27, .mv (.t 5), none, true⟩,
      ⟨some 28, .bin .lss (.t 26) (.t 27), none, true⟩] (some [0, 1, 5, 6, 28]) []) (
    (.cond (.t 28) (
      .skip) (
      .exit 2))))) (
    (.seq (
    (.block 3 (
    (.seq (
    .reg (some [.dr [37, 38] [], .dr [37, 38] [], .dr [37, 38] [], .dr [37, 38] [], .dr [33, 34] [], .dr [33, 34] [], .dr [33, 34] [], .dr [33, 34] [], .free]) [
      ⟨some 31, .mv (.t 0), none, true⟩,
      ⟨some 32, .mv (.t 6), none, true⟩,
      ⟨some 33, .ias 1 (.t 31) (.t 32), none, true⟩,
      ⟨some 34, .load false 1 (.t 33), none, true⟩,
      ⟨some 35, .mv (.t 0), none, true⟩,
      ⟨some 36, .mv (.t 5), none, true⟩,
      ⟨some 37, .ias 1 (.t 35) (.t 36), none, true⟩,
      ⟨some 38, .load false 1 (.t 37), none, true⟩,
      ⟨some 39, .bin .eql (.t 34) (.t 38), none, true⟩] (some [0, 1, 5, 6, 39]) []) (
    (.cond (.t 39) (
      (.seq (
      .reg none [
        ⟨some 4, .as (.c (.bool false)), none, true⟩] (some [4]) []) (
      .ret))) (
      .skip))))) (some [0, 1, 5, 6]) [4])) (
    .reg none [
      ⟨some 29, .mv (.t 6), none, true⟩,
      ⟨some 30, .bin .add (.t 29) (.c (.int .i64 1)), none, true⟩,
      ⟨some 6, .as (.t 30), none, true⟩] (some [0, 1, 5, 6]) []))))
def A104_L0 : ACode := .loop A104_L0b (some [0, 1, 5, 6]) [4]
def A104_L1b : ACode := 
  (.seq (
  (.seq (
  .reg none [
    ⟨some 7, .mv (.t 5), none, true⟩,
    ⟨some 8, .mv (.t 0), none, true⟩,
    ⟨some 9, .len 0 (.t 8), none, true⟩,
    ⟨some 10, .bin .lss (.t 7) (.t 9), none, true⟩] (some [0, 1, 5, 10]) []) (
  (.cond (.t 10) (
    .skip) (
    .exit 0))))) (
  (.seq (
  (.block 1 (
  (.seq (
  (.seq (
  .reg none [
    ⟨some 13, .mv (.t 0), none, true⟩,
    ⟨some 14, .mv (.t 5), none, true⟩,
    ⟨some 15, .ias 1 (.t 13) (.t 14), none, true⟩,
    ⟨some 16, .load false 1 (.t 15), none, true⟩,
    ⟨some 17, .bin .lss (.t 16) (.c (.int .i64 0)), none, true⟩,
    ⟨some 18, .mv (.t 17), none, true⟩,
    ⟨some 19, .mv (.t 0), some (18, false), true⟩,
    ⟨some 20, .mv (.t 5), some (18, false), true⟩,
    ⟨some 21, .ias 1 (.t 19) (.t 20), some (18, false), true⟩,
    ⟨some 22, .load false 1 (.t 21), some (18, false), true⟩,
    ⟨some 23, .mv (.t 1), some (18, false), true⟩,
    ⟨some 24, .bin .geq (.t 22) (.t 23), some (18, false), true⟩,
    ⟨some 25, .pick (.t 18) (.c (.bool true)) (.t 24), none, true⟩] (some [0, 1, 5, 25]) []) (
  (.cond (.t 25) (
    (.seq (
    .reg none [
      ⟨some 4, .as (.c (.bool false)), none, true⟩] (some [4]) []) (
    .ret))) (
    .skip))))) (
  (.seq (
  .reg none [
    ⟨some 6, .as (.c (.int .i64 0)), none, true⟩] (some [0, 1, 5, 6]) []) (
  (.block 2 (
  A104_L0) (some [0, 1, 5]) [4, 6])))))) (some [0, 1, 5]) [4, 6])) (
  .reg none [
    ⟨some 11, .mv (.t 5), none, true⟩,
    ⟨some 12, .bin .add (.t 11) (.c (.int .i64 1)), none, true⟩,
    ⟨some 5, .as (.t 12), none, true⟩] (some [0, 1, 5]) []))))
def A104_L1 : ACode := .loop A104_L1b (some [0, 1, 5]) [4, 6]
/-- ambidexter/ambidexterref09.unlike -/
def A104 : AFn := .code [.t 4] (
(.seq (
.reg none [
  ⟨some 4, .as (.c (.bool false)), none, true⟩] (some [0, 1]) []) (
(.seq (
(.seq (
.reg none [
  ⟨some 5, .as (.c (.int .i64 0)), none, true⟩] (some [0, 1, 5]) []) (
(.block 0 (
A104_L1) (some []) [4, 5, 6])))) (
(.seq (
.reg none [
  ⟨some 4, .as (.c (.bool true)), none, true⟩] (some [4]) []) (
.ret)))))))
/-- slices.Contains[[]bool,bool] -/
def A105 : AFn := .code [.t 4] (
(.seq (
.reg none [
  ⟨some 4, .as (.c (.bool false)), none, true⟩] (some [0, 1]) []) (
(.seq (
.reg none [
  ⟨some 5, .mv (.t 0), none, true⟩,
  ⟨some 6, .mv (.t 1), none, true⟩,
  ⟨some 7, .call 116 [.t 5, .t 6], none, true⟩,
  ⟨some 8, .bin .geq (.t 7) (.c (.int .i64 0)), none, true⟩,
  ⟨some 4, .as (.t 8), none, true⟩] (some [4]) []) (
.ret)))))
def A106_L0b : ACode := 
    (.seq (
    .reg none [
      ⟨some 27, .bin .lss (.t 26) (.c (.int .i64 3)), none, true⟩] (some [0, 2, 17, 18, 19, 25, 26, 27]) []) (
    (.seq (
    (.cond (.t 27) (
      .skip) (
      .exit 2))) (
    (.seq (
    (.block 3 (
    (.seq (
    .reg none [
      ⟨some 28, .ixa false 3 1 (.t 25) (.t 26), none, true⟩,
      ⟨some 9, .as (.t 28), none, true⟩] (some [0, 2, 9, 17, 18, 19, 25, 26]) []) (
    (.seq (
    .reg none [
      ⟨some 29, .mv (.t 0), none, true⟩,
      ⟨some 30, .mv (.t 9), none, true⟩,
      ⟨some 31, .cal (.t 29) [.t 30], none, true⟩,
      ⟨some 32, .un .not (.t 31), none, true⟩] (some [0, 2, 17, 18, 19, 25, 26, 32]) []) (
    (.cond (.t 32) (
      .ret) (
      .skip))))))) (some [0, 2, 17, 18, 19, 25, 26]) [9, 31])) (
    .reg none [
      ⟨some 33, .bin .add (.t 26) (.c (.int .i64 1)), none, true⟩,
      ⟨some 26, .mv (.t 33), none, true⟩] (some [0, 2, 17, 18, 19, 25, 26]) []))))))
def A106_L0 : ACode := .loop A106_L0b (some [0, 2, 17, 18, 19, 25, 26]) [9, 31]
def A106_L1b : ACode := 
  (.seq (
  .reg none [
    ⟨some 20, .bin .lss (.t 19) (.t 18), none, true⟩] (some [0, 2, 17, 18, 19, 20]) []) (
  (.seq (
  (.cond (.t 20) (
    .skip) (
    .exit 0))) (
  (.seq (
  (.block 1 (
  (.seq (
  .reg none [
    ⟨some 21, .ias 3 (.t 17) (.t 19), none, true⟩,
    ⟨some 22, .load true 3 (.t 21), none, true⟩,
    ⟨some 7, .alloc [.int .i64 0, .int .i64 0, .int .i64 0], none, true⟩,
    ⟨none, .store 3 (.t 7) (.t 22), none, true⟩] (some [0, 2, 7, 17, 18, 19]) []) (
  (.seq (
  .reg none [
    ⟨some 23, .load true 12 (.t 2), none, true⟩,
    ⟨some 24, .load true 3 (.t 7), none, true⟩,
    ⟨some 25, .call 20 [.t 23, .t 24], none, true⟩,
    ⟨some 26, .mv (.c (.int .i64 0)), none, true⟩] (some [0, 2, 17, 18, 19, 25, 26]) [7]) (
  (.block 2 (
  A106_L0) (some [0, 2, 17, 18, 19]) [9, 31])))))) (some [0, 2, 17, 18, 19]) [7, 9, 25, 31])) (
  .reg none [
    ⟨some 34, .bin .add (.t 19) (.c (.int .i64 1)), none, true⟩,
    ⟨some 19, .mv (.t 34), none, true⟩] (some [0, 2, 17, 18, 19]) []))))))
def A106_L1 : ACode := .loop A106_L1b (some [0, 2, 17, 18, 19]) [7, 9, 25, 31]
/-- ambidexter/monitor.bodies$1 -/
def A106 : AFn := .code [] (
(.seq (
.reg none [
  ⟨some 11, .load true 3 (.t 1), none, true⟩,
  ⟨some 12, .call 39 [.t 11], none, true⟩,
  ⟨some 10, .mv (.t 12), none, true⟩,
  ⟨some 13, .ext (.t 10) 0, none, true⟩,
  ⟨some 14, .ext (.t 10) 1, none, true⟩,
  ⟨some 4, .alloc [.int .i64 0, .int .i64 0, .int .i64 0], none, true⟩,
  ⟨some 5, .alloc [.int .i64 0, .int .i64 0, .int .i64 0], none, true⟩,
  ⟨none, .store 3 (.t 4) (.t 13), none, true⟩,
  ⟨none, .store 3 (.t 5) (.t 14), none, true⟩] (some [0, 2, 4, 5]) []) (
(.seq (
.reg none [
  ⟨some 15, .load true 3 (.t 4), none, true⟩,
  ⟨some 16, .load true 3 (.t 5), none, true⟩,
  ⟨some 17, .bsl 3 2 [.int .i64 0, .int .i64 0, .int .i64 0] [(0, .t 15), (1, .t 16)], none, true⟩,
  ⟨some 18, .len 0 (.t 17), none, true⟩,
  ⟨some 19, .mv (.c (.int .i64 0)), none, true⟩] (some [0, 2, 17, 18, 19]) [4, 5]) (
(.block 0 (
A106_L1) (some []) [7, 9, 25, 31]))))))
/-- ambidexter/geom.BoundingBox -/
def A107 : AFn := .code [.cell true 2 2, .cell true 2 3] (
(.seq (
.reg none [
  ⟨some 2, .alloc [.int .i64 0, .int .i64 0], none, true⟩,
  ⟨some 3, .alloc [.int .i64 0, .int .i64 0], none, true⟩] (some [0, 2, 3]) []) (
(.seq (
(.seq (
.reg none [
  ⟨some 6, .mv (.t 0), none, true⟩,
  ⟨some 7, .len 0 (.t 6), none, true⟩,
  ⟨some 8, .bin .eql (.t 7) (.c (.int .i64 0)), none, true⟩] (some [0, 2, 3, 8]) []) (
(.cond (.t 8) (
  (.seq (
  .reg none [
    ⟨some 9, .build [.int .i64 0, .int .i64 0] [], none, true⟩,
    ⟨some 10, .build [.int .i64 0, .int .i64 0] [], none, true⟩,
    ⟨none, .store 2 (.t 2) (.t 9), none, true⟩,
    ⟨none, .store 2 (.t 3) (.t 10), none, true⟩] (some [2, 3]) []) (
  .ret))) (
  .skip))))) (
(.seq (
.reg none [
  ⟨some 11, .mv (.t 0), none, true⟩,
  ⟨some 12, .mv (.t 0), none, true⟩,
  ⟨some 13, .ias 2 (.t 12) (.c (.int .i64 0)), none, true⟩,
  ⟨some 14, .load true 2 (.t 13), none, true⟩,
  ⟨some 15, .call 117 [.t 11, .t 14, .fu 118], none, true⟩,
  ⟨some 4, .alloc [.int .i64 0, .int .i64 0], none, true⟩,
  ⟨none, .store 2 (.t 4) (.t 15), none, true⟩] (some [0, 2, 3, 4]) []) (
(.seq (
.reg none [
  ⟨some 16, .mv (.t 0), none, true⟩,
  ⟨some 17, .mv (.t 0), none, true⟩,
  ⟨some 18, .ias 2 (.t 17) (.c (.int .i64 0)), none, true⟩,
  ⟨some 19, .load true 2 (.t 18), none, true⟩,
  ⟨some 20, .call 117 [.t 16, .t 19, .fu 119], none, true⟩,
  ⟨some 5, .alloc [.int .i64 0, .int .i64 0], none, true⟩,
  ⟨none, .store 2 (.t 5) (.t 20), none, true⟩] (some [2, 3, 4, 5]) []) (
(.seq (
.reg (some [.dr [22] [], .dr [21] [2], .dr [22] [], .free]) [
  ⟨some 21, .load true 2 (.t 4), none, true⟩,
  ⟨some 22, .load true 2 (.t 5), none, true⟩,
  ⟨none, .store 2 (.t 2) (.t 21), none, true⟩,
  ⟨none, .store 2 (.t 3) (.t 22), none, true⟩] (some [2, 3]) [4, 5]) (
.ret)))))))))))
/-- ambidexter/rotation.ValidDirection$1 -/
def A108 : AFn := .code [.t 3] (
(.seq (
.reg none [
  ⟨some 3, .as (.c (.bool false)), none, true⟩] (some [0, 1]) []) (
(.seq (
.reg none [
  ⟨some 4, .mv (.t 0), none, true⟩,
  ⟨some 5, .load false 1 (.t 1), none, true⟩,
  ⟨some 6, .un .neg (.t 5), none, true⟩,
  ⟨some 7, .bin .geq (.t 4) (.t 6), none, true⟩,
  ⟨some 8, .mv (.t 7), none, true⟩,
  ⟨some 9, .mv (.t 0), some (8, true), true⟩,
  ⟨some 10, .load false 1 (.t 1), some (8, true), true⟩,
  ⟨some 11, .bin .leq (.t 9) (.t 10), some (8, true), true⟩,
  ⟨some 12, .pick (.t 8) (.t 11) (.c (.bool false)), none, true⟩,
  ⟨some 3, .as (.t 12), none, true⟩] (some [3]) []) (
.ret)))))
def A109_L0b : ACode := 
  (.seq (
  .reg none [
    ⟨some 22, .bin .lss (.t 21) (.t 20), none, true⟩] (some [6, 7, 20, 21, 22]) []) (
  (.seq (
  (.cond (.t 22) (
    .skip) (
    .exit 0))) (
  (.seq (
  (.block 1 (
  .reg none [
    ⟨some 23, .mv (.t 7), none, true⟩,
    ⟨some 24, .load true 2 (.t 6), none, true⟩,
    ⟨some 25, .cal (.t 23) [.t 24], none, true⟩,
    ⟨none, .store 2 (.t 6) (.t 25), none, true⟩] (some [6, 7, 20, 21]) []) (some [6, 7, 20, 21]) [])) (
  .reg none [
    ⟨some 26, .bin .add (.t 21) (.c (.int .i64 1)), none, true⟩,
    ⟨some 21, .mv (.t 26), none, true⟩] (some [6, 7, 20, 21]) []))))))
def A109_L0 : ACode := .loop A109_L0b (some [6, 7, 20, 21]) []
/-- ambidexter/rotation.CosSin -/
def A109 : AFn := .code [.t 2, .t 3] (
(.seq (
.reg none [
  ⟨some 2, .as (.c (.int .i64 0)), none, true⟩,
  ⟨some 3, .as (.c (.int .i64 0)), none, true⟩] (some [0]) []) (
(.seq (
.reg none [
  ⟨some 8, .mv (.t 0), none, true⟩,
  ⟨some 9, .call 120 [.t 8], none, true⟩,
  ⟨some 4, .as (.t 9), none, true⟩] (some [4]) []) (
(.seq (
.reg none [
  ⟨some 10, .call 121 [], none, true⟩,
  ⟨some 11, .mv (.t 4), none, true⟩,
  ⟨some 12, .bin .rem (.t 11) (.c (.int .i64 9)), none, true⟩,
  ⟨some 13, .ixa true 9 2 (.t 10) (.t 12), none, true⟩,
  ⟨some 5, .alloc [.int .i64 0, .int .i64 0], none, true⟩,
  ⟨none, .store 2 (.t 5) (.t 13), none, true⟩] (some [4, 5]) []) (
(.seq (
.reg none [
  ⟨some 14, .iaa 2 1 (.t 5) (.c (.int .i64 0)), none, true⟩,
  ⟨some 15, .load false 1 (.t 14), none, true⟩,
  ⟨some 16, .iaa 2 1 (.t 5) (.c (.int .i64 1)), none, true⟩,
  ⟨some 17, .load false 1 (.t 16), none, true⟩,
  ⟨some 18, .build [.int .i64 0, .int .i64 0] [(0, 1, .t 15), (1, 1, .t 17)], none, true⟩,
  ⟨some 6, .alloc [.int .i64 0, .int .i64 0], none, true⟩,
  ⟨none, .store 2 (.t 6) (.t 18), none, true⟩] (some [4, 6]) [5]) (
(.seq (
.reg none [
  ⟨some 7, .as (.fu 91), none, true⟩] (some [4, 6, 7]) []) (
(.seq (
(.seq (
.reg none [
  ⟨some 19, .mv (.t 4), none, true⟩,
  ⟨some 20, .bin .quo (.t 19) (.c (.int .i64 9)), none, true⟩,
  ⟨some 21, .mv (.c (.int .i64 0)), none, true⟩] (some [6, 7, 20, 21]) []) (
(.block 0 (
A109_L0) (some [6]) [])))) (
(.seq (
.reg (some [.dr [30] [], .dr [30] [], .dr [28] [], .dr [28] [], .dr [30] [], .free]) [
  ⟨some 27, .fad 0 (.t 6), none, true⟩,
  ⟨some 28, .load false 1 (.t 27), none, true⟩,
  ⟨some 29, .fad 1 (.t 6), none, true⟩,
  ⟨some 30, .load false 1 (.t 29), none, true⟩,
  ⟨some 2, .as (.t 28), none, true⟩,
  ⟨some 3, .as (.t 30), none, true⟩] (some [2, 3]) [6]) (
.ret)))))))))))))))
/-- ambidexter/ambidexterref01.mod -/
def A110 : AFn := .code [.t 2] (
(.seq (
.reg none [
  ⟨some 2, .as (.c (.int .i64 0)), none, true⟩] (some [0]) []) (
(.seq (
.reg none [
  ⟨some 3, .mv (.t 0), none, true⟩,
  ⟨some 4, .bin .rem (.t 3) (.c (.int .i64 36)), none, true⟩,
  ⟨some 5, .bin .add (.t 4) (.c (.int .i64 36)), none, true⟩,
  ⟨some 6, .bin .rem (.t 5) (.c (.int .i64 36)), none, true⟩,
  ⟨some 2, .as (.t 6), none, true⟩] (some [2]) []) (
.ret)))))
/-- ambidexter/geom.SegmentsIntersect$1 -/
def A111 : AFn := .code [.t 8, .t 9] (
(.seq (
.reg none [
  ⟨some 4, .box (.t 0), none, true⟩,
  ⟨some 5, .box (.t 1), none, true⟩,
  ⟨some 6, .box (.t 2), none, true⟩,
  ⟨some 7, .box (.t 3), none, true⟩,
  ⟨some 8, .as (.c (.bool false)), none, true⟩,
  ⟨some 9, .as (.c (.bool false)), none, true⟩] (some [4, 5, 6, 7]) []) (
(.seq (
.reg (some [.dr [13, 14, 16, 17, 18] [], .dr [12, 14, 16, 17, 18] [], .dr [12, 13, 16, 17, 18] [], .dr [16, 17, 18] [], .dr [12, 13, 14, 15, 17, 18] [], .dr [12, 13, 14, 15, 16, 18] [], .dr [12, 13, 14, 15, 16, 17] [], .free, .free, .free]) [
  ⟨some 12, .load true 2 (.t 4), none, true⟩,
  ⟨some 13, .load true 2 (.t 5), none, true⟩,
  ⟨some 14, .load true 2 (.t 6), none, true⟩,
  ⟨some 15, .call 62 [.t 12, .t 13, .t 14], none, true⟩,
  ⟨some 16, .load true 2 (.t 4), none, true⟩,
  ⟨some 17, .load true 2 (.t 5), none, true⟩,
  ⟨some 18, .load true 2 (.t 7), none, true⟩,
  ⟨some 19, .call 62 [.t 16, .t 17, .t 18], none, true⟩,
  ⟨some 10, .as (.t 15), none, true⟩,
  ⟨some 11, .as (.t 19), none, true⟩] (some [4, 5, 6, 7, 10, 11]) []) (
(.seq (
.reg none [
  ⟨some 20, .mv (.t 10), none, true⟩,
  ⟨some 21, .mv (.t 11), none, true⟩,
  ⟨some 22, .bin .mul (.t 20) (.t 21), none, true⟩,
  ⟨some 23, .bin .lss (.t 22) (.c (.int .i64 0)), none, true⟩,
  ⟨some 24, .mv (.t 10), none, true⟩,
  ⟨some 25, .bin .eql (.t 24) (.c (.int .i64 0)), none, true⟩,
  ⟨some 26, .mv (.t 25), none, true⟩,
  ⟨some 27, .load true 2 (.t 4), some (26, true), true⟩,
  ⟨some 28, .load true 2 (.t 5), some (26, true), true⟩,
  ⟨some 29, .load true 2 (.t 6), some (26, true), true⟩,
  ⟨some 30, .call 90 [.t 27, .t 28, .t 29], some (26, true), true⟩,
  ⟨some 31, .pick (.t 26) (.t 30) (.c (.bool false)), none, true⟩,
  ⟨some 32, .mv (.t 31), none, true⟩,
  ⟨some 33, .mv (.t 11), some (32, false), true⟩,
  ⟨some 34, .bin .eql (.t 33) (.c (.int .i64 0)), some (32, false), true⟩,
  ⟨some 35, .mv (.t 34), some (32, false), true⟩,
  ⟨some 36, .load true 2 (.t 4), some (35, true), true⟩,
  ⟨some 37, .load true 2 (.t 5), some (35, true), true⟩,
  ⟨some 38, .load true 2 (.t 7), some (35, true), true⟩,
  ⟨some 39, .call 90 [.t 36, .t 37, .t 38], some (35, true), true⟩,
  ⟨some 40, .pick (.t 35) (.t 39) (.c (.bool false)), some (32, false), true⟩,
  ⟨some 41, .pick (.t 32) (.c (.bool true)) (.t 40), none, true⟩,
  ⟨some 8, .as (.t 23), none, true⟩,
  ⟨some 9, .as (.t 41), none, true⟩] (some [8, 9]) [4, 5, 6, 7]) (
.ret)))))))
def A112_L0b : ACode := 
  (.seq (
  .reg none [
    ⟨some 8, .bin .lss (.t 7) (.t 6), none, true⟩] (some [0, 1, 5, 6, 7, 8]) []) (
  (.seq (
  (.cond (.t 8) (
    .skip) (
    .exit 0))) (
  (.seq (
  (.block 1 (
  (.seq (
  .reg none [
    ⟨some 9, .mv (.t 7), none, true⟩,
    ⟨some 10, .ias 2 (.t 5) (.t 7), none, true⟩,
    ⟨some 11, .load true 2 (.t 10), none, true⟩,
    ⟨some 4, .alloc [.int .i64 0, .int .i64 0], none, true⟩,
    ⟨some 3, .as (.t 9), none, true⟩,
    ⟨none, .store 2 (.t 4) (.t 11), none, true⟩] (some [0, 1, 3, 4, 5, 6, 7]) []) (
  (.seq (
  .reg (some [.dr [14, 15, 18, 19, 21, 22] [], .dr [14, 15, 18, 19, 21, 22] [], .dr [15, 18, 19, 21, 22] [], .dr [14, 18, 19] [], .dr [14, 15, 18, 19] [], .dr [14, 15, 18, 19] [], .dr [14, 15] [], .dr [14, 15] [], .dr [14, 15] [], .dr [14] [], .dr [14] [], .dr [] [], .free, .free]) [
    ⟨some 12, .mv (.t 0), none, true⟩,
    ⟨some 13, .mv (.t 3), none, true⟩,
    ⟨some 14, .load true 2 (.t 4), none, true⟩,
    ⟨some 15, .load false 1 (.t 1), none, true⟩,
    ⟨some 16, .mv (.t 3), none, true⟩,
    ⟨some 17, .bin .add (.t 16) (.c (.int .i64 1)), none, true⟩,
    ⟨some 18, .load false 1 (.t 1), none, true⟩,
    ⟨some 19, .len 0 (.t 18), none, true⟩,
    ⟨some 20, .bin .rem (.t 17) (.t 19), none, true⟩,
    ⟨some 21, .ias 2 (.t 15) (.t 20), none, true⟩,
    ⟨some 22, .load true 2 (.t 21), none, true⟩,
    ⟨some 23, .build [.int .i64 0, .int .i64 0, .int .i64 0, .int .i64 0] [(0, 2, .t 14), (2, 2, .t 22)], none, true⟩,
    ⟨some 24, .cal (.t 12) [.t 13, .t 23], none, true⟩,
    ⟨some 25, .un .not (.t 24), none, true⟩] (some [0, 1, 5, 6, 7, 25]) [4]) (
  (.cond (.t 25) (
    .ret) (
    .skip))))))) (some [0, 1, 5, 6, 7]) [3, 4, 24])) (
  .reg none [
    ⟨some 26, .bin .add (.t 7) (.c (.int .i64 1)), none, true⟩,
    ⟨some 7, .mv (.t 26), none, true⟩] (some [0, 1, 5, 6, 7]) []))))))
def A112_L0 : ACode := .loop A112_L0b (some [0, 1, 5, 6, 7]) [3, 4, 24]
/-- ambidexter/intersect.edges$1 -/
def A112 : AFn := .code [] (
(.seq (
.reg none [
  ⟨some 5, .load false 1 (.t 1), none, true⟩,
  ⟨some 6, .len 0 (.t 5), none, true⟩,
  ⟨some 7, .mv (.c (.int .i64 0)), none, true⟩] (some [0, 1, 5, 6, 7]) []) (
(.block 0 (
A112_L0) (some []) [3, 4, 24]))))
def A113_L0b : ACode := 
    (.seq (
    (.seq (
    .reg none [
      ⟨some 46, .mv (.t 6), none, true⟩,
      ⟨some 47, .mv (.t 3), none, true⟩,
      ⟨some 48, .bin .lss (.t 46) (.t 47), none, true⟩] (some [0, 3, 5, 6, 48]) []) (
    (.cond (.t 48) (
      .skip) (
      .exit 4))))) (
    (.seq (
    (.block 5 (
    (.seq (
    .reg none [
      ⟨some 51, .mv (.t 5), none, true⟩,
      ⟨some 52, .bin .neq (.t 51) (.c (.int .i64 0)), none, true⟩,
      ⟨some 53, .mv (.t 52), none, true⟩,
      ⟨some 54, .mv (.t 6), some (53, false), true⟩,
      ⟨some 55, .mv (.t 3), some (53, false), true⟩,
      ⟨some 56, .bin .sub (.t 55) (.c (.int .i64 1)), some (53, false), true⟩,
      ⟨some 57, .bin .neq (.t 54) (.t 56), some (53, false), true⟩,
      ⟨some 58, .pick (.t 53) (.c (.bool true)) (.t 57), none, true⟩,
      ⟨some 59, .mv (.t 58), none, true⟩,
      ⟨some 60, .mv (.t 0), some (59, true), true⟩,
      ⟨some 61, .mv (.t 5), some (59, true), true⟩,
      ⟨some 62, .call 123 [.t 60, .t 61], some (59, true), true⟩,
      ⟨some 63, .mv (.t 0), some (59, true), true⟩,
      ⟨some 64, .mv (.t 5), some (59, true), true⟩,
      ⟨some 65, .bin .add (.t 64) (.c (.int .i64 1)), some (59, true), true⟩,
      ⟨some 66, .call 123 [.t 63, .t 65], some (59, true), true⟩,
      ⟨some 67, .mv (.t 0), some (59, true), true⟩,
      ⟨some 68, .mv (.t 6), some (59, true), true⟩,
      ⟨some 69, .call 123 [.t 67, .t 68], some (59, true), true⟩,
      ⟨some 70, .mv (.t 0), some (59, true), true⟩,
      ⟨some 71, .mv (.t 6), some (59, true), true⟩,
      ⟨some 72, .bin .add (.t 71) (.c (.int .i64 1)), some (59, true), true⟩,
      ⟨some 73, .call 123 [.t 70, .t 72], some (59, true), true⟩,
      ⟨some 74, .call 124 [.t 62, .t 66, .t 69, .t 73], some (59, true), true⟩,
      ⟨some 75, .pick (.t 59) (.t 74) (.c (.bool false)), none, true⟩] (some [0, 3, 5, 6, 75]) []) (
    (.cond (.t 75) (
      (.seq (
      .reg none [
        ⟨some 2, .as (.c (.bool false)), none, true⟩] (some [2]) []) (
      .ret))) (
      .skip))))) (some [0, 3, 5, 6]) [2, 62, 66, 69, 73, 74])) (
    .reg none [
      ⟨some 49, .mv (.t 6), none, true⟩,
      ⟨some 50, .bin .add (.t 49) (.c (.int .i64 1)), none, true⟩,
      ⟨some 6, .as (.t 50), none, true⟩] (some [0, 3, 5, 6]) []))))
def A113_L0 : ACode := .loop A113_L0b (some [0, 3, 5, 6]) [2, 62, 66, 69, 73, 74]
def A113_L1b : ACode := 
  (.seq (
  (.seq (
  .reg none [
    ⟨some 26, .mv (.t 5), none, true⟩,
    ⟨some 27, .mv (.t 3), none, true⟩,
    ⟨some 28, .bin .lss (.t 26) (.t 27), none, true⟩] (some [0, 3, 5, 28]) []) (
  (.cond (.t 28) (
    .skip) (
    .exit 2))))) (
  (.seq (
  (.block 3 (
  (.seq (
  (.seq (
  .reg none [
    ⟨some 31, .mv (.t 0), none, true⟩,
    ⟨some 32, .mv (.t 5), none, true⟩,
    ⟨some 33, .call 123 [.t 31, .t 32], none, true⟩,
    ⟨some 34, .mv (.t 0), none, true⟩,
    ⟨some 35, .mv (.t 5), none, true⟩,
    ⟨some 36, .bin .add (.t 35) (.c (.int .i64 1)), none, true⟩,
    ⟨some 37, .call 123 [.t 34, .t 36], none, true⟩,
    ⟨some 38, .mv (.t 0), none, true⟩,
    ⟨some 39, .mv (.t 5), none, true⟩,
    ⟨some 40, .bin .add (.t 39) (.c (.int .i64 2)), none, true⟩,
    ⟨some 41, .call 123 [.t 38, .t 40], none, true⟩,
    ⟨some 42, .call 122 [.t 33, .t 37, .t 41], none, true⟩,
    ⟨some 43, .bin .eql (.t 42) (.c (.int .i64 0)), none, true⟩] (some [0, 3, 5, 43]) []) (
  (.cond (.t 43) (
    (.seq (
    .reg none [
      ⟨some 2, .as (.c (.bool false)), none, true⟩] (some [2]) []) (
    .ret))) (
    .skip))))) (
  (.seq (
  .reg none [
    ⟨some 44, .mv (.t 5), none, true⟩,
    ⟨some 45, .bin .add (.t 44) (.c (.int .i64 2)), none, true⟩,
    ⟨some 6, .as (.t 45), none, true⟩] (some [0, 3, 5, 6]) []) (
  (.block 4 (
  A113_L0) (some [0, 3, 5]) [2, 6, 62, 66, 69, 73, 74])))))) (some [0, 3, 5]) [2, 6, 33, 37, 41, 42, 62, 66, 69, 73, 74])) (
  .reg none [
    ⟨some 29, .mv (.t 5), none, true⟩,
    ⟨some 30, .bin .add (.t 29) (.c (.int .i64 1)), none, true⟩,
    ⟨some 5, .as (.t 30), none, true⟩] (some [0, 3, 5]) []))))
def A113_L1 : ACode := .loop A113_L1b (some [0, 3, 5]) [2, 6, 33, 37, 41, 42, 62, 66, 69, 73, 74]
def A113_L2b : ACode := 
  (.seq (
  (.seq (
  .reg none [
    ⟨some 15, .mv (.t 4), none, true⟩,
    ⟨some 16, .mv (.t 3), none, true⟩,
    ⟨some 17, .bin .lss (.t 15) (.t 16), none, true⟩] (some [0, 3, 4, 17]) []) (
  (.cond (.t 17) (
    .skip) (
    .exit 0))))) (
  (.seq (
  (.block 1 (
  (.seq (
  .reg none [
    ⟨some 20, .mv (.t 0), none, true⟩,
    ⟨some 21, .mv (.t 4), none, true⟩,
    ⟨some 22, .ias 2 (.t 20) (.t 21), none, true⟩,
    ⟨some 23, .load true 2 (.t 22), none, true⟩,
    ⟨some 24, .call 30 [.t 23], none, true⟩,
    ⟨some 25, .un .not (.t 24), none, true⟩] (some [0, 3, 4, 25]) []) (
  (.cond (.t 25) (
    (.seq (
    .reg none [
      ⟨some 2, .as (.c (.bool false)), none, true⟩] (some [2]) []) (
    .ret))) (
    .skip))))) (some [0, 3, 4]) [2, 24])) (
  .reg none [
    ⟨some 18, .mv (.t 4), none, true⟩,
    ⟨some 19, .bin .add (.t 18) (.c (.int .i64 1)), none, true⟩,
    ⟨some 4, .as (.t 19), none, true⟩] (some [0, 3, 4]) []))))
def A113_L2 : ACode := .loop A113_L2b (some [0, 3, 4]) [2, 24]
/-- ambidexter/ambidexterref03.Right -/
def A113 : AFn := .code [.t 2] (
(.seq (
.reg none [
  ⟨some 2, .as (.c (.bool false)), none, true⟩] (some [0]) []) (
(.seq (
.reg none [
  ⟨some 7, .mv (.t 0), none, true⟩,
  ⟨some 8, .len 0 (.t 7), none, true⟩,
  ⟨some 3, .as (.t 8), none, true⟩] (some [0, 3]) []) (
(.seq (
(.seq (
.reg none [
  ⟨some 9, .mv (.t 3), none, true⟩,
  ⟨some 10, .bin .lss (.t 9) (.c (.int .i64 3)), none, true⟩,
  ⟨some 11, .mv (.t 10), none, true⟩,
  ⟨some 12, .mv (.t 3), some (11, false), true⟩,
  ⟨some 13, .bin .gtr (.t 12) (.c (.int .i64 12)), some (11, false), true⟩,
  ⟨some 14, .pick (.t 11) (.c (.bool true)) (.t 13), none, true⟩] (some [0, 3, 14]) []) (
(.cond (.t 14) (
  (.seq (
  .reg none [
    ⟨some 2, .as (.c (.bool false)), none, true⟩] (some [2]) []) (
  .ret))) (
  .skip))))) (
(.seq (
(.seq (
.reg none [
  ⟨some 4, .as (.c (.int .i64 0)), none, true⟩] (some [0, 3, 4]) []) (
(.block 0 (
A113_L2) (some [0, 3]) [2, 4, 24])))) (
(.seq (
(.seq (
.reg none [
  ⟨some 5, .as (.c (.int .i64 0)), none, true⟩] (some [0, 3, 5]) []) (
(.block 2 (
A113_L1) (some [0]) [2, 5, 6, 33, 37, 41, 42, 62, 66, 69, 73, 74])))) (
(.seq (
.reg none [
  ⟨some 76, .mv (.t 0), none, true⟩,
  ⟨some 77, .call 125 [.t 76], none, true⟩,
  ⟨some 78, .bin .gtr (.t 77) (.c (.int .i64 0)), none, true⟩,
  ⟨some 2, .as (.t 78), none, true⟩] (some [2]) []) (
.ret)))))))))))))
def A114_L0b : ACode := 
    (.seq (
    (.seq (
    .reg none [
      ⟨some 17, .mv (.t 4), none, true⟩,
      ⟨some 18, .mv (.t 3), none, true⟩,
      ⟨some 19, .bin .lss (.t 17) (.t 18), none, true⟩] (some [0, 3, 4, 19]) []) (
    (.cond (.t 19) (
      .skip) (
      .exit 2))))) (
    (.seq (
    (.block 3 (
    (.seq (
    .reg (some [.dr [28, 29] [], .dr [28, 29] [], .dr [28, 29] [], .dr [28, 29] [], .dr [24, 25] [], .dr [24, 25] [], .dr [24, 25] [], .dr [24, 25] [], .free]) [
      ⟨some 22, .mv (.t 0), none, true⟩,
      ⟨some 23, .mv (.t 4), none, true⟩,
      ⟨some 24, .ias 1 (.t 22) (.t 23), none, true⟩,
      ⟨some 25, .load false 1 (.t 24), none, true⟩,
      ⟨some 26, .mv (.t 0), none, true⟩,
      ⟨some 27, .mv (.t 3), none, true⟩,
      ⟨some 28, .ias 1 (.t 26) (.t 27), none, true⟩,
      ⟨some 29, .load false 1 (.t 28), none, true⟩,
      ⟨some 30, .bin .eql (.t 25) (.t 29), none, true⟩] (some [0, 3, 4, 30]) []) (
    (.cond (.t 30) (
      (.seq (
      .reg none [
        ⟨some 2, .as (.c (.bool false)), none, true⟩] (some [2]) []) (
      .ret))) (
      .skip))))) (some [0, 3, 4]) [2])) (
    .reg none [
      ⟨some 20, .mv (.t 4), none, true⟩,
      ⟨some 21, .bin .add (.t 20) (.c (.int .i64 1)), none, true⟩,
      ⟨some 4, .as (.t 21), none, true⟩] (some [0, 3, 4]) []))))
def A114_L0 : ACode := .loop A114_L0b (some [0, 3, 4]) [2]
def A114_L1b : ACode := 
  (.seq (
  (.seq (
  .reg none [
    ⟨some 5, .mv (.t 3), none, true⟩,
    ⟨some 6, .mv (.t 0), none, true⟩,
    ⟨some 7, .len 0 (.t 6), none, true⟩,
    ⟨some 8, .bin .lss (.t 5) (.t 7), none, true⟩] (some [0, 3, 8]) []) (
  (.cond (.t 8) (
    .skip) (
    .exit 0))))) (
  (.seq (
  (.block 1 (
  (.seq (
  (.seq (
  .reg none [
    ⟨some 11, .mv (.t 0), none, true⟩,
    ⟨some 12, .mv (.t 3), none, true⟩,
    ⟨some 13, .ias 1 (.t 11) (.t 12), none, true⟩,
    ⟨some 14, .load false 1 (.t 13), none, true⟩,
    ⟨some 15, .call 126 [.t 14], none, true⟩,
    ⟨some 16, .un .not (.t 15), none, true⟩] (some [0, 3, 16]) []) (
  (.cond (.t 16) (
    (.seq (
    .reg none [
      ⟨some 2, .as (.c (.bool false)), none, true⟩] (some [2]) []) (
    .ret))) (
    .skip))))) (
  (.seq (
  .reg none [
    ⟨some 4, .as (.c (.int .i64 0)), none, true⟩] (some [0, 3, 4]) []) (
  (.block 2 (
  A114_L0) (some [0, 3]) [2, 4])))))) (some [0, 3]) [2, 4, 15])) (
  .reg none [
    ⟨some 9, .mv (.t 3), none, true⟩,
    ⟨some 10, .bin .add (.t 9) (.c (.int .i64 1)), none, true⟩,
    ⟨some 3, .as (.t 10), none, true⟩] (some [0, 3]) []))))
def A114_L1 : ACode := .loop A114_L1b (some [0, 3]) [2, 4, 15]
/-- ambidexter/ambidexterref09.names -/
def A114 : AFn := .code [.t 2] (
(.seq (
.reg none [
  ⟨some 2, .as (.c (.bool false)), none, true⟩] (some [0]) []) (
(.seq (
(.seq (
.reg none [
  ⟨some 3, .as (.c (.int .i64 0)), none, true⟩] (some [0, 3]) []) (
(.block 0 (
A114_L1) (some []) [2, 3, 4, 15])))) (
(.seq (
.reg none [
  ⟨some 2, .as (.c (.bool true)), none, true⟩] (some [2]) []) (
.ret)))))))
def A115_L0b : ACode := 
    (.seq (
    (.seq (
    .reg none [
      ⟨some 49, .mv (.t 4), none, true⟩,
      ⟨some 50, .mv (.t 0), none, true⟩,
      ⟨some 51, .len 0 (.t 50), none, true⟩,
      ⟨some 52, .bin .lss (.t 49) (.t 51), none, true⟩] (some [0, 3, 4, 52]) []) (
    (.cond (.t 52) (
      .skip) (
      .exit 2))))) (
    (.seq (
    (.block 3 (
    (.seq (
    .reg (some [.dr [63, 65, 66, 69, 70] [], .dr [63, 65, 66, 69, 70] [], .dr [63, 65, 66, 69, 70] [], .dr [63, 65, 66, 69, 70] [], .dr [57, 58, 63, 69, 70] [], .dr [57, 58, 63, 69, 70] [], .dr [57, 58, 63, 69, 70] [], .dr [57, 58, 69, 70] [], .dr [57, 58, 69, 70] [], .dr [57, 58, 69, 70] [], .dr [57, 58, 69, 70] [], .dr [57, 58, 69, 70] [], .dr [57, 58, 63, 65, 66] [], .dr [57, 58, 63, 65, 66] [], .dr [57, 58, 63, 65, 66] [], .dr [57, 58, 63, 65, 66] [], .free, .free]) [
      ⟨some 55, .mv (.t 0), none, true⟩,
      ⟨some 56, .mv (.t 3), none, true⟩,
      ⟨some 57, .ias 2 (.t 55) (.t 56), none, true⟩,
      ⟨some 58, .load true 2 (.t 57), none, true⟩,
      ⟨some 59, .mv (.t 0), none, true⟩,
      ⟨some 60, .mv (.t 3), none, true⟩,
      ⟨some 61, .bin .add (.t 60) (.c (.int .i64 1)), none, true⟩,
      ⟨some 62, .mv (.t 0), none, true⟩,
      ⟨some 63, .len 0 (.t 62), none, true⟩,
      ⟨some 64, .bin .rem (.t 61) (.t 63), none, true⟩,
      ⟨some 65, .ias 2 (.t 59) (.t 64), none, true⟩,
      ⟨some 66, .load true 2 (.t 65), none, true⟩,
      ⟨some 67, .mv (.t 0), none, true⟩,
      ⟨some 68, .mv (.t 4), none, true⟩,
      ⟨some 69, .ias 2 (.t 67) (.t 68), none, true⟩,
      ⟨some 70, .load true 2 (.t 69), none, true⟩,
      ⟨some 71, .call 127 [.t 58, .t 66, .t 70], none, true⟩,
      ⟨some 72, .bin .lss (.t 71) (.c (.int .i64 0)), none, true⟩] (some [0, 3, 4, 72]) []) (
    (.cond (.t 72) (
      (.seq (
      .reg none [
        ⟨some 2, .as (.c (.bool false)), none, true⟩] (some [2]) []) (
      .ret))) (
      .skip))))) (some [0, 3, 4]) [2, 71])) (
    .reg none [
      ⟨some 53, .mv (.t 4), none, true⟩,
      ⟨some 54, .bin .add (.t 53) (.c (.int .i64 1)), none, true⟩,
      ⟨some 4, .as (.t 54), none, true⟩] (some [0, 3, 4]) []))))
def A115_L0 : ACode := .loop A115_L0b (some [0, 3, 4]) [2, 71]
def A115_L1b : ACode := 
  (.seq (
  (.seq (
  .reg none [
    ⟨some 13, .mv (.t 3), none, true⟩,
    ⟨some 14, .mv (.t 0), none, true⟩,
    ⟨some 15, .len 0 (.t 14), none, true⟩,
    ⟨some 16, .bin .lss (.t 13) (.t 15), none, true⟩] (some [0, 3, 16]) []) (
  (.cond (.t 16) (
    .skip) (
    .exit 0))))) (
  (.seq (
  (.block 1 (
  (.seq (
  (.seq (
  .reg none [
    ⟨some 19, .mv (.t 0), none, true⟩,
    ⟨some 20, .mv (.t 3), none, true⟩,
    ⟨some 21, .ias 2 (.t 19) (.t 20), none, true⟩,
    ⟨some 22, .fad 0 (.t 21), none, true⟩,
    ⟨some 23, .load false 1 (.t 22), none, true⟩,
    ⟨some 24, .bin .lss (.t 23) (.c (.int .i64 (-10))), none, true⟩,
    ⟨some 25, .mv (.t 24), none, true⟩,
    ⟨some 26, .mv (.t 0), some (25, false), true⟩,
    ⟨some 27, .mv (.t 3), some (25, false), true⟩,
    ⟨some 28, .ias 2 (.t 26) (.t 27), some (25, false), true⟩,
    ⟨some 29, .fad 0 (.t 28), some (25, false), true⟩,
    ⟨some 30, .load false 1 (.t 29), some (25, false), true⟩,
    ⟨some 31, .bin .gtr (.t 30) (.c (.int .i64 10)), some (25, false), true⟩,
    ⟨some 32, .pick (.t 25) (.c (.bool true)) (.t 31), none, true⟩,
    ⟨some 33, .mv (.t 32), none, true⟩,
    ⟨some 34, .mv (.t 0), some (33, false), true⟩,
    ⟨some 35, .mv (.t 3), some (33, false), true⟩,
    ⟨some 36, .ias 2 (.t 34) (.t 35), some (33, false), true⟩,
    ⟨some 37, .fad 1 (.t 36), some (33, false), true⟩,
    ⟨some 38, .load false 1 (.t 37), some (33, false), true⟩,
    ⟨some 39, .bin .lss (.t 38) (.c (.int .i64 (-10))), some (33, false), true⟩,
    ⟨some 40, .pick (.t 33) (.c (.bool true)) (.t 39), none, true⟩,
    ⟨some 41, .mv (.t 40), none, true⟩,
    ⟨some 42, .mv (.t 0), some (41, false), true⟩,
    ⟨some 43, .mv (.t 3), some (41, false), true⟩,
    ⟨some 44, .ias 2 (.t 42) (.t 43), some (41, false), true⟩,
    ⟨some 45, .fad 1 (.t 44), some (41, false), true⟩,
    ⟨some 46, .load false 1 (.t 45), some (41, false), true⟩,
    ⟨some 47, .bin .gtr (.t 46) (.c (.int .i64 10)), some (41, false), true⟩,
    ⟨some 48, .pick (.t 41) (.c (.bool true)) (.t 47), none, true⟩] (some [0, 3, 48]) []) (
  (.cond (.t 48) (
    (.seq (
    .reg none [
      ⟨some 2, .as (.c (.bool false)), none, true⟩] (some [2]) []) (
    .ret))) (
    .skip))))) (
  (.seq (
  .reg none [
    ⟨some 4, .as (.c (.int .i64 0)), none, true⟩] (some [0, 3, 4]) []) (
  (.block 2 (
  A115_L0) (some [0, 3]) [2, 4, 71])))))) (some [0, 3]) [2, 4, 71])) (
  .reg none [
    ⟨some 17, .mv (.t 3), none, true⟩,
    ⟨some 18, .bin .add (.t 17) (.c (.int .i64 1)), none, true⟩,
    ⟨some 3, .as (.t 18), none, true⟩] (some [0, 3]) []))))
def A115_L1 : ACode := .loop A115_L1b (some [0, 3]) [2, 4, 71]
/-- ambidexter/ambidexterref09.shape -/
def A115 : AFn := .code [.t 2] (
(.seq (
.reg none [
  ⟨some 2, .as (.c (.bool false)), none, true⟩] (some [0]) []) (
(.seq (
(.seq (
.reg none [
  ⟨some 5, .mv (.t 0), none, true⟩,
  ⟨some 6, .len 0 (.t 5), none, true⟩,
  ⟨some 7, .bin .gtr (.t 6) (.c (.int .i64 4)), none, true⟩,
  ⟨some 8, .mv (.t 7), none, true⟩,
  ⟨some 9, .mv (.t 0), some (8, false), true⟩,
  ⟨some 10, .call 113 [.t 9], some (8, false), true⟩,
  ⟨some 11, .un .not (.t 10), some (8, false), true⟩,
  ⟨some 12, .pick (.t 8) (.c (.bool true)) (.t 11), none, true⟩] (some [0, 12]) []) (
(.cond (.t 12) (
  (.seq (
  .reg none [
    ⟨some 2, .as (.c (.bool false)), none, true⟩] (some [2]) []) (
  .ret))) (
  .skip))))) (
(.seq (
(.seq (
.reg none [
  ⟨some 3, .as (.c (.int .i64 0)), none, true⟩] (some [0, 3]) []) (
(.block 0 (
A115_L1) (some []) [2, 3, 4, 71])))) (
(.seq (
.reg none [
  ⟨some 2, .as (.c (.bool true)), none, true⟩] (some [2]) []) (
.ret)))))))))
def A116_L0b : ACode := 
  (.seq (
  .reg none [
    ⟨some 9, .bin .lss (.t 8) (.t 7), none, true⟩] (some [0, 1, 7, 8, 9]) []) (
  (.seq (
  (.cond (.t 9) (
    .skip) (
    .exit 0))) (
  (.seq (
  (.block 1 (
  (.seq (
  .reg none [
    ⟨some 10, .mv (.t 8), none, true⟩,
    ⟨some 5, .as (.t 10), none, true⟩] (some [0, 1, 5, 7, 8]) []) (
  (.seq (
  .reg none [
    ⟨some 11, .mv (.t 1), none, true⟩,
    ⟨some 12, .mv (.t 0), none, true⟩,
    ⟨some 13, .mv (.t 5), none, true⟩,
    ⟨some 14, .ias 1 (.t 12) (.t 13), none, true⟩,
    ⟨some 15, .load false 1 (.t 14), none, true⟩,
    ⟨some 16, .bib false (.t 11) (.t 15), none, true⟩] (some [0, 1, 5, 7, 8, 16]) []) (
  (.cond (.t 16) (
    (.seq (
    .reg none [
      ⟨some 17, .mv (.t 5), none, true⟩,
      ⟨some 4, .as (.t 17), none, true⟩] (some [4]) []) (
    .ret))) (
    .skip))))))) (some [0, 1, 7, 8]) [4, 5])) (
  .reg none [
    ⟨some 18, .bin .add (.t 8) (.c (.int .i64 1)), none, true⟩,
    ⟨some 8, .mv (.t 18), none, true⟩] (some [0, 1, 7, 8]) []))))))
def A116_L0 : ACode := .loop A116_L0b (some [0, 1, 7, 8]) [4, 5]
/-- slices.Index[[]bool,bool] -/
def A116 : AFn := .code [.t 4] (
(.seq (
.reg none [
  ⟨some 4, .as (.c (.int .i64 0)), none, true⟩] (some [0, 1]) []) (
(.seq (
(.seq (
.reg none [
  ⟨some 6, .mv (.t 0), none, true⟩,
  ⟨some 7, .len 0 (.t 6), none, true⟩,
  ⟨some 8, .mv (.c (.int .i64 0)), none, true⟩] (some [0, 1, 7, 8]) []) (
(.block 0 (
A116_L0) (some []) [4, 5])))) (
(.seq (
.reg none [
  ⟨some 4, .as (.c (.int .i64 (-1))), none, true⟩] (some [4]) []) (
.ret)))))))
def A117_L0b : ACode := 
  (.seq (
  .reg none [
    ⟨some 12, .bin .lss (.t 11) (.t 10), none, true⟩] (some [2, 4, 6, 9, 10, 11, 12]) []) (
  (.seq (
  (.cond (.t 12) (
    .skip) (
    .exit 0))) (
  (.seq (
  (.block 1 (
  (.seq (
  .reg none [
    ⟨some 13, .ias 2 (.t 9) (.t 11), none, true⟩,
    ⟨some 14, .load true 2 (.t 13), none, true⟩,
    ⟨some 8, .alloc [.int .i64 0, .int .i64 0], none, true⟩,
    ⟨none, .store 2 (.t 8) (.t 14), none, true⟩] (some [2, 4, 6, 8, 9, 10, 11]) []) (
  .reg none [
    ⟨some 15, .mv (.t 2), none, true⟩,
    ⟨some 16, .load true 2 (.t 4), none, true⟩,
    ⟨some 17, .load true 2 (.t 8), none, true⟩,
    ⟨some 18, .cal (.t 15) [.t 16, .t 17], none, true⟩,
    ⟨none, .store 2 (.t 4) (.t 18), none, true⟩] (some [2, 4, 6, 9, 10, 11]) [8]))) (some [2, 4, 6, 9, 10, 11]) [8])) (
  .reg none [
    ⟨some 19, .bin .add (.t 11) (.c (.int .i64 1)), none, true⟩,
    ⟨some 11, .mv (.t 19), none, true⟩] (some [2, 4, 6, 9, 10, 11]) []))))))
def A117_L0 : ACode := .loop A117_L0b (some [2, 4, 6, 9, 10, 11]) [8]

end Go.Proofs.Ytnecdcaaknhgpaa

namespace Go.Proofs.Ytnecdcaaknhgpaa
open Go Go.Zv
set_option maxRecDepth 100000
/-- ambidexter/geom.fold[ambidexter/api.Point,ambidexter/api.Point] -/
def A117 : AFn := .code [.cell true 2 6] (
(.seq (
.reg none [
  ⟨some 4, .box (.t 1), none, true⟩,
  ⟨some 6, .alloc [.int .i64 0, .int .i64 0], none, true⟩] (some [0, 2, 4, 6]) []) (
(.seq (
(.seq (
.reg none [
  ⟨some 9, .mv (.t 0), none, true⟩,
  ⟨some 10, .len 0 (.t 9), none, true⟩,
  ⟨some 11, .mv (.c (.int .i64 0)), none, true⟩] (some [2, 4, 6, 9, 10, 11]) []) (
(.block 0 (
A117_L0) (some [4, 6]) [8])))) (
(.seq (
.reg none [
  ⟨some 20, .load true 2 (.t 4), none, true⟩,
  ⟨none, .store 2 (.t 6) (.t 20), none, true⟩] (some [6]) [4]) (
.ret)))))))
/-- ambidexter/geom.BoundingBox$1 -/
def A118 : AFn := .code [.cell true 2 4] (
(.seq (
.reg none [
  ⟨some 2, .box (.t 0), none, true⟩,
  ⟨some 3, .box (.t 1), none, true⟩,
  ⟨some 4, .alloc [.int .i64 0, .int .i64 0], none, true⟩] (some [2, 3, 4]) []) (
(.seq (
.reg none [
  ⟨some 5, .fad 0 (.t 2), none, true⟩,
  ⟨some 6, .load false 1 (.t 5), none, true⟩,
  ⟨some 7, .fad 0 (.t 3), none, true⟩,
  ⟨some 8, .load false 1 (.t 7), none, true⟩,
  ⟨some 9, .mn [.t 6, .t 8], none, true⟩,
  ⟨some 10, .fad 1 (.t 2), none, true⟩,
  ⟨some 11, .load false 1 (.t 10), none, true⟩,
  ⟨some 12, .fad 1 (.t 3), none, true⟩,
  ⟨some 13, .load false 1 (.t 12), none, true⟩,
  ⟨some 14, .mn [.t 11, .t 13], none, true⟩,
  ⟨some 15, .build [.int .i64 0, .int .i64 0] [(0, 1, .t 9), (1, 1, .t 14)], none, true⟩,
  ⟨none, .store 2 (.t 4) (.t 15), none, true⟩] (some [4]) [2, 3]) (
.ret)))))
/-- ambidexter/geom.BoundingBox$2 -/
def A119 : AFn := .code [.cell true 2 4] (
(.seq (
.reg none [
  ⟨some 2, .box (.t 0), none, true⟩,
  ⟨some 3, .box (.t 1), none, true⟩,
  ⟨some 4, .alloc [.int .i64 0, .int .i64 0], none, true⟩] (some [2, 3, 4]) []) (
(.seq (
.reg none [
  ⟨some 5, .fad 0 (.t 2), none, true⟩,
  ⟨some 6, .load false 1 (.t 5), none, true⟩,
  ⟨some 7, .fad 0 (.t 3), none, true⟩,
  ⟨some 8, .load false 1 (.t 7), none, true⟩,
  ⟨some 9, .mx [.t 6, .t 8], none, true⟩,
  ⟨some 10, .fad 1 (.t 2), none, true⟩,
  ⟨some 11, .load false 1 (.t 10), none, true⟩,
  ⟨some 12, .fad 1 (.t 3), none, true⟩,
  ⟨some 13, .load false 1 (.t 12), none, true⟩,
  ⟨some 14, .mx [.t 11, .t 13], none, true⟩,
  ⟨some 15, .build [.int .i64 0, .int .i64 0] [(0, 1, .t 9), (1, 1, .t 14)], none, true⟩,
  ⟨none, .store 2 (.t 4) (.t 15), none, true⟩] (some [4]) [2, 3]) (
.ret)))))
/-- ambidexter/rotation.round -/
def A120 : AFn := .code [.t 2] (
(.seq (
.reg none [
  ⟨some 2, .as (.c (.int .i64 0)), none, true⟩] (some [0]) []) (
(.seq (
.reg none [
  ⟨some 3, .mv (.t 0), none, true⟩,
  ⟨some 4, .bin .rem (.t 3) (.c (.int .i64 36)), none, true⟩,
  ⟨some 0, .as (.t 4), none, true⟩] (some [0]) []) (
(.seq (
(.seq (
.reg none [
  ⟨some 5, .mv (.t 0), none, true⟩,
  ⟨some 6, .bin .lss (.t 5) (.c (.int .i64 0)), none, true⟩] (some [0, 6]) []) (
(.cond (.t 6) (
  .reg none [
    ⟨some 7, .mv (.t 0), none, true⟩,
    ⟨some 8, .bin .add (.t 7) (.c (.int .i64 36)), none, true⟩,
    ⟨some 0, .as (.t 8), none, true⟩] (some [0]) []) (
  .skip))))) (
(.seq (
.reg none [
  ⟨some 9, .mv (.t 0), none, true⟩,
  ⟨some 2, .as (.t 9), none, true⟩] (some [2]) []) (
.ret)))))))))
/-- ambidexter/rotation.quarter -/
def A121 : AFn := .code [.cell true 18 0] (
(.seq (
.reg none [
  ⟨some 0, .alloc [.int .i64 0, .int .i64 0, .int .i64 0, .int .i64 0, .int .i64 0, .int .i64 0, .int .i64 0, .int .i64 0, .int .i64 0, .int .i64 0, .int .i64 0, .int .i64 0, .int .i64 0, .int .i64 0, .int .i64 0, .int .i64 0, .int .i64 0, .int .i64 0], none, true⟩] (some [0]) []) (
(.seq (
.reg none [
  ⟨some 1, .build [.int .i64 0, .int .i64 0] [(0, 1, .c (.int .i64 65)), (1, 1, .c (.int .i64 0))], none, true⟩,
  ⟨some 2, .build [.int .i64 0, .int .i64 0] [(0, 1, .c (.int .i64 63)), (1, 1, .c (.int .i64 16))], none, true⟩,
  ⟨some 3, .build [.int .i64 0, .int .i64 0] [(0, 1, .c (.int .i64 60)), (1, 1, .c (.int .i64 25))], none, true⟩,
  ⟨some 4, .build [.int .i64 0, .int .i64 0] [(0, 1, .c (.int .i64 56)), (1, 1, .c (.int .i64 33))], none, true⟩,
  ⟨some 5, .build [.int .i64 0, .int .i64 0] [(0, 1, .c (.int .i64 52)), (1, 1, .c (.int .i64 39))], none, true⟩,
  ⟨some 6, .build [.int .i64 0, .int .i64 0] [(0, 1, .c (.int .i64 39)), (1, 1, .c (.int .i64 52))], none, true⟩,
  ⟨some 7, .build [.int .i64 0, .int .i64 0] [(0, 1, .c (.int .i64 33)), (1, 1, .c (.int .i64 56))], none, true⟩,
  ⟨some 8, .build [.int .i64 0, .int .i64 0] [(0, 1, .c (.int .i64 25)), (1, 1, .c (.int .i64 60))], none, true⟩,
  ⟨some 9, .build [.int .i64 0, .int .i64 0] [(0, 1, .c (.int .i64 16)), (1, 1, .c (.int .i64 63))], none, true⟩,
  ⟨some 10, .build [.int .i64 0, .int .i64 0, .int .i64 0, .int .i64 0, .int .i64 0, .int .i64 0, .int .i64 0, .int .i64 0, .int .i64 0, .int .i64 0, .int .i64 0, .int .i64 0, .int .i64 0, .int .i64 0, .int .i64 0, .int .i64 0, .int .i64 0, .int .i64 0] [(0, 2, .t 1), (2, 2, .t 2), (4, 2, .t 3), (6, 2, .t 4), (8, 2, .t 5), (10, 2, .t 6), (12, 2, .t 7), (14, 2, .t 8), (16, 2, .t 9)], none, true⟩,
  ⟨none, .store 18 (.t 0) (.t 10), none, true⟩] (some [0]) []) (
.ret)))))
/-- ambidexter/ambidexterref03.Cross -/
def A122 : AFn := .code [.t 6] (
(.seq (
.reg none [
  ⟨some 3, .box (.t 0), none, true⟩,
  ⟨some 4, .box (.t 1), none, true⟩,
  ⟨some 5, .box (.t 2), none, true⟩,
  ⟨some 6, .as (.c (.int .i64 0)), none, true⟩] (some [3, 4, 5]) []) (
(.seq (
.reg none [
  ⟨some 7, .fad 0 (.t 4), none, true⟩,
  ⟨some 8, .load false 1 (.t 7), none, true⟩,
  ⟨some 9, .fad 0 (.t 3), none, true⟩,
  ⟨some 10, .load false 1 (.t 9), none, true⟩,
  ⟨some 11, .bin .sub (.t 8) (.t 10), none, true⟩,
  ⟨some 12, .fad 1 (.t 5), none, true⟩,
  ⟨some 13, .load false 1 (.t 12), none, true⟩,
  ⟨some 14, .fad 1 (.t 3), none, true⟩,
  ⟨some 15, .load false 1 (.t 14), none, true⟩,
  ⟨some 16, .bin .sub (.t 13) (.t 15), none, true⟩,
  ⟨some 17, .bin .mul (.t 11) (.t 16), none, true⟩,
  ⟨some 18, .fad 1 (.t 4), none, true⟩,
  ⟨some 19, .load false 1 (.t 18), none, true⟩,
  ⟨some 20, .fad 1 (.t 3), none, true⟩,
  ⟨some 21, .load false 1 (.t 20), none, true⟩,
  ⟨some 22, .bin .sub (.t 19) (.t 21), none, true⟩,
  ⟨some 23, .fad 0 (.t 5), none, true⟩,
  ⟨some 24, .load false 1 (.t 23), none, true⟩,
  ⟨some 25, .fad 0 (.t 3), none, true⟩,
  ⟨some 26, .load false 1 (.t 25), none, true⟩,
  ⟨some 27, .bin .sub (.t 24) (.t 26), none, true⟩,
  ⟨some 28, .bin .mul (.t 22) (.t 27), none, true⟩,
  ⟨some 29, .bin .sub (.t 17) (.t 28), none, true⟩,
  ⟨some 6, .as (.t 29), none, true⟩] (some [6]) [3, 4, 5]) (
.ret)))))
/-- ambidexter/ambidexterref03.At -/
def A123 : AFn := .code [.cell true 2 4] (
(.seq (
.reg none [
  ⟨some 4, .alloc [.int .i64 0, .int .i64 0], none, true⟩] (some [0, 1, 4]) []) (
(.seq (
.reg none [
  ⟨some 5, .mv (.t 0), none, true⟩,
  ⟨some 6, .mv (.t 1), none, true⟩,
  ⟨some 7, .mv (.t 0), none, true⟩,
  ⟨some 8, .len 0 (.t 7), none, true⟩,
  ⟨some 9, .bin .rem (.t 6) (.t 8), none, true⟩,
  ⟨some 10, .ias 2 (.t 5) (.t 9), none, true⟩,
  ⟨some 11, .load true 2 (.t 10), none, true⟩,
  ⟨none, .store 2 (.t 4) (.t 11), none, true⟩] (some [4]) []) (
.ret)))))
/-- ambidexter/ambidexterref03.Cut -/
def A124 : AFn := .code [.t 8] (
(.seq (
.reg none [
  ⟨some 4, .box (.t 0), none, true⟩,
  ⟨some 5, .box (.t 1), none, true⟩,
  ⟨some 6, .box (.t 2), none, true⟩,
  ⟨some 7, .box (.t 3), none, true⟩,
  ⟨some 8, .as (.c (.bool false)), none, true⟩] (some [4, 5, 6, 7]) []) (
(.seq (
(.seq (
.reg none [
  ⟨some 11, .load true 2 (.t 4), none, true⟩,
  ⟨some 12, .load true 2 (.t 5), none, true⟩,
  ⟨some 13, .load true 2 (.t 6), none, true⟩,
  ⟨some 14, .call 128 [.t 11, .t 12, .t 13], none, true⟩,
  ⟨some 15, .mv (.t 14), none, true⟩,
  ⟨some 16, .load true 2 (.t 4), some (15, false), true⟩,
  ⟨some 17, .load true 2 (.t 5), some (15, false), true⟩,
  ⟨some 18, .load true 2 (.t 7), some (15, false), true⟩,
  ⟨some 19, .call 128 [.t 16, .t 17, .t 18], some (15, false), true⟩,
  ⟨some 20, .pick (.t 15) (.c (.bool true)) (.t 19), none, true⟩,
  ⟨some 21, .mv (.t 20), none, true⟩,
  ⟨some 22, .load true 2 (.t 6), some (21, false), true⟩,
  ⟨some 23, .load true 2 (.t 7), some (21, false), true⟩,
  ⟨some 24, .load true 2 (.t 4), some (21, false), true⟩,
  ⟨some 25, .call 128 [.t 22, .t 23, .t 24], some (21, false), true⟩,
  ⟨some 26, .pick (.t 21) (.c (.bool true)) (.t 25), none, true⟩,
  ⟨some 27, .mv (.t 26), none, true⟩,
  ⟨some 28, .load true 2 (.t 6), some (27, false), true⟩,
  ⟨some 29, .load true 2 (.t 7), some (27, false), true⟩,
  ⟨some 30, .load true 2 (.t 5), some (27, false), true⟩,
  ⟨some 31, .call 128 [.t 28, .t 29, .t 30], some (27, false), true⟩,
  ⟨some 32, .pick (.t 27) (.c (.bool true)) (.t 31), none, true⟩] (some [4, 5, 6, 7, 32]) []) (
(.cond (.t 32) (
  (.seq (
  .reg none [
    ⟨some 8, .as (.c (.bool true)), none, true⟩] (some [8]) []) (
  .ret))) (
  .skip))))) (
(.seq (
.reg (some [.dr [34, 35, 38, 39, 40] [], .dr [33, 35, 38, 39, 40] [], .dr [33, 34, 38, 39, 40] [], .dr [38, 39, 40] [], .dr [38, 39, 40] [], .dr [33, 34, 35, 36, 37, 39, 40] [], .dr [33, 34, 35, 36, 37, 38, 40] [], .dr [33, 34, 35, 36, 37, 38, 39] [], .free, .free, .free, .free]) [
  ⟨some 33, .load true 2 (.t 4), none, true⟩,
  ⟨some 34, .load true 2 (.t 5), none, true⟩,
  ⟨some 35, .load true 2 (.t 6), none, true⟩,
  ⟨some 36, .call 122 [.t 33, .t 34, .t 35], none, true⟩,
  ⟨some 37, .call 129 [.t 36], none, true⟩,
  ⟨some 38, .load true 2 (.t 4), none, true⟩,
  ⟨some 39, .load true 2 (.t 5), none, true⟩,
  ⟨some 40, .load true 2 (.t 7), none, true⟩,
  ⟨some 41, .call 122 [.t 38, .t 39, .t 40], none, true⟩,
  ⟨some 42, .call 129 [.t 41], none, true⟩,
  ⟨some 43, .bin .mul (.t 37) (.t 42), none, true⟩,
  ⟨some 9, .as (.t 43), none, true⟩] (some [4, 5, 6, 7, 9]) []) (
(.seq (
.reg (some [.dr [45, 46, 49, 50, 51] [], .dr [44, 46, 49, 50, 51] [], .dr [44, 45, 49, 50, 51] [], .dr [49, 50, 51] [], .dr [49, 50, 51] [], .dr [44, 45, 46, 47, 48, 50, 51] [], .dr [44, 45, 46, 47, 48, 49, 51] [], .dr [44, 45, 46, 47, 48, 49, 50] [], .free, .free, .free, .free]) [
  ⟨some 44, .load true 2 (.t 6), none, true⟩,
  ⟨some 45, .load true 2 (.t 7), none, true⟩,
  ⟨some 46, .load true 2 (.t 4), none, true⟩,
  ⟨some 47, .call 122 [.t 44, .t 45, .t 46], none, true⟩,
  ⟨some 48, .call 129 [.t 47], none, true⟩,
  ⟨some 49, .load true 2 (.t 6), none, true⟩,
  ⟨some 50, .load true 2 (.t 7), none, true⟩,
  ⟨some 51, .load true 2 (.t 5), none, true⟩,
  ⟨some 52, .call 122 [.t 49, .t 50, .t 51], none, true⟩,
  ⟨some 53, .call 129 [.t 52], none, true⟩,
  ⟨some 54, .bin .mul (.t 48) (.t 53), none, true⟩,
  ⟨some 10, .as (.t 54), none, true⟩] (some [9, 10]) [4, 5, 6, 7]) (
(.seq (
.reg none [
  ⟨some 55, .mv (.t 9), none, true⟩,
  ⟨some 56, .bin .lss (.t 55) (.c (.int .i64 0)), none, true⟩,
  ⟨some 57, .mv (.t 56), none, true⟩,
  ⟨some 58, .mv (.t 10), some (57, true), true⟩,
  ⟨some 59, .bin .lss (.t 58) (.c (.int .i64 0)), some (57, true), true⟩,
  ⟨some 60, .pick (.t 57) (.t 59) (.c (.bool false)), none, true⟩,
  ⟨some 8, .as (.t 60), none, true⟩] (some [8]) []) (
.ret)))))))))))
def A125_L0b : ACode := 
  (.seq (
  (.seq (
  .reg none [
    ⟨some 7, .mv (.t 4), none, true⟩,
    ⟨some 8, .mv (.t 0), none, true⟩,
    ⟨some 9, .len 0 (.t 8), none, true⟩,
    ⟨some 10, .bin .lss (.t 7) (.t 9), none, true⟩] (some [0, 3, 4, 10]) []) (
  (.cond (.t 10) (
    .skip) (
    .exit 0))))) (
  (.seq (
  (.block 1 (
  (.seq (
  .reg none [
    ⟨some 13, .mv (.t 0), none, true⟩,
    ⟨some 14, .mv (.t 4), none, true⟩,
    ⟨some 15, .call 123 [.t 13, .t 14], none, true⟩,
    ⟨some 5, .alloc [.int .i64 0, .int .i64 0], none, true⟩,
    ⟨none, .store 2 (.t 5) (.t 15), none, true⟩] (some [0, 3, 4, 5]) []) (
  (.seq (
  .reg none [
    ⟨some 16, .mv (.t 0), none, true⟩,
    ⟨some 17, .mv (.t 4), none, true⟩,
    ⟨some 18, .bin .add (.t 17) (.c (.int .i64 1)), none, true⟩,
    ⟨some 19, .call 123 [.t 16, .t 18], none, true⟩,
    ⟨some 6, .alloc [.int .i64 0, .int .i64 0], none, true⟩,
    ⟨none, .store 2 (.t 6) (.t 19), none, true⟩] (some [0, 3, 4, 5, 6]) []) (
  .reg none [
    ⟨some 20, .mv (.t 3), none, true⟩,
    ⟨some 21, .fad 0 (.t 5), none, true⟩,
    ⟨some 22, .load false 1 (.t 21), none, true⟩,
    ⟨some 23, .fad 1 (.t 6), none, true⟩,
    ⟨some 24, .load false 1 (.t 23), none, true⟩,
    ⟨some 25, .bin .mul (.t 22) (.t 24), none, true⟩,
    ⟨some 26, .bin .add (.t 20) (.t 25), none, true⟩,
    ⟨some 27, .fad 1 (.t 5), none, true⟩,
    ⟨some 28, .load false 1 (.t 27), none, true⟩,
    ⟨some 29, .fad 0 (.t 6), none, true⟩,
    ⟨some 30, .load false 1 (.t 29), none, true⟩,
    ⟨some 31, .bin .mul (.t 28) (.t 30), none, true⟩,
    ⟨some 32, .bin .sub (.t 26) (.t 31), none, true⟩,
    ⟨some 3, .as (.t 32), none, true⟩] (some [0, 3, 4]) [5, 6]))))) (some [0, 3, 4]) [5, 6, 15, 19])) (
  .reg none [
    ⟨some 11, .mv (.t 4), none, true⟩,
    ⟨some 12, .bin .add (.t 11) (.c (.int .i64 1)), none, true⟩,
    ⟨some 4, .as (.t 12), none, true⟩] (some [0, 3, 4]) []))))
def A125_L0 : ACode := .loop A125_L0b (some [0, 3, 4]) [5, 6, 15, 19]
/-- ambidexter/ambidexterref03.Area2 -/
def A125 : AFn := .code [.t 2] (
(.seq (
.reg none [
  ⟨some 2, .as (.c (.int .i64 0)), none, true⟩] (some [0]) []) (
(.seq (
.reg none [
  ⟨some 3, .as (.c (.int .i64 0)), none, true⟩] (some [0, 3]) []) (
(.seq (
(.seq (
.reg none [
  ⟨some 4, .as (.c (.int .i64 0)), none, true⟩] (some [0, 3, 4]) []) (
(.block 0 (
A125_L0) (some [3]) [4, 5, 6, 15, 19])))) (
(.seq (
.reg none [
  ⟨some 33, .mv (.t 3), none, true⟩,
  ⟨some 2, .as (.t 33), none, true⟩] (some [2]) []) (
.ret)))))))))
def A126_L0b : ACode := 
  (.seq (
  (.seq (
  .reg none [
    ⟨some 18, .mv (.t 3), none, true⟩,
    ⟨some 19, .mv (.t 0), none, true⟩,
    ⟨some 20, .len 1 (.t 19), none, true⟩,
    ⟨some 21, .bin .lss (.t 18) (.t 20), none, true⟩] (some [0, 3, 21]) []) (
  (.cond (.t 21) (
    .skip) (
    .exit 0))))) (
  (.seq (
  (.block 1 (
  (.seq (
  .reg none [
    ⟨some 24, .mv (.t 0), none, true⟩,
    ⟨some 25, .mv (.t 3), none, true⟩,
    ⟨some 26, .ixt (.t 24) (.t 25), none, true⟩,
    ⟨some 27, .call 130 [.t 26], none, true⟩,
    ⟨some 28, .un .not (.t 27), none, true⟩,
    ⟨some 29, .mv (.t 28), none, true⟩,
    ⟨some 30, .mv (.t 0), some (29, true), true⟩,
    ⟨some 31, .mv (.t 3), some (29, true), true⟩,
    ⟨some 32, .ixt (.t 30) (.t 31), some (29, true), true⟩,
    ⟨some 33, .bin .neq (.t 32) (.c (.int .u8 95)), some (29, true), true⟩,
    ⟨some 34, .pick (.t 29) (.t 33) (.c (.bool false)), none, true⟩,
    ⟨some 35, .mv (.t 34), none, true⟩,
    ⟨some 36, .mv (.t 0), some (35, true), true⟩,
    ⟨some 37, .mv (.t 3), some (35, true), true⟩,
    ⟨some 38, .ixt (.t 36) (.t 37), some (35, true), true⟩,
    ⟨some 39, .bin .lss (.t 38) (.c (.int .u8 48)), some (35, true), true⟩,
    ⟨some 40, .mv (.t 39), some (35, true), true⟩,
    ⟨some 41, .mv (.t 0), some (40, false), true⟩,
    ⟨some 42, .mv (.t 3), some (40, false), true⟩,
    ⟨some 43, .ixt (.t 41) (.t 42), some (40, false), true⟩,
    ⟨some 44, .bin .gtr (.t 43) (.c (.int .u8 57)), some (40, false), true⟩,
    ⟨some 45, .pick (.t 40) (.c (.bool true)) (.t 44), some (35, true), true⟩,
    ⟨some 46, .pick (.t 35) (.t 45) (.c (.bool false)), none, true⟩] (some [0, 3, 46]) []) (
  (.cond (.t 46) (
    (.seq (
    .reg none [
      ⟨some 2, .as (.c (.bool false)), none, true⟩] (some [2]) []) (
    .ret))) (
    .skip))))) (some [0, 3]) [2, 27])) (
  .reg none [
    ⟨some 22, .mv (.t 3), none, true⟩,
    ⟨some 23, .bin .add (.t 22) (.c (.int .i64 1)), none, true⟩,
    ⟨some 3, .as (.t 23), none, true⟩] (some [0, 3]) []))))
def A126_L0 : ACode := .loop A126_L0b (some [0, 3]) [2, 27]
/-- ambidexter/ambidexterref09.Name -/
def A126 : AFn := .code [.t 2] (
(.seq (
.reg none [
  ⟨some 2, .as (.c (.bool false)), none, true⟩] (some [0]) []) (
(.seq (
(.seq (
.reg none [
  ⟨some 4, .mv (.t 0), none, true⟩,
  ⟨some 5, .len 1 (.t 4), none, true⟩,
  ⟨some 6, .bin .lss (.t 5) (.c (.int .i64 1)), none, true⟩,
  ⟨some 7, .mv (.t 6), none, true⟩,
  ⟨some 8, .mv (.t 0), some (7, false), true⟩,
  ⟨some 9, .len 1 (.t 8), some (7, false), true⟩,
  ⟨some 10, .bin .gtr (.t 9) (.c (.int .i64 12)), some (7, false), true⟩,
  ⟨some 11, .pick (.t 7) (.c (.bool true)) (.t 10), none, true⟩,
  ⟨some 12, .mv (.t 11), none, true⟩,
  ⟨some 13, .mv (.t 0), some (12, false), true⟩,
  ⟨some 14, .ixt (.t 13) (.c (.int .i64 0)), some (12, false), true⟩,
  ⟨some 15, .call 130 [.t 14], some (12, false), true⟩,
  ⟨some 16, .un .not (.t 15), some (12, false), true⟩,
  ⟨some 17, .pick (.t 12) (.c (.bool true)) (.t 16), none, true⟩] (some [0, 17]) []) (
(.cond (.t 17) (
  (.seq (
  .reg none [
    ⟨some 2, .as (.c (.bool false)), none, true⟩] (some [2]) []) (
  .ret))) (
  .skip))))) (
(.seq (
(.seq (
.reg none [
  ⟨some 3, .as (.c (.int .i64 1)), none, true⟩] (some [0, 3]) []) (
(.block 0 (
A126_L0) (some []) [2, 3, 27])))) (
(.seq (
.reg none [
  ⟨some 2, .as (.c (.bool true)), none, true⟩] (some [2]) []) (
.ret)))))))))
/-- ambidexter/ambidexterref02.Side -/
def A127 : AFn := .code [.t 6] (
(.seq (
.reg none [
  ⟨some 3, .box (.t 0), none, true⟩,
  ⟨some 4, .box (.t 1), none, true⟩,
  ⟨some 5, .box (.t 2), none, true⟩,
  ⟨some 6, .as (.c (.int .i64 0)), none, true⟩] (some [3, 4, 5]) []) (
(.seq (
.reg none [
  ⟨some 8, .load true 2 (.t 3), none, true⟩,
  ⟨some 9, .load true 2 (.t 4), none, true⟩,
  ⟨some 10, .load true 2 (.t 5), none, true⟩,
  ⟨some 11, .call 131 [.t 8, .t 9, .t 10], none, true⟩,
  ⟨some 7, .as (.t 11), none, true⟩] (some [7]) [3, 4, 5]) (
(.seq (
(.seq (
.reg none [
  ⟨some 12, .mv (.t 7), none, true⟩,
  ⟨some 13, .bin .gtr (.t 12) (.c (.int .i64 0)), none, true⟩] (some [7, 13]) []) (
(.cond (.t 13) (
  (.seq (
  .reg none [
    ⟨some 6, .as (.c (.int .i64 1)), none, true⟩] (some [6]) []) (
  .ret))) (
  .skip))))) (
(.seq (
(.seq (
.reg none [
  ⟨some 14, .mv (.t 7), none, true⟩,
  ⟨some 15, .bin .lss (.t 14) (.c (.int .i64 0)), none, true⟩] (some [15]) []) (
(.cond (.t 15) (
  (.seq (
  .reg none [
    ⟨some 6, .as (.c (.int .i64 (-1))), none, true⟩] (some [6]) []) (
  .ret))) (
  .skip))))) (
(.seq (
.reg none [
  ⟨some 6, .as (.c (.int .i64 0)), none, true⟩] (some [6]) []) (
.ret)))))))))))
/-- ambidexter/ambidexterref03.On -/
def A128 : AFn := .code [.t 6] (
(.seq (
.reg none [
  ⟨some 3, .box (.t 0), none, true⟩,
  ⟨some 4, .box (.t 1), none, true⟩,
  ⟨some 5, .box (.t 2), none, true⟩,
  ⟨some 6, .as (.c (.bool false)), none, true⟩] (some [3, 4, 5]) []) (
(.seq (
.reg none [
  ⟨some 7, .load true 2 (.t 3), none, true⟩,
  ⟨some 8, .load true 2 (.t 4), none, true⟩,
  ⟨some 9, .load true 2 (.t 5), none, true⟩,
  ⟨some 10, .call 122 [.t 7, .t 8, .t 9], none, true⟩,
  ⟨some 11, .bin .eql (.t 10) (.c (.int .i64 0)), none, true⟩,
  ⟨some 12, .mv (.t 11), none, true⟩,
  ⟨some 13, .fad 0 (.t 3), some (12, true), true⟩,
  ⟨some 14, .load false 1 (.t 13), some (12, true), true⟩,
  ⟨some 15, .fad 0 (.t 4), some (12, true), true⟩,
  ⟨some 16, .load false 1 (.t 15), some (12, true), true⟩,
  ⟨some 17, .fad 0 (.t 5), some (12, true), true⟩,
  ⟨some 18, .load false 1 (.t 17), some (12, true), true⟩,
  ⟨some 19, .call 132 [.t 14, .t 16, .t 18], some (12, true), true⟩,
  ⟨some 20, .pick (.t 12) (.t 19) (.c (.bool false)), none, true⟩,
  ⟨some 21, .mv (.t 20), none, true⟩,
  ⟨some 22, .fad 1 (.t 3), some (21, true), true⟩,
  ⟨some 23, .load false 1 (.t 22), some (21, true), true⟩,
  ⟨some 24, .fad 1 (.t 4), some (21, true), true⟩,
  ⟨some 25, .load false 1 (.t 24), some (21, true), true⟩,
  ⟨some 26, .fad 1 (.t 5), some (21, true), true⟩,
  ⟨some 27, .load false 1 (.t 26), some (21, true), true⟩,
  ⟨some 28, .call 132 [.t 23, .t 25, .t 27], some (21, true), true⟩,
  ⟨some 29, .pick (.t 21) (.t 28) (.c (.bool false)), none, true⟩,
  ⟨some 6, .as (.t 29), none, true⟩] (some [6]) [3, 4, 5]) (
.ret)))))
/-- ambidexter/ambidexterref03.sign -/
def A129 : AFn := .code [.t 2] (
(.seq (
.reg none [
  ⟨some 2, .as (.c (.int .i64 0)), none, true⟩] (some [0]) []) (
(.seq (
(.seq (
.reg none [
  ⟨some 3, .mv (.t 0), none, true⟩,
  ⟨some 4, .bin .gtr (.t 3) (.c (.int .i64 0)), none, true⟩] (some [0, 4]) []) (
(.cond (.t 4) (
  (.seq (
  .reg none [
    ⟨some 2, .as (.c (.int .i64 1)), none, true⟩] (some [2]) []) (
  .ret))) (
  .skip))))) (
(.seq (
(.seq (
.reg none [
  ⟨some 5, .mv (.t 0), none, true⟩,
  ⟨some 6, .bin .lss (.t 5) (.c (.int .i64 0)), none, true⟩] (some [6]) []) (
(.cond (.t 6) (
  (.seq (
  .reg none [
    ⟨some 2, .as (.c (.int .i64 (-1))), none, true⟩] (some [2]) []) (
  .ret))) (
  .skip))))) (
(.seq (
.reg none [
  ⟨some 2, .as (.c (.int .i64 0)), none, true⟩] (some [2]) []) (
.ret)))))))))
/-- ambidexter/ambidexterref09.letter -/
def A130 : AFn := .code [.t 2] (
(.seq (
.reg none [
  ⟨some 2, .as (.c (.bool false)), none, true⟩] (some [0]) []) (
(.seq (
.reg none [
  ⟨some 3, .mv (.t 0), none, true⟩,
  ⟨some 4, .bin .geq (.t 3) (.c (.int .u8 97)), none, true⟩,
  ⟨some 5, .mv (.t 4), none, true⟩,
  ⟨some 6, .mv (.t 0), some (5, true), true⟩,
  ⟨some 7, .bin .leq (.t 6) (.c (.int .u8 122)), some (5, true), true⟩,
  ⟨some 8, .pick (.t 5) (.t 7) (.c (.bool false)), none, true⟩,
  ⟨some 9, .mv (.t 8), none, true⟩,
  ⟨some 10, .mv (.t 0), some (9, false), true⟩,
  ⟨some 11, .bin .geq (.t 10) (.c (.int .u8 65)), some (9, false), true⟩,
  ⟨some 12, .mv (.t 11), some (9, false), true⟩,
  ⟨some 13, .mv (.t 0), some (12, true), true⟩,
  ⟨some 14, .bin .leq (.t 13) (.c (.int .u8 90)), some (12, true), true⟩,
  ⟨some 15, .pick (.t 12) (.t 14) (.c (.bool false)), some (9, false), true⟩,
  ⟨some 16, .pick (.t 9) (.c (.bool true)) (.t 15), none, true⟩,
  ⟨some 2, .as (.t 16), none, true⟩] (some [2]) []) (
.ret)))))
/-- ambidexter/ambidexterref02.Cross -/
def A131 : AFn := .code [.t 6] (
(.seq (
.reg none [
  ⟨some 3, .box (.t 0), none, true⟩,
  ⟨some 4, .box (.t 1), none, true⟩,
  ⟨some 5, .box (.t 2), none, true⟩,
  ⟨some 6, .as (.c (.int .i64 0)), none, true⟩] (some [3, 4, 5]) []) (
(.seq (
.reg none [
  ⟨some 7, .fad 0 (.t 4), none, true⟩,
  ⟨some 8, .load false 1 (.t 7), none, true⟩,
  ⟨some 9, .fad 0 (.t 3), none, true⟩,
  ⟨some 10, .load false 1 (.t 9), none, true⟩,
  ⟨some 11, .bin .sub (.t 8) (.t 10), none, true⟩,
  ⟨some 12, .fad 1 (.t 5), none, true⟩,
  ⟨some 13, .load false 1 (.t 12), none, true⟩,
  ⟨some 14, .fad 1 (.t 3), none, true⟩,
  ⟨some 15, .load false 1 (.t 14), none, true⟩,
  ⟨some 16, .bin .sub (.t 13) (.t 15), none, true⟩,
  ⟨some 17, .bin .mul (.t 11) (.t 16), none, true⟩,
  ⟨some 18, .fad 1 (.t 4), none, true⟩,
  ⟨some 19, .load false 1 (.t 18), none, true⟩,
  ⟨some 20, .fad 1 (.t 3), none, true⟩,
  ⟨some 21, .load false 1 (.t 20), none, true⟩,
  ⟨some 22, .bin .sub (.t 19) (.t 21), none, true⟩,
  ⟨some 23, .fad 0 (.t 5), none, true⟩,
  ⟨some 24, .load false 1 (.t 23), none, true⟩,
  ⟨some 25, .fad 0 (.t 3), none, true⟩,
  ⟨some 26, .load false 1 (.t 25), none, true⟩,
  ⟨some 27, .bin .sub (.t 24) (.t 26), none, true⟩,
  ⟨some 28, .bin .mul (.t 22) (.t 27), none, true⟩,
  ⟨some 29, .bin .sub (.t 17) (.t 28), none, true⟩,
  ⟨some 6, .as (.t 29), none, true⟩] (some [6]) [3, 4, 5]) (
.ret)))))
/-- ambidexter/ambidexterref03.between -/
def A132 : AFn := .code [.t 6] (
(.seq (
.reg none [
  ⟨some 6, .as (.c (.bool false)), none, true⟩] (some [0, 1, 2]) []) (
(.seq (
.reg none [
  ⟨some 7, .mv (.t 0), none, true⟩,
  ⟨some 8, .mv (.t 2), none, true⟩,
  ⟨some 9, .bin .leq (.t 7) (.t 8), none, true⟩,
  ⟨some 10, .mv (.t 9), none, true⟩,
  ⟨some 11, .mv (.t 2), some (10, true), true⟩,
  ⟨some 12, .mv (.t 1), some (10, true), true⟩,
  ⟨some 13, .bin .leq (.t 11) (.t 12), some (10, true), true⟩,
  ⟨some 14, .pick (.t 10) (.t 13) (.c (.bool false)), none, true⟩,
  ⟨some 15, .mv (.t 14), none, true⟩,
  ⟨some 16, .mv (.t 1), some (15, false), true⟩,
  ⟨some 17, .mv (.t 2), some (15, false), true⟩,
  ⟨some 18, .bin .leq (.t 16) (.t 17), some (15, false), true⟩,
  ⟨some 19, .mv (.t 18), some (15, false), true⟩,
  ⟨some 20, .mv (.t 2), some (19, true), true⟩,
  ⟨some 21, .mv (.t 0), some (19, true), true⟩,
  ⟨some 22, .bin .leq (.t 20) (.t 21), some (19, true), true⟩,
  ⟨some 23, .pick (.t 19) (.t 22) (.c (.bool false)), some (15, false), true⟩,
  ⟨some 24, .pick (.t 15) (.c (.bool true)) (.t 23), none, true⟩,
  ⟨some 6, .as (.t 24), none, true⟩] (some [6]) []) (
.ret)))))

end Go.Proofs.Ytnecdcaaknhgpaa
