/- Part of the proof: the evaluation of the program's code and its tie to the machine, or what functions of the program compute over it. -/
import Derived.Test.YteellikeoiedbaaEng6
namespace Go.Proofs.Yteellikeoiedbaa
open Go Go.Zv
set_option maxRecDepth 100000
/-- ambidexter/ambidexterlaw05.IntersectMatchesReference -/
def A3 : AFn := .code [.t 8] (
(.seq (
.reg none [
  ⟨some 6, .box (.t 2), none, true⟩,
  ⟨some 7, .box (.t 3), none, true⟩,
  ⟨some 8, .as (.c (.bool false)), none, true⟩] (some [0, 1, 6, 7]) []) (
(.seq (
.reg none [
  ⟨some 18, .call 15 [], none, true⟩,
  ⟨some 9, .as (.t 18), none, true⟩] (some [0, 1, 6, 7, 9]) []) (
(.seq (
(.seq (
.reg none [
  ⟨some 19, .mv (.t 0), none, true⟩,
  ⟨some 20, .call 16 [.t 19], none, true⟩,
  ⟨some 21, .un .not (.t 20), none, true⟩,
  ⟨some 22, .mv (.t 21), none, true⟩,
  ⟨some 23, .mv (.t 1), some (22, false), true⟩,
  ⟨some 24, .call 16 [.t 23], some (22, false), true⟩,
  ⟨some 25, .un .not (.t 24), some (22, false), true⟩,
  ⟨some 26, .pick (.t 22) (.c (.bool true)) (.t 25), none, true⟩] (some [0, 1, 6, 7, 9, 26]) []) (
(.cond (.t 26) (
  (.seq (
  .reg none [
    ⟨some 27, .mv (.t 9), none, true⟩,
    ⟨some 8, .as (.t 27), none, true⟩] (some [8]) []) (
  .ret))) (
  .skip))))) (
(.seq (
.reg none [
  ⟨some 29, .mv (.t 0), none, true⟩,
  ⟨some 30, .mv (.t 1), none, true⟩,
  ⟨some 31, .call 17 [.t 29, .t 30], none, true⟩,
  ⟨some 28, .mv (.t 31), none, true⟩,
  ⟨some 32, .ext (.t 28) 0, none, true⟩,
  ⟨some 33, .ext (.t 28) 1, none, true⟩,
  ⟨some 10, .alloc [.int .i64 0, .int .i64 0, .int .i64 0], none, true⟩,
  ⟨none, .store 3 (.t 10) (.t 32), none, true⟩,
  ⟨some 11, .as (.t 33), none, true⟩] (some [0, 1, 6, 7, 9, 10, 11]) []) (
(.seq (
.reg none [
  ⟨some 35, .mv (.t 0), none, true⟩,
  ⟨some 36, .mv (.t 1), none, true⟩,
  ⟨some 37, .call 18 [.t 35, .t 36], none, true⟩,
  ⟨some 34, .mv (.t 37), none, true⟩,
  ⟨some 38, .ext (.t 34) 0, none, true⟩,
  ⟨some 39, .ext (.t 34) 1, none, true⟩,
  ⟨some 12, .alloc [.int .i64 0, .int .i64 0, .int .i64 0], none, true⟩,
  ⟨none, .store 3 (.t 12) (.t 38), none, true⟩,
  ⟨some 13, .as (.t 39), none, true⟩] (some [0, 1, 6, 7, 9, 10, 11, 12, 13]) []) (
(.seq (
(.seq (
.reg (some [.dr [41] [], .dr [40] [], .free, .free, .dr [] [], .dr [] [], .free, .free, .free, .dr [] [], .dr [] [], .dr [] [], .dr [51] [], .free, .free, .free, .dr [58, 62] [], .dr [58, 62] [], .dr [62] [], .dr [62] [], .dr [58, 59, 62] [], .dr [58, 59, 62] [], .dr [58, 59] [], .free, .free, .free, .free, .dr [69, 73] [], .dr [69, 73] [], .dr [73] [], .dr [73] [], .dr [69, 70, 73] [], .dr [69, 70, 73] [], .dr [69, 70] [], .free, .free, .free]) [
  ⟨some 40, .load true 3 (.t 10), none, true⟩,
  ⟨some 41, .load true 3 (.t 12), none, true⟩,
  ⟨some 42, .eqa true [0, 0, 0] (.t 40) (.t 41), none, true⟩,
  ⟨some 43, .mv (.t 42), none, true⟩,
  ⟨some 44, .mv (.t 11), some (43, false), true⟩,
  ⟨some 45, .mv (.t 13), some (43, false), true⟩,
  ⟨some 46, .bib true (.t 44) (.t 45), some (43, false), true⟩,
  ⟨some 47, .pick (.t 43) (.c (.bool true)) (.t 46), none, true⟩,
  ⟨some 48, .mv (.t 47), none, true⟩,
  ⟨some 49, .mv (.t 0), some (48, false), true⟩,
  ⟨some 50, .mv (.t 1), some (48, false), true⟩,
  ⟨some 51, .call 19 [.t 49, .t 50], some (48, false), true⟩,
  ⟨some 52, .mv (.t 13), some (48, false), true⟩,
  ⟨some 53, .bib true (.t 51) (.t 52), some (48, false), true⟩,
  ⟨some 54, .pick (.t 48) (.c (.bool true)) (.t 53), none, true⟩,
  ⟨some 55, .mv (.t 54), none, true⟩,
  ⟨some 56, .mv (.t 0), some (55, false), true⟩,
  ⟨some 57, .mv (.t 1), some (55, false), true⟩,
  ⟨some 58, .load true 2 (.t 6), some (55, false), true⟩,
  ⟨some 59, .call 20 [.t 56, .t 57, .t 58], some (55, false), true⟩,
  ⟨some 60, .mv (.t 0), some (55, false), true⟩,
  ⟨some 61, .mv (.t 1), some (55, false), true⟩,
  ⟨some 62, .load true 2 (.t 6), some (55, false), true⟩,
  ⟨some 63, .call 21 [.t 60, .t 61, .t 62], some (55, false), true⟩,
  ⟨some 64, .bib true (.t 59) (.t 63), some (55, false), true⟩,
  ⟨some 65, .pick (.t 55) (.c (.bool true)) (.t 64), none, true⟩,
  ⟨some 66, .mv (.t 65), none, true⟩,
  ⟨some 67, .mv (.t 0), some (66, false), true⟩,
  ⟨some 68, .mv (.t 1), some (66, false), true⟩,
  ⟨some 69, .load true 3 (.t 7), some (66, false), true⟩,
  ⟨some 70, .call 22 [.t 67, .t 68, .t 69], some (66, false), true⟩,
  ⟨some 71, .mv (.t 0), some (66, false), true⟩,
  ⟨some 72, .mv (.t 1), some (66, false), true⟩,
  ⟨some 73, .load true 3 (.t 7), some (66, false), true⟩,
  ⟨some 74, .call 23 [.t 71, .t 72, .t 73], some (66, false), true⟩,
  ⟨some 75, .bib true (.t 70) (.t 74), some (66, false), true⟩,
  ⟨some 76, .pick (.t 66) (.c (.bool true)) (.t 75), none, true⟩] (some [0, 1, 9, 76]) [6, 7, 10, 12]) (
(.cond (.t 76) (
  (.seq (
  .reg none [
    ⟨some 8, .as (.c (.bool false)), none, true⟩] (some [8]) []) (
  .ret))) (
  .skip))))) (
(.seq (
(.seq (
.reg none [
  ⟨some 77, .mv (.t 0), none, true⟩,
  ⟨some 78, .call 24 [.t 77], none, true⟩,
  ⟨some 79, .un .not (.t 78), none, true⟩,
  ⟨some 80, .mv (.t 79), none, true⟩,
  ⟨some 81, .mv (.t 1), some (80, false), true⟩,
  ⟨some 82, .call 24 [.t 81], some (80, false), true⟩,
  ⟨some 83, .un .not (.t 82), some (80, false), true⟩,
  ⟨some 84, .pick (.t 80) (.c (.bool true)) (.t 83), none, true⟩] (some [0, 1, 9, 84]) []) (
(.cond (.t 84) (
  (.seq (
  .reg none [
    ⟨some 85, .mv (.t 9), none, true⟩,
    ⟨some 8, .as (.t 85), none, true⟩] (some [8]) []) (
  .ret))) (
  .skip))))) (
(.seq (
.reg none [
  ⟨some 87, .mv (.t 0), none, true⟩,
  ⟨some 88, .mv (.t 1), none, true⟩,
  ⟨some 89, .call 25 [.t 87, .t 88], none, true⟩,
  ⟨some 86, .mv (.t 89), none, true⟩,
  ⟨some 90, .ext (.t 86) 0, none, true⟩,
  ⟨some 91, .ext (.t 86) 1, none, true⟩,
  ⟨some 14, .alloc [.int .i64 0, .int .i64 0], none, true⟩,
  ⟨none, .store 2 (.t 14) (.t 90), none, true⟩,
  ⟨some 15, .as (.t 91), none, true⟩] (some [0, 1, 9, 14, 15]) []) (
(.seq (
.reg none [
  ⟨some 93, .mv (.t 0), none, true⟩,
  ⟨some 94, .mv (.t 1), none, true⟩,
  ⟨some 95, .call 26 [.t 93, .t 94], none, true⟩,
  ⟨some 92, .mv (.t 95), none, true⟩,
  ⟨some 96, .ext (.t 92) 0, none, true⟩,
  ⟨some 97, .ext (.t 92) 1, none, true⟩,
  ⟨some 16, .alloc [.int .i64 0, .int .i64 0], none, true⟩,
  ⟨none, .store 2 (.t 16) (.t 96), none, true⟩,
  ⟨some 17, .as (.t 97), none, true⟩] (some [9, 14, 15, 16, 17]) []) (
(.seq (
.reg none [
  ⟨some 98, .mv (.t 9), none, true⟩,
  ⟨some 99, .mv (.t 98), none, true⟩,
  ⟨some 100, .load true 2 (.t 14), some (99, true), true⟩,
  ⟨some 101, .load true 2 (.t 16), some (99, true), true⟩,
  ⟨some 102, .eqa false [0, 0] (.t 100) (.t 101), some (99, true), true⟩,
  ⟨some 103, .pick (.t 99) (.t 102) (.c (.bool false)), none, true⟩,
  ⟨some 104, .mv (.t 103), none, true⟩,
  ⟨some 105, .mv (.t 15), some (104, true), true⟩,
  ⟨some 106, .mv (.t 17), some (104, true), true⟩,
  ⟨some 107, .bib false (.t 105) (.t 106), some (104, true), true⟩,
  ⟨some 108, .pick (.t 104) (.t 107) (.c (.bool false)), none, true⟩,
  ⟨some 8, .as (.t 108), none, true⟩] (some [8]) [14, 16]) (
.ret)))))))))))))))))))))
/-- ambidexter/ambidexterlaw05.IntersectOrSeparated -/
def A4 : AFn := .code [.t 4] (
(.seq (
.reg none [
  ⟨some 4, .as (.c (.bool false)), none, true⟩] (some [0, 1]) []) (
(.seq (
.reg none [
  ⟨some 10, .call 15 [], none, true⟩,
  ⟨some 5, .as (.t 10), none, true⟩] (some [0, 1, 5]) []) (
(.seq (
(.seq (
.reg none [
  ⟨some 11, .mv (.t 0), none, true⟩,
  ⟨some 12, .call 16 [.t 11], none, true⟩,
  ⟨some 13, .un .not (.t 12), none, true⟩,
  ⟨some 14, .mv (.t 13), none, true⟩,
  ⟨some 15, .mv (.t 1), some (14, false), true⟩,
  ⟨some 16, .call 16 [.t 15], some (14, false), true⟩,
  ⟨some 17, .un .not (.t 16), some (14, false), true⟩,
  ⟨some 18, .pick (.t 14) (.c (.bool true)) (.t 17), none, true⟩,
  ⟨some 19, .mv (.t 18), none, true⟩,
  ⟨some 20, .mv (.t 0), some (19, false), true⟩,
  ⟨some 21, .call 24 [.t 20], some (19, false), true⟩,
  ⟨some 22, .un .not (.t 21), some (19, false), true⟩,
  ⟨some 23, .pick (.t 19) (.c (.bool true)) (.t 22), none, true⟩,
  ⟨some 24, .mv (.t 23), none, true⟩,
  ⟨some 25, .mv (.t 1), some (24, false), true⟩,
  ⟨some 26, .call 24 [.t 25], some (24, false), true⟩,
  ⟨some 27, .un .not (.t 26), some (24, false), true⟩,
  ⟨some 28, .pick (.t 24) (.c (.bool true)) (.t 27), none, true⟩] (some [0, 1, 5, 28]) []) (
(.cond (.t 28) (
  (.seq (
  .reg none [
    ⟨some 29, .mv (.t 5), none, true⟩,
    ⟨some 4, .as (.t 29), none, true⟩] (some [4]) []) (
  .ret))) (
  .skip))))) (
(.seq (
.reg none [
  ⟨some 31, .mv (.t 0), none, true⟩,
  ⟨some 32, .mv (.t 1), none, true⟩,
  ⟨some 33, .call 25 [.t 31, .t 32], none, true⟩,
  ⟨some 30, .mv (.t 33), none, true⟩,
  ⟨some 34, .ext (.t 30) 0, none, true⟩,
  ⟨some 35, .ext (.t 30) 1, none, true⟩,
  ⟨some 6, .alloc [.int .i64 0, .int .i64 0], none, true⟩,
  ⟨none, .store 2 (.t 6) (.t 34), none, true⟩,
  ⟨some 7, .as (.t 35), none, true⟩] (some [0, 1, 5, 6, 7]) []) (
(.seq (
.reg none [
  ⟨some 37, .mv (.t 0), none, true⟩,
  ⟨some 38, .mv (.t 1), none, true⟩,
  ⟨some 39, .call 17 [.t 37, .t 38], none, true⟩,
  ⟨some 36, .mv (.t 39), none, true⟩,
  ⟨some 40, .ext (.t 36) 0, none, true⟩,
  ⟨some 41, .ext (.t 36) 1, none, true⟩,
  ⟨some 8, .alloc [.int .i64 0, .int .i64 0, .int .i64 0], none, true⟩,
  ⟨none, .store 3 (.t 8) (.t 40), none, true⟩,
  ⟨some 9, .as (.t 41), none, true⟩] (some [0, 1, 5, 6, 7, 8, 9]) []) (
(.seq (
.reg none [
  ⟨some 42, .mv (.t 5), none, true⟩,
  ⟨some 43, .mv (.t 42), none, true⟩,
  ⟨some 44, .mv (.t 7), some (43, true), true⟩,
  ⟨some 45, .mv (.t 9), some (43, true), true⟩,
  ⟨some 46, .bib true (.t 44) (.t 45), some (43, true), true⟩,
  ⟨some 47, .pick (.t 43) (.t 46) (.c (.bool false)), none, true⟩,
  ⟨some 48, .mv (.t 47), none, true⟩,
  ⟨some 49, .mv (.t 7), some (48, true), true⟩,
  ⟨some 50, .mv (.t 0), some (48, true), true⟩,
  ⟨some 51, .mv (.t 1), some (48, true), true⟩,
  ⟨some 52, .load true 2 (.t 6), some (48, true), true⟩,
  ⟨some 53, .call 20 [.t 50, .t 51, .t 52], some (48, true), true⟩,
  ⟨some 54, .bib false (.t 49) (.t 53), some (48, true), true⟩,
  ⟨some 55, .pick (.t 48) (.t 54) (.c (.bool false)), none, true⟩,
  ⟨some 56, .mv (.t 55), none, true⟩,
  ⟨some 57, .mv (.t 9), some (56, true), true⟩,
  ⟨some 58, .mv (.t 0), some (56, true), true⟩,
  ⟨some 59, .mv (.t 1), some (56, true), true⟩,
  ⟨some 60, .load true 3 (.t 8), some (56, true), true⟩,
  ⟨some 61, .call 22 [.t 58, .t 59, .t 60], some (56, true), true⟩,
  ⟨some 62, .bib false (.t 57) (.t 61), some (56, true), true⟩,
  ⟨some 63, .pick (.t 56) (.t 62) (.c (.bool false)), none, true⟩,
  ⟨some 64, .mv (.t 63), none, true⟩,
  ⟨some 65, .mv (.t 9), some (64, true), true⟩,
  ⟨some 66, .mv (.t 0), some (64, true), true⟩,
  ⟨some 67, .mv (.t 1), some (64, true), true⟩,
  ⟨some 68, .call 19 [.t 66, .t 67], some (64, true), true⟩,
  ⟨some 69, .bib false (.t 65) (.t 68), some (64, true), true⟩,
  ⟨some 70, .pick (.t 64) (.t 69) (.c (.bool false)), none, true⟩,
  ⟨some 4, .as (.t 70), none, true⟩] (some [4]) [6, 8]) (
.ret)))))))))))))
/-- ambidexter/ambidexterlaw05.IntersectSymmetric -/
def A5 : AFn := .code [.t 8] (
(.seq (
.reg none [
  ⟨some 6, .box (.t 2), none, true⟩,
  ⟨some 7, .box (.t 3), none, true⟩,
  ⟨some 8, .as (.c (.bool false)), none, true⟩] (some [0, 1, 6, 7]) []) (
(.seq (
.reg none [
  ⟨some 12, .call 15 [], none, true⟩,
  ⟨some 9, .as (.t 12), none, true⟩] (some [0, 1, 6, 7, 9]) []) (
(.seq (
(.seq (
.reg none [
  ⟨some 13, .mv (.t 0), none, true⟩,
  ⟨some 14, .call 16 [.t 13], none, true⟩,
  ⟨some 15, .un .not (.t 14), none, true⟩,
  ⟨some 16, .mv (.t 15), none, true⟩,
  ⟨some 17, .mv (.t 1), some (16, false), true⟩,
  ⟨some 18, .call 16 [.t 17], some (16, false), true⟩,
  ⟨some 19, .un .not (.t 18), some (16, false), true⟩,
  ⟨some 20, .pick (.t 16) (.c (.bool true)) (.t 19), none, true⟩] (some [0, 1, 6, 7, 9, 20]) []) (
(.cond (.t 20) (
  (.seq (
  .reg none [
    ⟨some 21, .mv (.t 9), none, true⟩,
    ⟨some 8, .as (.t 21), none, true⟩] (some [8]) []) (
  .ret))) (
  .skip))))) (
(.seq (
.reg none [
  ⟨some 22, .fad 0 (.t 6), none, true⟩,
  ⟨some 23, .load false 1 (.t 22), none, true⟩,
  ⟨some 24, .bin .sub (.c (.int .i64 1)) (.t 23), none, true⟩,
  ⟨some 25, .fad 1 (.t 6), none, true⟩,
  ⟨some 26, .load false 1 (.t 25), none, true⟩,
  ⟨some 27, .build [.int .i64 0, .int .i64 0] [(0, 1, .t 24), (1, 1, .t 26)], none, true⟩,
  ⟨some 10, .alloc [.int .i64 0, .int .i64 0], none, true⟩,
  ⟨none, .store 2 (.t 10) (.t 27), none, true⟩] (some [0, 1, 6, 7, 9, 10]) []) (
(.seq (
.reg none [
  ⟨some 28, .fad 0 (.t 7), none, true⟩,
  ⟨some 29, .load false 1 (.t 28), none, true⟩,
  ⟨some 30, .fad 2 (.t 7), none, true⟩,
  ⟨some 31, .load false 1 (.t 30), none, true⟩,
  ⟨some 32, .fad 1 (.t 7), none, true⟩,
  ⟨some 33, .load false 1 (.t 32), none, true⟩,
  ⟨some 34, .build [.int .i64 0, .int .i64 0, .int .i64 0] [(0, 1, .t 29), (1, 1, .t 31), (2, 1, .t 33)], none, true⟩,
  ⟨some 11, .alloc [.int .i64 0, .int .i64 0, .int .i64 0], none, true⟩,
  ⟨none, .store 3 (.t 11) (.t 34), none, true⟩] (some [0, 1, 6, 7, 9, 10, 11]) []) (
(.seq (
(.seq (
.reg none [
  ⟨some 35, .fad 0 (.t 7), none, true⟩,
  ⟨some 36, .load false 1 (.t 35), none, true⟩,
  ⟨some 37, .bin .eql (.t 36) (.c (.int .i64 2)), none, true⟩] (some [0, 1, 6, 7, 9, 10, 11, 37]) []) (
(.cond (.t 37) (
  .reg none [
    ⟨some 38, .fad 0 (.t 11), none, true⟩,
    ⟨none, .store 1 (.t 38) (.c (.int .i64 3)), none, true⟩] (some [0, 1, 6, 7, 9, 10, 11]) []) (
  .skip))))) (
(.seq (
(.seq (
.reg none [
  ⟨some 39, .fad 0 (.t 7), none, true⟩,
  ⟨some 40, .load false 1 (.t 39), none, true⟩,
  ⟨some 41, .bin .eql (.t 40) (.c (.int .i64 3)), none, true⟩] (some [0, 1, 6, 7, 9, 10, 11, 41]) []) (
(.cond (.t 41) (
  .reg none [
    ⟨some 42, .fad 0 (.t 11), none, true⟩,
    ⟨none, .store 1 (.t 42) (.c (.int .i64 2)), none, true⟩] (some [0, 1, 6, 7, 9, 10, 11]) []) (
  .skip))))) (
(.seq (
(.seq (
.reg (some [.free, .free, .free, .free, .free, .free, .free, .free, .free, .dr [54, 58] [], .dr [54, 58] [], .dr [58] [], .dr [58] [], .dr [54, 55, 58] [], .dr [54, 55, 58] [], .dr [54, 55] [], .free, .free, .free]) [
  ⟨some 43, .fad 0 (.t 6), none, true⟩,
  ⟨some 44, .load false 1 (.t 43), none, true⟩,
  ⟨some 45, .bin .geq (.t 44) (.c (.int .i64 0)), none, true⟩,
  ⟨some 46, .mv (.t 45), none, true⟩,
  ⟨some 47, .fad 0 (.t 6), some (46, true), true⟩,
  ⟨some 48, .load false 1 (.t 47), some (46, true), true⟩,
  ⟨some 49, .bin .leq (.t 48) (.c (.int .i64 1)), some (46, true), true⟩,
  ⟨some 50, .pick (.t 46) (.t 49) (.c (.bool false)), none, true⟩,
  ⟨some 51, .mv (.t 50), none, true⟩,
  ⟨some 52, .mv (.t 0), some (51, true), true⟩,
  ⟨some 53, .mv (.t 1), some (51, true), true⟩,
  ⟨some 54, .load true 2 (.t 6), some (51, true), true⟩,
  ⟨some 55, .call 20 [.t 52, .t 53, .t 54], some (51, true), true⟩,
  ⟨some 56, .mv (.t 1), some (51, true), true⟩,
  ⟨some 57, .mv (.t 0), some (51, true), true⟩,
  ⟨some 58, .load true 2 (.t 10), some (51, true), true⟩,
  ⟨some 59, .call 20 [.t 56, .t 57, .t 58], some (51, true), true⟩,
  ⟨some 60, .bib true (.t 55) (.t 59), some (51, true), true⟩,
  ⟨some 61, .pick (.t 51) (.t 60) (.c (.bool false)), none, true⟩] (some [0, 1, 7, 9, 11, 61]) [6, 10]) (
(.cond (.t 61) (
  (.seq (
  .reg none [
    ⟨some 8, .as (.c (.bool false)), none, true⟩] (some [8]) []) (
  .ret))) (
  .skip))))) (
(.seq (
.reg (some [.loc, .loc, .loc, .loc, .loc, .loc, .free, .free, .free, .free, .free, .dr [75, 79] [], .dr [75, 79] [], .dr [79] [], .dr [79] [], .dr [75, 76, 79] [], .dr [75, 76, 79] [], .dr [75, 76] [], .free, .free, .free, .free]) [
  ⟨some 62, .mv (.t 9), none, true⟩,
  ⟨some 63, .mv (.t 62), none, true⟩,
  ⟨some 64, .mv (.t 0), some (63, true), true⟩,
  ⟨some 65, .mv (.t 1), some (63, true), true⟩,
  ⟨some 67, .mv (.t 1), some (63, true), true⟩,
  ⟨some 68, .mv (.t 0), some (63, true), true⟩,
  ⟨some 66, .call 19 [.t 64, .t 65], some (63, true), true⟩,
  ⟨some 69, .call 19 [.t 67, .t 68], some (63, true), true⟩,
  ⟨some 70, .bib false (.t 66) (.t 69), some (63, true), true⟩,
  ⟨some 71, .pick (.t 63) (.t 70) (.c (.bool false)), none, true⟩,
  ⟨some 72, .mv (.t 71), none, true⟩,
  ⟨some 73, .mv (.t 0), some (72, true), true⟩,
  ⟨some 74, .mv (.t 1), some (72, true), true⟩,
  ⟨some 75, .load true 3 (.t 7), some (72, true), true⟩,
  ⟨some 76, .call 22 [.t 73, .t 74, .t 75], some (72, true), true⟩,
  ⟨some 77, .mv (.t 1), some (72, true), true⟩,
  ⟨some 78, .mv (.t 0), some (72, true), true⟩,
  ⟨some 79, .load true 3 (.t 11), some (72, true), true⟩,
  ⟨some 80, .call 22 [.t 77, .t 78, .t 79], some (72, true), true⟩,
  ⟨some 81, .bib false (.t 76) (.t 80), some (72, true), true⟩,
  ⟨some 82, .pick (.t 72) (.t 81) (.c (.bool false)), none, true⟩,
  ⟨some 8, .as (.t 82), none, true⟩] (some [8]) [7, 11]) (
.ret)))))))))))))))))))
/-- ambidexter/ambidexterlaw05.IntersectSeparatorSound -/
def A6 : AFn := .code [.t 8] (
(.seq (
.reg none [
  ⟨some 6, .box (.t 2), none, true⟩,
  ⟨some 7, .box (.t 3), none, true⟩,
  ⟨some 8, .as (.c (.bool false)), none, true⟩] (some [0, 1, 6, 7]) []) (
(.seq (
.reg none [
  ⟨some 10, .call 15 [], none, true⟩,
  ⟨some 9, .as (.t 10), none, true⟩] (some [0, 1, 6, 7, 9]) []) (
(.seq (
(.seq (
.reg none [
  ⟨some 11, .mv (.t 0), none, true⟩,
  ⟨some 12, .call 16 [.t 11], none, true⟩,
  ⟨some 13, .un .not (.t 12), none, true⟩,
  ⟨some 14, .mv (.t 13), none, true⟩,
  ⟨some 15, .mv (.t 1), some (14, false), true⟩,
  ⟨some 16, .call 16 [.t 15], some (14, false), true⟩,
  ⟨some 17, .un .not (.t 16), some (14, false), true⟩,
  ⟨some 18, .pick (.t 14) (.c (.bool true)) (.t 17), none, true⟩,
  ⟨some 19, .mv (.t 18), none, true⟩,
  ⟨some 20, .mv (.t 0), some (19, false), true⟩,
  ⟨some 21, .call 24 [.t 20], some (19, false), true⟩,
  ⟨some 22, .un .not (.t 21), some (19, false), true⟩,
  ⟨some 23, .mv (.t 22), some (19, false), true⟩,
  ⟨some 24, .fad 0 (.t 6), some (23, true), true⟩,
  ⟨some 25, .load false 1 (.t 24), some (23, true), true⟩,
  ⟨some 26, .bin .eql (.t 25) (.c (.int .i64 0)), some (23, true), true⟩,
  ⟨some 27, .pick (.t 23) (.t 26) (.c (.bool false)), some (19, false), true⟩,
  ⟨some 28, .pick (.t 19) (.c (.bool true)) (.t 27), none, true⟩,
  ⟨some 29, .mv (.t 28), none, true⟩,
  ⟨some 30, .mv (.t 1), some (29, false), true⟩,
  ⟨some 31, .call 24 [.t 30], some (29, false), true⟩,
  ⟨some 32, .un .not (.t 31), some (29, false), true⟩,
  ⟨some 33, .mv (.t 32), some (29, false), true⟩,
  ⟨some 34, .fad 0 (.t 6), some (33, true), true⟩,
  ⟨some 35, .load false 1 (.t 34), some (33, true), true⟩,
  ⟨some 36, .bin .eql (.t 35) (.c (.int .i64 1)), some (33, true), true⟩,
  ⟨some 37, .pick (.t 33) (.t 36) (.c (.bool false)), some (29, false), true⟩,
  ⟨some 38, .pick (.t 29) (.c (.bool true)) (.t 37), none, true⟩] (some [0, 1, 6, 7, 9, 38]) []) (
(.cond (.t 38) (
  (.seq (
  .reg none [
    ⟨some 39, .mv (.t 9), none, true⟩,
    ⟨some 8, .as (.t 39), none, true⟩] (some [8]) []) (
  .ret))) (
  .skip))))) (
(.seq (
(.seq (
.reg none [
  ⟨some 40, .mv (.t 0), none, true⟩,
  ⟨some 41, .mv (.t 1), none, true⟩,
  ⟨some 42, .load true 2 (.t 6), none, true⟩,
  ⟨some 43, .call 20 [.t 40, .t 41, .t 42], none, true⟩,
  ⟨some 44, .un .not (.t 43), none, true⟩] (some [0, 1, 7, 9, 44]) [6]) (
(.cond (.t 44) (
  (.seq (
  .reg none [
    ⟨some 45, .mv (.t 9), none, true⟩,
    ⟨some 8, .as (.t 45), none, true⟩] (some [8]) []) (
  .ret))) (
  .skip))))) (
(.seq (
.reg none [
  ⟨some 46, .mv (.t 9), none, true⟩,
  ⟨some 47, .mv (.t 46), none, true⟩,
  ⟨some 48, .mv (.t 0), some (47, true), true⟩,
  ⟨some 49, .mv (.t 1), some (47, true), true⟩,
  ⟨some 50, .call 19 [.t 48, .t 49], some (47, true), true⟩,
  ⟨some 51, .un .not (.t 50), some (47, true), true⟩,
  ⟨some 52, .pick (.t 47) (.t 51) (.c (.bool false)), none, true⟩,
  ⟨some 53, .mv (.t 52), none, true⟩,
  ⟨some 54, .mv (.t 0), some (53, true), true⟩,
  ⟨some 55, .mv (.t 1), some (53, true), true⟩,
  ⟨some 56, .load true 3 (.t 7), some (53, true), true⟩,
  ⟨some 57, .call 22 [.t 54, .t 55, .t 56], some (53, true), true⟩,
  ⟨some 58, .un .not (.t 57), some (53, true), true⟩,
  ⟨some 59, .pick (.t 53) (.t 58) (.c (.bool false)), none, true⟩,
  ⟨some 8, .as (.t 59), none, true⟩] (some [8]) [7]) (
.ret)))))))))))
def A7_L0b : ACode := 
    (.seq (
    (.seq (
    .reg none [
      ⟨some 25, .mv (.t 8), none, true⟩,
      ⟨some 26, .mv (.t 1), none, true⟩,
      ⟨some 27, .len 0 (.t 26), none, true⟩,
      ⟨some 28, .bin .lss (.t 25) (.t 27), none, true⟩] (some [0, 1, 5, 6, 7, 8, 28]) []) (
    (.cond (.t 28) (
      .skip) (
      .exit 2))))) (
    (.seq (
    (.block 3 (
    (.seq (
    .reg (some [.dr [39, 41, 42, 45, 46, 51, 53, 54] [], .dr [39, 41, 42, 45, 46, 51, 53, 54] [], .dr [39, 41, 42, 45, 46, 51, 53, 54] [], .dr [39, 41, 42, 45, 46, 51, 53, 54] [], .dr [33, 34, 39, 45, 46, 51, 53, 54] [], .dr [33, 34, 39, 45, 46, 51, 53, 54] [], .dr [33, 34, 39, 45, 46, 51, 53, 54] [], .dr [33, 34, 45, 46, 51, 53, 54] [], .dr [33, 34, 45, 46, 51, 53, 54] [], .dr [33, 34, 45, 46, 51, 53, 54] [], .dr [33, 34, 45, 46, 51, 53, 54] [], .dr [33, 34, 45, 46, 51, 53, 54] [], .dr [33, 34, 39, 41, 42, 51, 53, 54] [], .dr [33, 34, 39, 41, 42, 51, 53, 54] [], .dr [33, 34, 39, 41, 42, 51, 53, 54] [], .dr [33, 34, 39, 41, 42, 51, 53, 54] [], .dr [33, 34, 39, 41, 42, 45, 46, 51] [], .dr [33, 34, 39, 41, 42, 45, 46, 51] [], .dr [33, 34, 39, 41, 42, 45, 46, 51] [], .dr [33, 34, 39, 41, 42, 45, 46] [], .dr [33, 34, 39, 41, 42, 45, 46] [], .dr [33, 34, 39, 41, 42, 45, 46] [], .dr [33, 34, 39, 41, 42, 45, 46] [], .dr [33, 34, 39, 41, 42, 45, 46] [], .free]) [
      ⟨some 31, .mv (.t 0), none, true⟩,
      ⟨some 32, .mv (.t 7), none, true⟩,
      ⟨some 33, .ias 2 (.t 31) (.t 32), none, true⟩,
      ⟨some 34, .load true 2 (.t 33), none, true⟩,
      ⟨some 35, .mv (.t 0), none, true⟩,
      ⟨some 36, .mv (.t 7), none, true⟩,
      ⟨some 37, .bin .add (.t 36) (.c (.int .i64 1)), none, true⟩,
      ⟨some 38, .mv (.t 0), none, true⟩,
      ⟨some 39, .len 0 (.t 38), none, true⟩,
      ⟨some 40, .bin .rem (.t 37) (.t 39), none, true⟩,
      ⟨some 41, .ias 2 (.t 35) (.t 40), none, true⟩,
      ⟨some 42, .load true 2 (.t 41), none, true⟩,
      ⟨some 43, .mv (.t 1), none, true⟩,
      ⟨some 44, .mv (.t 8), none, true⟩,
      ⟨some 45, .ias 2 (.t 43) (.t 44), none, true⟩,
      ⟨some 46, .load true 2 (.t 45), none, true⟩,
      ⟨some 47, .mv (.t 1), none, true⟩,
      ⟨some 48, .mv (.t 8), none, true⟩,
      ⟨some 49, .bin .add (.t 48) (.c (.int .i64 1)), none, true⟩,
      ⟨some 50, .mv (.t 1), none, true⟩,
      ⟨some 51, .len 0 (.t 50), none, true⟩,
      ⟨some 52, .bin .rem (.t 49) (.t 51), none, true⟩,
      ⟨some 53, .ias 2 (.t 47) (.t 52), none, true⟩,
      ⟨some 54, .load true 2 (.t 53), none, true⟩,
      ⟨some 55, .call 27 [.t 34, .t 42, .t 46, .t 54], none, true⟩] (some [0, 1, 5, 6, 7, 8, 55]) []) (
    (.cond (.t 55) (
      .reg none [
        ⟨some 6, .as (.c (.bool true)), none, true⟩] (some [0, 1, 5, 6, 7, 8]) []) (
      .skip))))) (some [0, 1, 5, 6, 7, 8]) [55])) (
    .reg none [
      ⟨some 29, .mv (.t 8), none, true⟩,
      ⟨some 30, .bin .add (.t 29) (.c (.int .i64 1)), none, true⟩,
      ⟨some 8, .as (.t 30), none, true⟩] (some [0, 1, 5, 6, 7, 8]) []))))
def A7_L0 : ACode := .loop A7_L0b (some [0, 1, 5, 6, 7, 8]) [55]
def A7_L1b : ACode := 
  (.seq (
  (.seq (
  .reg none [
    ⟨some 19, .mv (.t 7), none, true⟩,
    ⟨some 20, .mv (.t 0), none, true⟩,
    ⟨some 21, .len 0 (.t 20), none, true⟩,
    ⟨some 22, .bin .lss (.t 19) (.t 21), none, true⟩] (some [0, 1, 5, 6, 7, 22]) []) (
  (.cond (.t 22) (
    .skip) (
    .exit 0))))) (
  (.seq (
  (.block 1 (
  (.seq (
  .reg none [
    ⟨some 8, .as (.c (.int .i64 0)), none, true⟩] (some [0, 1, 5, 6, 7, 8]) []) (
  (.block 2 (
  A7_L0) (some [0, 1, 5, 6, 7]) [8, 55])))) (some [0, 1, 5, 6, 7]) [8, 55])) (
  .reg none [
    ⟨some 23, .mv (.t 7), none, true⟩,
    ⟨some 24, .bin .add (.t 23) (.c (.int .i64 1)), none, true⟩,
    ⟨some 7, .as (.t 24), none, true⟩] (some [0, 1, 5, 6, 7]) []))))
def A7_L1 : ACode := .loop A7_L1b (some [0, 1, 5, 6, 7]) [8, 55]
/-- ambidexter/ambidexterlaw05.IntersectCriterion -/
def A7 : AFn := .code [.t 4] (
(.seq (
.reg none [
  ⟨some 4, .as (.c (.bool false)), none, true⟩] (some [0, 1]) []) (
(.seq (
.reg none [
  ⟨some 9, .call 15 [], none, true⟩,
  ⟨some 5, .as (.t 9), none, true⟩] (some [0, 1, 5]) []) (
(.seq (
(.seq (
.reg none [
  ⟨some 10, .mv (.t 0), none, true⟩,
  ⟨some 11, .call 16 [.t 10], none, true⟩,
  ⟨some 12, .un .not (.t 11), none, true⟩,
  ⟨some 13, .mv (.t 12), none, true⟩,
  ⟨some 14, .mv (.t 1), some (13, false), true⟩,
  ⟨some 15, .call 16 [.t 14], some (13, false), true⟩,
  ⟨some 16, .un .not (.t 15), some (13, false), true⟩,
  ⟨some 17, .pick (.t 13) (.c (.bool true)) (.t 16), none, true⟩] (some [0, 1, 5, 17]) []) (
(.cond (.t 17) (
  (.seq (
  .reg none [
    ⟨some 18, .mv (.t 5), none, true⟩,
    ⟨some 4, .as (.t 18), none, true⟩] (some [4]) []) (
  .ret))) (
  .skip))))) (
(.seq (
.reg none [
  ⟨some 6, .as (.c (.bool false)), none, true⟩] (some [0, 1, 5, 6]) []) (
(.seq (
(.seq (
.reg none [
  ⟨some 7, .as (.c (.int .i64 0)), none, true⟩] (some [0, 1, 5, 6, 7]) []) (
(.block 0 (
A7_L1) (some [0, 1, 5, 6]) [7, 8, 55])))) (
(.seq (
.reg none [
  ⟨some 56, .mv (.t 6), none, true⟩,
  ⟨some 57, .mv (.t 56), none, true⟩,
  ⟨some 58, .mv (.t 1), some (57, false), true⟩,
  ⟨some 59, .mv (.t 0), some (57, false), true⟩,
  ⟨some 60, .ias 2 (.t 59) (.c (.int .i64 0)), some (57, false), true⟩,
  ⟨some 61, .load true 2 (.t 60), some (57, false), true⟩,
  ⟨some 62, .call 28 [.t 58, .t 61], some (57, false), true⟩,
  ⟨some 63, .bin .geq (.t 62) (.c (.int .i64 0)), some (57, false), true⟩,
  ⟨some 64, .pick (.t 57) (.c (.bool true)) (.t 63), none, true⟩,
  ⟨some 65, .mv (.t 64), none, true⟩,
  ⟨some 66, .mv (.t 0), some (65, false), true⟩,
  ⟨some 67, .mv (.t 1), some (65, false), true⟩,
  ⟨some 68, .ias 2 (.t 67) (.c (.int .i64 0)), some (65, false), true⟩,
  ⟨some 69, .load true 2 (.t 68), some (65, false), true⟩,
  ⟨some 70, .call 28 [.t 66, .t 69], some (65, false), true⟩,
  ⟨some 71, .bin .geq (.t 70) (.c (.int .i64 0)), some (65, false), true⟩,
  ⟨some 72, .pick (.t 65) (.c (.bool true)) (.t 71), none, true⟩,
  ⟨some 6, .as (.t 72), none, true⟩] (some [0, 1, 5, 6]) []) (
(.seq (
.reg none [
  ⟨some 73, .mv (.t 5), none, true⟩,
  ⟨some 74, .mv (.t 73), none, true⟩,
  ⟨some 75, .mv (.t 0), some (74, true), true⟩,
  ⟨some 76, .mv (.t 1), some (74, true), true⟩,
  ⟨some 77, .call 19 [.t 75, .t 76], some (74, true), true⟩,
  ⟨some 78, .mv (.t 6), some (74, true), true⟩,
  ⟨some 79, .bib false (.t 77) (.t 78), some (74, true), true⟩,
  ⟨some 80, .pick (.t 74) (.t 79) (.c (.bool false)), none, true⟩,
  ⟨some 4, .as (.t 80), none, true⟩] (some [4]) []) (
.ret)))))))))))))))
/-- ambidexter/ambidexterlaw05.IntersectTranslationInvariant -/
def A8 : AFn := .code [.t 8] (
(.seq (
.reg none [
  ⟨some 8, .as (.c (.bool false)), none, true⟩] (some [0, 1, 2, 3]) []) (
(.seq (
.reg none [
  ⟨some 19, .call 15 [], none, true⟩,
  ⟨some 9, .as (.t 19), none, true⟩] (some [0, 1, 2, 3, 9]) []) (
(.seq (
(.seq (
.reg none [
  ⟨some 20, .mv (.t 0), none, true⟩,
  ⟨some 21, .call 16 [.t 20], none, true⟩,
  ⟨some 22, .un .not (.t 21), none, true⟩,
  ⟨some 23, .mv (.t 22), none, true⟩,
  ⟨some 24, .mv (.t 1), some (23, false), true⟩,
  ⟨some 25, .call 16 [.t 24], some (23, false), true⟩,
  ⟨some 26, .un .not (.t 25), some (23, false), true⟩,
  ⟨some 27, .pick (.t 23) (.c (.bool true)) (.t 26), none, true⟩] (some [0, 1, 2, 3, 9, 27]) []) (
(.cond (.t 27) (
  (.seq (
  .reg none [
    ⟨some 28, .mv (.t 9), none, true⟩,
    ⟨some 8, .as (.t 28), none, true⟩] (some [8]) []) (
  .ret))) (
  .skip))))) (
(.seq (
.reg none [
  ⟨some 29, .mv (.t 2), none, true⟩,
  ⟨some 30, .conv .i64 (.t 29), none, true⟩,
  ⟨some 31, .mv (.t 3), none, true⟩,
  ⟨some 32, .conv .i64 (.t 31), none, true⟩,
  ⟨some 33, .build [.int .i64 0, .int .i64 0] [(0, 1, .t 30), (1, 1, .t 32)], none, true⟩,
  ⟨some 10, .alloc [.int .i64 0, .int .i64 0], none, true⟩,
  ⟨none, .store 2 (.t 10) (.t 33), none, true⟩] (some [0, 1, 9, 10]) []) (
(.seq (
.reg none [
  ⟨some 34, .mv (.t 0), none, true⟩,
  ⟨some 35, .load true 2 (.t 10), none, true⟩,
  ⟨some 36, .call 29 [.t 34, .t 35], none, true⟩,
  ⟨some 11, .as (.t 36), none, true⟩] (some [0, 1, 9, 10, 11]) []) (
(.seq (
.reg none [
  ⟨some 37, .mv (.t 1), none, true⟩,
  ⟨some 38, .load true 2 (.t 10), none, true⟩,
  ⟨some 39, .call 29 [.t 37, .t 38], none, true⟩,
  ⟨some 12, .as (.t 39), none, true⟩] (some [0, 1, 9, 11, 12]) [10]) (
(.seq (
.reg none [
  ⟨some 41, .mv (.t 0), none, true⟩,
  ⟨some 42, .mv (.t 0), none, true⟩,
  ⟨some 43, .call 17 [.t 41, .t 42], none, true⟩,
  ⟨some 40, .mv (.t 43), none, true⟩,
  ⟨some 44, .ext (.t 40) 0, none, true⟩,
  ⟨some 45, .ext (.t 40) 1, none, true⟩,
  ⟨some 13, .alloc [.int .i64 0, .int .i64 0, .int .i64 0], none, true⟩,
  ⟨none, .store 3 (.t 13) (.t 44), none, true⟩,
  ⟨some 14, .as (.t 45), none, true⟩] (some [0, 1, 9, 11, 12, 13, 14]) []) (
(.seq (
(.seq (
.reg none [
  ⟨some 46, .load true 3 (.t 13), none, true⟩,
  ⟨some 47, .build [.int .i64 0, .int .i64 0, .int .i64 0] [(0, 1, .c (.int .i64 1))], none, true⟩,
  ⟨some 48, .eqa true [0, 0, 0] (.t 46) (.t 47), none, true⟩,
  ⟨some 49, .mv (.t 48), none, true⟩,
  ⟨some 50, .mv (.t 14), some (49, false), true⟩,
  ⟨some 51, .un .not (.t 50), some (49, false), true⟩,
  ⟨some 52, .pick (.t 49) (.c (.bool true)) (.t 51), none, true⟩] (some [0, 1, 9, 11, 12, 52]) [13]) (
(.cond (.t 52) (
  (.seq (
  .reg none [
    ⟨some 8, .as (.c (.bool false)), none, true⟩] (some [8]) []) (
  .ret))) (
  .skip))))) (
(.seq (
(.seq (
.reg none [
  ⟨some 53, .mv (.t 11), none, true⟩,
  ⟨some 54, .call 30 [.t 53], none, true⟩,
  ⟨some 55, .un .not (.t 54), none, true⟩,
  ⟨some 56, .mv (.t 55), none, true⟩,
  ⟨some 57, .mv (.t 12), some (56, false), true⟩,
  ⟨some 58, .call 30 [.t 57], some (56, false), true⟩,
  ⟨some 59, .un .not (.t 58), some (56, false), true⟩,
  ⟨some 60, .pick (.t 56) (.c (.bool true)) (.t 59), none, true⟩] (some [0, 1, 9, 11, 12, 60]) []) (
(.cond (.t 60) (
  (.seq (
  .reg none [
    ⟨some 61, .mv (.t 9), none, true⟩,
    ⟨some 8, .as (.t 61), none, true⟩] (some [8]) []) (
  .ret))) (
  .skip))))) (
(.seq (
.reg none [
  ⟨some 63, .mv (.t 0), none, true⟩,
  ⟨some 64, .mv (.t 1), none, true⟩,
  ⟨some 65, .call 17 [.t 63, .t 64], none, true⟩,
  ⟨some 62, .mv (.t 65), none, true⟩,
  ⟨some 66, .ext (.t 62) 0, none, true⟩,
  ⟨some 67, .ext (.t 62) 1, none, true⟩,
  ⟨some 15, .alloc [.int .i64 0, .int .i64 0, .int .i64 0], none, true⟩,
  ⟨none, .store 3 (.t 15) (.t 66), none, true⟩,
  ⟨some 16, .as (.t 67), none, true⟩] (some [9, 11, 12, 15, 16]) []) (
(.seq (
.reg none [
  ⟨some 69, .mv (.t 11), none, true⟩,
  ⟨some 70, .mv (.t 12), none, true⟩,
  ⟨some 71, .call 17 [.t 69, .t 70], none, true⟩,
  ⟨some 68, .mv (.t 71), none, true⟩,
  ⟨some 72, .ext (.t 68) 0, none, true⟩,
  ⟨some 73, .ext (.t 68) 1, none, true⟩,
  ⟨some 17, .alloc [.int .i64 0, .int .i64 0, .int .i64 0], none, true⟩,
  ⟨none, .store 3 (.t 17) (.t 72), none, true⟩,
  ⟨some 18, .as (.t 73), none, true⟩] (some [9, 15, 16, 17, 18]) []) (
(.seq (
.reg none [
  ⟨some 74, .mv (.t 9), none, true⟩,
  ⟨some 75, .mv (.t 74), none, true⟩,
  ⟨some 76, .load true 3 (.t 15), some (75, true), true⟩,
  ⟨some 77, .load true 3 (.t 17), some (75, true), true⟩,
  ⟨some 78, .eqa false [0, 0, 0] (.t 76) (.t 77), some (75, true), true⟩,
  ⟨some 79, .pick (.t 75) (.t 78) (.c (.bool false)), none, true⟩,
  ⟨some 80, .mv (.t 79), none, true⟩,
  ⟨some 81, .mv (.t 16), some (80, true), true⟩,
  ⟨some 82, .mv (.t 18), some (80, true), true⟩,
  ⟨some 83, .bib false (.t 81) (.t 82), some (80, true), true⟩,
  ⟨some 84, .pick (.t 80) (.t 83) (.c (.bool false)), none, true⟩,
  ⟨some 8, .as (.t 84), none, true⟩] (some [8]) [15, 17]) (
.ret)))))))))))))))))))))))))
/-- ambidexter/ambidexterlaw03.PolygonInvariantUnderCyclicShift -/
def A9 : AFn := .code [.t 6] (
(.seq (
.reg none [
  ⟨some 5, .box (.t 2), none, true⟩,
  ⟨some 6, .as (.c (.bool false)), none, true⟩] (some [0, 1, 5]) []) (
(.seq (
.reg none [
  ⟨some 10, .call 31 [], none, true⟩,
  ⟨some 7, .as (.t 10), none, true⟩] (some [0, 1, 5, 7]) []) (
(.seq (
(.seq (
.reg none [
  ⟨some 11, .mv (.t 0), none, true⟩,
  ⟨some 12, .call 32 [.t 11], none, true⟩,
  ⟨some 13, .un .not (.t 12), none, true⟩,
  ⟨some 14, .mv (.t 13), none, true⟩,
  ⟨some 15, .mv (.t 0), some (14, false), true⟩,
  ⟨some 16, .len 0 (.t 15), some (14, false), true⟩,
  ⟨some 17, .bin .eql (.t 16) (.c (.int .i64 0)), some (14, false), true⟩,
  ⟨some 18, .pick (.t 14) (.c (.bool true)) (.t 17), none, true⟩,
  ⟨some 19, .mv (.t 18), none, true⟩,
  ⟨some 20, .load true 2 (.t 5), some (19, false), true⟩,
  ⟨some 21, .call 33 [.t 20], some (19, false), true⟩,
  ⟨some 22, .un .not (.t 21), some (19, false), true⟩,
  ⟨some 23, .pick (.t 19) (.c (.bool true)) (.t 22), none, true⟩] (some [0, 1, 5, 7, 23]) []) (
(.cond (.t 23) (
  (.seq (
  .reg none [
    ⟨some 24, .mv (.t 7), none, true⟩,
    ⟨some 6, .as (.t 24), none, true⟩] (some [6]) []) (
  .ret))) (
  .skip))))) (
(.seq (
.reg none [
  ⟨some 25, .mv (.t 0), none, true⟩,
  ⟨some 26, .mv (.t 1), none, true⟩,
  ⟨some 27, .call 34 [.t 25, .t 26], none, true⟩,
  ⟨some 28, .mv (.t 0), none, true⟩,
  ⟨some 29, .call 35 [.t 28], none, true⟩,
  ⟨some 8, .as (.t 27), none, true⟩,
  ⟨some 9, .as (.t 29), none, true⟩] (some [0, 5, 7, 8, 9]) []) (
(.seq (
(.seq (
.reg none [
  ⟨some 30, .mv (.t 8), none, true⟩,
  ⟨some 31, .call 36 [.t 30], none, true⟩,
  ⟨some 32, .mv (.t 0), none, true⟩,
  ⟨some 33, .call 36 [.t 32], none, true⟩,
  ⟨some 34, .bib true (.t 31) (.t 33), none, true⟩,
  ⟨some 35, .mv (.t 34), none, true⟩,
  ⟨some 36, .mv (.t 8), some (35, false), true⟩,
  ⟨some 37, .call 37 [.t 36], some (35, false), true⟩,
  ⟨some 38, .mv (.t 0), some (35, false), true⟩,
  ⟨some 39, .call 37 [.t 38], some (35, false), true⟩,
  ⟨some 40, .bin .neq (.t 37) (.t 39), some (35, false), true⟩,
  ⟨some 41, .pick (.t 35) (.c (.bool true)) (.t 40), none, true⟩,
  ⟨some 42, .mv (.t 41), none, true⟩,
  ⟨some 43, .mv (.t 9), some (42, false), true⟩,
  ⟨some 44, .call 37 [.t 43], some (42, false), true⟩,
  ⟨some 45, .mv (.t 0), some (42, false), true⟩,
  ⟨some 46, .call 37 [.t 45], some (42, false), true⟩,
  ⟨some 47, .un .neg (.t 46), some (42, false), true⟩,
  ⟨some 48, .bin .neq (.t 44) (.t 47), some (42, false), true⟩,
  ⟨some 49, .pick (.t 42) (.c (.bool true)) (.t 48), none, true⟩,
  ⟨some 50, .mv (.t 49), none, true⟩,
  ⟨some 51, .mv (.t 0), some (50, false), true⟩,
  ⟨some 52, .call 36 [.t 51], some (50, false), true⟩,
  ⟨some 53, .mv (.t 52), some (50, false), true⟩,
  ⟨some 54, .mv (.t 9), some (53, true), true⟩,
  ⟨some 55, .call 36 [.t 54], some (53, true), true⟩,
  ⟨some 56, .pick (.t 53) (.t 55) (.c (.bool false)), some (50, false), true⟩,
  ⟨some 57, .pick (.t 50) (.c (.bool true)) (.t 56), none, true⟩] (some [0, 5, 7, 8, 57]) []) (
(.cond (.t 57) (
  (.seq (
  .reg none [
    ⟨some 6, .as (.c (.bool false)), none, true⟩] (some [6]) []) (
  .ret))) (
  .skip))))) (
(.seq (
.reg (some [.free, .free, .free, .free, .free, .free, .dr [65, 68] [], .dr [68] [], .dr [68] [], .dr [65, 66, 68] [], .dr [65, 66] [], .free, .free, .free, .free, .free]) [
  ⟨some 58, .mv (.t 7), none, true⟩,
  ⟨some 59, .mv (.t 58), none, true⟩,
  ⟨some 60, .mv (.t 0), some (59, true), true⟩,
  ⟨some 61, .call 36 [.t 60], some (59, true), true⟩,
  ⟨some 62, .un .not (.t 61), some (59, true), true⟩,
  ⟨some 63, .mv (.t 62), some (59, true), true⟩,
  ⟨some 64, .mv (.t 8), some (63, false), true⟩,
  ⟨some 65, .load true 2 (.t 5), some (63, false), true⟩,
  ⟨some 66, .call 28 [.t 64, .t 65], some (63, false), true⟩,
  ⟨some 67, .mv (.t 0), some (63, false), true⟩,
  ⟨some 68, .load true 2 (.t 5), some (63, false), true⟩,
  ⟨some 69, .call 28 [.t 67, .t 68], some (63, false), true⟩,
  ⟨some 70, .bin .eql (.t 66) (.t 69), some (63, false), true⟩,
  ⟨some 71, .pick (.t 63) (.c (.bool true)) (.t 70), some (59, true), true⟩,
  ⟨some 72, .pick (.t 59) (.t 71) (.c (.bool false)), none, true⟩,
  ⟨some 6, .as (.t 72), none, true⟩] (some [6]) [5]) (
.ret)))))))))))))
def A10_L0b : ACode := 
  (.seq (
  (.seq (
  .reg none [
    ⟨some 43, .mv (.t 10), none, true⟩,
    ⟨some 44, .mv (.t 7), none, true⟩,
    ⟨some 45, .len 0 (.t 44), none, true⟩,
    ⟨some 46, .bin .lss (.t 43) (.t 45), none, true⟩] (some [5, 6, 7, 9, 10, 46]) []) (
  (.cond (.t 46) (
    .skip) (
    .exit 2))))) (
  (.seq (
  (.block 3 (
  .reg (some [.loc, .loc, .loc, .loc, .loc, .loc, .loc, .dr [53, 54, 59, 61, 62] [], .dr [50, 59, 61, 62] [], .dr [50, 59, 61, 62] [], .dr [50, 53, 54] [], .dr [50, 53, 54] [], .dr [50, 53, 54] [], .dr [50, 53, 54] [], .free, .free, .free, .free]) [
    ⟨some 49, .mv (.t 9), none, true⟩,
    ⟨some 51, .mv (.t 7), none, true⟩,
    ⟨some 52, .mv (.t 10), none, true⟩,
    ⟨some 55, .mv (.t 7), none, true⟩,
    ⟨some 56, .mv (.t 10), none, true⟩,
    ⟨some 57, .bin .add (.t 56) (.c (.int .i64 1)), none, true⟩,
    ⟨some 58, .mv (.t 7), none, true⟩,
    ⟨some 50, .load true 2 (.t 6), none, true⟩,
    ⟨some 53, .ias 2 (.t 51) (.t 52), none, true⟩,
    ⟨some 54, .load true 2 (.t 53), none, true⟩,
    ⟨some 59, .len 0 (.t 58), none, true⟩,
    ⟨some 60, .bin .rem (.t 57) (.t 59), none, true⟩,
    ⟨some 61, .ias 2 (.t 55) (.t 60), none, true⟩,
    ⟨some 62, .load true 2 (.t 61), none, true⟩,
    ⟨some 63, .bsl 2 3 [.int .i64 0, .int .i64 0] [(0, .t 50), (1, .t 54), (2, .t 62)], none, true⟩,
    ⟨some 64, .call 37 [.t 63], none, true⟩,
    ⟨some 65, .bin .add (.t 49) (.t 64), none, true⟩,
    ⟨some 9, .as (.t 65), none, true⟩] (some [5, 6, 7, 9, 10]) []) (some [5, 6, 7, 9, 10]) [63, 64])) (
  .reg none [
    ⟨some 47, .mv (.t 10), none, true⟩,
    ⟨some 48, .bin .add (.t 47) (.c (.int .i64 1)), none, true⟩,
    ⟨some 10, .as (.t 48), none, true⟩] (some [5, 6, 7, 9, 10]) []))))
def A10_L0 : ACode := .loop A10_L0b (some [5, 6, 7, 9, 10]) [63, 64]
def A10_L1b : ACode := 
  (.seq (
  (.seq (
  .reg none [
    ⟨some 29, .mv (.t 8), none, true⟩,
    ⟨some 30, .mv (.t 0), none, true⟩,
    ⟨some 31, .len 0 (.t 30), none, true⟩,
    ⟨some 32, .bin .lss (.t 29) (.t 31), none, true⟩] (some [0, 5, 6, 7, 8, 32]) []) (
  (.cond (.t 32) (
    .skip) (
    .exit 0))))) (
  (.seq (
  (.block 1 (
  .reg none [
    ⟨some 35, .mv (.t 7), none, true⟩,
    ⟨some 36, .mv (.t 0), none, true⟩,
    ⟨some 37, .mv (.t 8), none, true⟩,
    ⟨some 38, .ias 2 (.t 36) (.t 37), none, true⟩,
    ⟨some 39, .load true 2 (.t 38), none, true⟩,
    ⟨some 40, .call 38 [.t 39], none, true⟩,
    ⟨some 41, .bsl 2 1 [.int .i64 0, .int .i64 0] [(0, .t 40)], none, true⟩,
    ⟨some 42, .app 2 (.t 35) (.t 41), none, true⟩,
    ⟨some 7, .as (.t 42), none, true⟩] (some [0, 5, 6, 7, 8]) []) (some [0, 5, 6, 7, 8]) [40, 41])) (
  .reg none [
    ⟨some 33, .mv (.t 8), none, true⟩,
    ⟨some 34, .bin .add (.t 33) (.c (.int .i64 1)), none, true⟩,
    ⟨some 8, .as (.t 34), none, true⟩] (some [0, 5, 6, 7, 8]) []))))
def A10_L1 : ACode := .loop A10_L1b (some [0, 5, 6, 7, 8]) [40, 41]
/-- ambidexter/ambidexterlaw03.PolygonAreaFromTriangles -/
def A10 : AFn := .code [.t 4] (
(.seq (
.reg none [
  ⟨some 3, .box (.t 1), none, true⟩,
  ⟨some 4, .as (.c (.bool false)), none, true⟩] (some [0, 3]) []) (
(.seq (
.reg none [
  ⟨some 11, .call 31 [], none, true⟩,
  ⟨some 5, .as (.t 11), none, true⟩] (some [0, 3, 5]) []) (
(.seq (
(.seq (
.reg none [
  ⟨some 12, .mv (.t 0), none, true⟩,
  ⟨some 13, .call 32 [.t 12], none, true⟩,
  ⟨some 14, .un .not (.t 13), none, true⟩,
  ⟨some 15, .mv (.t 14), none, true⟩,
  ⟨some 16, .mv (.t 0), some (15, false), true⟩,
  ⟨some 17, .len 0 (.t 16), some (15, false), true⟩,
  ⟨some 18, .bin .lss (.t 17) (.c (.int .i64 3)), some (15, false), true⟩,
  ⟨some 19, .pick (.t 15) (.c (.bool true)) (.t 18), none, true⟩,
  ⟨some 20, .mv (.t 19), none, true⟩,
  ⟨some 21, .load true 2 (.t 3), some (20, false), true⟩,
  ⟨some 22, .call 33 [.t 21], some (20, false), true⟩,
  ⟨some 23, .un .not (.t 22), some (20, false), true⟩,
  ⟨some 24, .pick (.t 20) (.c (.bool true)) (.t 23), none, true⟩] (some [0, 3, 5, 24]) []) (
(.cond (.t 24) (
  (.seq (
  .reg none [
    ⟨some 25, .mv (.t 5), none, true⟩,
    ⟨some 4, .as (.t 25), none, true⟩] (some [4]) []) (
  .ret))) (
  .skip))))) (
(.seq (
.reg none [
  ⟨some 26, .load true 2 (.t 3), none, true⟩,
  ⟨some 27, .call 38 [.t 26], none, true⟩,
  ⟨some 6, .alloc [.int .i64 0, .int .i64 0], none, true⟩,
  ⟨none, .store 2 (.t 6) (.t 27), none, true⟩] (some [0, 5, 6]) [3]) (
(.seq (
.reg none [
  ⟨some 28, .bsl 2 0 [.int .i64 0, .int .i64 0] [], none, true⟩,
  ⟨some 7, .as (.t 28), none, true⟩] (some [0, 5, 6, 7]) []) (
(.seq (
(.seq (
.reg none [
  ⟨some 8, .as (.c (.int .i64 0)), none, true⟩] (some [0, 5, 6, 7, 8]) []) (
(.block 0 (
A10_L1) (some [5, 6, 7]) [8, 40, 41])))) (
(.seq (
.reg none [
  ⟨some 9, .as (.c (.int .i64 0)), none, true⟩] (some [5, 6, 7, 9]) []) (
(.seq (
(.seq (
.reg none [
  ⟨some 10, .as (.c (.int .i64 0)), none, true⟩] (some [5, 6, 7, 9, 10]) []) (
(.block 2 (
A10_L0) (some [5, 7, 9]) [10, 63, 64])))) (
(.seq (
.reg none [
  ⟨some 66, .mv (.t 5), none, true⟩,
  ⟨some 67, .mv (.t 66), none, true⟩,
  ⟨some 68, .mv (.t 9), some (67, true), true⟩,
  ⟨some 69, .mv (.t 7), some (67, true), true⟩,
  ⟨some 70, .call 37 [.t 69], some (67, true), true⟩,
  ⟨some 71, .bin .eql (.t 68) (.t 70), some (67, true), true⟩,
  ⟨some 72, .pick (.t 67) (.t 71) (.c (.bool false)), none, true⟩,
  ⟨some 4, .as (.t 72), none, true⟩] (some [4]) []) (
.ret)))))))))))))))))))
/-- ambidexter/ambidexterlaw03.PolygonCutPreservesArea -/
def A11 : AFn := .code [.t 8] (
(.seq (
.reg none [
  ⟨some 7, .box (.t 3), none, true⟩,
  ⟨some 8, .as (.c (.bool false)), none, true⟩] (some [0, 1, 2, 7]) []) (
(.seq (
.reg none [
  ⟨some 17, .call 31 [], none, true⟩,
  ⟨some 9, .as (.t 17), none, true⟩] (some [0, 1, 2, 7, 9]) []) (
(.seq (
(.seq (
.reg none [
  ⟨some 18, .mv (.t 0), none, true⟩,
  ⟨some 19, .call 36 [.t 18], none, true⟩,
  ⟨some 20, .un .not (.t 19), none, true⟩,
  ⟨some 21, .mv (.t 20), none, true⟩,
  ⟨some 22, .mv (.t 0), some (21, false), true⟩,
  ⟨some 23, .len 0 (.t 22), some (21, false), true⟩,
  ⟨some 24, .bin .lss (.t 23) (.c (.int .i64 4)), some (21, false), true⟩,
  ⟨some 25, .pick (.t 21) (.c (.bool true)) (.t 24), none, true⟩,
  ⟨some 26, .mv (.t 25), none, true⟩,
  ⟨some 27, .load true 2 (.t 7), some (26, false), true⟩,
  ⟨some 28, .call 33 [.t 27], some (26, false), true⟩,
  ⟨some 29, .un .not (.t 28), some (26, false), true⟩,
  ⟨some 30, .pick (.t 26) (.c (.bool true)) (.t 29), none, true⟩] (some [0, 1, 2, 7, 9, 30]) []) (
(.cond (.t 30) (
  (.seq (
  .reg none [
    ⟨some 31, .mv (.t 9), none, true⟩,
    ⟨some 8, .as (.t 31), none, true⟩] (some [8]) []) (
  .ret))) (
  .skip))))) (
(.seq (
.reg none [
  ⟨some 32, .mv (.t 0), none, true⟩,
  ⟨some 33, .mv (.t 1), none, true⟩,
  ⟨some 34, .call 34 [.t 32, .t 33], none, true⟩,
  ⟨some 10, .as (.t 34), none, true⟩] (some [0, 2, 7, 9, 10]) []) (
(.seq (
.reg none [
  ⟨some 35, .mv (.t 2), none, true⟩,
  ⟨some 36, .conv .i64 (.t 35), none, true⟩,
  ⟨some 37, .mv (.t 10), none, true⟩,
  ⟨some 38, .len 0 (.t 37), none, true⟩,
  ⟨some 39, .bin .sub (.t 38) (.c (.int .i64 3)), none, true⟩,
  ⟨some 40, .bin .rem (.t 36) (.t 39), none, true⟩,
  ⟨some 41, .bin .add (.c (.int .i64 2)) (.t 40), none, true⟩,
  ⟨some 11, .as (.t 41), none, true⟩] (some [0, 7, 9, 10, 11]) []) (
(.seq (
.reg none [
  ⟨some 42, .bsl 2 0 [.int .i64 0, .int .i64 0] [], none, true⟩,
  ⟨some 43, .mv (.t 10), none, true⟩,
  ⟨some 44, .mv (.t 11), none, true⟩,
  ⟨some 45, .bin .add (.t 44) (.c (.int .i64 1)), none, true⟩,
  ⟨some 46, .sls 2 (.t 43) none (some (.t 45)), none, true⟩,
  ⟨some 47, .app 2 (.t 42) (.t 46), none, true⟩,
  ⟨some 12, .as (.t 47), none, true⟩] (some [0, 7, 9, 10, 11, 12]) []) (
(.seq (
.reg (some [.dr [54] [], .dr [54] [], .dr [54] [], .dr [54] [], .dr [49, 50, 51] [], .dr [49, 50, 51] [], .dr [49, 50, 51] [], .free, .free]) [
  ⟨some 48, .mv (.t 10), none, true⟩,
  ⟨some 49, .ias 2 (.t 48) (.c (.int .i64 0)), none, true⟩,
  ⟨some 50, .load true 2 (.t 49), none, true⟩,
  ⟨some 51, .bsl 2 1 [.int .i64 0, .int .i64 0] [(0, .t 50)], none, true⟩,
  ⟨some 52, .mv (.t 10), none, true⟩,
  ⟨some 53, .mv (.t 11), none, true⟩,
  ⟨some 54, .sls 2 (.t 52) (some (.t 53)) none, none, true⟩,
  ⟨some 55, .app 2 (.t 51) (.t 54), none, true⟩,
  ⟨some 13, .as (.t 55), none, true⟩] (some [0, 7, 9, 12, 13]) []) (
(.seq (
(.seq (
.reg none [
  ⟨some 56, .mv (.t 12), none, true⟩,
  ⟨some 57, .call 37 [.t 56], none, true⟩,
  ⟨some 58, .mv (.t 13), none, true⟩,
  ⟨some 59, .call 37 [.t 58], none, true⟩,
  ⟨some 60, .bin .add (.t 57) (.t 59), none, true⟩,
  ⟨some 61, .mv (.t 0), none, true⟩,
  ⟨some 62, .call 37 [.t 61], none, true⟩,
  ⟨some 63, .bin .neq (.t 60) (.t 62), none, true⟩] (some [0, 7, 9, 12, 13, 63]) []) (
(.cond (.t 63) (
  (.seq (
  .reg none [
    ⟨some 8, .as (.c (.bool false)), none, true⟩] (some [8]) []) (
  .ret))) (
  .skip))))) (
(.seq (
(.seq (
.reg none [
  ⟨some 64, .mv (.t 12), none, true⟩,
  ⟨some 65, .call 36 [.t 64], none, true⟩,
  ⟨some 66, .un .not (.t 65), none, true⟩,
  ⟨some 67, .mv (.t 66), none, true⟩,
  ⟨some 68, .mv (.t 13), some (67, false), true⟩,
  ⟨some 69, .call 36 [.t 68], some (67, false), true⟩,
  ⟨some 70, .un .not (.t 69), some (67, false), true⟩,
  ⟨some 71, .pick (.t 67) (.c (.bool true)) (.t 70), none, true⟩] (some [0, 7, 9, 12, 13, 71]) []) (
(.cond (.t 71) (
  (.seq (
  .reg none [
    ⟨some 72, .mv (.t 9), none, true⟩,
    ⟨some 8, .as (.t 72), none, true⟩] (some [8]) []) (
  .ret))) (
  .skip))))) (
(.seq (
.reg (some [.dr [74, 77, 80] [], .dr [77, 80] [], .dr [77, 80] [], .dr [74, 75, 77, 80] [], .dr [74, 75, 80] [], .dr [80] [], .dr [74, 75, 77, 78, 80] [], .dr [74, 75, 77, 78] [], .free, .free, .free, .free]) [
  ⟨some 73, .mv (.t 12), none, true⟩,
  ⟨some 74, .load true 2 (.t 7), none, true⟩,
  ⟨some 75, .call 28 [.t 73, .t 74], none, true⟩,
  ⟨some 76, .mv (.t 13), none, true⟩,
  ⟨some 77, .load true 2 (.t 7), none, true⟩,
  ⟨some 78, .call 28 [.t 76, .t 77], none, true⟩,
  ⟨some 79, .mv (.t 0), none, true⟩,
  ⟨some 80, .load true 2 (.t 7), none, true⟩,
  ⟨some 81, .call 28 [.t 79, .t 80], none, true⟩,
  ⟨some 14, .as (.t 75), none, true⟩,
  ⟨some 15, .as (.t 78), none, true⟩,
  ⟨some 16, .as (.t 81), none, true⟩] (some [9, 14, 15, 16]) [7]) (
(.seq (
.reg none [
  ⟨some 82, .mv (.t 9), none, true⟩,
  ⟨some 83, .mv (.t 82), none, true⟩,
  ⟨some 84, .mv (.t 14), some (83, true), true⟩,
  ⟨some 85, .bin .lss (.t 84) (.c (.int .i64 1)), some (83, true), true⟩,
  ⟨some 86, .mv (.t 85), some (83, true), true⟩,
  ⟨some 87, .mv (.t 15), some (86, false), true⟩,
  ⟨some 88, .bin .lss (.t 87) (.c (.int .i64 0)), some (86, false), true⟩,
  ⟨some 89, .pick (.t 86) (.c (.bool true)) (.t 88), some (83, true), true⟩,
  ⟨some 90, .pick (.t 83) (.t 89) (.c (.bool false)), none, true⟩,
  ⟨some 91, .mv (.t 90), none, true⟩,
  ⟨some 92, .mv (.t 15), some (91, true), true⟩,
  ⟨some 93, .bin .lss (.t 92) (.c (.int .i64 1)), some (91, true), true⟩,
  ⟨some 94, .mv (.t 93), some (91, true), true⟩,
  ⟨some 95, .mv (.t 14), some (94, false), true⟩,
  ⟨some 96, .bin .lss (.t 95) (.c (.int .i64 0)), some (94, false), true⟩,
  ⟨some 97, .pick (.t 94) (.c (.bool true)) (.t 96), some (91, true), true⟩,
  ⟨some 98, .pick (.t 91) (.t 97) (.c (.bool false)), none, true⟩,
  ⟨some 99, .mv (.t 98), none, true⟩,
  ⟨some 100, .mv (.t 16), some (99, true), true⟩,
  ⟨some 101, .bin .geq (.t 100) (.c (.int .i64 0)), some (99, true), true⟩,
  ⟨some 102, .mv (.t 14), some (99, true), true⟩,
  ⟨some 103, .bin .geq (.t 102) (.c (.int .i64 0)), some (99, true), true⟩,
  ⟨some 104, .mv (.t 103), some (99, true), true⟩,
  ⟨some 105, .mv (.t 15), some (104, false), true⟩,
  ⟨some 106, .bin .geq (.t 105) (.c (.int .i64 0)), some (104, false), true⟩,
  ⟨some 107, .pick (.t 104) (.c (.bool true)) (.t 106), some (99, true), true⟩,
  ⟨some 108, .bib false (.t 101) (.t 107), some (99, true), true⟩,
  ⟨some 109, .pick (.t 99) (.t 108) (.c (.bool false)), none, true⟩,
  ⟨some 8, .as (.t 109), none, true⟩] (some [8]) []) (
.ret)))))))))))))))))))))))
/-- ambidexter/ambidexterlaw03.PolygonTranslationPreservesGeometry -/
def A12 : AFn := .code [.t 6] (
(.seq (
.reg none [
  ⟨some 4, .box (.t 1), none, true⟩,
  ⟨some 5, .box (.t 2), none, true⟩,
  ⟨some 6, .as (.c (.bool false)), none, true⟩] (some [0, 4, 5]) []) (
(.seq (
.reg none [
  ⟨some 11, .call 31 [], none, true⟩,
  ⟨some 7, .as (.t 11), none, true⟩] (some [0, 4, 5, 7]) []) (
(.seq (
(.seq (
.reg none [
  ⟨some 12, .mv (.t 0), none, true⟩,
  ⟨some 13, .call 39 [.t 12], none, true⟩,
  ⟨some 14, .un .not (.t 13), none, true⟩,
  ⟨some 15, .mv (.t 14), none, true⟩,
  ⟨some 16, .load true 2 (.t 4), some (15, false), true⟩,
  ⟨some 17, .call 33 [.t 16], some (15, false), true⟩,
  ⟨some 18, .un .not (.t 17), some (15, false), true⟩,
  ⟨some 19, .pick (.t 15) (.c (.bool true)) (.t 18), none, true⟩,
  ⟨some 20, .mv (.t 19), none, true⟩,
  ⟨some 21, .load true 2 (.t 5), some (20, false), true⟩,
  ⟨some 22, .call 33 [.t 21], some (20, false), true⟩,
  ⟨some 23, .un .not (.t 22), some (20, false), true⟩,
  ⟨some 24, .pick (.t 20) (.c (.bool true)) (.t 23), none, true⟩] (some [0, 4, 5, 7, 24]) []) (
(.cond (.t 24) (
  (.seq (
  .reg none [
    ⟨some 25, .mv (.t 7), none, true⟩,
    ⟨some 6, .as (.t 25), none, true⟩] (some [6]) []) (
  .ret))) (
  .skip))))) (
(.seq (
.reg none [
  ⟨some 26, .load true 2 (.t 4), none, true⟩,
  ⟨some 27, .call 38 [.t 26], none, true⟩,
  ⟨some 28, .call 38 [.t 27], none, true⟩,
  ⟨some 8, .alloc [.int .i64 0, .int .i64 0], none, true⟩,
  ⟨none, .store 2 (.t 8) (.t 28), none, true⟩] (some [0, 5, 7, 8]) [4]) (
(.seq (
.reg none [
  ⟨some 29, .load true 2 (.t 5), none, true⟩,
  ⟨some 30, .call 38 [.t 29], none, true⟩,
  ⟨some 9, .alloc [.int .i64 0, .int .i64 0], none, true⟩,
  ⟨none, .store 2 (.t 9) (.t 30), none, true⟩] (some [0, 7, 8, 9]) [5]) (
(.seq (
.reg none [
  ⟨some 31, .mv (.t 0), none, true⟩,
  ⟨some 32, .load true 2 (.t 8), none, true⟩,
  ⟨some 33, .call 40 [.t 31, .t 32], none, true⟩,
  ⟨some 10, .as (.t 33), none, true⟩] (some [0, 7, 8, 9, 10]) []) (
(.seq (
(.seq (
.reg (some [.free, .free, .free, .free, .dr [] [], .dr [] [], .dr [39] [], .free, .free, .free, .free, .dr [46, 47, 48, 51] [], .dr [47, 51] [], .dr [46, 51] [], .dr [51] [], .dr [51] [], .dr [46, 47, 48, 49, 51] [], .dr [46, 47, 48, 49] [], .free, .free, .free]) [
  ⟨some 34, .mv (.t 10), none, true⟩,
  ⟨some 35, .call 36 [.t 34], none, true⟩,
  ⟨some 36, .un .not (.t 35), none, true⟩,
  ⟨some 37, .mv (.t 36), none, true⟩,
  ⟨some 38, .mv (.t 10), some (37, false), true⟩,
  ⟨some 39, .call 37 [.t 38], some (37, false), true⟩,
  ⟨some 40, .mv (.t 0), some (37, false), true⟩,
  ⟨some 41, .call 37 [.t 40], some (37, false), true⟩,
  ⟨some 42, .bin .neq (.t 39) (.t 41), some (37, false), true⟩,
  ⟨some 43, .pick (.t 37) (.c (.bool true)) (.t 42), none, true⟩,
  ⟨some 44, .mv (.t 43), none, true⟩,
  ⟨some 45, .mv (.t 10), some (44, false), true⟩,
  ⟨some 46, .load true 2 (.t 9), some (44, false), true⟩,
  ⟨some 47, .load true 2 (.t 8), some (44, false), true⟩,
  ⟨some 48, .call 41 [.t 46, .t 47], some (44, false), true⟩,
  ⟨some 49, .call 28 [.t 45, .t 48], some (44, false), true⟩,
  ⟨some 50, .mv (.t 0), some (44, false), true⟩,
  ⟨some 51, .load true 2 (.t 9), some (44, false), true⟩,
  ⟨some 52, .call 28 [.t 50, .t 51], some (44, false), true⟩,
  ⟨some 53, .bin .neq (.t 49) (.t 52), some (44, false), true⟩,
  ⟨some 54, .pick (.t 44) (.c (.bool true)) (.t 53), none, true⟩] (some [0, 7, 8, 10, 54]) [9]) (
(.cond (.t 54) (
  (.seq (
  .reg none [
    ⟨some 6, .as (.c (.bool false)), none, true⟩] (some [6]) []) (
  .ret))) (
  .skip))))) (
(.seq (
.reg none [
  ⟨some 55, .mv (.t 7), none, true⟩,
  ⟨some 56, .mv (.t 55), none, true⟩,
  ⟨some 57, .mv (.t 10), some (56, true), true⟩,
  ⟨some 58, .fad 0 (.t 8), some (56, true), true⟩,
  ⟨some 59, .load false 1 (.t 58), some (56, true), true⟩,
  ⟨some 60, .un .neg (.t 59), some (56, true), true⟩,
  ⟨some 61, .fad 1 (.t 8), some (56, true), true⟩,
  ⟨some 62, .load false 1 (.t 61), some (56, true), true⟩,
  ⟨some 63, .un .neg (.t 62), some (56, true), true⟩,
  ⟨some 64, .build [.int .i64 0, .int .i64 0] [(0, 1, .t 60), (1, 1, .t 63)], some (56, true), true⟩,
  ⟨some 65, .call 40 [.t 57, .t 64], some (56, true), true⟩,
  ⟨some 66, .mv (.t 0), some (56, true), true⟩,
  ⟨some 67, .call 42 [.t 65, .t 66], some (56, true), true⟩,
  ⟨some 68, .pick (.t 56) (.t 67) (.c (.bool false)), none, true⟩,
  ⟨some 6, .as (.t 68), none, true⟩] (some [6]) [8]) (
.ret)))))))))))))))))
/-- ambidexter/ambidexterlaw03.PolygonRotationPreservesGeometry -/
def A13 : AFn := .code [.t 6] (
(.seq (
.reg none [
  ⟨some 5, .box (.t 2), none, true⟩,
  ⟨some 6, .as (.c (.bool false)), none, true⟩] (some [0, 1, 5]) []) (
(.seq (
.reg none [
  ⟨some 16, .call 31 [], none, true⟩,
  ⟨some 7, .as (.t 16), none, true⟩] (some [0, 1, 5, 7]) []) (
(.seq (
(.seq (
.reg none [
  ⟨some 17, .mv (.t 0), none, true⟩,
  ⟨some 18, .call 39 [.t 17], none, true⟩,
  ⟨some 19, .un .not (.t 18), none, true⟩,
  ⟨some 20, .mv (.t 19), none, true⟩,
  ⟨some 21, .load true 2 (.t 5), some (20, false), true⟩,
  ⟨some 22, .call 33 [.t 21], some (20, false), true⟩,
  ⟨some 23, .un .not (.t 22), some (20, false), true⟩,
  ⟨some 24, .pick (.t 20) (.c (.bool true)) (.t 23), none, true⟩] (some [0, 1, 5, 7, 24]) []) (
(.cond (.t 24) (
  (.seq (
  .reg none [
    ⟨some 25, .mv (.t 7), none, true⟩,
    ⟨some 6, .as (.t 25), none, true⟩] (some [6]) []) (
  .ret))) (
  .skip))))) (
(.seq (
.reg none [
  ⟨some 27, .mv (.t 0), none, true⟩,
  ⟨some 28, .mv (.t 1), none, true⟩,
  ⟨some 29, .bin .rem (.t 28) (.c (.int .i64 36)), none, true⟩,
  ⟨some 30, .call 43 [.t 27, .t 29], none, true⟩,
  ⟨some 26, .mv (.t 30), none, true⟩,
  ⟨some 31, .ext (.t 26) 0, none, true⟩,
  ⟨some 32, .ext (.t 26) 1, none, true⟩,
  ⟨some 8, .as (.t 31), none, true⟩,
  ⟨some 9, .as (.t 32), none, true⟩] (some [0, 1, 5, 7, 8, 9]) []) (
(.seq (
(.seq (
.reg none [
  ⟨some 33, .mv (.t 9), none, true⟩,
  ⟨some 34, .un .not (.t 33), none, true⟩] (some [0, 1, 5, 7, 8, 34]) []) (
(.cond (.t 34) (
  (.seq (
  .reg none [
    ⟨some 35, .mv (.t 7), none, true⟩,
    ⟨some 36, .mv (.t 35), none, true⟩,
    ⟨some 37, .mv (.t 8), some (36, true), true⟩,
    ⟨some 38, .len 0 (.t 37), some (36, true), true⟩,
    ⟨some 39, .bin .eql (.t 38) (.c (.int .i64 0)), some (36, true), true⟩,
    ⟨some 40, .pick (.t 36) (.t 39) (.c (.bool false)), none, true⟩,
    ⟨some 6, .as (.t 40), none, true⟩] (some [6]) []) (
  .ret))) (
  .skip))))) (
(.seq (
.reg none [
  ⟨some 42, .mv (.t 8), none, true⟩,
  ⟨some 43, .mv (.t 1), none, true⟩,
  ⟨some 44, .bin .rem (.t 43) (.c (.int .i64 36)), none, true⟩,
  ⟨some 45, .un .neg (.t 44), none, true⟩,
  ⟨some 46, .call 43 [.t 42, .t 45], none, true⟩,
  ⟨some 41, .mv (.t 46), none, true⟩,
  ⟨some 47, .ext (.t 41) 0, none, true⟩,
  ⟨some 48, .ext (.t 41) 1, none, true⟩,
  ⟨some 10, .as (.t 47), none, true⟩,
  ⟨some 11, .as (.t 48), none, true⟩] (some [0, 1, 5, 7, 8, 10, 11]) []) (
(.seq (
.reg none [
  ⟨some 50, .mv (.t 8), none, true⟩,
  ⟨some 51, .mv (.t 1), none, true⟩,
  ⟨some 52, .bin .rem (.t 51) (.c (.int .i64 36)), none, true⟩,
  ⟨some 53, .bin .sub (.c (.int .i64 36)) (.t 52), none, true⟩,
  ⟨some 54, .call 43 [.t 50, .t 53], none, true⟩,
  ⟨some 49, .mv (.t 54), none, true⟩,
  ⟨some 55, .ext (.t 49) 0, none, true⟩,
  ⟨some 56, .ext (.t 49) 1, none, true⟩,
  ⟨some 12, .as (.t 55), none, true⟩,
  ⟨some 13, .as (.t 56), none, true⟩] (some [0, 1, 5, 7, 8, 10, 11, 12, 13]) []) (
(.seq (
.reg none [
  ⟨some 58, .load true 2 (.t 5), none, true⟩,
  ⟨some 59, .call 38 [.t 58], none, true⟩,
  ⟨some 60, .bsl 2 1 [.int .i64 0, .int .i64 0] [(0, .t 59)], none, true⟩,
  ⟨some 61, .mv (.t 1), none, true⟩,
  ⟨some 62, .bin .rem (.t 61) (.c (.int .i64 36)), none, true⟩,
  ⟨some 63, .call 43 [.t 60, .t 62], none, true⟩,
  ⟨some 57, .mv (.t 63), none, true⟩,
  ⟨some 64, .ext (.t 57) 0, none, true⟩,
  ⟨some 65, .ext (.t 57) 1, none, true⟩,
  ⟨some 14, .as (.t 64), none, true⟩,
  ⟨some 15, .as (.t 65), none, true⟩] (some [0, 5, 7, 8, 10, 11, 12, 13, 14, 15]) []) (
(.seq (
(.seq (
.reg none [
  ⟨some 66, .mv (.t 8), none, true⟩,
  ⟨some 67, .call 36 [.t 66], none, true⟩,
  ⟨some 68, .un .not (.t 67), none, true⟩,
  ⟨some 69, .mv (.t 68), none, true⟩,
  ⟨some 70, .mv (.t 8), some (69, false), true⟩,
  ⟨some 71, .call 37 [.t 70], some (69, false), true⟩,
  ⟨some 72, .mv (.t 0), some (69, false), true⟩,
  ⟨some 73, .call 37 [.t 72], some (69, false), true⟩,
  ⟨some 74, .bin .neq (.t 71) (.t 73), some (69, false), true⟩,
  ⟨some 75, .pick (.t 69) (.c (.bool true)) (.t 74), none, true⟩,
  ⟨some 76, .mv (.t 75), none, true⟩,
  ⟨some 77, .mv (.t 11), some (76, false), true⟩,
  ⟨some 78, .un .not (.t 77), some (76, false), true⟩,
  ⟨some 79, .pick (.t 76) (.c (.bool true)) (.t 78), none, true⟩,
  ⟨some 80, .mv (.t 79), none, true⟩,
  ⟨some 81, .mv (.t 13), some (80, false), true⟩,
  ⟨some 82, .un .not (.t 81), some (80, false), true⟩,
  ⟨some 83, .pick (.t 80) (.c (.bool true)) (.t 82), none, true⟩,
  ⟨some 84, .mv (.t 83), none, true⟩,
  ⟨some 85, .mv (.t 10), some (84, false), true⟩,
  ⟨some 86, .mv (.t 0), some (84, false), true⟩,
  ⟨some 87, .call 42 [.t 85, .t 86], some (84, false), true⟩,
  ⟨some 88, .un .not (.t 87), some (84, false), true⟩,
  ⟨some 89, .pick (.t 84) (.c (.bool true)) (.t 88), none, true⟩,
  ⟨some 90, .mv (.t 89), none, true⟩,
  ⟨some 91, .mv (.t 12), some (90, false), true⟩,
  ⟨some 92, .mv (.t 0), some (90, false), true⟩,
  ⟨some 93, .call 42 [.t 91, .t 92], some (90, false), true⟩,
  ⟨some 94, .un .not (.t 93), some (90, false), true⟩,
  ⟨some 95, .pick (.t 90) (.c (.bool true)) (.t 94), none, true⟩] (some [0, 5, 7, 8, 14, 15, 95]) []) (
(.cond (.t 95) (
  (.seq (
  .reg none [
    ⟨some 6, .as (.c (.bool false)), none, true⟩] (some [6]) []) (
  .ret))) (
  .skip))))) (
(.seq (
.reg (some [.free, .free, .free, .free, .free, .free, .free, .free, .free, .free, .dr [108, 109, 112] [], .dr [112] [], .dr [112] [], .dr [112] [], .dr [112] [], .dr [108, 109, 110, 112, 113] [], .dr [108, 109, 110] [], .dr [] [], .free, .free, .free, .free, .free]) [
  ⟨some 96, .mv (.t 7), none, true⟩,
  ⟨some 97, .mv (.t 96), none, true⟩,
  ⟨some 98, .mv (.t 15), some (97, true), true⟩,
  ⟨some 99, .un .not (.t 98), some (97, true), true⟩,
  ⟨some 100, .mv (.t 99), some (97, true), true⟩,
  ⟨some 101, .mv (.t 14), some (100, false), true⟩,
  ⟨some 102, .len 0 (.t 101), some (100, false), true⟩,
  ⟨some 103, .bin .neq (.t 102) (.c (.int .i64 1)), some (100, false), true⟩,
  ⟨some 104, .pick (.t 100) (.c (.bool true)) (.t 103), some (97, true), true⟩,
  ⟨some 105, .mv (.t 104), some (97, true), true⟩,
  ⟨some 106, .mv (.t 8), some (105, false), true⟩,
  ⟨some 107, .mv (.t 14), some (105, false), true⟩,
  ⟨some 108, .ias 2 (.t 107) (.c (.int .i64 0)), some (105, false), true⟩,
  ⟨some 109, .load true 2 (.t 108), some (105, false), true⟩,
  ⟨some 110, .call 28 [.t 106, .t 109], some (105, false), true⟩,
  ⟨some 111, .mv (.t 0), some (105, false), true⟩,
  ⟨some 112, .load true 2 (.t 5), some (105, false), true⟩,
  ⟨some 113, .call 38 [.t 112], some (105, false), true⟩,
  ⟨some 114, .call 28 [.t 111, .t 113], some (105, false), true⟩,
  ⟨some 115, .bin .eql (.t 110) (.t 114), some (105, false), true⟩,
  ⟨some 116, .pick (.t 105) (.c (.bool true)) (.t 115), some (97, true), true⟩,
  ⟨some 117, .pick (.t 97) (.t 116) (.c (.bool false)), none, true⟩,
  ⟨some 6, .as (.t 117), none, true⟩] (some [6]) [5]) (
.ret)))))))))))))))))))))
def A14_L0b : ACode := 
  (.seq (
  (.seq (
  .reg none [
    ⟨some 79, .mv (.t 12), none, true⟩,
    ⟨some 80, .mv (.t 0), none, true⟩,
    ⟨some 81, .len 0 (.t 80), none, true⟩,
    ⟨some 82, .bin .lss (.t 79) (.t 81), none, true⟩] (some [0, 4, 5, 7, 11, 12, 82]) []) (
  (.cond (.t 82) (
    .skip) (
    .exit 2))))) (
  (.seq (
  (.block 3 (
  .reg (some [.free, .free, .dr [95, 97, 98, 99, 100] [], .dr [95, 97, 98, 99, 100] [], .dr [95, 97, 98, 99, 100] [], .dr [95, 97, 98, 99, 100] [], .dr [89, 90, 95, 99, 100] [], .dr [89, 90, 95, 99, 100] [], .dr [89, 90, 95, 99, 100] [], .dr [89, 90, 99, 100] [], .dr [89, 90, 99, 100] [], .dr [89, 90, 99, 100] [], .dr [89, 90, 99, 100] [], .dr [89, 90, 99, 100] [], .dr [89, 90, 95, 97, 98, 100] [], .dr [89, 90, 95, 97, 98, 99] [], .free, .free, .free]) [
    ⟨some 85, .mv (.t 11), none, true⟩,
    ⟨some 86, .mv (.t 85), none, true⟩,
    ⟨some 87, .mv (.t 0), some (86, false), true⟩,
    ⟨some 88, .mv (.t 12), some (86, false), true⟩,
    ⟨some 89, .ias 2 (.t 87) (.t 88), some (86, false), true⟩,
    ⟨some 90, .load true 2 (.t 89), some (86, false), true⟩,
    ⟨some 91, .mv (.t 0), some (86, false), true⟩,
    ⟨some 92, .mv (.t 12), some (86, false), true⟩,
    ⟨some 93, .bin .add (.t 92) (.c (.int .i64 1)), some (86, false), true⟩,
    ⟨some 94, .mv (.t 0), some (86, false), true⟩,
    ⟨some 95, .len 0 (.t 94), some (86, false), true⟩,
    ⟨some 96, .bin .rem (.t 93) (.t 95), some (86, false), true⟩,
    ⟨some 97, .ias 2 (.t 91) (.t 96), some (86, false), true⟩,
    ⟨some 98, .load true 2 (.t 97), some (86, false), true⟩,
    ⟨some 99, .load true 2 (.t 4), some (86, false), true⟩,
    ⟨some 100, .load true 2 (.t 5), some (86, false), true⟩,
    ⟨some 101, .call 27 [.t 90, .t 98, .t 99, .t 100], some (86, false), true⟩,
    ⟨some 102, .pick (.t 86) (.c (.bool true)) (.t 101), none, true⟩,
    ⟨some 11, .as (.t 102), none, true⟩] (some [0, 4, 5, 7, 11, 12]) []) (some [0, 4, 5, 7, 11, 12]) [])) (
  .reg none [
    ⟨some 83, .mv (.t 12), none, true⟩,
    ⟨some 84, .bin .add (.t 83) (.c (.int .i64 1)), none, true⟩,
    ⟨some 12, .as (.t 84), none, true⟩] (some [0, 4, 5, 7, 11, 12]) []))))
def A14_L0 : ACode := .loop A14_L0b (some [0, 4, 5, 7, 11, 12]) []
def A14_L1b : ACode := 
  (.seq (
  (.seq (
  .reg none [
    ⟨some 36, .mv (.t 10), none, true⟩,
    ⟨some 37, .mv (.t 0), none, true⟩,
    ⟨some 38, .len 0 (.t 37), none, true⟩,
    ⟨some 39, .bin .lss (.t 36) (.t 38), none, true⟩] (some [0, 4, 5, 7, 8, 9, 10, 39]) []) (
  (.cond (.t 39) (
    .skip) (
    .exit 0))))) (
  (.seq (
  (.block 1 (
  (.seq (
  (.seq (
  .reg none [
    ⟨some 42, .mv (.t 0), none, true⟩,
    ⟨some 43, .mv (.t 0), none, true⟩,
    ⟨some 44, .mv (.t 10), none, true⟩,
    ⟨some 45, .ias 2 (.t 43) (.t 44), none, true⟩,
    ⟨some 46, .load true 2 (.t 45), none, true⟩,
    ⟨some 47, .call 28 [.t 42, .t 46], none, true⟩,
    ⟨some 48, .bin .neq (.t 47) (.c (.int .i64 0)), none, true⟩] (some [0, 4, 5, 7, 8, 9, 10, 48]) []) (
  (.cond (.t 48) (
    (.seq (
    .reg none [
      ⟨some 6, .as (.c (.bool false)), none, true⟩] (some [6]) []) (
    .ret))) (
    .skip))))) (
  .reg (some [.dr [52, 54, 59, 61] [], .dr [59, 61] [], .dr [59, 61] [], .dr [59, 61] [], .dr [59, 61] [], .dr [59, 61] [], .dr [59, 61] [], .dr [52, 54, 59, 61] [], .dr [52, 54] [], .dr [52, 54] [], .dr [52, 54] [], .dr [52, 54] [], .dr [52, 54] [], .dr [52, 54] [], .dr [59, 61] [], .free]) [
    ⟨some 49, .mv (.t 8), none, true⟩,
    ⟨some 50, .mv (.t 0), none, true⟩,
    ⟨some 51, .mv (.t 10), none, true⟩,
    ⟨some 52, .ias 2 (.t 50) (.t 51), none, true⟩,
    ⟨some 53, .fad 1 (.t 52), none, true⟩,
    ⟨some 54, .load false 1 (.t 53), none, true⟩,
    ⟨some 55, .mx [.t 49, .t 54], none, true⟩,
    ⟨some 56, .mv (.t 9), none, true⟩,
    ⟨some 57, .mv (.t 0), none, true⟩,
    ⟨some 58, .mv (.t 10), none, true⟩,
    ⟨some 59, .ias 2 (.t 57) (.t 58), none, true⟩,
    ⟨some 60, .fad 0 (.t 59), none, true⟩,
    ⟨some 61, .load false 1 (.t 60), none, true⟩,
    ⟨some 62, .mx [.t 56, .t 61], none, true⟩,
    ⟨some 8, .as (.t 55), none, true⟩,
    ⟨some 9, .as (.t 62), none, true⟩] (some [0, 4, 5, 7, 8, 9, 10]) []))) (some [0, 4, 5, 7, 8, 9, 10]) [6, 47])) (
  .reg none [
    ⟨some 40, .mv (.t 10), none, true⟩,
    ⟨some 41, .bin .add (.t 40) (.c (.int .i64 1)), none, true⟩,
    ⟨some 10, .as (.t 41), none, true⟩] (some [0, 4, 5, 7, 8, 9, 10]) []))))
def A14_L1 : ACode := .loop A14_L1b (some [0, 4, 5, 7, 8, 9, 10]) [6, 47]
/-- ambidexter/ambidexterlaw03.PolygonLocationIsConsistent -/
def A14 : AFn := .code [.t 6] (
(.seq (
.reg none [
  ⟨some 4, .box (.t 1), none, true⟩,
  ⟨some 5, .box (.t 2), none, true⟩,
  ⟨some 6, .as (.c (.bool false)), none, true⟩] (some [0, 4, 5]) []) (
(.seq (
.reg none [
  ⟨some 13, .call 31 [], none, true⟩,
  ⟨some 7, .as (.t 13), none, true⟩] (some [0, 4, 5, 7]) []) (
(.seq (
(.seq (
.reg none [
  ⟨some 14, .mv (.t 0), none, true⟩,
  ⟨some 15, .call 36 [.t 14], none, true⟩,
  ⟨some 16, .un .not (.t 15), none, true⟩,
  ⟨some 17, .mv (.t 16), none, true⟩,
  ⟨some 18, .load true 2 (.t 4), some (17, false), true⟩,
  ⟨some 19, .call 33 [.t 18], some (17, false), true⟩,
  ⟨some 20, .un .not (.t 19), some (17, false), true⟩,
  ⟨some 21, .pick (.t 17) (.c (.bool true)) (.t 20), none, true⟩,
  ⟨some 22, .mv (.t 21), none, true⟩,
  ⟨some 23, .load true 2 (.t 5), some (22, false), true⟩,
  ⟨some 24, .call 33 [.t 23], some (22, false), true⟩,
  ⟨some 25, .un .not (.t 24), some (22, false), true⟩,
  ⟨some 26, .pick (.t 22) (.c (.bool true)) (.t 25), none, true⟩] (some [0, 4, 5, 7, 26]) []) (
(.cond (.t 26) (
  (.seq (
  .reg none [
    ⟨some 27, .mv (.t 7), none, true⟩,
    ⟨some 6, .as (.t 27), none, true⟩] (some [6]) []) (
  .ret))) (
  .skip))))) (
(.seq (
.reg (some [.dr [33, 35] [], .dr [33, 35] [], .dr [33, 35] [], .dr [33, 35] [], .dr [29, 31] [], .dr [29, 31] [], .dr [29, 31] [], .dr [29, 31] [], .dr [33, 35] [], .free]) [
  ⟨some 28, .mv (.t 0), none, true⟩,
  ⟨some 29, .ias 2 (.t 28) (.c (.int .i64 0)), none, true⟩,
  ⟨some 30, .fad 1 (.t 29), none, true⟩,
  ⟨some 31, .load false 1 (.t 30), none, true⟩,
  ⟨some 32, .mv (.t 0), none, true⟩,
  ⟨some 33, .ias 2 (.t 32) (.c (.int .i64 0)), none, true⟩,
  ⟨some 34, .fad 0 (.t 33), none, true⟩,
  ⟨some 35, .load false 1 (.t 34), none, true⟩,
  ⟨some 8, .as (.t 31), none, true⟩,
  ⟨some 9, .as (.t 35), none, true⟩] (some [0, 4, 5, 7, 8, 9]) []) (
(.seq (
(.seq (
.reg none [
  ⟨some 10, .as (.c (.int .i64 0)), none, true⟩] (some [0, 4, 5, 7, 8, 9, 10]) []) (
(.block 0 (
A14_L1) (some [0, 4, 5, 7, 8, 9]) [6, 10, 47])))) (
(.seq (
(.seq (
.reg none [
  ⟨some 63, .fad 1 (.t 4), none, true⟩,
  ⟨some 64, .load false 1 (.t 63), none, true⟩,
  ⟨some 65, .mv (.t 8), none, true⟩,
  ⟨some 66, .bin .gtr (.t 64) (.t 65), none, true⟩,
  ⟨some 67, .mv (.t 66), none, true⟩,
  ⟨some 68, .fad 0 (.t 4), some (67, false), true⟩,
  ⟨some 69, .load false 1 (.t 68), some (67, false), true⟩,
  ⟨some 70, .mv (.t 9), some (67, false), true⟩,
  ⟨some 71, .bin .gtr (.t 69) (.t 70), some (67, false), true⟩,
  ⟨some 72, .pick (.t 67) (.c (.bool true)) (.t 71), none, true⟩,
  ⟨some 73, .mv (.t 72), none, true⟩,
  ⟨some 74, .mv (.t 0), some (73, true), true⟩,
  ⟨some 75, .load true 2 (.t 4), some (73, true), true⟩,
  ⟨some 76, .call 28 [.t 74, .t 75], some (73, true), true⟩,
  ⟨some 77, .bin .neq (.t 76) (.c (.int .i64 (-1))), some (73, true), true⟩,
  ⟨some 78, .pick (.t 73) (.t 77) (.c (.bool false)), none, true⟩] (some [0, 4, 5, 7, 78]) []) (
(.cond (.t 78) (
  (.seq (
  .reg none [
    ⟨some 6, .as (.c (.bool false)), none, true⟩] (some [6]) []) (
  .ret))) (
  .skip))))) (
(.seq (
.reg none [
  ⟨some 11, .as (.c (.bool false)), none, true⟩] (some [0, 4, 5, 7, 11]) []) (
(.seq (
(.seq (
.reg none [
  ⟨some 12, .as (.c (.int .i64 0)), none, true⟩] (some [0, 4, 5, 7, 11, 12]) []) (
(.block 2 (
A14_L0) (some [0, 4, 5, 7, 11]) [12])))) (
(.seq (
.reg none [
  ⟨some 103, .mv (.t 7), none, true⟩,
  ⟨some 104, .mv (.t 103), none, true⟩,
  ⟨some 105, .mv (.t 0), some (104, true), true⟩,
  ⟨some 106, .load true 2 (.t 4), some (104, true), true⟩,
  ⟨some 107, .call 28 [.t 105, .t 106], some (104, true), true⟩,
  ⟨some 108, .bin .neq (.t 107) (.c (.int .i64 1)), some (104, true), true⟩,
  ⟨some 109, .mv (.t 108), some (104, true), true⟩,
  ⟨some 110, .mv (.t 0), some (109, false), true⟩,
  ⟨some 111, .load true 2 (.t 5), some (109, false), true⟩,
  ⟨some 112, .call 28 [.t 110, .t 111], some (109, false), true⟩,
  ⟨some 113, .bin .eql (.t 112) (.c (.int .i64 1)), some (109, false), true⟩,
  ⟨some 114, .pick (.t 109) (.c (.bool true)) (.t 113), some (104, true), true⟩,
  ⟨some 115, .mv (.t 114), some (104, true), true⟩,
  ⟨some 116, .mv (.t 11), some (115, false), true⟩,
  ⟨some 117, .pick (.t 115) (.c (.bool true)) (.t 116), some (104, true), true⟩,
  ⟨some 118, .pick (.t 104) (.t 117) (.c (.bool false)), none, true⟩,
  ⟨some 6, .as (.t 118), none, true⟩] (some [6]) [4, 5]) (
.ret)))))))))))))))))))
/-- ambidexter/ambidexterlaw05.head -/
def A15 : AFn := .code [.t 0] (
(.seq (
.reg none [
  ⟨some 0, .as (.c (.bool false)), none, true⟩] (some []) []) (
(.seq (
.reg none [
  ⟨some 14, .call 44 [.c (.int .i64 0), .c (.int .i64 0), .c (.int .i64 4)], none, true⟩,
  ⟨some 1, .as (.t 14), none, true⟩] (some [1]) []) (
(.seq (
.reg none [
  ⟨some 16, .mv (.t 1), none, true⟩,
  ⟨some 17, .call 44 [.c (.int .i64 6), .c (.int .i64 1), .c (.int .i64 2)], none, true⟩,
  ⟨some 18, .call 25 [.t 16, .t 17], none, true⟩,
  ⟨some 15, .mv (.t 18), none, true⟩,
  ⟨some 19, .ext (.t 15) 0, none, true⟩,
  ⟨some 20, .ext (.t 15) 1, none, true⟩,
  ⟨some 2, .alloc [.int .i64 0, .int .i64 0], none, true⟩,
  ⟨none, .store 2 (.t 2) (.t 19), none, true⟩,
  ⟨some 3, .as (.t 20), none, true⟩] (some [1, 2, 3]) []) (
(.seq (
.reg none [
  ⟨some 22, .mv (.t 1), none, true⟩,
  ⟨some 23, .call 44 [.c (.int .i64 4), .c (.int .i64 4), .c (.int .i64 2)], none, true⟩,
  ⟨some 24, .call 25 [.t 22, .t 23], none, true⟩,
  ⟨some 21, .mv (.t 24), none, true⟩,
  ⟨some 25, .ext (.t 21) 0, none, true⟩,
  ⟨some 26, .ext (.t 21) 1, none, true⟩,
  ⟨some 4, .alloc [.int .i64 0, .int .i64 0], none, true⟩,
  ⟨none, .store 2 (.t 4) (.t 25), none, true⟩,
  ⟨some 5, .as (.t 26), none, true⟩] (some [1, 2, 3, 5]) [4]) (
(.seq (
.reg none [
  ⟨some 28, .mv (.t 1), none, true⟩,
  ⟨some 29, .call 44 [.c (.int .i64 4), .c (.int .i64 4), .c (.int .i64 2)], none, true⟩,
  ⟨some 30, .call 17 [.t 28, .t 29], none, true⟩,
  ⟨some 27, .mv (.t 30), none, true⟩,
  ⟨some 31, .ext (.t 27) 0, none, true⟩,
  ⟨some 32, .ext (.t 27) 1, none, true⟩,
  ⟨some 6, .alloc [.int .i64 0, .int .i64 0, .int .i64 0], none, true⟩,
  ⟨none, .store 3 (.t 6) (.t 31), none, true⟩,
  ⟨some 7, .as (.t 32), none, true⟩] (some [1, 2, 3, 5, 6, 7]) []) (
(.seq (
.reg none [
  ⟨some 34, .mv (.t 1), none, true⟩,
  ⟨some 35, .call 44 [.c (.int .i64 1), .c (.int .i64 1), .c (.int .i64 2)], none, true⟩,
  ⟨some 36, .call 17 [.t 34, .t 35], none, true⟩,
  ⟨some 33, .mv (.t 36), none, true⟩,
  ⟨some 37, .ext (.t 33) 0, none, true⟩,
  ⟨some 38, .ext (.t 33) 1, none, true⟩,
  ⟨some 8, .alloc [.int .i64 0, .int .i64 0, .int .i64 0], none, true⟩,
  ⟨none, .store 3 (.t 8) (.t 37), none, true⟩,
  ⟨some 9, .as (.t 38), none, true⟩] (some [1, 2, 3, 5, 6, 7, 8, 9]) []) (
(.seq (
.reg none [
  ⟨some 40, .call 44 [.c (.int .i64 1), .c (.int .i64 1), .c (.int .i64 2)], none, true⟩,
  ⟨some 41, .mv (.t 1), none, true⟩,
  ⟨some 42, .call 17 [.t 40, .t 41], none, true⟩,
  ⟨some 39, .mv (.t 42), none, true⟩,
  ⟨some 43, .ext (.t 39) 0, none, true⟩,
  ⟨some 44, .ext (.t 39) 1, none, true⟩,
  ⟨some 10, .alloc [.int .i64 0, .int .i64 0, .int .i64 0], none, true⟩,
  ⟨none, .store 3 (.t 10) (.t 43), none, true⟩,
  ⟨some 11, .as (.t 44), none, true⟩] (some [1, 2, 3, 5, 6, 7, 8, 9, 10, 11]) []) (
(.seq (
.reg none [
  ⟨some 46, .mv (.t 1), none, true⟩,
  ⟨some 47, .call 44 [.c (.int .i64 5), .c (.int .i64 0), .c (.int .i64 2)], none, true⟩,
  ⟨some 48, .call 17 [.t 46, .t 47], none, true⟩,
  ⟨some 45, .mv (.t 48), none, true⟩,
  ⟨some 49, .ext (.t 45) 0, none, true⟩,
  ⟨some 50, .ext (.t 45) 1, none, true⟩,
  ⟨some 12, .alloc [.int .i64 0, .int .i64 0, .int .i64 0], none, true⟩,
  ⟨none, .store 3 (.t 12) (.t 49), none, true⟩,
  ⟨some 13, .as (.t 50), none, true⟩] (some [1, 2, 3, 5, 6, 7, 8, 9, 10, 11, 13]) [12]) (
(.seq (
.reg none [
  ⟨some 51, .load true 2 (.t 2), none, true⟩,
  ⟨some 52, .build [.int .i64 0, .int .i64 0] [(0, 1, .c (.int .i64 0)), (1, 1, .c (.int .i64 1))], none, true⟩,
  ⟨some 53, .eqa false [0, 0] (.t 51) (.t 52), none, true⟩,
  ⟨some 54, .mv (.t 53), none, true⟩,
  ⟨some 55, .mv (.t 3), some (54, true), true⟩,
  ⟨some 56, .pick (.t 54) (.t 55) (.c (.bool false)), none, true⟩,
  ⟨some 57, .mv (.t 56), none, true⟩,
  ⟨some 58, .mv (.t 5), some (57, true), true⟩,
  ⟨some 59, .un .not (.t 58), some (57, true), true⟩,
  ⟨some 60, .pick (.t 57) (.t 59) (.c (.bool false)), none, true⟩,
  ⟨some 61, .mv (.t 60), none, true⟩,
  ⟨some 62, .load true 3 (.t 6), some (61, true), true⟩,
  ⟨some 63, .build [.int .i64 0, .int .i64 0, .int .i64 0] [(0, 1, .c (.int .i64 1)), (1, 1, .c (.int .i64 1)), (2, 1, .c (.int .i64 0))], some (61, true), true⟩,
  ⟨some 64, .eqa false [0, 0, 0] (.t 62) (.t 63), some (61, true), true⟩,
  ⟨some 65, .pick (.t 61) (.t 64) (.c (.bool false)), none, true⟩,
  ⟨some 66, .mv (.t 65), none, true⟩,
  ⟨some 67, .mv (.t 7), some (66, true), true⟩,
  ⟨some 68, .pick (.t 66) (.t 67) (.c (.bool false)), none, true⟩,
  ⟨some 69, .mv (.t 68), none, true⟩,
  ⟨some 70, .load true 3 (.t 8), some (69, true), true⟩,
  ⟨some 71, .build [.int .i64 0, .int .i64 0, .int .i64 0] [(0, 1, .c (.int .i64 3))], some (69, true), true⟩,
  ⟨some 72, .eqa false [0, 0, 0] (.t 70) (.t 71), some (69, true), true⟩,
  ⟨some 73, .pick (.t 69) (.t 72) (.c (.bool false)), none, true⟩,
  ⟨some 74, .mv (.t 73), none, true⟩,
  ⟨some 75, .mv (.t 9), some (74, true), true⟩,
  ⟨some 76, .pick (.t 74) (.t 75) (.c (.bool false)), none, true⟩,
  ⟨some 77, .mv (.t 76), none, true⟩,
  ⟨some 78, .load true 3 (.t 10), some (77, true), true⟩,
  ⟨some 79, .build [.int .i64 0, .int .i64 0, .int .i64 0] [(0, 1, .c (.int .i64 2))], some (77, true), true⟩,
  ⟨some 80, .eqa false [0, 0, 0] (.t 78) (.t 79), some (77, true), true⟩,
  ⟨some 81, .pick (.t 77) (.t 80) (.c (.bool false)), none, true⟩,
  ⟨some 82, .mv (.t 81), none, true⟩,
  ⟨some 83, .mv (.t 11), some (82, true), true⟩,
  ⟨some 84, .pick (.t 82) (.t 83) (.c (.bool false)), none, true⟩,
  ⟨some 85, .mv (.t 84), none, true⟩,
  ⟨some 86, .mv (.t 13), some (85, true), true⟩,
  ⟨some 87, .un .not (.t 86), some (85, true), true⟩,
  ⟨some 88, .pick (.t 85) (.t 87) (.c (.bool false)), none, true⟩,
  ⟨some 89, .mv (.t 88), none, true⟩,
  ⟨some 90, .mv (.t 1), some (89, true), true⟩,
  ⟨some 91, .call 44 [.c (.int .i64 6), .c (.int .i64 1), .c (.int .i64 2)], some (89, true), true⟩,
  ⟨some 92, .build [.int .i64 0, .int .i64 0] [(0, 1, .c (.int .i64 1)), (1, 1, .c (.int .i64 3))], some (89, true), true⟩,
  ⟨some 93, .call 20 [.t 90, .t 91, .t 92], some (89, true), true⟩,
  ⟨some 94, .pick (.t 89) (.t 93) (.c (.bool false)), none, true⟩,
  ⟨some 95, .mv (.t 94), none, true⟩,
  ⟨some 96, .mv (.t 1), some (95, true), true⟩,
  ⟨some 97, .call 44 [.c (.int .i64 6), .c (.int .i64 1), .c (.int .i64 2)], some (95, true), true⟩,
  ⟨some 98, .build [.int .i64 0, .int .i64 0] [(0, 1, .c (.int .i64 0)), (1, 1, .c (.int .i64 0))], some (95, true), true⟩,
  ⟨some 99, .call 20 [.t 96, .t 97, .t 98], some (95, true), true⟩,
  ⟨some 100, .un .not (.t 99), some (95, true), true⟩,
  ⟨some 101, .pick (.t 95) (.t 100) (.c (.bool false)), none, true⟩,
  ⟨some 102, .mv (.t 101), none, true⟩,
  ⟨some 103, .mv (.t 1), some (102, true), true⟩,
  ⟨some 104, .mv (.t 1), some (102, true), true⟩,
  ⟨some 105, .call 19 [.t 103, .t 104], some (102, true), true⟩,
  ⟨some 106, .pick (.t 102) (.t 105) (.c (.bool false)), none, true⟩,
  ⟨some 107, .mv (.t 106), none, true⟩,
  ⟨some 108, .mv (.t 1), some (107, true), true⟩,
  ⟨some 109, .call 44 [.c (.int .i64 4), .c (.int .i64 4), .c (.int .i64 2)], some (107, true), true⟩,
  ⟨some 110, .build [.int .i64 0, .int .i64 0, .int .i64 0] [(0, 1, .c (.int .i64 2)), (1, 1, .c (.int .i64 2))], some (107, true), true⟩,
  ⟨some 111, .call 22 [.t 108, .t 109, .t 110], some (107, true), true⟩,
  ⟨some 112, .pick (.t 107) (.t 111) (.c (.bool false)), none, true⟩,
  ⟨some 0, .as (.t 112), none, true⟩] (some [0]) [2, 6, 8, 10]) (
.ret)))))))))))))))))))
/-- ambidexter/ambidexterlaw05.Small -/
def A16 : AFn := .code [.t 2] (
(.seq (
.reg none [
  ⟨some 2, .as (.c (.bool false)), none, true⟩] (some [0]) []) (
(.seq (
.reg none [
  ⟨some 3, .mv (.t 0), none, true⟩,
  ⟨some 4, .len 0 (.t 3), none, true⟩,
  ⟨some 5, .bin .leq (.t 4) (.c (.int .i64 12)), none, true⟩,
  ⟨some 6, .mv (.t 5), none, true⟩,
  ⟨some 7, .mv (.t 0), some (6, true), true⟩,
  ⟨some 8, .call 30 [.t 7], some (6, true), true⟩,
  ⟨some 9, .pick (.t 6) (.t 8) (.c (.bool false)), none, true⟩,
  ⟨some 2, .as (.t 9), none, true⟩] (some [2]) []) (
.ret)))))
def A17_L0b : ACode := 
  (.seq (
  .reg none [
    ⟨some 47, .bin .lss (.t 46) (.t 45), none, true⟩] (some [0, 3, 4, 5, 45, 46, 47]) []) (
  (.seq (
  (.cond (.t 47) (
    .skip) (
    .exit 6))) (
  (.seq (
  (.block 7 (
  (.seq (
  .reg none [
    ⟨some 48, .mv (.t 46), none, true⟩,
    ⟨some 11, .as (.t 48), none, true⟩] (some [0, 3, 4, 5, 11, 45, 46]) []) (
  (.seq (
  .reg none [
    ⟨some 49, .load false 1 (.t 3), none, true⟩,
    ⟨some 50, .mv (.t 11), none, true⟩,
    ⟨some 51, .mv (.t 0), none, true⟩,
    ⟨some 52, .call 46 [.t 49, .t 50, .t 51], none, true⟩] (some [0, 3, 4, 5, 11, 45, 46, 52]) []) (
  (.cond (.t 52) (
    (.seq (
    .reg none [
      ⟨some 53, .mv (.t 11), none, true⟩,
      ⟨some 54, .build [.int .i64 0, .int .i64 0, .int .i64 0] [(0, 1, .c (.int .i64 3)), (2, 1, .t 53)], none, true⟩,
      ⟨none, .store 3 (.t 4) (.t 54), none, true⟩,
      ⟨none, .store 1 (.t 5) (.c (.bool true)), none, true⟩] (some [4, 5]) []) (
    .ret))) (
    .skip))))))) (some [0, 3, 4, 5, 45, 46]) [52])) (
  .reg none [
    ⟨some 55, .bin .add (.t 46) (.c (.int .i64 1)), none, true⟩,
    ⟨some 46, .mv (.t 55), none, true⟩] (some [0, 3, 4, 5, 45, 46]) []))))))
def A17_L0 : ACode := .loop A17_L0b (some [0, 3, 4, 5, 45, 46]) [52]
def A17_L1b : ACode := 
  (.seq (
  .reg none [
    ⟨some 35, .bin .lss (.t 34) (.t 33), none, true⟩] (some [0, 3, 4, 5, 33, 34, 35]) []) (
  (.seq (
  (.cond (.t 35) (
    .skip) (
    .exit 4))) (
  (.seq (
  (.block 5 (
  (.seq (
  .reg none [
    ⟨some 36, .mv (.t 34), none, true⟩,
    ⟨some 10, .as (.t 36), none, true⟩] (some [0, 3, 4, 5, 10, 33, 34]) []) (
  (.seq (
  .reg none [
    ⟨some 37, .mv (.t 0), none, true⟩,
    ⟨some 38, .mv (.t 10), none, true⟩,
    ⟨some 39, .load false 1 (.t 3), none, true⟩,
    ⟨some 40, .call 46 [.t 37, .t 38, .t 39], none, true⟩] (some [0, 3, 4, 5, 10, 33, 34, 40]) []) (
  (.cond (.t 40) (
    (.seq (
    .reg none [
      ⟨some 41, .mv (.t 10), none, true⟩,
      ⟨some 42, .build [.int .i64 0, .int .i64 0, .int .i64 0] [(0, 1, .c (.int .i64 2)), (1, 1, .t 41)], none, true⟩,
      ⟨none, .store 3 (.t 4) (.t 42), none, true⟩,
      ⟨none, .store 1 (.t 5) (.c (.bool true)), none, true⟩] (some [4, 5]) []) (
    .ret))) (
    .skip))))))) (some [0, 3, 4, 5, 33, 34]) [40])) (
  .reg none [
    ⟨some 43, .bin .add (.t 34) (.c (.int .i64 1)), none, true⟩,
    ⟨some 34, .mv (.t 43), none, true⟩] (some [0, 3, 4, 5, 33, 34]) []))))))
def A17_L1 : ACode := .loop A17_L1b (some [0, 3, 4, 5, 33, 34]) [40]
def A17_R2a : ACode := 
    (.seq (
    .reg none [
      ⟨some 8, .as (.t 18), none, true⟩] (some [4, 5, 6, 7, 8, 19]) []) (
    .reg none [
      ⟨some 9, .alloc [.int .i64 0, .int .i64 0, .int .i64 0, .int .i64 0], none, true⟩,
      ⟨none, .store 4 (.t 9) (.t 19), none, true⟩] (some [4, 5, 6, 7, 8, 9]) []))
def A17_R2b : ACode := 
    (.block 3 (
    (.seq (
    .reg none [
      ⟨some 20, .fad 0 (.t 7), none, true⟩,
      ⟨some 21, .load true 2 (.t 20), none, true⟩,
      ⟨some 22, .fad 2 (.t 7), none, true⟩,
      ⟨some 23, .load true 2 (.t 22), none, true⟩,
      ⟨some 24, .fad 0 (.t 9), none, true⟩,
      ⟨some 25, .load true 2 (.t 24), none, true⟩,
      ⟨some 26, .fad 2 (.t 9), none, true⟩,
      ⟨some 27, .load true 2 (.t 26), none, true⟩,
      ⟨some 28, .call 27 [.t 21, .t 23, .t 25, .t 27], none, true⟩] (some [4, 5, 6, 8, 28]) [7, 9]) (
    (.cond (.t 28) (
      (.seq (
      .reg none [
        ⟨some 29, .load false 1 (.t 6), none, true⟩,
        ⟨some 30, .mv (.t 8), none, true⟩,
        ⟨some 31, .build [.int .i64 0, .int .i64 0, .int .i64 0] [(0, 1, .c (.int .i64 1)), (1, 1, .t 29), (2, 1, .t 30)], none, true⟩,
        ⟨none, .store 3 (.t 4) (.t 31), none, true⟩,
        ⟨none, .store 1 (.t 5) (.c (.bool true)), none, true⟩] (some []) [6]) (
      .ret))) (
      .skip))))) (some []) [28])
def A17_R2 : ACode := .rf 1 (.t 17) [18, 19]  A17_R2a A17_R2b
def A17_R3a : ACode := 
  (.seq (
  .reg none [
    ⟨some 6, .alloc [.int .i64 0], none, true⟩,
    ⟨none, .store 1 (.t 6) (.t 14), none, true⟩] (some [3, 4, 5, 6, 15]) []) (
  .reg none [
    ⟨some 7, .alloc [.int .i64 0, .int .i64 0, .int .i64 0, .int .i64 0], none, true⟩,
    ⟨none, .store 4 (.t 7) (.t 15), none, true⟩] (some [3, 4, 5, 6, 7]) []))
def A17_R3b : ACode := 
  (.block 1 (
  (.seq (
  .reg none [
    ⟨some 16, .load false 1 (.t 3), none, true⟩,
    ⟨some 17, .call 45 [.t 16], none, true⟩] (some [4, 5, 6, 7, 17]) [3]) (
  (.block 2 (
  A17_R2) (some []) [8, 9, 28])))) (some []) [8, 9, 17, 28])
def A17_R3 : ACode := .rf 0 (.t 13) [14, 15]  A17_R3a A17_R3b
/-- ambidexter/intersect.FindContact -/
def A17 : AFn := .code [.cell true 3 4, .cell false 1 5] (
(.seq (
.reg none [
  ⟨some 3, .box (.t 1), none, true⟩,
  ⟨some 4, .alloc [.int .i64 0, .int .i64 0, .int .i64 0], none, true⟩,
  ⟨some 5, .alloc [.bool false], none, true⟩] (some [0, 3, 4, 5]) []) (
(.seq (
(.seq (
.reg none [
  ⟨some 12, .mv (.t 0), none, true⟩,
  ⟨some 13, .call 45 [.t 12], none, true⟩] (some [0, 3, 4, 5, 13]) []) (
(.block 0 (
A17_R3) (some [0, 3, 4, 5]) [6, 7, 9, 17, 28])))) (
(.seq (
(.seq (
.reg none [
  ⟨some 32, .mv (.t 0), none, true⟩,
  ⟨some 33, .len 0 (.t 32), none, true⟩,
  ⟨some 34, .mv (.c (.int .i64 0)), none, true⟩] (some [0, 3, 4, 5, 33, 34]) []) (
(.block 4 (
A17_L1) (some [0, 3, 4, 5]) [40])))) (
(.seq (
(.seq (
.reg none [
  ⟨some 44, .load false 1 (.t 3), none, true⟩,
  ⟨some 45, .len 0 (.t 44), none, true⟩,
  ⟨some 46, .mv (.c (.int .i64 0)), none, true⟩] (some [0, 3, 4, 5, 45, 46]) []) (
(.block 6 (
A17_L0) (some [4, 5]) [52])))) (
(.seq (
.reg none [
  ⟨some 56, .build [.int .i64 0, .int .i64 0, .int .i64 0] [], none, true⟩,
  ⟨none, .store 3 (.t 4) (.t 56), none, true⟩,
  ⟨none, .store 1 (.t 5) (.c (.bool false)), none, true⟩] (some [4, 5]) []) (
.ret)))))))))))
def A18_L0b : ACode := 
      (.seq (
      (.seq (
      .reg none [
        ⟨some 20, .mv (.t 8), none, true⟩,
        ⟨some 21, .mv (.t 1), none, true⟩,
        ⟨some 22, .len 0 (.t 21), none, true⟩,
        ⟨some 23, .bin .lss (.t 20) (.t 22), none, true⟩] (some [0, 1, 4, 6, 7, 8, 23]) []) (
      (.cond (.t 23) (
        .skip) (
        .exit 4))))) (
      (.seq (
      (.block 5 (
      (.seq (
      .reg none [
        ⟨some 26, .mv (.t 6), none, true⟩,
        ⟨some 27, .mv (.t 7), none, true⟩,
        ⟨some 28, .mv (.t 8), none, true⟩,
        ⟨some 29, .build [.int .i64 0, .int .i64 0, .int .i64 0] [(0, 1, .t 26), (1, 1, .t 27), (2, 1, .t 28)], none, true⟩,
        ⟨some 9, .alloc [.int .i64 0, .int .i64 0, .int .i64 0], none, true⟩,
        ⟨none, .store 3 (.t 9) (.t 29), none, true⟩] (some [0, 1, 4, 6, 7, 8, 9]) []) (
      (.seq (
      .reg none [
        ⟨some 30, .mv (.t 0), none, true⟩,
        ⟨some 31, .mv (.t 1), none, true⟩,
        ⟨some 32, .load true 3 (.t 9), none, true⟩,
        ⟨some 33, .call 23 [.t 30, .t 31, .t 32], none, true⟩] (some [0, 1, 4, 6, 7, 8, 9, 33]) []) (
      (.cond (.t 33) (
        (.seq (
        .reg none [
          ⟨some 34, .load true 3 (.t 9), none, true⟩,
          ⟨none, .store 3 (.t 4) (.t 34), none, true⟩,
          ⟨some 5, .as (.c (.bool true)), none, true⟩] (some [4, 5]) [9]) (
        .ret))) (
        .skip))))))) (some [0, 1, 4, 6, 7, 8]) [5, 9, 33])) (
      .reg none [
        ⟨some 24, .mv (.t 8), none, true⟩,
        ⟨some 25, .bin .add (.t 24) (.c (.int .i64 1)), none, true⟩,
        ⟨some 8, .as (.t 25), none, true⟩] (some [0, 1, 4, 6, 7, 8]) []))))
def A18_L0 : ACode := .loop A18_L0b (some [0, 1, 4, 6, 7, 8]) [5, 9, 33]
def A18_L1b : ACode := 
    (.seq (
    (.seq (
    .reg none [
      ⟨some 14, .mv (.t 7), none, true⟩,
      ⟨some 15, .mv (.t 0), none, true⟩,
      ⟨some 16, .len 0 (.t 15), none, true⟩,
      ⟨some 17, .bin .lss (.t 14) (.t 16), none, true⟩] (some [0, 1, 4, 6, 7, 17]) []) (
    (.cond (.t 17) (
      .skip) (
      .exit 2))))) (
    (.seq (
    (.block 3 (
    (.seq (
    .reg none [
      ⟨some 8, .as (.c (.int .i64 0)), none, true⟩] (some [0, 1, 4, 6, 7, 8]) []) (
    (.block 4 (
    A18_L0) (some [0, 1, 4, 6, 7]) [5, 8, 9, 33])))) (some [0, 1, 4, 6, 7]) [5, 8, 9, 33])) (
    .reg none [
      ⟨some 18, .mv (.t 7), none, true⟩,
      ⟨some 19, .bin .add (.t 18) (.c (.int .i64 1)), none, true⟩,
      ⟨some 7, .as (.t 19), none, true⟩] (some [0, 1, 4, 6, 7]) []))))
def A18_L1 : ACode := .loop A18_L1b (some [0, 1, 4, 6, 7]) [5, 8, 9, 33]
def A18_L2b : ACode := 
  (.seq (
  (.seq (
  .reg none [
    ⟨some 10, .mv (.t 6), none, true⟩,
    ⟨some 11, .bin .leq (.t 10) (.c (.int .i64 3)), none, true⟩] (some [0, 1, 4, 6, 11]) []) (
  (.cond (.t 11) (
    .skip) (
    .exit 0))))) (
  (.seq (
  (.block 1 (
  (.seq (
  .reg none [
    ⟨some 7, .as (.c (.int .i64 0)), none, true⟩] (some [0, 1, 4, 6, 7]) []) (
  (.block 2 (
  A18_L1) (some [0, 1, 4, 6]) [5, 7, 8, 9, 33])))) (some [0, 1, 4, 6]) [5, 7, 8, 9, 33])) (
  .reg none [
    ⟨some 12, .mv (.t 6), none, true⟩,
    ⟨some 13, .bin .add (.t 12) (.c (.int .i64 1)), none, true⟩,
    ⟨some 6, .as (.t 13), none, true⟩] (some [0, 1, 4, 6]) []))))
def A18_L2 : ACode := .loop A18_L2b (some [0, 1, 4, 6]) [5, 7, 8, 9, 33]
/-- ambidexter/ambidexterref05.Touch -/
def A18 : AFn := .code [.cell true 3 4, .t 5] (
(.seq (
.reg none [
  ⟨some 4, .alloc [.int .i64 0, .int .i64 0, .int .i64 0], none, true⟩,
  ⟨some 5, .as (.c (.bool false)), none, true⟩] (some [0, 1, 4]) []) (
(.seq (
(.seq (
.reg none [
  ⟨some 6, .as (.c (.int .i64 1)), none, true⟩] (some [0, 1, 4, 6]) []) (
(.block 0 (
A18_L2) (some [4]) [5, 6, 7, 8, 9, 33])))) (
(.seq (
.reg none [
  ⟨some 35, .build [.int .i64 0, .int .i64 0, .int .i64 0] [], none, true⟩,
  ⟨none, .store 3 (.t 4) (.t 35), none, true⟩,
  ⟨some 5, .as (.c (.bool false)), none, true⟩] (some [4, 5]) []) (
.ret)))))))
/-- ambidexter/intersect.Polygons -/
def A19 : AFn := .code [.t 4] (
(.seq (
.reg none [
  ⟨some 4, .as (.c (.bool false)), none, true⟩] (some [0, 1]) []) (
(.seq (
.reg none [
  ⟨some 8, .mv (.t 0), none, true⟩,
  ⟨some 9, .mv (.t 1), none, true⟩,
  ⟨some 10, .call 17 [.t 8, .t 9], none, true⟩,
  ⟨some 7, .mv (.t 10), none, true⟩,
  ⟨some 11, .ext (.t 7) 0, none, true⟩,
  ⟨some 12, .ext (.t 7) 1, none, true⟩,
  ⟨some 5, .alloc [.int .i64 0, .int .i64 0, .int .i64 0], none, true⟩,
  ⟨none, .store 3 (.t 5) (.t 11), none, true⟩,
  ⟨some 6, .as (.t 12), none, true⟩] (some [6]) [5]) (
(.seq (
.reg none [
  ⟨some 13, .mv (.t 6), none, true⟩,
  ⟨some 4, .as (.t 13), none, true⟩] (some [4]) []) (
.ret)))))))
/-- ambidexter/intersect.IsSeparating -/
def A20 : AFn := .code [.t 6] (
(.seq (
.reg none [
  ⟨some 5, .box (.t 2), none, true⟩,
  ⟨some 6, .as (.c (.bool false)), none, true⟩] (some [0, 1, 5]) []) (
(.seq (
(.seq (
.reg none [
  ⟨some 9, .fad 0 (.t 5), none, true⟩,
  ⟨some 10, .load false 1 (.t 9), none, true⟩,
  ⟨some 11, .bin .eql (.t 10) (.c (.int .i64 1)), none, true⟩] (some [0, 1, 5, 11]) []) (
(.cond (.t 11) (
  .reg none [
    ⟨some 12, .mv (.t 1), none, true⟩,
    ⟨some 13, .mv (.t 0), none, true⟩,
    ⟨some 0, .as (.t 12), none, true⟩,
    ⟨some 1, .as (.t 13), none, true⟩] (some [0, 1, 5]) []) (
  .skip))))) (
(.seq (
.reg none [
  ⟨some 15, .mv (.t 0), none, true⟩,
  ⟨some 16, .fad 1 (.t 5), none, true⟩,
  ⟨some 17, .load false 1 (.t 16), none, true⟩,
  ⟨some 18, .call 47 [.t 15, .t 17], none, true⟩,
  ⟨some 14, .mv (.t 18), none, true⟩,
  ⟨some 19, .ext (.t 14) 0, none, true⟩,
  ⟨some 20, .ext (.t 14) 1, none, true⟩,
  ⟨some 7, .alloc [.int .i64 0, .int .i64 0, .int .i64 0, .int .i64 0], none, true⟩,
  ⟨none, .store 4 (.t 7) (.t 19), none, true⟩,
  ⟨some 8, .as (.t 20), none, true⟩] (some [1, 5, 7, 8]) []) (
(.seq (
.reg none [
  ⟨some 21, .mv (.t 8), none, true⟩,
  ⟨some 22, .mv (.t 21), none, true⟩,
  ⟨some 23, .fad 0 (.t 5), some (22, true), true⟩,
  ⟨some 24, .load false 1 (.t 23), some (22, true), true⟩,
  ⟨some 25, .bin .shr (.t 24) (.c (.int .u64 1)), some (22, true), true⟩,
  ⟨some 26, .bin .eql (.t 25) (.c (.int .i64 0)), some (22, true), true⟩,
  ⟨some 27, .pick (.t 22) (.t 26) (.c (.bool false)), none, true⟩,
  ⟨some 28, .mv (.t 27), none, true⟩,
  ⟨some 29, .load true 4 (.t 7), some (28, true), true⟩,
  ⟨some 30, .mv (.t 1), some (28, true), true⟩,
  ⟨some 31, .call 48 [.t 29, .t 30], some (28, true), true⟩,
  ⟨some 32, .pick (.t 28) (.t 31) (.c (.bool false)), none, true⟩,
  ⟨some 6, .as (.t 32), none, true⟩] (some [6]) [5, 7]) (
.ret)))))))))
/-- ambidexter/ambidexterref05.Holds -/
def A21 : AFn := .code [.t 6] (
(.seq (
.reg none [
  ⟨some 5, .box (.t 2), none, true⟩,
  ⟨some 6, .as (.c (.bool false)), none, true⟩] (some [0, 1, 5]) []) (
(.seq (
(.seq (
.reg none [
  ⟨some 7, .fad 0 (.t 5), none, true⟩,
  ⟨some 8, .load false 1 (.t 7), none, true⟩,
  ⟨some 9, .bin .eql (.t 8) (.c (.int .i64 0)), none, true⟩] (some [0, 1, 5, 9]) []) (
(.cond (.t 9) (
  (.seq (
  .reg none [
    ⟨some 10, .fad 1 (.t 5), none, true⟩,
    ⟨some 11, .load false 1 (.t 10), none, true⟩,
    ⟨some 12, .bin .geq (.t 11) (.c (.int .i64 0)), none, true⟩,
    ⟨some 13, .mv (.t 12), none, true⟩,
    ⟨some 14, .fad 1 (.t 5), some (13, true), true⟩,
    ⟨some 15, .load false 1 (.t 14), some (13, true), true⟩,
    ⟨some 16, .mv (.t 0), some (13, true), true⟩,
    ⟨some 17, .len 0 (.t 16), some (13, true), true⟩,
    ⟨some 18, .bin .lss (.t 15) (.t 17), some (13, true), true⟩,
    ⟨some 19, .pick (.t 13) (.t 18) (.c (.bool false)), none, true⟩,
    ⟨some 20, .mv (.t 19), none, true⟩,
    ⟨some 21, .mv (.t 0), some (20, true), true⟩,
    ⟨some 22, .fad 1 (.t 5), some (20, true), true⟩,
    ⟨some 23, .load false 1 (.t 22), some (20, true), true⟩,
    ⟨some 24, .mv (.t 1), some (20, true), true⟩,
    ⟨some 25, .call 49 [.t 21, .t 23, .t 24], some (20, true), true⟩,
    ⟨some 26, .pick (.t 20) (.t 25) (.c (.bool false)), none, true⟩,
    ⟨some 6, .as (.t 26), none, true⟩] (some [6]) [5]) (
  .ret))) (
  .skip))))) (
(.seq (
.reg none [
  ⟨some 27, .fad 0 (.t 5), none, true⟩,
  ⟨some 28, .load false 1 (.t 27), none, true⟩,
  ⟨some 29, .bin .eql (.t 28) (.c (.int .i64 1)), none, true⟩,
  ⟨some 30, .mv (.t 29), none, true⟩,
  ⟨some 31, .fad 1 (.t 5), some (30, true), true⟩,
  ⟨some 32, .load false 1 (.t 31), some (30, true), true⟩,
  ⟨some 33, .bin .geq (.t 32) (.c (.int .i64 0)), some (30, true), true⟩,
  ⟨some 34, .pick (.t 30) (.t 33) (.c (.bool false)), none, true⟩,
  ⟨some 35, .mv (.t 34), none, true⟩,
  ⟨some 36, .fad 1 (.t 5), some (35, true), true⟩,
  ⟨some 37, .load false 1 (.t 36), some (35, true), true⟩,
  ⟨some 38, .mv (.t 1), some (35, true), true⟩,
  ⟨some 39, .len 0 (.t 38), some (35, true), true⟩,
  ⟨some 40, .bin .lss (.t 37) (.t 39), some (35, true), true⟩,
  ⟨some 41, .pick (.t 35) (.t 40) (.c (.bool false)), none, true⟩,
  ⟨some 42, .mv (.t 41), none, true⟩,
  ⟨some 43, .mv (.t 1), some (42, true), true⟩,
  ⟨some 44, .fad 1 (.t 5), some (42, true), true⟩,
  ⟨some 45, .load false 1 (.t 44), some (42, true), true⟩,
  ⟨some 46, .mv (.t 0), some (42, true), true⟩,
  ⟨some 47, .call 49 [.t 43, .t 45, .t 46], some (42, true), true⟩,
  ⟨some 48, .pick (.t 42) (.t 47) (.c (.bool false)), none, true⟩,
  ⟨some 6, .as (.t 48), none, true⟩] (some [6]) [5]) (
.ret)))))))
/-- ambidexter/intersect.IsContact -/
def A22 : AFn := .code [.t 6] (
(.seq (
.reg none [
  ⟨some 5, .box (.t 2), none, true⟩,
  ⟨some 6, .as (.c (.bool false)), none, true⟩] (some [0, 1, 5]) []) (
(.seq (
(.seq (
.reg none [
  ⟨some 11, .fad 0 (.t 5), none, true⟩,
  ⟨some 12, .load false 1 (.t 11), none, true⟩] (some [0, 1, 5, 12]) []) (
(.block 0 (
(.seq (
.reg none [
  ⟨some 14, .bin .eql (.t 12) (.c (.int .i64 1)), none, true⟩,
  ⟨some 13, .as (.t 14), none, true⟩] (some [0, 1, 5, 12, 13]) []) (
(.cond (.t 13) (
  (.seq (
  .reg none [
    ⟨some 16, .mv (.t 0), none, true⟩,
    ⟨some 17, .fad 1 (.t 5), none, true⟩,
    ⟨some 18, .load false 1 (.t 17), none, true⟩,
    ⟨some 19, .call 47 [.t 16, .t 18], none, true⟩,
    ⟨some 15, .mv (.t 19), none, true⟩,
    ⟨some 20, .ext (.t 15) 0, none, true⟩,
    ⟨some 21, .ext (.t 15) 1, none, true⟩,
    ⟨some 7, .alloc [.int .i64 0, .int .i64 0, .int .i64 0, .int .i64 0], none, true⟩,
    ⟨none, .store 4 (.t 7) (.t 20), none, true⟩,
    ⟨some 8, .as (.t 21), none, true⟩] (some [1, 5, 7, 8]) []) (
  (.seq (
  .reg none [
    ⟨some 23, .mv (.t 1), none, true⟩,
    ⟨some 24, .fad 2 (.t 5), none, true⟩,
    ⟨some 25, .load false 1 (.t 24), none, true⟩,
    ⟨some 26, .call 47 [.t 23, .t 25], none, true⟩,
    ⟨some 22, .mv (.t 26), none, true⟩,
    ⟨some 27, .ext (.t 22) 0, none, true⟩,
    ⟨some 28, .ext (.t 22) 1, none, true⟩,
    ⟨some 9, .alloc [.int .i64 0, .int .i64 0, .int .i64 0, .int .i64 0], none, true⟩,
    ⟨none, .store 4 (.t 9) (.t 27), none, true⟩,
    ⟨some 10, .as (.t 28), none, true⟩] (some [7, 8, 9, 10]) [5]) (
  (.seq (
  .reg none [
    ⟨some 29, .mv (.t 8), none, true⟩,
    ⟨some 30, .mv (.t 29), none, true⟩,
    ⟨some 31, .mv (.t 10), some (30, true), true⟩,
    ⟨some 32, .pick (.t 30) (.t 31) (.c (.bool false)), none, true⟩,
    ⟨some 33, .mv (.t 32), none, true⟩,
    ⟨some 34, .fad 0 (.t 7), some (33, true), true⟩,
    ⟨some 35, .load true 2 (.t 34), some (33, true), true⟩,
    ⟨some 36, .fad 2 (.t 7), some (33, true), true⟩,
    ⟨some 37, .load true 2 (.t 36), some (33, true), true⟩,
    ⟨some 38, .fad 0 (.t 9), some (33, true), true⟩,
    ⟨some 39, .load true 2 (.t 38), some (33, true), true⟩,
    ⟨some 40, .fad 2 (.t 9), some (33, true), true⟩,
    ⟨some 41, .load true 2 (.t 40), some (33, true), true⟩,
    ⟨some 42, .call 27 [.t 35, .t 37, .t 39, .t 41], some (33, true), true⟩,
    ⟨some 43, .pick (.t 33) (.t 42) (.c (.bool false)), none, true⟩,
    ⟨some 6, .as (.t 43), none, true⟩] (some [6]) [7, 9]) (
  .ret))))))) (
  (.seq (
  .reg none [
    ⟨some 45, .bin .eql (.t 12) (.c (.int .i64 2)), none, true⟩,
    ⟨some 44, .as (.t 45), none, true⟩] (some [0, 1, 5, 12, 44]) []) (
  (.cond (.t 44) (
    (.seq (
    .reg none [
      ⟨some 46, .fad 2 (.t 5), none, true⟩,
      ⟨some 47, .load false 1 (.t 46), none, true⟩,
      ⟨some 48, .bin .eql (.t 47) (.c (.int .i64 0)), none, true⟩,
      ⟨some 49, .mv (.t 48), none, true⟩,
      ⟨some 50, .mv (.t 0), some (49, true), true⟩,
      ⟨some 51, .fad 1 (.t 5), some (49, true), true⟩,
      ⟨some 52, .load false 1 (.t 51), some (49, true), true⟩,
      ⟨some 53, .mv (.t 1), some (49, true), true⟩,
      ⟨some 54, .call 46 [.t 50, .t 52, .t 53], some (49, true), true⟩,
      ⟨some 55, .pick (.t 49) (.t 54) (.c (.bool false)), none, true⟩,
      ⟨some 6, .as (.t 55), none, true⟩] (some [6]) [5]) (
    .ret))) (
    (.seq (
    .reg none [
      ⟨some 57, .bin .eql (.t 12) (.c (.int .i64 3)), none, true⟩,
      ⟨some 56, .as (.t 57), none, true⟩] (some [0, 1, 5, 56]) []) (
    (.cond (.t 56) (
      (.seq (
      .reg none [
        ⟨some 58, .fad 1 (.t 5), none, true⟩,
        ⟨some 59, .load false 1 (.t 58), none, true⟩,
        ⟨some 60, .bin .eql (.t 59) (.c (.int .i64 0)), none, true⟩,
        ⟨some 61, .mv (.t 60), none, true⟩,
        ⟨some 62, .mv (.t 1), some (61, true), true⟩,
        ⟨some 63, .fad 2 (.t 5), some (61, true), true⟩,
        ⟨some 64, .load false 1 (.t 63), some (61, true), true⟩,
        ⟨some 65, .mv (.t 0), some (61, true), true⟩,
        ⟨some 66, .call 46 [.t 62, .t 64, .t 65], some (61, true), true⟩,
        ⟨some 67, .pick (.t 61) (.t 66) (.c (.bool false)), none, true⟩,
        ⟨some 6, .as (.t 67), none, true⟩] (some [6]) [5]) (
      .ret))) (
      .skip))))))))))))) (some []) [6, 7, 8, 9, 10, 13, 19, 26, 42, 44, 54, 56, 66])))) (
(.seq (
.reg none [
  ⟨some 6, .as (.c (.bool false)), none, true⟩] (some [6]) []) (
.ret)))))))
/-- ambidexter/ambidexterref05.Shows -/
def A23 : AFn := .code [.t 6] (
(.seq (
.reg none [
  ⟨some 5, .box (.t 2), none, true⟩,
  ⟨some 6, .as (.c (.bool false)), none, true⟩] (some [0, 1, 5]) []) (
(.seq (
(.seq (
.reg none [
  ⟨some 7, .fad 0 (.t 5), none, true⟩,
  ⟨some 8, .load false 1 (.t 7), none, true⟩] (some [0, 1, 5, 8]) []) (
(.block 0 (
(.seq (
.reg none [
  ⟨some 10, .bin .eql (.t 8) (.c (.int .i64 1)), none, true⟩,
  ⟨some 9, .as (.t 10), none, true⟩] (some [0, 1, 5, 8, 9]) []) (
(.cond (.t 9) (
  (.seq (
  .reg (some [.free, .free, .free, .free, .dr [18] [], .dr [18] [], .dr [16] [], .dr [16] [], .free, .free, .free, .free, .free, .free, .free, .free, .dr [30] [], .dr [30] [], .dr [28] [], .dr [28] [], .free, .free, .free, .dr [36, 42, 43, 44, 45, 48, 49, 50, 54, 55, 56, 57] [], .dr [42, 43, 44, 45, 48, 49, 50, 54, 55, 56, 57] [], .dr [42, 43, 44, 45, 48, 49, 50, 54, 55, 56, 57] [], .dr [42, 43, 44, 45, 48, 49, 50, 54, 55, 56, 57] [], .dr [42, 43, 44, 45, 48, 49, 50, 54, 55, 56, 57] [], .dr [36, 37, 38, 42, 43, 48, 49, 50, 54, 55, 56, 57] [], .dr [36, 37, 38, 42, 48, 49, 50, 54] [], .dr [36, 37, 38, 48, 49, 50, 54] [], .dr [36, 37, 38, 48, 49, 50, 54] [], .dr [36, 37, 38, 48, 49, 50, 54] [], .dr [36, 37, 38, 48, 49, 50, 54, 55, 56, 57] [], .dr [36, 37, 38, 48, 49, 50, 54, 55, 56, 57] [], .dr [36, 37, 38, 42, 43, 44, 45, 48, 54, 55, 56, 57] [], .dr [36, 37, 38, 42, 43, 44, 45, 54, 55, 56, 57] [], .dr [36, 37, 38, 42, 43, 44, 45, 54, 55, 56, 57] [], .dr [36, 37, 38, 42, 43, 44, 45, 54, 55, 56, 57] [], .dr [36, 37, 38, 42, 43, 44, 45, 54, 55, 56, 57] [], .dr [36, 37, 38, 42, 43, 44, 45, 48, 49, 50, 54, 55] [], .dr [36, 37, 38, 42, 43, 44, 45, 48, 49, 50, 54] [], .dr [36, 37, 38, 42, 43, 44, 45, 48, 49, 50] [], .dr [36, 37, 38, 42, 43, 44, 45, 48, 49, 50] [], .dr [36, 37, 38, 44, 45, 48, 49, 50] [], .dr [36, 37, 38, 44, 45, 48, 49, 50] [], .dr [36, 37, 38, 44, 45, 48, 49, 50] [], .free, .free, .free]) [
    ⟨some 11, .fad 1 (.t 5), none, true⟩,
    ⟨some 12, .load false 1 (.t 11), none, true⟩,
    ⟨some 13, .bin .geq (.t 12) (.c (.int .i64 0)), none, true⟩,
    ⟨some 14, .mv (.t 13), none, true⟩,
    ⟨some 15, .fad 1 (.t 5), some (14, true), true⟩,
    ⟨some 16, .load false 1 (.t 15), some (14, true), true⟩,
    ⟨some 17, .mv (.t 0), some (14, true), true⟩,
    ⟨some 18, .len 0 (.t 17), some (14, true), true⟩,
    ⟨some 19, .bin .lss (.t 16) (.t 18), some (14, true), true⟩,
    ⟨some 20, .pick (.t 14) (.t 19) (.c (.bool false)), none, true⟩,
    ⟨some 21, .mv (.t 20), none, true⟩,
    ⟨some 22, .fad 2 (.t 5), some (21, true), true⟩,
    ⟨some 23, .load false 1 (.t 22), some (21, true), true⟩,
    ⟨some 24, .bin .geq (.t 23) (.c (.int .i64 0)), some (21, true), true⟩,
    ⟨some 25, .pick (.t 21) (.t 24) (.c (.bool false)), none, true⟩,
    ⟨some 26, .mv (.t 25), none, true⟩,
    ⟨some 27, .fad 2 (.t 5), some (26, true), true⟩,
    ⟨some 28, .load false 1 (.t 27), some (26, true), true⟩,
    ⟨some 29, .mv (.t 1), some (26, true), true⟩,
    ⟨some 30, .len 0 (.t 29), some (26, true), true⟩,
    ⟨some 31, .bin .lss (.t 28) (.t 30), some (26, true), true⟩,
    ⟨some 32, .pick (.t 26) (.t 31) (.c (.bool false)), none, true⟩,
    ⟨some 33, .mv (.t 32), none, true⟩,
    ⟨some 34, .mv (.t 0), some (33, true), true⟩,
    ⟨some 35, .fad 1 (.t 5), some (33, true), true⟩,
    ⟨some 36, .load false 1 (.t 35), some (33, true), true⟩,
    ⟨some 37, .ias 2 (.t 34) (.t 36), some (33, true), true⟩,
    ⟨some 38, .load true 2 (.t 37), some (33, true), true⟩,
    ⟨some 39, .mv (.t 0), some (33, true), true⟩,
    ⟨some 40, .mv (.t 0), some (33, true), true⟩,
    ⟨some 41, .fad 1 (.t 5), some (33, true), true⟩,
    ⟨some 42, .load false 1 (.t 41), some (33, true), true⟩,
    ⟨some 43, .call 51 [.t 40, .t 42], some (33, true), true⟩,
    ⟨some 44, .ias 2 (.t 39) (.t 43), some (33, true), true⟩,
    ⟨some 45, .load true 2 (.t 44), some (33, true), true⟩,
    ⟨some 46, .mv (.t 1), some (33, true), true⟩,
    ⟨some 47, .fad 2 (.t 5), some (33, true), true⟩,
    ⟨some 48, .load false 1 (.t 47), some (33, true), true⟩,
    ⟨some 49, .ias 2 (.t 46) (.t 48), some (33, true), true⟩,
    ⟨some 50, .load true 2 (.t 49), some (33, true), true⟩,
    ⟨some 51, .mv (.t 1), some (33, true), true⟩,
    ⟨some 52, .mv (.t 1), some (33, true), true⟩,
    ⟨some 53, .fad 2 (.t 5), some (33, true), true⟩,
    ⟨some 54, .load false 1 (.t 53), some (33, true), true⟩,
    ⟨some 55, .call 51 [.t 52, .t 54], some (33, true), true⟩,
    ⟨some 56, .ias 2 (.t 51) (.t 55), some (33, true), true⟩,
    ⟨some 57, .load true 2 (.t 56), some (33, true), true⟩,
    ⟨some 58, .call 50 [.t 38, .t 45, .t 50, .t 57], some (33, true), true⟩,
    ⟨some 59, .pick (.t 33) (.t 58) (.c (.bool false)), none, true⟩,
    ⟨some 6, .as (.t 59), none, true⟩] (some [6]) [5]) (
  .ret))) (
  (.seq (
  .reg none [
    ⟨some 61, .bin .eql (.t 8) (.c (.int .i64 2)), none, true⟩,
    ⟨some 60, .as (.t 61), none, true⟩] (some [0, 1, 5, 8, 60]) []) (
  (.cond (.t 60) (
    (.seq (
    .reg none [
      ⟨some 62, .fad 1 (.t 5), none, true⟩,
      ⟨some 63, .load false 1 (.t 62), none, true⟩,
      ⟨some 64, .bin .geq (.t 63) (.c (.int .i64 0)), none, true⟩,
      ⟨some 65, .mv (.t 64), none, true⟩,
      ⟨some 66, .fad 1 (.t 5), some (65, true), true⟩,
      ⟨some 67, .load false 1 (.t 66), some (65, true), true⟩,
      ⟨some 68, .mv (.t 0), some (65, true), true⟩,
      ⟨some 69, .len 0 (.t 68), some (65, true), true⟩,
      ⟨some 70, .bin .lss (.t 67) (.t 69), some (65, true), true⟩,
      ⟨some 71, .pick (.t 65) (.t 70) (.c (.bool false)), none, true⟩,
      ⟨some 72, .mv (.t 71), none, true⟩,
      ⟨some 73, .fad 2 (.t 5), some (72, true), true⟩,
      ⟨some 74, .load false 1 (.t 73), some (72, true), true⟩,
      ⟨some 75, .bin .eql (.t 74) (.c (.int .i64 0)), some (72, true), true⟩,
      ⟨some 76, .pick (.t 72) (.t 75) (.c (.bool false)), none, true⟩,
      ⟨some 77, .mv (.t 76), none, true⟩,
      ⟨some 78, .mv (.t 1), some (77, true), true⟩,
      ⟨some 79, .mv (.t 0), some (77, true), true⟩,
      ⟨some 80, .fad 1 (.t 5), some (77, true), true⟩,
      ⟨some 81, .load false 1 (.t 80), some (77, true), true⟩,
      ⟨some 82, .ias 2 (.t 79) (.t 81), some (77, true), true⟩,
      ⟨some 83, .load true 2 (.t 82), some (77, true), true⟩,
      ⟨some 84, .call 52 [.t 78, .t 83], some (77, true), true⟩,
      ⟨some 85, .bin .geq (.t 84) (.c (.int .i64 0)), some (77, true), true⟩,
      ⟨some 86, .pick (.t 77) (.t 85) (.c (.bool false)), none, true⟩,
      ⟨some 6, .as (.t 86), none, true⟩] (some [6]) [5]) (
    .ret))) (
    (.seq (
    .reg none [
      ⟨some 88, .bin .eql (.t 8) (.c (.int .i64 3)), none, true⟩,
      ⟨some 87, .as (.t 88), none, true⟩] (some [0, 1, 5, 87]) []) (
    (.cond (.t 87) (
      (.seq (
      .reg none [
        ⟨some 89, .fad 2 (.t 5), none, true⟩,
        ⟨some 90, .load false 1 (.t 89), none, true⟩,
        ⟨some 91, .bin .geq (.t 90) (.c (.int .i64 0)), none, true⟩,
        ⟨some 92, .mv (.t 91), none, true⟩,
        ⟨some 93, .fad 2 (.t 5), some (92, true), true⟩,
        ⟨some 94, .load false 1 (.t 93), some (92, true), true⟩,
        ⟨some 95, .mv (.t 1), some (92, true), true⟩,
        ⟨some 96, .len 0 (.t 95), some (92, true), true⟩,
        ⟨some 97, .bin .lss (.t 94) (.t 96), some (92, true), true⟩,
        ⟨some 98, .pick (.t 92) (.t 97) (.c (.bool false)), none, true⟩,
        ⟨some 99, .mv (.t 98), none, true⟩,
        ⟨some 100, .fad 1 (.t 5), some (99, true), true⟩,
        ⟨some 101, .load false 1 (.t 100), some (99, true), true⟩,
        ⟨some 102, .bin .eql (.t 101) (.c (.int .i64 0)), some (99, true), true⟩,
        ⟨some 103, .pick (.t 99) (.t 102) (.c (.bool false)), none, true⟩,
        ⟨some 104, .mv (.t 103), none, true⟩,
        ⟨some 105, .mv (.t 0), some (104, true), true⟩,
        ⟨some 106, .mv (.t 1), some (104, true), true⟩,
        ⟨some 107, .fad 2 (.t 5), some (104, true), true⟩,
        ⟨some 108, .load false 1 (.t 107), some (104, true), true⟩,
        ⟨some 109, .ias 2 (.t 106) (.t 108), some (104, true), true⟩,
        ⟨some 110, .load true 2 (.t 109), some (104, true), true⟩,
        ⟨some 111, .call 52 [.t 105, .t 110], some (104, true), true⟩,
        ⟨some 112, .bin .geq (.t 111) (.c (.int .i64 0)), some (104, true), true⟩,
        ⟨some 113, .pick (.t 104) (.t 112) (.c (.bool false)), none, true⟩,
        ⟨some 6, .as (.t 113), none, true⟩] (some [6]) [5]) (
      .ret))) (
      .skip))))))))))))) (some []) [6, 9, 43, 55, 58, 60, 84, 87, 111])))) (
(.seq (
.reg none [
  ⟨some 6, .as (.c (.bool false)), none, true⟩] (some [6]) []) (
.ret)))))))
def A24_L0b : ACode := 
    (.seq (
    (.seq (
    .reg none [
      ⟨some 11, .mv (.t 4), none, true⟩,
      ⟨some 12, .mv (.t 0), none, true⟩,
      ⟨some 13, .len 0 (.t 12), none, true⟩,
      ⟨some 14, .bin .lss (.t 11) (.t 13), none, true⟩] (some [0, 3, 4, 14]) []) (
    (.cond (.t 14) (
      .skip) (
      .exit 2))))) (
    (.seq (
    (.block 3 (
    (.seq (
    .reg (some [.dr [24, 25, 26, 29, 30] [], .dr [24, 25, 26, 29, 30] [], .dr [24, 25, 26, 29, 30] [], .dr [24, 25, 26, 29, 30] [], .dr [19, 20, 24, 29, 30] [], .dr [19, 20, 29, 30] [], .dr [19, 20, 29, 30] [], .dr [19, 20, 29, 30] [], .dr [19, 20, 29, 30] [], .dr [19, 20, 29, 30] [], .dr [19, 20, 24, 25, 26] [], .dr [19, 20, 24, 25, 26] [], .dr [19, 20, 24, 25, 26] [], .dr [19, 20, 24, 25, 26] [], .free, .free]) [
      ⟨some 17, .mv (.t 0), none, true⟩,
      ⟨some 18, .mv (.t 3), none, true⟩,
      ⟨some 19, .ias 2 (.t 17) (.t 18), none, true⟩,
      ⟨some 20, .load true 2 (.t 19), none, true⟩,
      ⟨some 21, .mv (.t 0), none, true⟩,
      ⟨some 22, .mv (.t 0), none, true⟩,
      ⟨some 23, .mv (.t 3), none, true⟩,
      ⟨some 24, .call 51 [.t 22, .t 23], none, true⟩,
      ⟨some 25, .ias 2 (.t 21) (.t 24), none, true⟩,
      ⟨some 26, .load true 2 (.t 25), none, true⟩,
      ⟨some 27, .mv (.t 0), none, true⟩,
      ⟨some 28, .mv (.t 4), none, true⟩,
      ⟨some 29, .ias 2 (.t 27) (.t 28), none, true⟩,
      ⟨some 30, .load true 2 (.t 29), none, true⟩,
      ⟨some 31, .call 53 [.t 20, .t 26, .t 30], none, true⟩,
      ⟨some 32, .bin .lss (.t 31) (.c (.int .i64 0)), none, true⟩] (some [0, 3, 4, 32]) []) (
    (.cond (.t 32) (
      (.seq (
      .reg none [
        ⟨some 2, .as (.c (.bool false)), none, true⟩] (some [2]) []) (
      .ret))) (
      .skip))))) (some [0, 3, 4]) [2, 24, 31])) (
    .reg none [
      ⟨some 15, .mv (.t 4), none, true⟩,
      ⟨some 16, .bin .add (.t 15) (.c (.int .i64 1)), none, true⟩,
      ⟨some 4, .as (.t 16), none, true⟩] (some [0, 3, 4]) []))))
def A24_L0 : ACode := .loop A24_L0b (some [0, 3, 4]) [2, 24, 31]
def A24_L1b : ACode := 
  (.seq (
  (.seq (
  .reg none [
    ⟨some 5, .mv (.t 3), none, true⟩,
    ⟨some 6, .mv (.t 0), none, true⟩,
    ⟨some 7, .len 0 (.t 6), none, true⟩,
    ⟨some 8, .bin .lss (.t 5) (.t 7), none, true⟩] (some [0, 3, 8]) []) (
  (.cond (.t 8) (
    .skip) (
    .exit 0))))) (
  (.seq (
  (.block 1 (
  (.seq (
  .reg none [
    ⟨some 4, .as (.c (.int .i64 0)), none, true⟩] (some [0, 3, 4]) []) (
  (.block 2 (
  A24_L0) (some [0, 3]) [2, 4, 24, 31])))) (some [0, 3]) [2, 4, 24, 31])) (
  .reg none [
    ⟨some 9, .mv (.t 3), none, true⟩,
    ⟨some 10, .bin .add (.t 9) (.c (.int .i64 1)), none, true⟩,
    ⟨some 3, .as (.t 10), none, true⟩] (some [0, 3]) []))))
def A24_L1 : ACode := .loop A24_L1b (some [0, 3]) [2, 4, 24, 31]
/-- ambidexter/ambidexterref05.Convex -/
def A24 : AFn := .code [.t 2] (
(.seq (
.reg none [
  ⟨some 2, .as (.c (.bool false)), none, true⟩] (some [0]) []) (
(.seq (
(.seq (
.reg none [
  ⟨some 3, .as (.c (.int .i64 0)), none, true⟩] (some [0, 3]) []) (
(.block 0 (
A24_L1) (some []) [2, 3, 4, 24, 31])))) (
(.seq (
.reg none [
  ⟨some 2, .as (.c (.bool true)), none, true⟩] (some [2]) []) (
.ret)))))))
def A25_R0a : ACode := 
    (.seq (
    .reg none [
      ⟨some 9, .as (.t 25), none, true⟩] (some [4, 5, 6, 8, 9, 26]) []) (
    .reg none [
      ⟨some 10, .alloc [.int .i64 0, .int .i64 0, .int .i64 0, .int .i64 0], none, true⟩,
      ⟨none, .store 4 (.t 10) (.t 26), none, true⟩] (some [4, 5, 6, 8, 9, 10]) []))
def A25_R0b : ACode := 
    (.block 3 (
    (.seq (
    .reg none [
      ⟨some 27, .load true 4 (.t 10), none, true⟩,
      ⟨some 28, .load false 1 (.t 8), none, true⟩,
      ⟨some 29, .call 48 [.t 27, .t 28], none, true⟩] (some [4, 5, 6, 9, 29]) [8, 10]) (
    (.cond (.t 29) (
      (.seq (
      .reg none [
        ⟨some 30, .load false 1 (.t 6), none, true⟩,
        ⟨some 31, .mv (.t 9), none, true⟩,
        ⟨some 32, .build [.int .i64 0, .int .i64 0] [(0, 1, .t 30), (1, 1, .t 31)], none, true⟩,
        ⟨none, .store 2 (.t 4) (.t 32), none, true⟩,
        ⟨none, .store 1 (.t 5) (.c (.bool true)), none, true⟩] (some []) [6]) (
      .ret))) (
      .skip))))) (some []) [29])
def A25_R0 : ACode := .rf 0 (.t 24) [25, 26]  A25_R0a A25_R0b
def A25_L1b : ACode := 
  (.seq (
  .reg none [
    ⟨some 15, .bin .lss (.t 14) (.c (.int .i64 2)), none, true⟩] (some [0, 1, 4, 5, 13, 14, 15]) []) (
  (.seq (
  (.cond (.t 15) (
    .skip) (
    .exit 0))) (
  (.seq (
  (.block 1 (
  (.seq (
  .reg none [
    ⟨some 16, .mv (.t 14), none, true⟩,
    ⟨some 17, .ixa false 2 1 (.t 13) (.t 14), none, true⟩,
    ⟨some 6, .alloc [.int .i64 0], none, true⟩,
    ⟨none, .store 1 (.t 6) (.t 16), none, true⟩,
    ⟨some 7, .as (.t 17), none, true⟩] (some [0, 1, 4, 5, 6, 7, 13, 14]) []) (
  (.seq (
  .reg none [
    ⟨some 18, .mv (.t 1), none, true⟩,
    ⟨some 19, .mv (.t 0), none, true⟩,
    ⟨some 20, .build [.nils 2, .nils 2] [(0, 1, .t 18), (1, 1, .t 19)], none, true⟩,
    ⟨some 21, .load false 1 (.t 6), none, true⟩,
    ⟨some 22, .ixa false 2 1 (.t 20) (.t 21), none, true⟩,
    ⟨some 8, .alloc [.nils 2], none, true⟩,
    ⟨none, .store 1 (.t 8) (.t 22), none, true⟩] (some [0, 1, 4, 5, 6, 7, 8, 13, 14]) []) (
  (.seq (
  .reg none [
    ⟨some 23, .mv (.t 7), none, true⟩,
    ⟨some 24, .call 45 [.t 23], none, true⟩] (some [0, 1, 4, 5, 6, 8, 13, 14, 24]) []) (
  (.block 2 (
  A25_R0) (some [0, 1, 4, 5, 13, 14]) [10, 29])))))))) (some [0, 1, 4, 5, 13, 14]) [6, 7, 8, 10, 24, 29])) (
  .reg none [
    ⟨some 33, .bin .add (.t 14) (.c (.int .i64 1)), none, true⟩,
    ⟨some 14, .mv (.t 33), none, true⟩] (some [0, 1, 4, 5, 13, 14]) []))))))
def A25_L1 : ACode := .loop A25_L1b (some [0, 1, 4, 5, 13, 14]) [6, 7, 8, 10, 24, 29]
/-- ambidexter/intersect.SeparatingEdge -/
def A25 : AFn := .code [.cell true 2 4, .cell false 1 5] (
(.seq (
.reg none [
  ⟨some 4, .alloc [.int .i64 0, .int .i64 0], none, true⟩,
  ⟨some 5, .alloc [.bool false], none, true⟩] (some [0, 1, 4, 5]) []) (
(.seq (
(.seq (
.reg none [
  ⟨some 11, .mv (.t 0), none, true⟩,
  ⟨some 12, .mv (.t 1), none, true⟩,
  ⟨some 13, .build [.nils 2, .nils 2] [(0, 1, .t 11), (1, 1, .t 12)], none, true⟩,
  ⟨some 14, .mv (.c (.int .i64 0)), none, true⟩] (some [0, 1, 4, 5, 13, 14]) []) (
(.block 0 (
A25_L1) (some [4, 5]) [6, 7, 8, 10, 24, 29])))) (
(.seq (
.reg none [
  ⟨some 34, .build [.int .i64 0, .int .i64 0] [], none, true⟩,
  ⟨none, .store 2 (.t 4) (.t 34), none, true⟩,
  ⟨none, .store 1 (.t 5) (.c (.bool false)), none, true⟩] (some [4, 5]) []) (
.ret)))))))
def A26_L0b : ACode := 
  (.seq (
  (.seq (
  .reg none [
    ⟨some 20, .mv (.t 7), none, true⟩,
    ⟨some 21, .mv (.t 1), none, true⟩,
    ⟨some 22, .len 0 (.t 21), none, true⟩,
    ⟨some 23, .bin .lss (.t 20) (.t 22), none, true⟩] (some [0, 1, 4, 7, 23]) []) (
  (.cond (.t 23) (
    .skip) (
    .exit 2))))) (
  (.seq (
  (.block 3 (
  (.seq (
  .reg none [
    ⟨some 26, .mv (.t 1), none, true⟩,
    ⟨some 27, .mv (.t 7), none, true⟩,
    ⟨some 28, .mv (.t 0), none, true⟩,
    ⟨some 29, .call 49 [.t 26, .t 27, .t 28], none, true⟩] (some [0, 1, 4, 7, 29]) []) (
  (.cond (.t 29) (
    (.seq (
    .reg none [
      ⟨some 30, .mv (.t 7), none, true⟩,
      ⟨some 31, .build [.int .i64 0, .int .i64 0] [(0, 1, .c (.int .i64 1)), (1, 1, .t 30)], none, true⟩,
      ⟨none, .store 2 (.t 4) (.t 31), none, true⟩,
      ⟨some 5, .as (.c (.bool true)), none, true⟩] (some [4, 5]) []) (
    .ret))) (
    .skip))))) (some [0, 1, 4, 7]) [5, 29])) (
  .reg none [
    ⟨some 24, .mv (.t 7), none, true⟩,
    ⟨some 25, .bin .add (.t 24) (.c (.int .i64 1)), none, true⟩,
    ⟨some 7, .as (.t 25), none, true⟩] (some [0, 1, 4, 7]) []))))
def A26_L0 : ACode := .loop A26_L0b (some [0, 1, 4, 7]) [5, 29]
def A26_L1b : ACode := 
  (.seq (
  (.seq (
  .reg none [
    ⟨some 8, .mv (.t 6), none, true⟩,
    ⟨some 9, .mv (.t 0), none, true⟩,
    ⟨some 10, .len 0 (.t 9), none, true⟩,
    ⟨some 11, .bin .lss (.t 8) (.t 10), none, true⟩] (some [0, 1, 4, 6, 11]) []) (
  (.cond (.t 11) (
    .skip) (
    .exit 0))))) (
  (.seq (
  (.block 1 (
  (.seq (
  .reg none [
    ⟨some 14, .mv (.t 0), none, true⟩,
    ⟨some 15, .mv (.t 6), none, true⟩,
    ⟨some 16, .mv (.t 1), none, true⟩,
    ⟨some 17, .call 49 [.t 14, .t 15, .t 16], none, true⟩] (some [0, 1, 4, 6, 17]) []) (
  (.cond (.t 17) (
    (.seq (
    .reg none [
      ⟨some 18, .mv (.t 6), none, true⟩,
      ⟨some 19, .build [.int .i64 0, .int .i64 0] [(1, 1, .t 18)], none, true⟩,
      ⟨none, .store 2 (.t 4) (.t 19), none, true⟩,
      ⟨some 5, .as (.c (.bool true)), none, true⟩] (some [4, 5]) []) (
    .ret))) (
    .skip))))) (some [0, 1, 4, 6]) [5, 17])) (
  .reg none [
    ⟨some 12, .mv (.t 6), none, true⟩,
    ⟨some 13, .bin .add (.t 12) (.c (.int .i64 1)), none, true⟩,
    ⟨some 6, .as (.t 13), none, true⟩] (some [0, 1, 4, 6]) []))))
def A26_L1 : ACode := .loop A26_L1b (some [0, 1, 4, 6]) [5, 17]
/-- ambidexter/ambidexterref05.Apart -/
def A26 : AFn := .code [.cell true 2 4, .t 5] (
(.seq (
.reg none [
  ⟨some 4, .alloc [.int .i64 0, .int .i64 0], none, true⟩,
  ⟨some 5, .as (.c (.bool false)), none, true⟩] (some [0, 1, 4]) []) (
(.seq (
(.seq (
.reg none [
  ⟨some 6, .as (.c (.int .i64 0)), none, true⟩] (some [0, 1, 4, 6]) []) (
(.block 0 (
A26_L1) (some [0, 1, 4]) [5, 17])))) (
(.seq (
(.seq (
.reg none [
  ⟨some 7, .as (.c (.int .i64 0)), none, true⟩] (some [0, 1, 4, 7]) []) (
(.block 2 (
A26_L0) (some [4]) [5, 29])))) (
(.seq (
.reg none [
  ⟨some 32, .build [.int .i64 0, .int .i64 0] [], none, true⟩,
  ⟨none, .store 2 (.t 4) (.t 32), none, true⟩,
  ⟨some 5, .as (.c (.bool false)), none, true⟩] (some [4, 5]) []) (
.ret)))))))))
/-- ambidexter/geom.SegmentsIntersect -/
def A27 : AFn := .code [.t 8] (
(.seq (
.reg none [
  ⟨some 4, .box (.t 0), none, true⟩,
  ⟨some 5, .box (.t 1), none, true⟩,
  ⟨some 6, .box (.t 2), none, true⟩,
  ⟨some 7, .box (.t 3), none, true⟩,
  ⟨some 8, .as (.c (.bool false)), none, true⟩] (some [4, 5, 6, 7]) []) (
(.seq (
.reg none [
  ⟨some 9, .as (.fu 54), none, true⟩] (some [4, 5, 6, 7, 9]) []) (
(.seq (
.reg none [
  ⟨some 15, .mv (.t 9), none, true⟩,
  ⟨some 16, .load true 2 (.t 4), none, true⟩,
  ⟨some 17, .load true 2 (.t 5), none, true⟩,
  ⟨some 18, .load true 2 (.t 6), none, true⟩,
  ⟨some 19, .load true 2 (.t 7), none, true⟩,
  ⟨some 20, .cal (.t 15) [.t 16, .t 17, .t 18, .t 19], none, true⟩,
  ⟨some 14, .mv (.t 20), none, true⟩,
  ⟨some 21, .ext (.t 14) 0, none, true⟩,
  ⟨some 22, .ext (.t 14) 1, none, true⟩,
  ⟨some 10, .as (.t 21), none, true⟩,
  ⟨some 11, .as (.t 22), none, true⟩] (some [4, 5, 6, 7, 9, 10, 11]) []) (
(.seq (
.reg none [
  ⟨some 24, .mv (.t 9), none, true⟩,
  ⟨some 25, .load true 2 (.t 6), none, true⟩,
  ⟨some 26, .load true 2 (.t 7), none, true⟩,
  ⟨some 27, .load true 2 (.t 4), none, true⟩,
  ⟨some 28, .load true 2 (.t 5), none, true⟩,
  ⟨some 29, .cal (.t 24) [.t 25, .t 26, .t 27, .t 28], none, true⟩,
  ⟨some 23, .mv (.t 29), none, true⟩,
  ⟨some 30, .ext (.t 23) 0, none, true⟩,
  ⟨some 31, .ext (.t 23) 1, none, true⟩,
  ⟨some 12, .as (.t 30), none, true⟩,
  ⟨some 13, .as (.t 31), none, true⟩] (some [10, 11, 12, 13]) [4, 5, 6, 7]) (
(.seq (
.reg none [
  ⟨some 32, .mv (.t 10), none, true⟩,
  ⟨some 33, .mv (.t 32), none, true⟩,
  ⟨some 34, .mv (.t 12), some (33, true), true⟩,
  ⟨some 35, .pick (.t 33) (.t 34) (.c (.bool false)), none, true⟩,
  ⟨some 36, .mv (.t 35), none, true⟩,
  ⟨some 37, .mv (.t 11), some (36, false), true⟩,
  ⟨some 38, .pick (.t 36) (.c (.bool true)) (.t 37), none, true⟩,
  ⟨some 39, .mv (.t 38), none, true⟩,
  ⟨some 40, .mv (.t 13), some (39, false), true⟩,
  ⟨some 41, .pick (.t 39) (.c (.bool true)) (.t 40), none, true⟩,
  ⟨some 8, .as (.t 41), none, true⟩] (some [8]) []) (
.ret)))))))))))
def A28_R0a : ACode := 
  .reg none [
    ⟨some 7, .alloc [.int .i64 0, .int .i64 0, .int .i64 0, .int .i64 0], none, true⟩,
    ⟨none, .store 4 (.t 7) (.t 13), none, true⟩] (some [3, 4, 5, 7]) []
def A28_R0b : ACode := 
  (.block 1 (
  (.seq (
  .reg (some [.dr [17, 8, 9] [], .dr [17, 8, 9] [], .dr [15, 8, 9] [], .dr [15, 8, 9] [], .dr [15, 17, 9] [], .dr [15, 17, 8] [], .dr [17] [8], .free]) [
    ⟨some 14, .iaa 2 2 (.t 7) (.c (.int .i64 0)), none, true⟩,
    ⟨some 15, .load true 2 (.t 14), none, true⟩,
    ⟨some 16, .iaa 2 2 (.t 7) (.c (.int .i64 1)), none, true⟩,
    ⟨some 17, .load true 2 (.t 16), none, true⟩,
    ⟨some 8, .alloc [.int .i64 0, .int .i64 0], none, true⟩,
    ⟨some 9, .alloc [.int .i64 0, .int .i64 0], none, true⟩,
    ⟨none, .store 2 (.t 8) (.t 15), none, true⟩,
    ⟨none, .store 2 (.t 9) (.t 17), none, true⟩] (some [3, 4, 5, 8, 9]) [7]) (
  (.seq (
  (.seq (
  .reg none [
    ⟨some 18, .load true 2 (.t 8), none, true⟩,
    ⟨some 19, .load true 2 (.t 9), none, true⟩,
    ⟨some 20, .load true 2 (.t 3), none, true⟩,
    ⟨some 21, .call 58 [.t 18, .t 19, .t 20], none, true⟩] (some [3, 4, 5, 8, 9, 21]) []) (
  (.cond (.t 21) (
    (.seq (
    .reg none [
      ⟨none, .store 1 (.t 4) (.c (.int .i64 0)), none, true⟩] (some []) []) (
    .ret))) (
    .skip))))) (
  (.seq (
  (.seq (
  .reg none [
    ⟨some 22, .fad 1 (.t 8), none, true⟩,
    ⟨some 23, .load false 1 (.t 22), none, true⟩,
    ⟨some 24, .fad 1 (.t 3), none, true⟩,
    ⟨some 25, .load false 1 (.t 24), none, true⟩,
    ⟨some 26, .bin .gtr (.t 23) (.t 25), none, true⟩,
    ⟨some 27, .fad 1 (.t 9), none, true⟩,
    ⟨some 28, .load false 1 (.t 27), none, true⟩,
    ⟨some 29, .fad 1 (.t 3), none, true⟩,
    ⟨some 30, .load false 1 (.t 29), none, true⟩,
    ⟨some 31, .bin .gtr (.t 28) (.t 30), none, true⟩,
    ⟨some 32, .bib false (.t 26) (.t 31), none, true⟩] (some [3, 5, 8, 9, 32]) []) (
  (.cond (.t 32) (
    .exit 1) (
    .skip))))) (
  (.seq (
  .reg (some [.dr [34, 35, 39, 41] [], .dr [33, 35, 39, 41] [], .dr [33, 34, 39, 41] [], .dr [39, 41] [], .dr [39, 41] [], .dr [33, 34, 35, 36, 41] [], .dr [33, 34, 35, 36, 41] [], .dr [33, 34, 35, 36, 39] [], .dr [33, 34, 35, 36, 39] [], .dr [33, 34, 35, 36] [], .free]) [
    ⟨some 33, .load true 2 (.t 8), none, true⟩,
    ⟨some 34, .load true 2 (.t 9), none, true⟩,
    ⟨some 35, .load true 2 (.t 3), none, true⟩,
    ⟨some 36, .call 55 [.t 33, .t 34, .t 35], none, true⟩,
    ⟨some 37, .bin .gtr (.t 36) (.c (.int .i64 0)), none, true⟩,
    ⟨some 38, .fad 1 (.t 9), none, true⟩,
    ⟨some 39, .load false 1 (.t 38), none, true⟩,
    ⟨some 40, .fad 1 (.t 8), none, true⟩,
    ⟨some 41, .load false 1 (.t 40), none, true⟩,
    ⟨some 42, .bin .gtr (.t 39) (.t 41), none, true⟩,
    ⟨some 43, .bib false (.t 37) (.t 42), none, true⟩] (some [5, 43]) [3, 8, 9]) (
  (.cond (.t 43) (
    .reg none [
      ⟨some 44, .load false 1 (.t 5), none, true⟩,
      ⟨some 45, .un .not (.t 44), none, true⟩,
      ⟨none, .store 1 (.t 5) (.t 45), none, true⟩] (some []) [5]) (
    .skip))))))))))) (some []) [8, 9, 21, 36])
def A28_R0 : ACode := .rf 0 (.t 11) [12, 13]  A28_R0a A28_R0b
/-- ambidexter/polygon.Locate -/
def A28 : AFn := .code [.cell false 1 4] (
(.seq (
.reg none [
  ⟨some 3, .box (.t 1), none, true⟩,
  ⟨some 4, .alloc [.int .i64 0], none, true⟩] (some [0, 3, 4]) []) (
(.seq (
.reg none [
  ⟨some 5, .alloc [.bool false], none, true⟩,
  ⟨none, .store 1 (.t 5) (.c (.bool false)), none, true⟩] (some [0, 3, 4, 5]) []) (
(.seq (
(.seq (
.reg none [
  ⟨some 10, .mv (.t 0), none, true⟩,
  ⟨some 11, .call 57 [.t 10], none, true⟩] (some [3, 4, 5, 11]) []) (
(.block 0 (
A28_R0) (some [4, 5]) [7, 8, 9, 21, 36])))) (
(.seq (
(.seq (
.reg none [
  ⟨some 46, .load false 1 (.t 5), none, true⟩] (some [4, 46]) [5]) (
(.cond (.t 46) (
  (.seq (
  .reg none [
    ⟨none, .store 1 (.t 4) (.c (.int .i64 1)), none, true⟩] (some [4]) []) (
  .ret))) (
  .skip))))) (
(.seq (
.reg none [
  ⟨none, .store 1 (.t 4) (.c (.int .i64 (-1))), none, true⟩] (some [4]) []) (
.ret)))))))))))
def A29_L0b : ACode := 
  (.seq (
  (.seq (
  .reg none [
    ⟨some 8, .mv (.t 6), none, true⟩,
    ⟨some 9, .mv (.t 0), none, true⟩,
    ⟨some 10, .len 0 (.t 9), none, true⟩,
    ⟨some 11, .bin .lss (.t 8) (.t 10), none, true⟩] (some [0, 3, 5, 6, 11]) []) (
  (.cond (.t 11) (
    .skip) (
    .exit 0))))) (
  (.seq (
  (.block 1 (
  .reg (some [.dr [17, 19, 21, 25, 27, 29, 32] [], .dr [21, 25, 27, 29] [], .dr [21, 25, 27, 29] [], .dr [21, 25, 27, 29] [], .dr [21, 25, 27, 29] [], .dr [21, 25, 27, 29] [], .dr [17, 19, 25, 27, 29] [], .dr [17, 19, 25, 27, 29] [], .dr [25, 27, 29] [], .dr [17, 19, 21, 29] [], .dr [17, 19, 21, 29] [], .dr [17, 19, 21, 29] [], .dr [17, 19, 21, 29] [], .dr [17, 19, 21, 29] [], .dr [17, 19, 21, 25, 27] [], .dr [17, 19, 21, 25, 27] [], .dr [17, 19, 21] [], .dr [] [], .dr [] [], .free, .free]) [
    ⟨some 14, .mv (.t 5), none, true⟩,
    ⟨some 15, .mv (.t 0), none, true⟩,
    ⟨some 16, .mv (.t 6), none, true⟩,
    ⟨some 17, .ias 2 (.t 15) (.t 16), none, true⟩,
    ⟨some 18, .fad 0 (.t 17), none, true⟩,
    ⟨some 19, .load false 1 (.t 18), none, true⟩,
    ⟨some 20, .fad 0 (.t 3), none, true⟩,
    ⟨some 21, .load false 1 (.t 20), none, true⟩,
    ⟨some 22, .bin .add (.t 19) (.t 21), none, true⟩,
    ⟨some 23, .mv (.t 0), none, true⟩,
    ⟨some 24, .mv (.t 6), none, true⟩,
    ⟨some 25, .ias 2 (.t 23) (.t 24), none, true⟩,
    ⟨some 26, .fad 1 (.t 25), none, true⟩,
    ⟨some 27, .load false 1 (.t 26), none, true⟩,
    ⟨some 28, .fad 1 (.t 3), none, true⟩,
    ⟨some 29, .load false 1 (.t 28), none, true⟩,
    ⟨some 30, .bin .add (.t 27) (.t 29), none, true⟩,
    ⟨some 31, .build [.int .i64 0, .int .i64 0] [(0, 1, .t 22), (1, 1, .t 30)], none, true⟩,
    ⟨some 32, .bsl 2 1 [.int .i64 0, .int .i64 0] [(0, .t 31)], none, true⟩,
    ⟨some 33, .app 2 (.t 14) (.t 32), none, true⟩,
    ⟨some 5, .as (.t 33), none, true⟩] (some [0, 3, 5, 6]) []) (some [0, 3, 5, 6]) [32])) (
  .reg none [
    ⟨some 12, .mv (.t 6), none, true⟩,
    ⟨some 13, .bin .add (.t 12) (.c (.int .i64 1)), none, true⟩,
    ⟨some 6, .as (.t 13), none, true⟩] (some [0, 3, 5, 6]) []))))
def A29_L0 : ACode := .loop A29_L0b (some [0, 3, 5, 6]) [32]
/-- ambidexter/ambidexterref03.Move -/
def A29 : AFn := .code [.t 4] (
(.seq (
.reg none [
  ⟨some 3, .box (.t 1), none, true⟩,
  ⟨some 4, .as (.c (.nils 2)), none, true⟩] (some [0, 3]) []) (
(.seq (
.reg none [
  ⟨some 7, .bsl 2 0 [.int .i64 0, .int .i64 0] [], none, true⟩,
  ⟨some 5, .as (.t 7), none, true⟩] (some [0, 3, 5]) []) (
(.seq (
(.seq (
.reg none [
  ⟨some 6, .as (.c (.int .i64 0)), none, true⟩] (some [0, 3, 5, 6]) []) (
(.block 0 (
A29_L0) (some [5]) [6, 32])))) (
(.seq (
.reg none [
  ⟨some 34, .mv (.t 5), none, true⟩,
  ⟨some 4, .as (.t 34), none, true⟩] (some [4]) []) (
.ret)))))))))
def A30_L0b : ACode := 
    (.seq (
    (.seq (
    .reg none [
      ⟨some 46, .mv (.t 6), none, true⟩,
      ⟨some 47, .mv (.t 3), none, true⟩,
      ⟨some 48, .bin .lss (.t 46) (.t 47), none, true⟩] (some [0, 3, 5, 6, 48]) []) (
    (.cond (.t 48) (
      .skip) (
      .exit 4))))) (
    (.seq (
    (.block 5 (
    (.seq (
    .reg none [
      ⟨some 51, .mv (.t 5), none, true⟩,
      ⟨some 52, .bin .neq (.t 51) (.c (.int .i64 0)), none, true⟩,
      ⟨some 53, .mv (.t 52), none, true⟩,
      ⟨some 54, .mv (.t 6), some (53, false), true⟩,
      ⟨some 55, .mv (.t 3), some (53, false), true⟩,
      ⟨some 56, .bin .sub (.t 55) (.c (.int .i64 1)), some (53, false), true⟩,
      ⟨some 57, .bin .neq (.t 54) (.t 56), some (53, false), true⟩,
      ⟨some 58, .pick (.t 53) (.c (.bool true)) (.t 57), none, true⟩,
      ⟨some 59, .mv (.t 58), none, true⟩,
      ⟨some 60, .mv (.t 0), some (59, true), true⟩,
      ⟨some 61, .mv (.t 5), some (59, true), true⟩,
      ⟨some 62, .call 60 [.t 60, .t 61], some (59, true), true⟩,
      ⟨some 63, .mv (.t 0), some (59, true), true⟩,
      ⟨some 64, .mv (.t 5), some (59, true), true⟩,
      ⟨some 65, .bin .add (.t 64) (.c (.int .i64 1)), some (59, true), true⟩,
      ⟨some 66, .call 60 [.t 63, .t 65], some (59, true), true⟩,
      ⟨some 67, .mv (.t 0), some (59, true), true⟩,
      ⟨some 68, .mv (.t 6), some (59, true), true⟩,
      ⟨some 69, .call 60 [.t 67, .t 68], some (59, true), true⟩,
      ⟨some 70, .mv (.t 0), some (59, true), true⟩,
      ⟨some 71, .mv (.t 6), some (59, true), true⟩,
      ⟨some 72, .bin .add (.t 71) (.c (.int .i64 1)), some (59, true), true⟩,
      ⟨some 73, .call 60 [.t 70, .t 72], some (59, true), true⟩,
      ⟨some 74, .call 61 [.t 62, .t 66, .t 69, .t 73], some (59, true), true⟩,
      ⟨some 75, .pick (.t 59) (.t 74) (.c (.bool false)), none, true⟩] (some [0, 3, 5, 6, 75]) []) (
    (.cond (.t 75) (
      (.seq (
      .reg none [
        ⟨some 2, .as (.c (.bool false)), none, true⟩] (some [2]) []) (
      .ret))) (
      .skip))))) (some [0, 3, 5, 6]) [2, 62, 66, 69, 73, 74])) (
    .reg none [
      ⟨some 49, .mv (.t 6), none, true⟩,
      ⟨some 50, .bin .add (.t 49) (.c (.int .i64 1)), none, true⟩,
      ⟨some 6, .as (.t 50), none, true⟩] (some [0, 3, 5, 6]) []))))
def A30_L0 : ACode := .loop A30_L0b (some [0, 3, 5, 6]) [2, 62, 66, 69, 73, 74]
def A30_L1b : ACode := 
  (.seq (
  (.seq (
  .reg none [
    ⟨some 26, .mv (.t 5), none, true⟩,
    ⟨some 27, .mv (.t 3), none, true⟩,
    ⟨some 28, .bin .lss (.t 26) (.t 27), none, true⟩] (some [0, 3, 5, 28]) []) (
  (.cond (.t 28) (
    .skip) (
    .exit 2))))) (
  (.seq (
  (.block 3 (
  (.seq (
  (.seq (
  .reg none [
    ⟨some 31, .mv (.t 0), none, true⟩,
    ⟨some 32, .mv (.t 5), none, true⟩,
    ⟨some 33, .call 60 [.t 31, .t 32], none, true⟩,
    ⟨some 34, .mv (.t 0), none, true⟩,
    ⟨some 35, .mv (.t 5), none, true⟩,
    ⟨some 36, .bin .add (.t 35) (.c (.int .i64 1)), none, true⟩,
    ⟨some 37, .call 60 [.t 34, .t 36], none, true⟩,
    ⟨some 38, .mv (.t 0), none, true⟩,
    ⟨some 39, .mv (.t 5), none, true⟩,
    ⟨some 40, .bin .add (.t 39) (.c (.int .i64 2)), none, true⟩,
    ⟨some 41, .call 60 [.t 38, .t 40], none, true⟩,
    ⟨some 42, .call 59 [.t 33, .t 37, .t 41], none, true⟩,
    ⟨some 43, .bin .eql (.t 42) (.c (.int .i64 0)), none, true⟩] (some [0, 3, 5, 43]) []) (
  (.cond (.t 43) (
    (.seq (
    .reg none [
      ⟨some 2, .as (.c (.bool false)), none, true⟩] (some [2]) []) (
    .ret))) (
    .skip))))) (
  (.seq (
  .reg none [
    ⟨some 44, .mv (.t 5), none, true⟩,
    ⟨some 45, .bin .add (.t 44) (.c (.int .i64 2)), none, true⟩,
    ⟨some 6, .as (.t 45), none, true⟩] (some [0, 3, 5, 6]) []) (
  (.block 4 (
  A30_L0) (some [0, 3, 5]) [2, 6, 62, 66, 69, 73, 74])))))) (some [0, 3, 5]) [2, 6, 33, 37, 41, 42, 62, 66, 69, 73, 74])) (
  .reg none [
    ⟨some 29, .mv (.t 5), none, true⟩,
    ⟨some 30, .bin .add (.t 29) (.c (.int .i64 1)), none, true⟩,
    ⟨some 5, .as (.t 30), none, true⟩] (some [0, 3, 5]) []))))
def A30_L1 : ACode := .loop A30_L1b (some [0, 3, 5]) [2, 6, 33, 37, 41, 42, 62, 66, 69, 73, 74]
def A30_L2b : ACode := 
  (.seq (
  (.seq (
  .reg none [
    ⟨some 15, .mv (.t 4), none, true⟩,
    ⟨some 16, .mv (.t 3), none, true⟩,
    ⟨some 17, .bin .lss (.t 15) (.t 16), none, true⟩] (some [0, 3, 4, 17]) []) (
  (.cond (.t 17) (
    .skip) (
    .exit 0))))) (
  (.seq (
  (.block 1 (
  (.seq (
  .reg none [
    ⟨some 20, .mv (.t 0), none, true⟩,
    ⟨some 21, .mv (.t 4), none, true⟩,
    ⟨some 22, .ias 2 (.t 20) (.t 21), none, true⟩,
    ⟨some 23, .load true 2 (.t 22), none, true⟩,
    ⟨some 24, .call 33 [.t 23], none, true⟩,
    ⟨some 25, .un .not (.t 24), none, true⟩] (some [0, 3, 4, 25]) []) (
  (.cond (.t 25) (
    (.seq (
    .reg none [
      ⟨some 2, .as (.c (.bool false)), none, true⟩] (some [2]) []) (
    .ret))) (
    .skip))))) (some [0, 3, 4]) [2, 24])) (
  .reg none [
    ⟨some 18, .mv (.t 4), none, true⟩,
    ⟨some 19, .bin .add (.t 18) (.c (.int .i64 1)), none, true⟩,
    ⟨some 4, .as (.t 19), none, true⟩] (some [0, 3, 4]) []))))
def A30_L2 : ACode := .loop A30_L2b (some [0, 3, 4]) [2, 24]
/-- ambidexter/ambidexterref03.Right -/
def A30 : AFn := .code [.t 2] (
(.seq (
.reg none [
  ⟨some 2, .as (.c (.bool false)), none, true⟩] (some [0]) []) (
(.seq (
.reg none [
  ⟨some 7, .mv (.t 0), none, true⟩,
  ⟨some 8, .len 0 (.t 7), none, true⟩,
  ⟨some 3, .as (.t 8), none, true⟩] (some [0, 3]) []) (
(.seq (
(.seq (
.reg none [
  ⟨some 9, .mv (.t 3), none, true⟩,
  ⟨some 10, .bin .lss (.t 9) (.c (.int .i64 3)), none, true⟩,
  ⟨some 11, .mv (.t 10), none, true⟩,
  ⟨some 12, .mv (.t 3), some (11, false), true⟩,
  ⟨some 13, .bin .gtr (.t 12) (.c (.int .i64 12)), some (11, false), true⟩,
  ⟨some 14, .pick (.t 11) (.c (.bool true)) (.t 13), none, true⟩] (some [0, 3, 14]) []) (
(.cond (.t 14) (
  (.seq (
  .reg none [
    ⟨some 2, .as (.c (.bool false)), none, true⟩] (some [2]) []) (
  .ret))) (
  .skip))))) (
(.seq (
(.seq (
.reg none [
  ⟨some 4, .as (.c (.int .i64 0)), none, true⟩] (some [0, 3, 4]) []) (
(.block 0 (
A30_L2) (some [0, 3]) [2, 4, 24])))) (
(.seq (
(.seq (
.reg none [
  ⟨some 5, .as (.c (.int .i64 0)), none, true⟩] (some [0, 3, 5]) []) (
(.block 2 (
A30_L1) (some [0]) [2, 5, 6, 33, 37, 41, 42, 62, 66, 69, 73, 74])))) (
(.seq (
.reg none [
  ⟨some 76, .mv (.t 0), none, true⟩,
  ⟨some 77, .call 62 [.t 76], none, true⟩,
  ⟨some 78, .bin .gtr (.t 77) (.c (.int .i64 0)), none, true⟩,
  ⟨some 2, .as (.t 78), none, true⟩] (some [2]) []) (
.ret)))))))))))))
/-- ambidexter/ambidexterlaw03.head -/
def A31 : AFn := .code [.t 0] (
(.seq (
.reg none [
  ⟨some 0, .as (.c (.bool false)), none, true⟩] (some []) []) (
(.seq (
.reg none [
  ⟨some 6, .call 63 [], none, true⟩,
  ⟨some 1, .as (.t 6), none, true⟩] (some [1]) []) (
(.seq (
.reg none [
  ⟨some 8, .build [.int .i64 0, .int .i64 0] [(0, 1, .c (.int .i64 65)), (1, 1, .c (.int .i64 0))], none, true⟩,
  ⟨some 9, .build [.int .i64 0, .int .i64 0] [(0, 1, .c (.int .i64 0)), (1, 1, .c (.int .i64 65))], none, true⟩,
  ⟨some 10, .bsl 2 2 [.int .i64 0, .int .i64 0] [(0, .t 8), (1, .t 9)], none, true⟩,
  ⟨some 11, .call 43 [.t 10, .c (.int .i64 1)], none, true⟩,
  ⟨some 7, .mv (.t 11), none, true⟩,
  ⟨some 12, .ext (.t 7) 0, none, true⟩,
  ⟨some 13, .ext (.t 7) 1, none, true⟩,
  ⟨some 2, .as (.t 12), none, true⟩,
  ⟨some 3, .as (.t 13), none, true⟩] (some [1, 2, 3]) []) (
(.seq (
.reg none [
  ⟨some 15, .mv (.t 1), none, true⟩,
  ⟨some 16, .call 43 [.t 15, .c (.int .i64 1)], none, true⟩,
  ⟨some 14, .mv (.t 16), none, true⟩,
  ⟨some 17, .ext (.t 14) 0, none, true⟩,
  ⟨some 18, .ext (.t 14) 1, none, true⟩,
  ⟨some 4, .as (.t 17), none, true⟩,
  ⟨some 5, .as (.t 18), none, true⟩] (some [1, 2, 3, 5]) []) (
(.seq (
(.seq (
.reg none [
  ⟨some 19, .mv (.t 3), none, true⟩,
  ⟨some 20, .un .not (.t 19), none, true⟩,
  ⟨some 21, .mv (.t 20), none, true⟩,
  ⟨some 22, .mv (.t 2), some (21, false), true⟩,
  ⟨some 23, .len 0 (.t 22), some (21, false), true⟩,
  ⟨some 24, .bin .neq (.t 23) (.c (.int .i64 2)), some (21, false), true⟩,
  ⟨some 25, .pick (.t 21) (.c (.bool true)) (.t 24), none, true⟩] (some [1, 2, 5, 25]) []) (
(.cond (.t 25) (
  (.seq (
  .reg none [
    ⟨some 0, .as (.c (.bool false)), none, true⟩] (some [0]) []) (
  .ret))) (
  .skip))))) (
(.seq (
.reg none [
  ⟨some 26, .mv (.t 1), none, true⟩,
  ⟨some 27, .call 36 [.t 26], none, true⟩,
  ⟨some 28, .mv (.t 27), none, true⟩,
  ⟨some 29, .mv (.t 1), some (28, true), true⟩,
  ⟨some 30, .call 37 [.t 29], some (28, true), true⟩,
  ⟨some 31, .bin .eql (.t 30) (.c (.int .i64 16)), some (28, true), true⟩,
  ⟨some 32, .pick (.t 28) (.t 31) (.c (.bool false)), none, true⟩,
  ⟨some 33, .mv (.t 32), none, true⟩,
  ⟨some 34, .mv (.t 1), some (33, true), true⟩,
  ⟨some 35, .build [.int .i64 0, .int .i64 0] [(0, 1, .c (.int .i64 3)), (1, 1, .c (.int .i64 1))], some (33, true), true⟩,
  ⟨some 36, .call 28 [.t 34, .t 35], some (33, true), true⟩,
  ⟨some 37, .bin .eql (.t 36) (.c (.int .i64 1)), some (33, true), true⟩,
  ⟨some 38, .pick (.t 33) (.t 37) (.c (.bool false)), none, true⟩,
  ⟨some 39, .mv (.t 38), none, true⟩,
  ⟨some 40, .mv (.t 1), some (39, true), true⟩,
  ⟨some 41, .build [.int .i64 0, .int .i64 0] [(0, 1, .c (.int .i64 2)), (1, 1, .c (.int .i64 2))], some (39, true), true⟩,
  ⟨some 42, .call 28 [.t 40, .t 41], some (39, true), true⟩,
  ⟨some 43, .bin .eql (.t 42) (.c (.int .i64 0)), some (39, true), true⟩,
  ⟨some 44, .pick (.t 39) (.t 43) (.c (.bool false)), none, true⟩,
  ⟨some 45, .mv (.t 44), none, true⟩,
  ⟨some 46, .mv (.t 1), some (45, true), true⟩,
  ⟨some 47, .build [.int .i64 0, .int .i64 0] [(0, 1, .c (.int .i64 1)), (1, 1, .c (.int .i64 3))], some (45, true), true⟩,
  ⟨some 48, .call 28 [.t 46, .t 47], some (45, true), true⟩,
  ⟨some 49, .bin .eql (.t 48) (.c (.int .i64 (-1))), some (45, true), true⟩,
  ⟨some 50, .pick (.t 45) (.t 49) (.c (.bool false)), none, true⟩,
  ⟨some 51, .mv (.t 50), none, true⟩,
  ⟨some 52, .build [.int .i64 0, .int .i64 0] [(0, 1, .c (.int .i64 4)), (1, 1, .c (.int .i64 4))], some (51, true), true⟩,
  ⟨some 53, .build [.int .i64 0, .int .i64 0] [(0, 1, .c (.int .i64 4)), (1, 1, .c (.int .i64 0))], some (51, true), true⟩,
  ⟨some 54, .build [.int .i64 0, .int .i64 0] [(0, 1, .c (.int .i64 0)), (1, 1, .c (.int .i64 0))], some (51, true), true⟩,
  ⟨some 55, .bsl 2 3 [.int .i64 0, .int .i64 0] [(0, .t 52), (1, .t 53), (2, .t 54)], some (51, true), true⟩,
  ⟨some 56, .call 36 [.t 55], some (51, true), true⟩,
  ⟨some 57, .un .not (.t 56), some (51, true), true⟩,
  ⟨some 58, .pick (.t 51) (.t 57) (.c (.bool false)), none, true⟩,
  ⟨some 59, .mv (.t 58), none, true⟩,
  ⟨some 60, .build [.int .i64 0, .int .i64 0] [(0, 1, .c (.int .i64 0)), (1, 1, .c (.int .i64 0))], some (59, true), true⟩,
  ⟨some 61, .build [.int .i64 0, .int .i64 0] [(0, 1, .c (.int .i64 2)), (1, 1, .c (.int .i64 0))], some (59, true), true⟩,
  ⟨some 62, .build [.int .i64 0, .int .i64 0] [(0, 1, .c (.int .i64 4)), (1, 1, .c (.int .i64 0))], some (59, true), true⟩,
  ⟨some 63, .build [.int .i64 0, .int .i64 0] [(0, 1, .c (.int .i64 4)), (1, 1, .c (.int .i64 4))], some (59, true), true⟩,
  ⟨some 64, .bsl 2 4 [.int .i64 0, .int .i64 0] [(0, .t 60), (1, .t 61), (2, .t 62), (3, .t 63)], some (59, true), true⟩,
  ⟨some 65, .call 36 [.t 64], some (59, true), true⟩,
  ⟨some 66, .un .not (.t 65), some (59, true), true⟩,
  ⟨some 67, .pick (.t 59) (.t 66) (.c (.bool false)), none, true⟩,
  ⟨some 68, .mv (.t 67), none, true⟩,
  ⟨some 69, .build [.int .i64 0, .int .i64 0] [(0, 1, .c (.int .i64 0)), (1, 1, .c (.int .i64 0))], some (68, true), true⟩,
  ⟨some 70, .build [.int .i64 0, .int .i64 0] [(0, 1, .c (.int .i64 4)), (1, 1, .c (.int .i64 0))], some (68, true), true⟩,
  ⟨some 71, .build [.int .i64 0, .int .i64 0] [(0, 1, .c (.int .i64 0)), (1, 1, .c (.int .i64 4))], some (68, true), true⟩,
  ⟨some 72, .build [.int .i64 0, .int .i64 0] [(0, 1, .c (.int .i64 4)), (1, 1, .c (.int .i64 4))], some (68, true), true⟩,
  ⟨some 73, .bsl 2 4 [.int .i64 0, .int .i64 0] [(0, .t 69), (1, .t 70), (2, .t 71), (3, .t 72)], some (68, true), true⟩,
  ⟨some 74, .call 36 [.t 73], some (68, true), true⟩,
  ⟨some 75, .un .not (.t 74), some (68, true), true⟩,
  ⟨some 76, .pick (.t 68) (.t 75) (.c (.bool false)), none, true⟩,
  ⟨some 77, .mv (.t 76), none, true⟩,
  ⟨some 78, .mv (.t 2), some (77, true), true⟩,
  ⟨some 79, .ias 2 (.t 78) (.c (.int .i64 0)), some (77, true), true⟩,
  ⟨some 80, .load true 2 (.t 79), some (77, true), true⟩,
  ⟨some 81, .build [.int .i64 0, .int .i64 0] [(0, 1, .c (.int .i64 63)), (1, 1, .c (.int .i64 16))], some (77, true), true⟩,
  ⟨some 82, .eqa false [0, 0] (.t 80) (.t 81), some (77, true), true⟩,
  ⟨some 83, .pick (.t 77) (.t 82) (.c (.bool false)), none, true⟩,
  ⟨some 84, .mv (.t 83), none, true⟩,
  ⟨some 85, .mv (.t 2), some (84, true), true⟩,
  ⟨some 86, .ias 2 (.t 85) (.c (.int .i64 1)), some (84, true), true⟩,
  ⟨some 87, .load true 2 (.t 86), some (84, true), true⟩,
  ⟨some 88, .build [.int .i64 0, .int .i64 0] [(0, 1, .c (.int .i64 (-16))), (1, 1, .c (.int .i64 63))], some (84, true), true⟩,
  ⟨some 89, .eqa false [0, 0] (.t 87) (.t 88), some (84, true), true⟩,
  ⟨some 90, .pick (.t 84) (.t 89) (.c (.bool false)), none, true⟩,
  ⟨some 91, .mv (.t 90), none, true⟩,
  ⟨some 92, .mv (.t 5), some (91, true), true⟩,
  ⟨some 93, .un .not (.t 92), some (91, true), true⟩,
  ⟨some 94, .pick (.t 91) (.t 93) (.c (.bool false)), none, true⟩,
  ⟨some 95, .mv (.t 94), none, true⟩,
  ⟨some 96, .mv (.t 1), some (95, true), true⟩,
  ⟨some 97, .build [.int .i64 0, .int .i64 0] [(0, 1, .c (.int .i64 1)), (1, 1, .c (.int .i64 (-2)))], some (95, true), true⟩,
  ⟨some 98, .call 40 [.t 96, .t 97], some (95, true), true⟩,
  ⟨some 99, .build [.int .i64 0, .int .i64 0] [(0, 1, .c (.int .i64 1)), (1, 1, .c (.int .i64 (-2)))], some (95, true), true⟩,
  ⟨some 100, .build [.int .i64 0, .int .i64 0] [(0, 1, .c (.int .i64 5)), (1, 1, .c (.int .i64 (-2)))], some (95, true), true⟩,
  ⟨some 101, .build [.int .i64 0, .int .i64 0] [(0, 1, .c (.int .i64 5)), (1, 1, .c (.int .i64 2))], some (95, true), true⟩,
  ⟨some 102, .bsl 2 3 [.int .i64 0, .int .i64 0] [(0, .t 99), (1, .t 100), (2, .t 101)], some (95, true), true⟩,
  ⟨some 103, .call 42 [.t 98, .t 102], some (95, true), true⟩,
  ⟨some 104, .pick (.t 95) (.t 103) (.c (.bool false)), none, true⟩,
  ⟨some 105, .mv (.t 104), none, true⟩,
  ⟨some 106, .mv (.t 1), some (105, true), true⟩,
  ⟨some 107, .mv (.t 1), some (105, true), true⟩,
  ⟨some 108, .sls 2 (.t 107) none (some (.c (.int .i64 2))), some (105, true), true⟩,
  ⟨some 109, .call 42 [.t 106, .t 108], some (105, true), true⟩,
  ⟨some 110, .un .not (.t 109), some (105, true), true⟩,
  ⟨some 111, .pick (.t 105) (.t 110) (.c (.bool false)), none, true⟩,
  ⟨some 0, .as (.t 111), none, true⟩] (some [0]) []) (
.ret)))))))))))))
def A32_L0b : ACode := 
  (.seq (
  (.seq (
  .reg none [
    ⟨some 4, .mv (.t 3), none, true⟩,
    ⟨some 5, .mv (.t 0), none, true⟩,
    ⟨some 6, .len 0 (.t 5), none, true⟩,
    ⟨some 7, .bin .lss (.t 4) (.t 6), none, true⟩,
    ⟨some 8, .mv (.t 7), none, true⟩,
    ⟨some 9, .mv (.t 3), some (8, true), true⟩,
    ⟨some 10, .bin .lss (.t 9) (.c (.int .i64 20)), some (8, true), true⟩,
    ⟨some 11, .pick (.t 8) (.t 10) (.c (.bool false)), none, true⟩] (some [0, 3, 11]) []) (
  (.cond (.t 11) (
    .skip) (
    .exit 0))))) (
  (.seq (
  (.block 1 (
  (.seq (
  .reg none [
    ⟨some 14, .mv (.t 0), none, true⟩,
    ⟨some 15, .mv (.t 3), none, true⟩,
    ⟨some 16, .ias 2 (.t 14) (.t 15), none, true⟩,
    ⟨some 17, .load true 2 (.t 16), none, true⟩,
    ⟨some 18, .call 33 [.t 17], none, true⟩,
    ⟨some 19, .un .not (.t 18), none, true⟩] (some [0, 3, 19]) []) (
  (.cond (.t 19) (
    (.seq (
    .reg none [
      ⟨some 2, .as (.c (.bool false)), none, true⟩] (some [2]) []) (
    .ret))) (
    .skip))))) (some [0, 3]) [2, 18])) (
  .reg none [
    ⟨some 12, .mv (.t 3), none, true⟩,
    ⟨some 13, .bin .add (.t 12) (.c (.int .i64 1)), none, true⟩,
    ⟨some 3, .as (.t 13), none, true⟩] (some [0, 3]) []))))
def A32_L0 : ACode := .loop A32_L0b (some [0, 3]) [2, 18]
/-- ambidexter/ambidexterlaw03.Fits -/
def A32 : AFn := .code [.t 2] (
(.seq (
.reg none [
  ⟨some 2, .as (.c (.bool false)), none, true⟩] (some [0]) []) (
(.seq (
(.seq (
.reg none [
  ⟨some 3, .as (.c (.int .i64 0)), none, true⟩] (some [0, 3]) []) (
(.block 0 (
A32_L0) (some [0]) [2, 3, 18])))) (
(.seq (
.reg none [
  ⟨some 20, .mv (.t 0), none, true⟩,
  ⟨some 21, .len 0 (.t 20), none, true⟩,
  ⟨some 22, .bin .leq (.t 21) (.c (.int .i64 12)), none, true⟩,
  ⟨some 2, .as (.t 22), none, true⟩] (some [2]) []) (
.ret)))))))
/-- ambidexter/ambidexterref03.May -/
def A33 : AFn := .code [.t 2] (
(.seq (
.reg none [
  ⟨some 1, .box (.t 0), none, true⟩,
  ⟨some 2, .as (.c (.bool false)), none, true⟩] (some [1]) []) (
(.seq (
.reg none [
  ⟨some 3, .as (.c (.int .i64 439400000)), none, true⟩] (some [1, 3]) []) (
(.seq (
.reg none [
  ⟨some 4, .fad 0 (.t 1), none, true⟩,
  ⟨some 5, .load false 1 (.t 4), none, true⟩,
  ⟨some 6, .mv (.t 3), none, true⟩,
  ⟨some 7, .un .neg (.t 6), none, true⟩,
  ⟨some 8, .bin .geq (.t 5) (.t 7), none, true⟩,
  ⟨some 9, .mv (.t 8), none, true⟩,
  ⟨some 10, .fad 0 (.t 1), some (9, true), true⟩,
  ⟨some 11, .load false 1 (.t 10), some (9, true), true⟩,
  ⟨some 12, .mv (.t 3), some (9, true), true⟩,
  ⟨some 13, .bin .leq (.t 11) (.t 12), some (9, true), true⟩,
  ⟨some 14, .pick (.t 9) (.t 13) (.c (.bool false)), none, true⟩,
  ⟨some 15, .mv (.t 14), none, true⟩,
  ⟨some 16, .fad 1 (.t 1), some (15, true), true⟩,
  ⟨some 17, .load false 1 (.t 16), some (15, true), true⟩,
  ⟨some 18, .mv (.t 3), some (15, true), true⟩,
  ⟨some 19, .un .neg (.t 18), some (15, true), true⟩,
  ⟨some 20, .bin .geq (.t 17) (.t 19), some (15, true), true⟩,
  ⟨some 21, .pick (.t 15) (.t 20) (.c (.bool false)), none, true⟩,
  ⟨some 22, .mv (.t 21), none, true⟩,
  ⟨some 23, .fad 1 (.t 1), some (22, true), true⟩,
  ⟨some 24, .load false 1 (.t 23), some (22, true), true⟩,
  ⟨some 25, .mv (.t 3), some (22, true), true⟩,
  ⟨some 26, .bin .leq (.t 24) (.t 25), some (22, true), true⟩,
  ⟨some 27, .pick (.t 22) (.t 26) (.c (.bool false)), none, true⟩,
  ⟨some 2, .as (.t 27), none, true⟩] (some [2]) [1]) (
.ret)))))))
def A34_L0b : ACode := 
  (.seq (
  (.seq (
  .reg none [
    ⟨some 8, .mv (.t 6), none, true⟩,
    ⟨some 9, .mv (.t 0), none, true⟩,
    ⟨some 10, .len 0 (.t 9), none, true⟩,
    ⟨some 11, .bin .lss (.t 8) (.t 10), none, true⟩] (some [0, 1, 5, 6, 11]) []) (
  (.cond (.t 11) (
    .skip) (
    .exit 0))))) (
  (.seq (
  (.block 1 (
  .reg none [
    ⟨some 14, .mv (.t 5), none, true⟩,
    ⟨some 15, .mv (.t 0), none, true⟩,
    ⟨some 16, .mv (.t 6), none, true⟩,
    ⟨some 17, .mv (.t 1), none, true⟩,
    ⟨some 18, .conv .i64 (.t 17), none, true⟩,
    ⟨some 19, .bin .add (.t 16) (.t 18), none, true⟩,
    ⟨some 20, .mv (.t 0), none, true⟩,
    ⟨some 21, .len 0 (.t 20), none, true⟩,
    ⟨some 22, .bin .rem (.t 19) (.t 21), none, true⟩,
    ⟨some 23, .ias 2 (.t 15) (.t 22), none, true⟩,
    ⟨some 24, .load true 2 (.t 23), none, true⟩,
    ⟨some 25, .bsl 2 1 [.int .i64 0, .int .i64 0] [(0, .t 24)], none, true⟩,
    ⟨some 26, .app 2 (.t 14) (.t 25), none, true⟩,
    ⟨some 5, .as (.t 26), none, true⟩] (some [0, 1, 5, 6]) []) (some [0, 1, 5, 6]) [25])) (
  .reg none [
    ⟨some 12, .mv (.t 6), none, true⟩,
    ⟨some 13, .bin .add (.t 12) (.c (.int .i64 1)), none, true⟩,
    ⟨some 6, .as (.t 13), none, true⟩] (some [0, 1, 5, 6]) []))))
def A34_L0 : ACode := .loop A34_L0b (some [0, 1, 5, 6]) [25]
/-- ambidexter/ambidexterlaw03.round -/
def A34 : AFn := .code [.t 4] (
(.seq (
.reg none [
  ⟨some 4, .as (.c (.nils 2)), none, true⟩] (some [0, 1]) []) (
(.seq (
.reg none [
  ⟨some 7, .bsl 2 0 [.int .i64 0, .int .i64 0] [], none, true⟩,
  ⟨some 5, .as (.t 7), none, true⟩] (some [0, 1, 5]) []) (
(.seq (
(.seq (
.reg none [
  ⟨some 6, .as (.c (.int .i64 0)), none, true⟩] (some [0, 1, 5, 6]) []) (
(.block 0 (
A34_L0) (some [5]) [6, 25])))) (
(.seq (
.reg none [
  ⟨some 27, .mv (.t 5), none, true⟩,
  ⟨some 4, .as (.t 27), none, true⟩] (some [4]) []) (
.ret)))))))))
def A35_L0b : ACode := 
  (.seq (
  (.seq (
  .reg none [
    ⟨some 9, .mv (.t 4), none, true⟩,
    ⟨some 10, .bin .geq (.t 9) (.c (.int .i64 0)), none, true⟩] (some [0, 3, 4, 10]) []) (
  (.cond (.t 10) (
    .skip) (
    .exit 0))))) (
  (.seq (
  (.block 1 (
  .reg none [
    ⟨some 13, .mv (.t 3), none, true⟩,
    ⟨some 14, .mv (.t 0), none, true⟩,
    ⟨some 15, .mv (.t 4), none, true⟩,
    ⟨some 16, .ias 2 (.t 14) (.t 15), none, true⟩,
    ⟨some 17, .load true 2 (.t 16), none, true⟩,
    ⟨some 18, .bsl 2 1 [.int .i64 0, .int .i64 0] [(0, .t 17)], none, true⟩,
    ⟨some 19, .app 2 (.t 13) (.t 18), none, true⟩,
    ⟨some 3, .as (.t 19), none, true⟩] (some [0, 3, 4]) []) (some [0, 3, 4]) [18])) (
  .reg none [
    ⟨some 11, .mv (.t 4), none, true⟩,
    ⟨some 12, .bin .sub (.t 11) (.c (.int .i64 1)), none, true⟩,
    ⟨some 4, .as (.t 12), none, true⟩] (some [0, 3, 4]) []))))
def A35_L0 : ACode := .loop A35_L0b (some [0, 3, 4]) [18]
/-- ambidexter/ambidexterlaw03.back -/
def A35 : AFn := .code [.t 2] (
(.seq (
.reg none [
  ⟨some 2, .as (.c (.nils 2)), none, true⟩] (some [0]) []) (
(.seq (
.reg none [
  ⟨some 5, .bsl 2 0 [.int .i64 0, .int .i64 0] [], none, true⟩,
  ⟨some 3, .as (.t 5), none, true⟩] (some [0, 3]) []) (
(.seq (
(.seq (
.reg none [
  ⟨some 6, .mv (.t 0), none, true⟩,
  ⟨some 7, .len 0 (.t 6), none, true⟩,
  ⟨some 8, .bin .sub (.t 7) (.c (.int .i64 1)), none, true⟩,
  ⟨some 4, .as (.t 8), none, true⟩] (some [0, 3, 4]) []) (
(.block 0 (
A35_L0) (some [3]) [4, 18])))) (
(.seq (
.reg none [
  ⟨some 20, .mv (.t 3), none, true⟩,
  ⟨some 2, .as (.t 20), none, true⟩] (some [2]) []) (
.ret)))))))))
/-- ambidexter/polygon.Valid -/
def A36 : AFn := .code [.t 2] (
(.seq (
.reg none [
  ⟨some 2, .as (.c (.bool false)), none, true⟩] (some [0]) []) (
(.seq (
(.seq (
.reg none [
  ⟨some 3, .mv (.t 0), none, true⟩,
  ⟨some 4, .len 0 (.t 3), none, true⟩,
  ⟨some 5, .bin .lss (.t 4) (.c (.int .i64 3)), none, true⟩,
  ⟨some 6, .mv (.t 5), none, true⟩,
  ⟨some 7, .mv (.t 0), some (6, false), true⟩,
  ⟨some 8, .len 0 (.t 7), some (6, false), true⟩,
  ⟨some 9, .bin .gtr (.t 8) (.c (.int .i64 12)), some (6, false), true⟩,
  ⟨some 10, .pick (.t 6) (.c (.bool true)) (.t 9), none, true⟩,
  ⟨some 11, .mv (.t 10), none, true⟩,
  ⟨some 12, .mv (.t 0), some (11, false), true⟩,
  ⟨some 13, .call 64 [.t 12, .fu 65], some (11, false), true⟩,
  ⟨some 14, .pick (.t 11) (.c (.bool true)) (.t 13), none, true⟩] (some [0, 14]) []) (
(.cond (.t 14) (
  (.seq (
  .reg none [
    ⟨some 2, .as (.c (.bool false)), none, true⟩] (some [2]) []) (
  .ret))) (
  .skip))))) (
(.seq (
.reg none [
  ⟨some 15, .mv (.t 0), none, true⟩,
  ⟨some 16, .call 67 [.t 15], none, true⟩,
  ⟨some 17, .mv (.t 16), none, true⟩,
  ⟨some 18, .mv (.t 0), some (17, true), true⟩,
  ⟨some 19, .call 37 [.t 18], some (17, true), true⟩,
  ⟨some 20, .bin .gtr (.t 19) (.c (.int .i64 0)), some (17, true), true⟩,
  ⟨some 21, .pick (.t 17) (.t 20) (.c (.bool false)), none, true⟩,
  ⟨some 2, .as (.t 21), none, true⟩] (some [2]) []) (
.ret)))))))
def A37_R0a : ACode := 
  .reg none [
    ⟨some 5, .alloc [.int .i64 0, .int .i64 0, .int .i64 0, .int .i64 0], none, true⟩,
    ⟨none, .store 4 (.t 5) (.t 9), none, true⟩] (some [3, 5]) []
def A37_R0b : ACode := 
  (.block 1 (
  .reg none [
    ⟨some 10, .load false 1 (.t 3), none, true⟩,
    ⟨some 11, .iaa 2 2 (.t 5) (.c (.int .i64 0)), none, true⟩,
    ⟨some 12, .fad 0 (.t 11), none, true⟩,
    ⟨some 13, .load false 1 (.t 12), none, true⟩,
    ⟨some 14, .iaa 2 2 (.t 5) (.c (.int .i64 1)), none, true⟩,
    ⟨some 15, .fad 1 (.t 14), none, true⟩,
    ⟨some 16, .load false 1 (.t 15), none, true⟩,
    ⟨some 17, .bin .mul (.t 13) (.t 16), none, true⟩,
    ⟨some 18, .iaa 2 2 (.t 5) (.c (.int .i64 0)), none, true⟩,
    ⟨some 19, .fad 1 (.t 18), none, true⟩,
    ⟨some 20, .load false 1 (.t 19), none, true⟩,
    ⟨some 21, .iaa 2 2 (.t 5) (.c (.int .i64 1)), none, true⟩,
    ⟨some 22, .fad 0 (.t 21), none, true⟩,
    ⟨some 23, .load false 1 (.t 22), none, true⟩,
    ⟨some 24, .bin .mul (.t 20) (.t 23), none, true⟩,
    ⟨some 25, .bin .sub (.t 17) (.t 24), none, true⟩,
    ⟨some 26, .bin .add (.t 10) (.t 25), none, true⟩,
    ⟨none, .store 1 (.t 3) (.t 26), none, true⟩] (some []) [3, 5]) (some []) [])
def A37_R0 : ACode := .rf 0 (.t 7) [8, 9]  A37_R0a A37_R0b
/-- ambidexter/polygon.DoubleArea -/
def A37 : AFn := .code [.t 2] (
(.seq (
.reg none [
  ⟨some 2, .as (.c (.int .i64 0)), none, true⟩] (some [0, 2]) []) (
(.seq (
.reg none [
  ⟨some 3, .alloc [.int .i64 0], none, true⟩,
  ⟨none, .store 1 (.t 3) (.c (.int .i64 0)), none, true⟩] (some [0, 2, 3]) []) (
(.seq (
(.seq (
.reg none [
  ⟨some 6, .mv (.t 0), none, true⟩,
  ⟨some 7, .call 57 [.t 6], none, true⟩] (some [2, 3, 7]) []) (
(.block 0 (
A37_R0) (some [3]) [5])))) (
(.seq (
.reg none [
  ⟨some 27, .load false 1 (.t 3), none, true⟩,
  ⟨some 2, .as (.t 27), none, true⟩] (some [2]) [3]) (
.ret)))))))))
/-- ambidexter/ambidexterlaw03.half -/
def A38 : AFn := .code [.cell true 2 2] (
(.seq (
.reg none [
  ⟨some 1, .box (.t 0), none, true⟩,
  ⟨some 2, .alloc [.int .i64 0, .int .i64 0], none, true⟩] (some [1, 2]) []) (
(.seq (
.reg none [
  ⟨some 3, .fad 0 (.t 1), none, true⟩,
  ⟨some 4, .load false 1 (.t 3), none, true⟩,
  ⟨some 5, .bin .quo (.t 4) (.c (.int .i64 2)), none, true⟩,
  ⟨some 6, .fad 1 (.t 1), none, true⟩,
  ⟨some 7, .load false 1 (.t 6), none, true⟩,
  ⟨some 8, .bin .quo (.t 7) (.c (.int .i64 2)), none, true⟩,
  ⟨some 9, .build [.int .i64 0, .int .i64 0] [(0, 1, .t 5), (1, 1, .t 8)], none, true⟩,
  ⟨none, .store 2 (.t 2) (.t 9), none, true⟩] (some [2]) [1]) (
.ret)))))
def A39_L0b : ACode := 
  (.seq (
  (.seq (
  .reg none [
    ⟨some 7, .mv (.t 3), none, true⟩,
    ⟨some 8, .mv (.t 0), none, true⟩,
    ⟨some 9, .len 0 (.t 8), none, true⟩,
    ⟨some 10, .bin .lss (.t 7) (.t 9), none, true⟩] (some [0, 3, 10]) []) (
  (.cond (.t 10) (
    .skip) (
    .exit 0))))) (
  (.seq (
  (.block 1 (
  (.seq (
  .reg (some [.dr [20, 22] [], .dr [20, 22] [], .dr [20, 22] [], .dr [20, 22] [], .dr [20, 22] [], .dr [15, 17] [], .dr [15, 17] [], .dr [15, 17] [], .dr [15, 17] [], .dr [15, 17] [], .free, .free, .free, .dr [33, 35] [], .dr [33, 35] [], .dr [33, 35] [], .dr [33, 35] [], .dr [33, 35] [], .dr [28, 30] [], .dr [28, 30] [], .dr [28, 30] [], .dr [28, 30] [], .dr [28, 30] [], .free, .free, .free]) [
    ⟨some 13, .mv (.t 0), none, true⟩,
    ⟨some 14, .mv (.t 3), none, true⟩,
    ⟨some 15, .ias 2 (.t 13) (.t 14), none, true⟩,
    ⟨some 16, .fad 0 (.t 15), none, true⟩,
    ⟨some 17, .load false 1 (.t 16), none, true⟩,
    ⟨some 18, .mv (.t 0), none, true⟩,
    ⟨some 19, .mv (.t 3), none, true⟩,
    ⟨some 20, .ias 2 (.t 18) (.t 19), none, true⟩,
    ⟨some 21, .fad 1 (.t 20), none, true⟩,
    ⟨some 22, .load false 1 (.t 21), none, true⟩,
    ⟨some 23, .mx [.t 17, .t 22], none, true⟩,
    ⟨some 24, .bin .gtr (.t 23) (.c (.int .i64 131820000)), none, true⟩,
    ⟨some 25, .mv (.t 24), none, true⟩,
    ⟨some 26, .mv (.t 0), some (25, false), true⟩,
    ⟨some 27, .mv (.t 3), some (25, false), true⟩,
    ⟨some 28, .ias 2 (.t 26) (.t 27), some (25, false), true⟩,
    ⟨some 29, .fad 0 (.t 28), some (25, false), true⟩,
    ⟨some 30, .load false 1 (.t 29), some (25, false), true⟩,
    ⟨some 31, .mv (.t 0), some (25, false), true⟩,
    ⟨some 32, .mv (.t 3), some (25, false), true⟩,
    ⟨some 33, .ias 2 (.t 31) (.t 32), some (25, false), true⟩,
    ⟨some 34, .fad 1 (.t 33), some (25, false), true⟩,
    ⟨some 35, .load false 1 (.t 34), some (25, false), true⟩,
    ⟨some 36, .mn [.t 30, .t 35], some (25, false), true⟩,
    ⟨some 37, .bin .lss (.t 36) (.c (.int .i64 (-131820000))), some (25, false), true⟩,
    ⟨some 38, .pick (.t 25) (.c (.bool true)) (.t 37), none, true⟩] (some [0, 3, 38]) []) (
  (.cond (.t 38) (
    (.seq (
    .reg none [
      ⟨some 2, .as (.c (.bool false)), none, true⟩] (some [2]) []) (
    .ret))) (
    .skip))))) (some [0, 3]) [2])) (
  .reg none [
    ⟨some 11, .mv (.t 3), none, true⟩,
    ⟨some 12, .bin .add (.t 11) (.c (.int .i64 1)), none, true⟩,
    ⟨some 3, .as (.t 12), none, true⟩] (some [0, 3]) []))))
def A39_L0 : ACode := .loop A39_L0b (some [0, 3]) [2]
/-- ambidexter/ambidexterlaw03.little -/
def A39 : AFn := .code [.t 2] (
(.seq (
.reg none [
  ⟨some 2, .as (.c (.bool false)), none, true⟩] (some [0]) []) (
(.seq (
(.seq (
.reg none [
  ⟨some 4, .mv (.t 0), none, true⟩,
  ⟨some 5, .call 30 [.t 4], none, true⟩,
  ⟨some 6, .un .not (.t 5), none, true⟩] (some [0, 6]) []) (
(.cond (.t 6) (
  (.seq (
  .reg none [
    ⟨some 2, .as (.c (.bool false)), none, true⟩] (some [2]) []) (
  .ret))) (
  .skip))))) (
(.seq (
(.seq (
.reg none [
  ⟨some 3, .as (.c (.int .i64 0)), none, true⟩] (some [0, 3]) []) (
(.block 0 (
A39_L0) (some []) [2, 3])))) (
(.seq (
.reg none [
  ⟨some 2, .as (.c (.bool true)), none, true⟩] (some [2]) []) (
.ret)))))))))
/-- ambidexter/polygon.Translate -/
def A40 : AFn := .code [.t 4] (
(.seq (
.reg none [
  ⟨some 3, .box (.t 1), none, true⟩,
  ⟨some 4, .as (.c (.nils 2)), none, true⟩] (some [0, 3]) []) (
(.seq (
.reg none [
  ⟨some 5, .mv (.t 0), none, true⟩,
  ⟨some 6, .mkf (.func 69) [] [.t 3], none, true⟩,
  ⟨some 7, .call 68 [.t 5, .t 6], none, true⟩,
  ⟨some 4, .as (.t 7), none, true⟩] (some [4]) []) (
.ret)))))
/-- ambidexter/geom.Add -/
def A41 : AFn := .code [.cell true 2 4] (
(.seq (
.reg none [
  ⟨some 2, .box (.t 0), none, true⟩,
  ⟨some 3, .box (.t 1), none, true⟩,
  ⟨some 4, .alloc [.int .i64 0, .int .i64 0], none, true⟩] (some [2, 3, 4]) []) (
(.seq (
.reg none [
  ⟨some 5, .fad 0 (.t 2), none, true⟩,
  ⟨some 6, .load false 1 (.t 5), none, true⟩,
  ⟨some 7, .fad 0 (.t 3), none, true⟩,
  ⟨some 8, .load false 1 (.t 7), none, true⟩,
  ⟨some 9, .bin .add (.t 6) (.t 8), none, true⟩,
  ⟨some 10, .fad 1 (.t 2), none, true⟩,
  ⟨some 11, .load false 1 (.t 10), none, true⟩,
  ⟨some 12, .fad 1 (.t 3), none, true⟩,
  ⟨some 13, .load false 1 (.t 12), none, true⟩,
  ⟨some 14, .bin .add (.t 11) (.t 13), none, true⟩,
  ⟨some 15, .build [.int .i64 0, .int .i64 0] [(0, 1, .t 9), (1, 1, .t 14)], none, true⟩,
  ⟨none, .store 2 (.t 4) (.t 15), none, true⟩] (some [4]) [2, 3]) (
.ret)))))
/-- ambidexter/polygon.Equal -/
def A42 : AFn := .code [.t 4] (
(.seq (
.reg none [
  ⟨some 4, .as (.c (.bool false)), none, true⟩] (some [0, 1]) []) (
(.seq (
.reg none [
  ⟨some 5, .mv (.t 0), none, true⟩,
  ⟨some 6, .mv (.t 1), none, true⟩,
  ⟨some 7, .call 70 [.t 5, .t 6], none, true⟩,
  ⟨some 4, .as (.t 7), none, true⟩] (some [4]) []) (
.ret)))))
/-- ambidexter/polygon.Rotate -/
def A43 : AFn := .code [.t 4, .t 5] (
(.seq (
.reg none [
  ⟨some 3, .box (.t 1), none, true⟩,
  ⟨some 4, .as (.c (.nils 2)), none, true⟩,
  ⟨some 5, .as (.c (.bool false)), none, true⟩] (some [0, 3]) []) (
(.seq (
.reg none [
  ⟨some 6, .alloc [.bool false], none, true⟩,
  ⟨none, .store 1 (.t 6) (.c (.bool true)), none, true⟩] (some [0, 3, 6]) []) (
(.seq (
.reg none [
  ⟨some 8, .mv (.t 0), none, true⟩,
  ⟨some 9, .mkf (.func 71) [] [.t 3, .t 6], none, true⟩,
  ⟨some 10, .call 68 [.t 8, .t 9], none, true⟩,
  ⟨some 7, .as (.t 10), none, true⟩] (some [6, 7]) []) (
(.seq (
(.seq (
.reg none [
  ⟨some 11, .load false 1 (.t 6), none, true⟩,
  ⟨some 12, .un .not (.t 11), none, true⟩] (some [7, 12]) []) (
(.cond (.t 12) (
  (.seq (
  .reg none [
    ⟨some 4, .as (.c (.nils 2)), none, true⟩,
    ⟨some 5, .as (.c (.bool false)), none, true⟩] (some [4, 5]) []) (
  .ret))) (
  .skip))))) (
(.seq (
.reg none [
  ⟨some 13, .mv (.t 7), none, true⟩,
  ⟨some 4, .as (.t 13), none, true⟩,
  ⟨some 5, .as (.c (.bool true)), none, true⟩] (some [4, 5]) []) (
.ret)))))))))))
/-- ambidexter/ambidexterlaw05.square -/
def A44 : AFn := .code [.t 6] (
(.seq (
.reg none [
  ⟨some 6, .as (.c (.nils 2)), none, true⟩] (some [0, 1, 2]) []) (
(.seq (
.reg none [
  ⟨some 7, .mv (.t 0), none, true⟩,
  ⟨some 8, .mv (.t 1), none, true⟩,
  ⟨some 9, .build [.int .i64 0, .int .i64 0] [(0, 1, .t 7), (1, 1, .t 8)], none, true⟩,
  ⟨some 10, .mv (.t 0), none, true⟩,
  ⟨some 11, .mv (.t 2), none, true⟩,
  ⟨some 12, .bin .add (.t 10) (.t 11), none, true⟩,
  ⟨some 13, .mv (.t 1), none, true⟩,
  ⟨some 14, .build [.int .i64 0, .int .i64 0] [(0, 1, .t 12), (1, 1, .t 13)], none, true⟩,
  ⟨some 15, .mv (.t 0), none, true⟩,
  ⟨some 16, .mv (.t 2), none, true⟩,
  ⟨some 17, .bin .add (.t 15) (.t 16), none, true⟩,
  ⟨some 18, .mv (.t 1), none, true⟩,
  ⟨some 19, .mv (.t 2), none, true⟩,
  ⟨some 20, .bin .add (.t 18) (.t 19), none, true⟩,
  ⟨some 21, .build [.int .i64 0, .int .i64 0] [(0, 1, .t 17), (1, 1, .t 20)], none, true⟩,
  ⟨some 22, .mv (.t 0), none, true⟩,
  ⟨some 23, .mv (.t 1), none, true⟩,
  ⟨some 24, .mv (.t 2), none, true⟩,
  ⟨some 25, .bin .add (.t 23) (.t 24), none, true⟩,
  ⟨some 26, .build [.int .i64 0, .int .i64 0] [(0, 1, .t 22), (1, 1, .t 25)], none, true⟩,
  ⟨some 27, .bsl 2 4 [.int .i64 0, .int .i64 0] [(0, .t 9), (1, .t 14), (2, .t 21), (3, .t 26)], none, true⟩,
  ⟨some 6, .as (.t 27), none, true⟩] (some [6]) []) (
.ret)))))
/-- ambidexter/intersect.edges -/
def A45 : AFn := .code [.t 2] (
(.seq (
.reg none [
  ⟨some 1, .box (.t 0), none, true⟩,
  ⟨some 2, .as (.c (.nilf)), none, true⟩] (some [1]) []) (
(.seq (
.reg none [
  ⟨some 3, .mkf (.func 73) [] [.t 1], none, true⟩,
  ⟨some 2, .as (.t 3), none, true⟩] (some [2]) []) (
.ret)))))
/-- ambidexter/intersect.inside -/
def A46 : AFn := .code [.t 6] (
(.seq (
.reg none [
  ⟨some 6, .as (.c (.bool false)), none, true⟩] (some [0, 1, 2]) []) (
(.seq (
.reg none [
  ⟨some 7, .mv (.t 1), none, true⟩,
  ⟨some 8, .bin .geq (.t 7) (.c (.int .i64 0)), none, true⟩,
  ⟨some 9, .mv (.t 8), none, true⟩,
  ⟨some 10, .mv (.t 1), some (9, true), true⟩,
  ⟨some 11, .mv (.t 0), some (9, true), true⟩,
  ⟨some 12, .len 0 (.t 11), some (9, true), true⟩,
  ⟨some 13, .bin .lss (.t 10) (.t 12), some (9, true), true⟩,
  ⟨some 14, .pick (.t 9) (.t 13) (.c (.bool false)), none, true⟩,
  ⟨some 15, .mv (.t 14), none, true⟩,
  ⟨some 16, .mv (.t 2), some (15, true), true⟩,
  ⟨some 17, .mv (.t 0), some (15, true), true⟩,
  ⟨some 18, .mv (.t 1), some (15, true), true⟩,
  ⟨some 19, .ias 2 (.t 17) (.t 18), some (15, true), true⟩,
  ⟨some 20, .load true 2 (.t 19), some (15, true), true⟩,
  ⟨some 21, .call 28 [.t 16, .t 20], some (15, true), true⟩,
  ⟨some 22, .bin .neq (.t 21) (.c (.int .i64 (-1))), some (15, true), true⟩,
  ⟨some 23, .pick (.t 15) (.t 22) (.c (.bool false)), none, true⟩,
  ⟨some 6, .as (.t 23), none, true⟩] (some [6]) []) (
.ret)))))
def A47_R0a : ACode := 
  (.seq (
  .reg none [
    ⟨some 6, .as (.t 10), none, true⟩] (some [3, 4, 5, 6, 11]) []) (
  .reg none [
    ⟨some 7, .alloc [.int .i64 0, .int .i64 0, .int .i64 0, .int .i64 0], none, true⟩,
    ⟨none, .store 4 (.t 7) (.t 11), none, true⟩] (some [3, 4, 5, 6, 7]) []))
def A47_R0b : ACode := 
  (.block 1 (
  (.seq (
  .reg none [
    ⟨some 12, .mv (.t 6), none, true⟩,
    ⟨some 13, .load false 1 (.t 3), none, true⟩,
    ⟨some 14, .bin .eql (.t 12) (.t 13), none, true⟩] (some [4, 5, 7, 14]) [3]) (
  (.cond (.t 14) (
    (.seq (
    .reg none [
      ⟨some 15, .load true 4 (.t 7), none, true⟩,
      ⟨none, .store 4 (.t 4) (.t 15), none, true⟩,
      ⟨none, .store 1 (.t 5) (.c (.bool true)), none, true⟩] (some []) [7]) (
    .ret))) (
    .skip))))) (some []) [])
def A47_R0 : ACode := .rf 0 (.t 9) [10, 11]  A47_R0a A47_R0b
/-- ambidexter/intersect.at -/
def A47 : AFn := .code [.cell true 4 4, .cell false 1 5] (
(.seq (
.reg none [
  ⟨some 3, .box (.t 1), none, true⟩,
  ⟨some 4, .alloc [.int .i64 0, .int .i64 0, .int .i64 0, .int .i64 0], none, true⟩,
  ⟨some 5, .alloc [.bool false], none, true⟩] (some [0, 3, 4, 5]) []) (
(.seq (
(.seq (
.reg none [
  ⟨some 8, .mv (.t 0), none, true⟩,
  ⟨some 9, .call 45 [.t 8], none, true⟩] (some [3, 4, 5, 9]) []) (
(.block 0 (
A47_R0) (some [4, 5]) [6, 7])))) (
(.seq (
.reg none [
  ⟨some 16, .build [.int .i64 0, .int .i64 0, .int .i64 0, .int .i64 0] [], none, true⟩,
  ⟨none, .store 4 (.t 4) (.t 16), none, true⟩,
  ⟨none, .store 1 (.t 5) (.c (.bool false)), none, true⟩] (some [4, 5]) []) (
.ret)))))))
/-- (ambidexter/intersect.edge).beyond -/
def A48 : AFn := .code [.t 4] (
(.seq (
.reg none [
  ⟨some 2, .box (.t 0), none, true⟩,
  ⟨some 4, .as (.c (.bool false)), none, true⟩] (some [1, 2]) []) (
(.seq (
.reg none [
  ⟨some 5, .mv (.t 1), none, true⟩,
  ⟨some 6, .mkf (.func 75) [] [.t 2], none, true⟩,
  ⟨some 7, .call 74 [.t 5, .t 6], none, true⟩,
  ⟨some 4, .as (.t 7), none, true⟩] (some [4]) []) (
.ret)))))
def A49_L0b : ACode := 
  (.seq (
  (.seq (
  .reg none [
    ⟨some 8, .mv (.t 7), none, true⟩,
    ⟨some 9, .mv (.t 2), none, true⟩,
    ⟨some 10, .len 0 (.t 9), none, true⟩,
    ⟨some 11, .bin .lss (.t 8) (.t 10), none, true⟩] (some [0, 1, 2, 7, 11]) []) (
  (.cond (.t 11) (
    .skip) (
    .exit 0))))) (
  (.seq (
  (.block 1 (
  (.seq (
  .reg (some [.dr [21, 22, 23, 26, 27] [], .dr [21, 22, 23, 26, 27] [], .dr [21, 22, 23, 26, 27] [], .dr [21, 22, 23, 26, 27] [], .dr [16, 17, 21, 26, 27] [], .dr [16, 17, 26, 27] [], .dr [16, 17, 26, 27] [], .dr [16, 17, 26, 27] [], .dr [16, 17, 26, 27] [], .dr [16, 17, 26, 27] [], .dr [16, 17, 21, 22, 23] [], .dr [16, 17, 21, 22, 23] [], .dr [16, 17, 21, 22, 23] [], .dr [16, 17, 21, 22, 23] [], .free, .free]) [
    ⟨some 14, .mv (.t 0), none, true⟩,
    ⟨some 15, .mv (.t 1), none, true⟩,
    ⟨some 16, .ias 2 (.t 14) (.t 15), none, true⟩,
    ⟨some 17, .load true 2 (.t 16), none, true⟩,
    ⟨some 18, .mv (.t 0), none, true⟩,
    ⟨some 19, .mv (.t 0), none, true⟩,
    ⟨some 20, .mv (.t 1), none, true⟩,
    ⟨some 21, .call 51 [.t 19, .t 20], none, true⟩,
    ⟨some 22, .ias 2 (.t 18) (.t 21), none, true⟩,
    ⟨some 23, .load true 2 (.t 22), none, true⟩,
    ⟨some 24, .mv (.t 2), none, true⟩,
    ⟨some 25, .mv (.t 7), none, true⟩,
    ⟨some 26, .ias 2 (.t 24) (.t 25), none, true⟩,
    ⟨some 27, .load true 2 (.t 26), none, true⟩,
    ⟨some 28, .call 53 [.t 17, .t 23, .t 27], none, true⟩,
    ⟨some 29, .bin .neq (.t 28) (.c (.int .i64 (-1))), none, true⟩] (some [0, 1, 2, 7, 29]) []) (
  (.cond (.t 29) (
    (.seq (
    .reg none [
      ⟨some 6, .as (.c (.bool false)), none, true⟩] (some [6]) []) (
    .ret))) (
    .skip))))) (some [0, 1, 2, 7]) [6, 21, 28])) (
  .reg none [
    ⟨some 12, .mv (.t 7), none, true⟩,
    ⟨some 13, .bin .add (.t 12) (.c (.int .i64 1)), none, true⟩,
    ⟨some 7, .as (.t 13), none, true⟩] (some [0, 1, 2, 7]) []))))
def A49_L0 : ACode := .loop A49_L0b (some [0, 1, 2, 7]) [6, 21, 28]
/-- ambidexter/ambidexterref05.beyond -/
def A49 : AFn := .code [.t 6] (
(.seq (
.reg none [
  ⟨some 6, .as (.c (.bool false)), none, true⟩] (some [0, 1, 2]) []) (
(.seq (
(.seq (
.reg none [
  ⟨some 7, .as (.c (.int .i64 0)), none, true⟩] (some [0, 1, 2, 7]) []) (
(.block 0 (
A49_L0) (some []) [6, 7, 21, 28])))) (
(.seq (
.reg none [
  ⟨some 6, .as (.c (.bool true)), none, true⟩] (some [6]) []) (
.ret)))))))
/-- ambidexter/ambidexterref02.Cut -/
def A50 : AFn := .code [.t 8] (
(.seq (
.reg none [
  ⟨some 4, .box (.t 0), none, true⟩,
  ⟨some 5, .box (.t 1), none, true⟩,
  ⟨some 6, .box (.t 2), none, true⟩,
  ⟨some 7, .box (.t 3), none, true⟩,
  ⟨some 8, .as (.c (.bool false)), none, true⟩] (some [4, 5, 6, 7]) []) (
(.seq (
(.seq (
.reg none [
  ⟨some 9, .load true 2 (.t 4), none, true⟩,
  ⟨some 10, .load true 2 (.t 5), none, true⟩,
  ⟨some 11, .load true 2 (.t 6), none, true⟩,
  ⟨some 12, .call 76 [.t 9, .t 10, .t 11], none, true⟩,
  ⟨some 13, .mv (.t 12), none, true⟩,
  ⟨some 14, .load true 2 (.t 4), some (13, false), true⟩,
  ⟨some 15, .load true 2 (.t 5), some (13, false), true⟩,
  ⟨some 16, .load true 2 (.t 7), some (13, false), true⟩,
  ⟨some 17, .call 76 [.t 14, .t 15, .t 16], some (13, false), true⟩,
  ⟨some 18, .pick (.t 13) (.c (.bool true)) (.t 17), none, true⟩,
  ⟨some 19, .mv (.t 18), none, true⟩,
  ⟨some 20, .load true 2 (.t 6), some (19, false), true⟩,
  ⟨some 21, .load true 2 (.t 7), some (19, false), true⟩,
  ⟨some 22, .load true 2 (.t 4), some (19, false), true⟩,
  ⟨some 23, .call 76 [.t 20, .t 21, .t 22], some (19, false), true⟩,
  ⟨some 24, .pick (.t 19) (.c (.bool true)) (.t 23), none, true⟩,
  ⟨some 25, .mv (.t 24), none, true⟩,
  ⟨some 26, .load true 2 (.t 6), some (25, false), true⟩,
  ⟨some 27, .load true 2 (.t 7), some (25, false), true⟩,
  ⟨some 28, .load true 2 (.t 5), some (25, false), true⟩,
  ⟨some 29, .call 76 [.t 26, .t 27, .t 28], some (25, false), true⟩,
  ⟨some 30, .pick (.t 25) (.c (.bool true)) (.t 29), none, true⟩] (some [4, 5, 6, 7, 30]) []) (
(.cond (.t 30) (
  (.seq (
  .reg none [
    ⟨some 8, .as (.c (.bool true)), none, true⟩] (some [8]) []) (
  .ret))) (
  .skip))))) (
(.seq (
.reg (some [.dr [32, 33, 35, 36, 37] [], .dr [31, 33, 35, 36, 37] [], .dr [31, 32, 35, 36, 37] [], .dr [35, 36, 37] [], .dr [31, 32, 33, 34, 36, 37] [], .dr [31, 32, 33, 34, 35, 37] [], .dr [31, 32, 33, 34, 35, 36] [], .free, .free, .free, .free, .dr [43, 44, 46, 47, 48] [], .dr [42, 44, 46, 47, 48] [], .dr [42, 43, 46, 47, 48] [], .dr [46, 47, 48] [], .dr [42, 43, 44, 45, 47, 48] [], .dr [42, 43, 44, 45, 46, 48] [], .dr [42, 43, 44, 45, 46, 47] [], .free, .free, .free, .free, .free]) [
  ⟨some 31, .load true 2 (.t 4), none, true⟩,
  ⟨some 32, .load true 2 (.t 5), none, true⟩,
  ⟨some 33, .load true 2 (.t 6), none, true⟩,
  ⟨some 34, .call 53 [.t 31, .t 32, .t 33], none, true⟩,
  ⟨some 35, .load true 2 (.t 4), none, true⟩,
  ⟨some 36, .load true 2 (.t 5), none, true⟩,
  ⟨some 37, .load true 2 (.t 7), none, true⟩,
  ⟨some 38, .call 53 [.t 35, .t 36, .t 37], none, true⟩,
  ⟨some 39, .bin .mul (.t 34) (.t 38), none, true⟩,
  ⟨some 40, .bin .lss (.t 39) (.c (.int .i64 0)), none, true⟩,
  ⟨some 41, .mv (.t 40), none, true⟩,
  ⟨some 42, .load true 2 (.t 6), some (41, true), true⟩,
  ⟨some 43, .load true 2 (.t 7), some (41, true), true⟩,
  ⟨some 44, .load true 2 (.t 4), some (41, true), true⟩,
  ⟨some 45, .call 53 [.t 42, .t 43, .t 44], some (41, true), true⟩,
  ⟨some 46, .load true 2 (.t 6), some (41, true), true⟩,
  ⟨some 47, .load true 2 (.t 7), some (41, true), true⟩,
  ⟨some 48, .load true 2 (.t 5), some (41, true), true⟩,
  ⟨some 49, .call 53 [.t 46, .t 47, .t 48], some (41, true), true⟩,
  ⟨some 50, .bin .mul (.t 45) (.t 49), some (41, true), true⟩,
  ⟨some 51, .bin .lss (.t 50) (.c (.int .i64 0)), some (41, true), true⟩,
  ⟨some 52, .pick (.t 41) (.t 51) (.c (.bool false)), none, true⟩,
  ⟨some 8, .as (.t 52), none, true⟩] (some [8]) [4, 5, 6, 7]) (
.ret)))))))
/-- ambidexter/ambidexterref05.next -/
def A51 : AFn := .code [.t 4] (
(.seq (
.reg none [
  ⟨some 4, .as (.c (.int .i64 0)), none, true⟩] (some [0, 1]) []) (
(.seq (
.reg none [
  ⟨some 5, .mv (.t 1), none, true⟩,
  ⟨some 6, .bin .add (.t 5) (.c (.int .i64 1)), none, true⟩,
  ⟨some 7, .mv (.t 0), none, true⟩,
  ⟨some 8, .len 0 (.t 7), none, true⟩,
  ⟨some 9, .bin .rem (.t 6) (.t 8), none, true⟩,
  ⟨some 4, .as (.t 9), none, true⟩] (some [4]) []) (
.ret)))))
def A52_L0b : ACode := 
  (.seq (
  (.seq (
  .reg none [
    ⟨some 9, .mv (.t 6), none, true⟩,
    ⟨some 10, .mv (.t 0), none, true⟩,
    ⟨some 11, .len 0 (.t 10), none, true⟩,
    ⟨some 12, .bin .lss (.t 9) (.t 11), none, true⟩] (some [0, 3, 5, 6, 12]) []) (
  (.cond (.t 12) (
    .skip) (
    .exit 0))))) (
  (.seq (
  (.block 1 (
  (.seq (
  .reg none [
    ⟨some 15, .mv (.t 0), none, true⟩,
    ⟨some 16, .mv (.t 6), none, true⟩,
    ⟨some 17, .call 60 [.t 15, .t 16], none, true⟩,
    ⟨some 7, .alloc [.int .i64 0, .int .i64 0], none, true⟩,
    ⟨none, .store 2 (.t 7) (.t 17), none, true⟩] (some [0, 3, 5, 6, 7]) []) (
  (.seq (
  .reg none [
    ⟨some 18, .mv (.t 0), none, true⟩,
    ⟨some 19, .mv (.t 6), none, true⟩,
    ⟨some 20, .bin .add (.t 19) (.c (.int .i64 1)), none, true⟩,
    ⟨some 21, .call 60 [.t 18, .t 20], none, true⟩,
    ⟨some 8, .alloc [.int .i64 0, .int .i64 0], none, true⟩,
    ⟨none, .store 2 (.t 8) (.t 21), none, true⟩] (some [0, 3, 5, 6, 7, 8]) []) (
  (.seq (
  (.seq (
  .reg none [
    ⟨some 22, .load true 2 (.t 7), none, true⟩,
    ⟨some 23, .load true 2 (.t 8), none, true⟩,
    ⟨some 24, .load true 2 (.t 3), none, true⟩,
    ⟨some 25, .call 77 [.t 22, .t 23, .t 24], none, true⟩] (some [0, 3, 5, 6, 7, 8, 25]) []) (
  (.cond (.t 25) (
    (.seq (
    .reg none [
      ⟨some 4, .as (.c (.int .i64 0)), none, true⟩] (some [4]) []) (
    .ret))) (
    .skip))))) (
  (.seq (
  (.seq (
  .reg none [
    ⟨some 26, .fad 1 (.t 7), none, true⟩,
    ⟨some 27, .load false 1 (.t 26), none, true⟩,
    ⟨some 28, .fad 1 (.t 3), none, true⟩,
    ⟨some 29, .load false 1 (.t 28), none, true⟩,
    ⟨some 30, .bin .leq (.t 27) (.t 29), none, true⟩,
    ⟨some 31, .mv (.t 30), none, true⟩,
    ⟨some 32, .fad 1 (.t 8), some (31, true), true⟩,
    ⟨some 33, .load false 1 (.t 32), some (31, true), true⟩,
    ⟨some 34, .fad 1 (.t 3), some (31, true), true⟩,
    ⟨some 35, .load false 1 (.t 34), some (31, true), true⟩,
    ⟨some 36, .bin .gtr (.t 33) (.t 35), some (31, true), true⟩,
    ⟨some 37, .pick (.t 31) (.t 36) (.c (.bool false)), none, true⟩,
    ⟨some 38, .mv (.t 37), none, true⟩,
    ⟨some 39, .load true 2 (.t 7), some (38, true), true⟩,
    ⟨some 40, .load true 2 (.t 8), some (38, true), true⟩,
    ⟨some 41, .load true 2 (.t 3), some (38, true), true⟩,
    ⟨some 42, .call 59 [.t 39, .t 40, .t 41], some (38, true), true⟩,
    ⟨some 43, .bin .gtr (.t 42) (.c (.int .i64 0)), some (38, true), true⟩,
    ⟨some 44, .pick (.t 38) (.t 43) (.c (.bool false)), none, true⟩] (some [0, 3, 5, 6, 7, 8, 44]) []) (
  (.cond (.t 44) (
    .reg none [
      ⟨some 45, .mv (.t 5), none, true⟩,
      ⟨some 46, .bin .add (.t 45) (.c (.int .i64 1)), none, true⟩,
      ⟨some 5, .as (.t 46), none, true⟩] (some [0, 3, 5, 6, 7, 8]) []) (
    .skip))))) (
  (.seq (
  .reg none [
    ⟨some 47, .fad 1 (.t 8), none, true⟩,
    ⟨some 48, .load false 1 (.t 47), none, true⟩,
    ⟨some 49, .fad 1 (.t 3), none, true⟩,
    ⟨some 50, .load false 1 (.t 49), none, true⟩,
    ⟨some 51, .bin .leq (.t 48) (.t 50), none, true⟩,
    ⟨some 52, .mv (.t 51), none, true⟩,
    ⟨some 53, .fad 1 (.t 7), some (52, true), true⟩,
    ⟨some 54, .load false 1 (.t 53), some (52, true), true⟩,
    ⟨some 55, .fad 1 (.t 3), some (52, true), true⟩,
    ⟨some 56, .load false 1 (.t 55), some (52, true), true⟩,
    ⟨some 57, .bin .gtr (.t 54) (.t 56), some (52, true), true⟩,
    ⟨some 58, .pick (.t 52) (.t 57) (.c (.bool false)), none, true⟩,
    ⟨some 59, .mv (.t 58), none, true⟩,
    ⟨some 60, .load true 2 (.t 8), some (59, true), true⟩,
    ⟨some 61, .load true 2 (.t 7), some (59, true), true⟩,
    ⟨some 62, .load true 2 (.t 3), some (59, true), true⟩,
    ⟨some 63, .call 59 [.t 60, .t 61, .t 62], some (59, true), true⟩,
    ⟨some 64, .bin .gtr (.t 63) (.c (.int .i64 0)), some (59, true), true⟩,
    ⟨some 65, .pick (.t 59) (.t 64) (.c (.bool false)), none, true⟩] (some [0, 3, 5, 6, 65]) [7, 8]) (
  (.cond (.t 65) (
    .reg none [
      ⟨some 66, .mv (.t 5), none, true⟩,
      ⟨some 67, .bin .add (.t 66) (.c (.int .i64 1)), none, true⟩,
      ⟨some 5, .as (.t 67), none, true⟩] (some [0, 3, 5, 6]) []) (
    .skip))))))))))))) (some [0, 3, 5, 6]) [4, 7, 8, 17, 21, 25, 42, 63])) (
  .reg none [
    ⟨some 13, .mv (.t 6), none, true⟩,
    ⟨some 14, .bin .add (.t 13) (.c (.int .i64 1)), none, true⟩,
    ⟨some 6, .as (.t 14), none, true⟩] (some [0, 3, 5, 6]) []))))
def A52_L0 : ACode := .loop A52_L0b (some [0, 3, 5, 6]) [4, 7, 8, 17, 21, 25, 42, 63]
/-- ambidexter/ambidexterref03.Has -/
def A52 : AFn := .code [.t 4] (
(.seq (
.reg none [
  ⟨some 3, .box (.t 1), none, true⟩,
  ⟨some 4, .as (.c (.int .i64 0)), none, true⟩] (some [0, 3]) []) (
(.seq (
.reg none [
  ⟨some 5, .as (.c (.int .i64 0)), none, true⟩] (some [0, 3, 5]) []) (
(.seq (
(.seq (
.reg none [
  ⟨some 6, .as (.c (.int .i64 0)), none, true⟩] (some [0, 3, 5, 6]) []) (
(.block 0 (
A52_L0) (some [5]) [4, 6, 7, 8, 17, 21, 25, 42, 63])))) (
(.seq (
(.seq (
.reg none [
  ⟨some 68, .mv (.t 5), none, true⟩,
  ⟨some 69, .bin .rem (.t 68) (.c (.int .i64 2)), none, true⟩,
  ⟨some 70, .bin .eql (.t 69) (.c (.int .i64 1)), none, true⟩] (some [70]) []) (
(.cond (.t 70) (
  (.seq (
  .reg none [
    ⟨some 4, .as (.c (.int .i64 1)), none, true⟩] (some [4]) []) (
  .ret))) (
  .skip))))) (
(.seq (
.reg none [
  ⟨some 4, .as (.c (.int .i64 (-1))), none, true⟩] (some [4]) []) (
.ret)))))))))))
/-- ambidexter/ambidexterref02.Side -/
def A53 : AFn := .code [.t 6] (
(.seq (
.reg none [
  ⟨some 3, .box (.t 0), none, true⟩,
  ⟨some 4, .box (.t 1), none, true⟩,
  ⟨some 5, .box (.t 2), none, true⟩,
  ⟨some 6, .as (.c (.int .i64 0)), none, true⟩] (some [3, 4, 5]) []) (
(.seq (
.reg none [
  ⟨some 8, .load true 2 (.t 3), none, true⟩,
  ⟨some 9, .load true 2 (.t 4), none, true⟩,
  ⟨some 10, .load true 2 (.t 5), none, true⟩,
  ⟨some 11, .call 78 [.t 8, .t 9, .t 10], none, true⟩,
  ⟨some 7, .as (.t 11), none, true⟩] (some [7]) [3, 4, 5]) (
(.seq (
(.seq (
.reg none [
  ⟨some 12, .mv (.t 7), none, true⟩,
  ⟨some 13, .bin .gtr (.t 12) (.c (.int .i64 0)), none, true⟩] (some [7, 13]) []) (
(.cond (.t 13) (
  (.seq (
  .reg none [
    ⟨some 6, .as (.c (.int .i64 1)), none, true⟩] (some [6]) []) (
  .ret))) (
  .skip))))) (
(.seq (
(.seq (
.reg none [
  ⟨some 14, .mv (.t 7), none, true⟩,
  ⟨some 15, .bin .lss (.t 14) (.c (.int .i64 0)), none, true⟩] (some [15]) []) (
(.cond (.t 15) (
  (.seq (
  .reg none [
    ⟨some 6, .as (.c (.int .i64 (-1))), none, true⟩] (some [6]) []) (
  .ret))) (
  .skip))))) (
(.seq (
.reg none [
  ⟨some 6, .as (.c (.int .i64 0)), none, true⟩] (some [6]) []) (
.ret)))))))))))
/-- ambidexter/geom.SegmentsIntersect$1 -/
def A54 : AFn := .code [.t 8, .t 9] (
(.seq (
.reg none [
  ⟨some 4, .box (.t 0), none, true⟩,
  ⟨some 5, .box (.t 1), none, true⟩,
  ⟨some 6, .box (.t 2), none, true⟩,
  ⟨some 7, .box (.t 3), none, true⟩,
  ⟨some 8, .as (.c (.bool false)), none, true⟩,
  ⟨some 9, .as (.c (.bool false)), none, true⟩] (some [4, 5, 6, 7]) []) (
(.seq (
.reg (some [.dr [13, 14, 16, 17, 18] [], .dr [12, 14, 16, 17, 18] [], .dr [12, 13, 16, 17, 18] [], .dr [16, 17, 18] [], .dr [12, 13, 14, 15, 17, 18] [], .dr [12, 13, 14, 15, 16, 18] [], .dr [12, 13, 14, 15, 16, 17] [], .free, .free, .free]) [
  ⟨some 12, .load true 2 (.t 4), none, true⟩,
  ⟨some 13, .load true 2 (.t 5), none, true⟩,
  ⟨some 14, .load true 2 (.t 6), none, true⟩,
  ⟨some 15, .call 55 [.t 12, .t 13, .t 14], none, true⟩,
  ⟨some 16, .load true 2 (.t 4), none, true⟩,
  ⟨some 17, .load true 2 (.t 5), none, true⟩,
  ⟨some 18, .load true 2 (.t 7), none, true⟩,
  ⟨some 19, .call 55 [.t 16, .t 17, .t 18], none, true⟩,
  ⟨some 10, .as (.t 15), none, true⟩,
  ⟨some 11, .as (.t 19), none, true⟩] (some [4, 5, 6, 7, 10, 11]) []) (
(.seq (
.reg none [
  ⟨some 20, .mv (.t 10), none, true⟩,
  ⟨some 21, .mv (.t 11), none, true⟩,
  ⟨some 22, .bin .mul (.t 20) (.t 21), none, true⟩,
  ⟨some 23, .bin .lss (.t 22) (.c (.int .i64 0)), none, true⟩,
  ⟨some 24, .mv (.t 10), none, true⟩,
  ⟨some 25, .bin .eql (.t 24) (.c (.int .i64 0)), none, true⟩,
  ⟨some 26, .mv (.t 25), none, true⟩,
  ⟨some 27, .load true 2 (.t 4), some (26, true), true⟩,
  ⟨some 28, .load true 2 (.t 5), some (26, true), true⟩,
  ⟨some 29, .load true 2 (.t 6), some (26, true), true⟩,
  ⟨some 30, .call 56 [.t 27, .t 28, .t 29], some (26, true), true⟩,
  ⟨some 31, .pick (.t 26) (.t 30) (.c (.bool false)), none, true⟩,
  ⟨some 32, .mv (.t 31), none, true⟩,
  ⟨some 33, .mv (.t 11), some (32, false), true⟩,
  ⟨some 34, .bin .eql (.t 33) (.c (.int .i64 0)), some (32, false), true⟩,
  ⟨some 35, .mv (.t 34), some (32, false), true⟩,
  ⟨some 36, .load true 2 (.t 4), some (35, true), true⟩,
  ⟨some 37, .load true 2 (.t 5), some (35, true), true⟩,
  ⟨some 38, .load true 2 (.t 7), some (35, true), true⟩,
  ⟨some 39, .call 56 [.t 36, .t 37, .t 38], some (35, true), true⟩,
  ⟨some 40, .pick (.t 35) (.t 39) (.c (.bool false)), some (32, false), true⟩,
  ⟨some 41, .pick (.t 32) (.c (.bool true)) (.t 40), none, true⟩,
  ⟨some 8, .as (.t 23), none, true⟩,
  ⟨some 9, .as (.t 41), none, true⟩] (some [8, 9]) [4, 5, 6, 7]) (
.ret)))))))
/-- ambidexter/geom.Orientation -/
def A55 : AFn := .code [.t 6] (
(.seq (
.reg none [
  ⟨some 3, .box (.t 0), none, true⟩,
  ⟨some 4, .box (.t 1), none, true⟩,
  ⟨some 5, .box (.t 2), none, true⟩,
  ⟨some 6, .as (.c (.int .i64 0)), none, true⟩] (some [3, 4, 5]) []) (
(.seq (
.reg (some [.dr [11, 13, 14, 7, 8] [], .dr [10, 13, 14, 7, 8] [], .dr [13, 14, 7, 8] [], .dr [10, 11, 12, 14, 7, 8] [], .dr [10, 11, 12, 13, 7, 8] [], .dr [7, 8] [], .dr [10, 11, 12, 13, 14, 15, 8] [], .dr [10, 11, 12, 13, 14, 15, 7] [], .free, .free]) [
  ⟨some 10, .load true 2 (.t 4), none, true⟩,
  ⟨some 11, .load true 2 (.t 3), none, true⟩,
  ⟨some 12, .call 79 [.t 10, .t 11], none, true⟩,
  ⟨some 13, .load true 2 (.t 5), none, true⟩,
  ⟨some 14, .load true 2 (.t 3), none, true⟩,
  ⟨some 15, .call 79 [.t 13, .t 14], none, true⟩,
  ⟨some 7, .alloc [.int .i64 0, .int .i64 0], none, true⟩,
  ⟨some 8, .alloc [.int .i64 0, .int .i64 0], none, true⟩,
  ⟨none, .store 2 (.t 7) (.t 12), none, true⟩,
  ⟨none, .store 2 (.t 8) (.t 15), none, true⟩] (some [7, 8]) [3, 4, 5]) (
(.seq (
(.seq (
.reg none [
  ⟨some 16, .fad 0 (.t 7), none, true⟩,
  ⟨some 17, .load false 1 (.t 16), none, true⟩,
  ⟨some 18, .fad 1 (.t 8), none, true⟩,
  ⟨some 19, .load false 1 (.t 18), none, true⟩,
  ⟨some 20, .bin .mul (.t 17) (.t 19), none, true⟩,
  ⟨some 21, .fad 1 (.t 7), none, true⟩,
  ⟨some 22, .load false 1 (.t 21), none, true⟩,
  ⟨some 23, .fad 0 (.t 8), none, true⟩,
  ⟨some 24, .load false 1 (.t 23), none, true⟩,
  ⟨some 25, .bin .mul (.t 22) (.t 24), none, true⟩,
  ⟨some 26, .bin .sub (.t 20) (.t 25), none, true⟩,
  ⟨some 9, .as (.t 26), none, true⟩] (some [9]) [7, 8]) (
(.block 0 (
(.seq (
.reg none [
  ⟨some 28, .mv (.t 9), none, true⟩,
  ⟨some 29, .bin .gtr (.t 28) (.c (.int .i64 0)), none, true⟩,
  ⟨some 27, .as (.t 29), none, true⟩] (some [9, 27]) []) (
(.cond (.t 27) (
  (.seq (
  .reg none [
    ⟨some 6, .as (.c (.int .i64 1)), none, true⟩] (some [6]) []) (
  .ret))) (
  (.seq (
  .reg none [
    ⟨some 31, .mv (.t 9), none, true⟩,
    ⟨some 32, .bin .lss (.t 31) (.c (.int .i64 0)), none, true⟩,
    ⟨some 30, .as (.t 32), none, true⟩] (some [30]) []) (
  (.cond (.t 30) (
    (.seq (
    .reg none [
      ⟨some 6, .as (.c (.int .i64 (-1))), none, true⟩] (some [6]) []) (
    .ret))) (
    .skip))))))))) (some []) [6, 27, 30])))) (
(.seq (
.reg none [
  ⟨some 6, .as (.c (.int .i64 0)), none, true⟩] (some [6]) []) (
.ret)))))))))
/-- ambidexter/geom.within -/
def A56 : AFn := .code [.t 6] (
(.seq (
.reg none [
  ⟨some 3, .box (.t 0), none, true⟩,
  ⟨some 4, .box (.t 1), none, true⟩,
  ⟨some 5, .box (.t 2), none, true⟩,
  ⟨some 6, .as (.c (.bool false)), none, true⟩] (some [3, 4, 5]) []) (
(.seq (
.reg none [
  ⟨some 10, .load true 2 (.t 3), none, true⟩,
  ⟨some 11, .load true 2 (.t 4), none, true⟩,
  ⟨some 12, .bsl 2 2 [.int .i64 0, .int .i64 0] [(0, .t 10), (1, .t 11)], none, true⟩,
  ⟨some 13, .call 80 [.t 12], none, true⟩,
  ⟨some 9, .mv (.t 13), none, true⟩,
  ⟨some 14, .ext (.t 9) 0, none, true⟩,
  ⟨some 15, .ext (.t 9) 1, none, true⟩,
  ⟨some 7, .alloc [.int .i64 0, .int .i64 0], none, true⟩,
  ⟨some 8, .alloc [.int .i64 0, .int .i64 0], none, true⟩,
  ⟨none, .store 2 (.t 7) (.t 14), none, true⟩,
  ⟨none, .store 2 (.t 8) (.t 15), none, true⟩] (some [5, 7, 8]) [3, 4]) (
(.seq (
.reg none [
  ⟨some 16, .fad 0 (.t 5), none, true⟩,
  ⟨some 17, .load false 1 (.t 16), none, true⟩,
  ⟨some 18, .fad 0 (.t 7), none, true⟩,
  ⟨some 19, .load false 1 (.t 18), none, true⟩,
  ⟨some 20, .bin .geq (.t 17) (.t 19), none, true⟩,
  ⟨some 21, .mv (.t 20), none, true⟩,
  ⟨some 22, .fad 0 (.t 5), some (21, true), true⟩,
  ⟨some 23, .load false 1 (.t 22), some (21, true), true⟩,
  ⟨some 24, .fad 0 (.t 8), some (21, true), true⟩,
  ⟨some 25, .load false 1 (.t 24), some (21, true), true⟩,
  ⟨some 26, .bin .leq (.t 23) (.t 25), some (21, true), true⟩,
  ⟨some 27, .pick (.t 21) (.t 26) (.c (.bool false)), none, true⟩,
  ⟨some 28, .mv (.t 27), none, true⟩,
  ⟨some 29, .fad 1 (.t 5), some (28, true), true⟩,
  ⟨some 30, .load false 1 (.t 29), some (28, true), true⟩,
  ⟨some 31, .fad 1 (.t 7), some (28, true), true⟩,
  ⟨some 32, .load false 1 (.t 31), some (28, true), true⟩,
  ⟨some 33, .bin .geq (.t 30) (.t 32), some (28, true), true⟩,
  ⟨some 34, .pick (.t 28) (.t 33) (.c (.bool false)), none, true⟩,
  ⟨some 35, .mv (.t 34), none, true⟩,
  ⟨some 36, .fad 1 (.t 5), some (35, true), true⟩,
  ⟨some 37, .load false 1 (.t 36), some (35, true), true⟩,
  ⟨some 38, .fad 1 (.t 8), some (35, true), true⟩,
  ⟨some 39, .load false 1 (.t 38), some (35, true), true⟩,
  ⟨some 40, .bin .leq (.t 37) (.t 39), some (35, true), true⟩,
  ⟨some 41, .pick (.t 35) (.t 40) (.c (.bool false)), none, true⟩,
  ⟨some 6, .as (.t 41), none, true⟩] (some [6]) [5, 7, 8]) (
.ret)))))))
/-- ambidexter/polygon.edges -/
def A57 : AFn := .code [.t 2] (
(.seq (
.reg none [
  ⟨some 1, .box (.t 0), none, true⟩,
  ⟨some 2, .as (.c (.nilf)), none, true⟩] (some [1]) []) (
(.seq (
.reg none [
  ⟨some 3, .mkf (.func 81) [] [.t 1], none, true⟩,
  ⟨some 2, .as (.t 3), none, true⟩] (some [2]) []) (
.ret)))))
/-- ambidexter/geom.OnSegment -/
def A58 : AFn := .code [.t 6] (
(.seq (
.reg none [
  ⟨some 3, .box (.t 0), none, true⟩,
  ⟨some 4, .box (.t 1), none, true⟩,
  ⟨some 5, .box (.t 2), none, true⟩,
  ⟨some 6, .as (.c (.bool false)), none, true⟩] (some [3, 4, 5]) []) (
(.seq (
.reg none [
  ⟨some 7, .load true 2 (.t 3), none, true⟩,
  ⟨some 8, .load true 2 (.t 4), none, true⟩,
  ⟨some 9, .load true 2 (.t 5), none, true⟩,
  ⟨some 10, .call 56 [.t 7, .t 8, .t 9], none, true⟩,
  ⟨some 11, .mv (.t 10), none, true⟩,
  ⟨some 12, .load true 2 (.t 3), some (11, true), true⟩,
  ⟨some 13, .load true 2 (.t 4), some (11, true), true⟩,
  ⟨some 14, .load true 2 (.t 5), some (11, true), true⟩,
  ⟨some 15, .call 55 [.t 12, .t 13, .t 14], some (11, true), true⟩,
  ⟨some 16, .bin .eql (.t 15) (.c (.int .i64 0)), some (11, true), true⟩,
  ⟨some 17, .pick (.t 11) (.t 16) (.c (.bool false)), none, true⟩,
  ⟨some 6, .as (.t 17), none, true⟩] (some [6]) [3, 4, 5]) (
.ret)))))
/-- ambidexter/ambidexterref03.Cross -/
def A59 : AFn := .code [.t 6] (
(.seq (
.reg none [
  ⟨some 3, .box (.t 0), none, true⟩,
  ⟨some 4, .box (.t 1), none, true⟩,
  ⟨some 5, .box (.t 2), none, true⟩,
  ⟨some 6, .as (.c (.int .i64 0)), none, true⟩] (some [3, 4, 5]) []) (
(.seq (
.reg none [
  ⟨some 7, .fad 0 (.t 4), none, true⟩,
  ⟨some 8, .load false 1 (.t 7), none, true⟩,
  ⟨some 9, .fad 0 (.t 3), none, true⟩,
  ⟨some 10, .load false 1 (.t 9), none, true⟩,
  ⟨some 11, .bin .sub (.t 8) (.t 10), none, true⟩,
  ⟨some 12, .fad 1 (.t 5), none, true⟩,
  ⟨some 13, .load false 1 (.t 12), none, true⟩,
  ⟨some 14, .fad 1 (.t 3), none, true⟩,
  ⟨some 15, .load false 1 (.t 14), none, true⟩,
  ⟨some 16, .bin .sub (.t 13) (.t 15), none, true⟩,
  ⟨some 17, .bin .mul (.t 11) (.t 16), none, true⟩,
  ⟨some 18, .fad 1 (.t 4), none, true⟩,
  ⟨some 19, .load false 1 (.t 18), none, true⟩,
  ⟨some 20, .fad 1 (.t 3), none, true⟩,
  ⟨some 21, .load false 1 (.t 20), none, true⟩,
  ⟨some 22, .bin .sub (.t 19) (.t 21), none, true⟩,
  ⟨some 23, .fad 0 (.t 5), none, true⟩,
  ⟨some 24, .load false 1 (.t 23), none, true⟩,
  ⟨some 25, .fad 0 (.t 3), none, true⟩,
  ⟨some 26, .load false 1 (.t 25), none, true⟩,
  ⟨some 27, .bin .sub (.t 24) (.t 26), none, true⟩,
  ⟨some 28, .bin .mul (.t 22) (.t 27), none, true⟩,
  ⟨some 29, .bin .sub (.t 17) (.t 28), none, true⟩,
  ⟨some 6, .as (.t 29), none, true⟩] (some [6]) [3, 4, 5]) (
.ret)))))
/-- ambidexter/ambidexterref03.At -/
def A60 : AFn := .code [.cell true 2 4] (
(.seq (
.reg none [
  ⟨some 4, .alloc [.int .i64 0, .int .i64 0], none, true⟩] (some [0, 1, 4]) []) (
(.seq (
.reg none [
  ⟨some 5, .mv (.t 0), none, true⟩,
  ⟨some 6, .mv (.t 1), none, true⟩,
  ⟨some 7, .mv (.t 0), none, true⟩,
  ⟨some 8, .len 0 (.t 7), none, true⟩,
  ⟨some 9, .bin .rem (.t 6) (.t 8), none, true⟩,
  ⟨some 10, .ias 2 (.t 5) (.t 9), none, true⟩,
  ⟨some 11, .load true 2 (.t 10), none, true⟩,
  ⟨none, .store 2 (.t 4) (.t 11), none, true⟩] (some [4]) []) (
.ret)))))

end Go.Proofs.Yteellikeoiedbaa
