/- Part of the proof: what functions of the program compute, over the evaluation that the engine's texts tie to the machine. -/
import Derived.Test.YtojjdhdflhcdkaaZvE
namespace Go.Proofs.Ytojjdhdflhcdkaa
open Go Go.Zv
set_option maxRecDepth 100000
/-- gosem.cut.init -/
def A2 : AFn := .code [] (
.reg none [
  ⟨some 0, .call 1 [], none, true⟩] (some []) [])
/-- ambidexter/ambidexterlaw02.GeomMatchesReference -/
def A3 : AFn := .code [.t 8] (
(.seq (
.reg none [
  ⟨some 4, .box (.t 0), none, true⟩,
  ⟨some 8, .as (.c (.bool false)), none, true⟩] (some [1, 2, 3, 4]) []) (
(.seq (
.reg none [
  ⟨some 17, .call 10 [], none, true⟩,
  ⟨some 9, .as (.t 17), none, true⟩] (some [1, 2, 3, 4, 9]) []) (
(.seq (
.reg none [
  ⟨some 18, .load true 8 (.t 4), none, true⟩,
  ⟨some 19, .mv (.t 1), none, true⟩,
  ⟨some 20, .call 11 [.t 18, .t 19], none, true⟩,
  ⟨some 10, .alloc [.int .i64 0, .int .i64 0, .int .i64 0, .int .i64 0, .int .i64 0, .int .i64 0, .int .i64 0, .int .i64 0], none, true⟩,
  ⟨none, .store 8 (.t 10) (.t 20), none, true⟩] (some [2, 3, 4, 9, 10]) []) (
(.seq (
.reg none [
  ⟨some 21, .mv (.t 2), none, true⟩,
  ⟨some 22, .call 12 [.t 21], none, true⟩,
  ⟨some 11, .as (.t 22), none, true⟩] (some [3, 4, 9, 10, 11]) []) (
(.seq (
.reg none [
  ⟨some 23, .mv (.t 3), none, true⟩,
  ⟨some 24, .call 12 [.t 23], none, true⟩,
  ⟨some 12, .as (.t 24), none, true⟩] (some [4, 9, 10, 11, 12]) []) (
(.seq (
.reg none [
  ⟨some 26, .mv (.t 11), none, true⟩,
  ⟨some 27, .call 13 [.t 26], none, true⟩,
  ⟨some 25, .mv (.t 27), none, true⟩,
  ⟨some 28, .ext (.t 25) 0, none, true⟩,
  ⟨some 29, .ext (.t 25) 1, none, true⟩,
  ⟨some 13, .alloc [.int .i64 0, .int .i64 0], none, true⟩,
  ⟨some 14, .alloc [.int .i64 0, .int .i64 0], none, true⟩,
  ⟨none, .store 2 (.t 13) (.t 28), none, true⟩,
  ⟨none, .store 2 (.t 14) (.t 29), none, true⟩] (some [4, 9, 10, 11, 12, 13, 14]) []) (
(.seq (
.reg none [
  ⟨some 31, .mv (.t 11), none, true⟩,
  ⟨some 32, .call 14 [.t 31], none, true⟩,
  ⟨some 30, .mv (.t 32), none, true⟩,
  ⟨some 33, .ext (.t 30) 0, none, true⟩,
  ⟨some 34, .ext (.t 30) 1, none, true⟩,
  ⟨some 15, .alloc [.int .i64 0, .int .i64 0], none, true⟩,
  ⟨some 16, .alloc [.int .i64 0, .int .i64 0], none, true⟩,
  ⟨none, .store 2 (.t 15) (.t 33), none, true⟩,
  ⟨none, .store 2 (.t 16) (.t 34), none, true⟩] (some [4, 9, 10, 11, 12, 13, 14, 15, 16]) []) (
(.seq (
.reg (some [.free, .free, .dr [40, 43, 45] [], .dr [40, 43, 45] [], .dr [38, 43, 45] [], .dr [38, 43, 45] [], .dr [43, 45] [], .dr [38, 40, 41, 45] [], .dr [38, 40, 41, 45] [], .dr [38, 40, 41, 43] [], .dr [38, 40, 41, 43] [], .free, .free, .free, .free, .dr [53, 56, 58] [], .dr [53, 56, 58] [], .dr [51, 56, 58] [], .dr [51, 56, 58] [], .dr [56, 58] [], .dr [51, 53, 54, 58] [], .dr [51, 53, 54, 58] [], .dr [51, 53, 54, 56] [], .dr [51, 53, 54, 56] [], .free, .free, .free, .free, .dr [66, 68, 71, 73, 75] [], .dr [66, 68, 71, 73, 75] [], .dr [64, 68, 71, 73, 75] [], .dr [64, 68, 71, 73, 75] [], .dr [64, 66, 71, 73, 75] [], .dr [64, 66, 71, 73, 75] [], .dr [71, 73, 75] [], .dr [64, 66, 68, 69, 73, 75] [], .dr [64, 66, 68, 69, 73, 75] [], .dr [64, 66, 68, 69, 71, 75] [], .dr [64, 66, 68, 69, 71, 75] [], .dr [64, 66, 68, 69, 71, 73] [], .dr [64, 66, 68, 69, 71, 73] [], .free, .free, .free, .free, .dr [83, 85, 88, 90, 92] [], .dr [83, 85, 88, 90, 92] [], .dr [81, 85, 88, 90, 92] [], .dr [81, 85, 88, 90, 92] [], .dr [81, 83, 88, 90, 92] [], .dr [81, 83, 88, 90, 92] [], .dr [88, 90, 92] [], .dr [81, 83, 85, 86, 90, 92] [], .dr [81, 83, 85, 86, 90, 92] [], .dr [81, 83, 85, 86, 88, 92] [], .dr [81, 83, 85, 86, 88, 92] [], .dr [81, 83, 85, 86, 88, 90] [], .dr [81, 83, 85, 86, 88, 90] [], .free, .free, .free, .free, .dr [100, 102, 104, 107, 109, 111, 113] [], .dr [100, 102, 104, 107, 109, 111, 113] [], .dr [98, 102, 104, 107, 109, 111, 113] [], .dr [98, 102, 104, 107, 109, 111, 113] [], .dr [98, 100, 104, 107, 109, 111, 113] [], .dr [98, 100, 104, 107, 109, 111, 113] [], .dr [98, 100, 102, 107, 109, 111, 113] [], .dr [98, 100, 102, 107, 109, 111, 113] [], .dr [107, 109, 111, 113] [], .dr [98, 100, 102, 104, 105, 109, 111, 113] [], .dr [98, 100, 102, 104, 105, 109, 111, 113] [], .dr [98, 100, 102, 104, 105, 107, 111, 113] [], .dr [98, 100, 102, 104, 105, 107, 111, 113] [], .dr [98, 100, 102, 104, 105, 107, 109, 113] [], .dr [98, 100, 102, 104, 105, 107, 109, 113] [], .dr [98, 100, 102, 104, 105, 107, 109, 111] [], .dr [98, 100, 102, 104, 105, 107, 109, 111] [], .free, .free, .free, .free, .dr [119] [], .dr [118] [], .free, .free, .free, .dr [124] [], .dr [123] [], .free, .free, .free, .dr [] [], .dr [] [], .dr [] [], .dr [130] [], .dr [130] [], .free, .free, .free, .free]) [
  ⟨some 35, .mv (.t 9), none, true⟩,
  ⟨some 36, .mv (.t 35), none, true⟩,
  ⟨some 37, .iaa 4 2 (.t 4) (.c (.int .i64 0)), some (36, true), true⟩,
  ⟨some 38, .load true 2 (.t 37), some (36, true), true⟩,
  ⟨some 39, .iaa 4 2 (.t 4) (.c (.int .i64 1)), some (36, true), true⟩,
  ⟨some 40, .load true 2 (.t 39), some (36, true), true⟩,
  ⟨some 41, .call 15 [.t 38, .t 40], some (36, true), true⟩,
  ⟨some 42, .iaa 4 2 (.t 4) (.c (.int .i64 0)), some (36, true), true⟩,
  ⟨some 43, .load true 2 (.t 42), some (36, true), true⟩,
  ⟨some 44, .iaa 4 2 (.t 4) (.c (.int .i64 1)), some (36, true), true⟩,
  ⟨some 45, .load true 2 (.t 44), some (36, true), true⟩,
  ⟨some 46, .call 16 [.t 43, .t 45], some (36, true), true⟩,
  ⟨some 47, .eqa false [0, 0] (.t 41) (.t 46), some (36, true), true⟩,
  ⟨some 48, .pick (.t 36) (.t 47) (.c (.bool false)), none, true⟩,
  ⟨some 49, .mv (.t 48), none, true⟩,
  ⟨some 50, .iaa 4 2 (.t 4) (.c (.int .i64 0)), some (49, true), true⟩,
  ⟨some 51, .load true 2 (.t 50), some (49, true), true⟩,
  ⟨some 52, .iaa 4 2 (.t 4) (.c (.int .i64 1)), some (49, true), true⟩,
  ⟨some 53, .load true 2 (.t 52), some (49, true), true⟩,
  ⟨some 54, .call 17 [.t 51, .t 53], some (49, true), true⟩,
  ⟨some 55, .iaa 4 2 (.t 4) (.c (.int .i64 0)), some (49, true), true⟩,
  ⟨some 56, .load true 2 (.t 55), some (49, true), true⟩,
  ⟨some 57, .iaa 4 2 (.t 4) (.c (.int .i64 1)), some (49, true), true⟩,
  ⟨some 58, .load true 2 (.t 57), some (49, true), true⟩,
  ⟨some 59, .call 18 [.t 56, .t 58], some (49, true), true⟩,
  ⟨some 60, .eqa false [0, 0] (.t 54) (.t 59), some (49, true), true⟩,
  ⟨some 61, .pick (.t 49) (.t 60) (.c (.bool false)), none, true⟩,
  ⟨some 62, .mv (.t 61), none, true⟩,
  ⟨some 63, .iaa 4 2 (.t 10) (.c (.int .i64 0)), some (62, true), true⟩,
  ⟨some 64, .load true 2 (.t 63), some (62, true), true⟩,
  ⟨some 65, .iaa 4 2 (.t 10) (.c (.int .i64 1)), some (62, true), true⟩,
  ⟨some 66, .load true 2 (.t 65), some (62, true), true⟩,
  ⟨some 67, .iaa 4 2 (.t 10) (.c (.int .i64 2)), some (62, true), true⟩,
  ⟨some 68, .load true 2 (.t 67), some (62, true), true⟩,
  ⟨some 69, .call 19 [.t 64, .t 66, .t 68], some (62, true), true⟩,
  ⟨some 70, .iaa 4 2 (.t 10) (.c (.int .i64 0)), some (62, true), true⟩,
  ⟨some 71, .load true 2 (.t 70), some (62, true), true⟩,
  ⟨some 72, .iaa 4 2 (.t 10) (.c (.int .i64 1)), some (62, true), true⟩,
  ⟨some 73, .load true 2 (.t 72), some (62, true), true⟩,
  ⟨some 74, .iaa 4 2 (.t 10) (.c (.int .i64 2)), some (62, true), true⟩,
  ⟨some 75, .load true 2 (.t 74), some (62, true), true⟩,
  ⟨some 76, .call 20 [.t 71, .t 73, .t 75], some (62, true), true⟩,
  ⟨some 77, .bin .eql (.t 69) (.t 76), some (62, true), true⟩,
  ⟨some 78, .pick (.t 62) (.t 77) (.c (.bool false)), none, true⟩,
  ⟨some 79, .mv (.t 78), none, true⟩,
  ⟨some 80, .iaa 4 2 (.t 10) (.c (.int .i64 0)), some (79, true), true⟩,
  ⟨some 81, .load true 2 (.t 80), some (79, true), true⟩,
  ⟨some 82, .iaa 4 2 (.t 10) (.c (.int .i64 1)), some (79, true), true⟩,
  ⟨some 83, .load true 2 (.t 82), some (79, true), true⟩,
  ⟨some 84, .iaa 4 2 (.t 10) (.c (.int .i64 2)), some (79, true), true⟩,
  ⟨some 85, .load true 2 (.t 84), some (79, true), true⟩,
  ⟨some 86, .call 21 [.t 81, .t 83, .t 85], some (79, true), true⟩,
  ⟨some 87, .iaa 4 2 (.t 10) (.c (.int .i64 0)), some (79, true), true⟩,
  ⟨some 88, .load true 2 (.t 87), some (79, true), true⟩,
  ⟨some 89, .iaa 4 2 (.t 10) (.c (.int .i64 1)), some (79, true), true⟩,
  ⟨some 90, .load true 2 (.t 89), some (79, true), true⟩,
  ⟨some 91, .iaa 4 2 (.t 10) (.c (.int .i64 2)), some (79, true), true⟩,
  ⟨some 92, .load true 2 (.t 91), some (79, true), true⟩,
  ⟨some 93, .call 22 [.t 88, .t 90, .t 92], some (79, true), true⟩,
  ⟨some 94, .bib false (.t 86) (.t 93), some (79, true), true⟩,
  ⟨some 95, .pick (.t 79) (.t 94) (.c (.bool false)), none, true⟩,
  ⟨some 96, .mv (.t 95), none, true⟩,
  ⟨some 97, .iaa 4 2 (.t 10) (.c (.int .i64 0)), some (96, true), true⟩,
  ⟨some 98, .load true 2 (.t 97), some (96, true), true⟩,
  ⟨some 99, .iaa 4 2 (.t 10) (.c (.int .i64 1)), some (96, true), true⟩,
  ⟨some 100, .load true 2 (.t 99), some (96, true), true⟩,
  ⟨some 101, .iaa 4 2 (.t 10) (.c (.int .i64 2)), some (96, true), true⟩,
  ⟨some 102, .load true 2 (.t 101), some (96, true), true⟩,
  ⟨some 103, .iaa 4 2 (.t 10) (.c (.int .i64 3)), some (96, true), true⟩,
  ⟨some 104, .load true 2 (.t 103), some (96, true), true⟩,
  ⟨some 105, .call 23 [.t 98, .t 100, .t 102, .t 104], some (96, true), true⟩,
  ⟨some 106, .iaa 4 2 (.t 10) (.c (.int .i64 0)), some (96, true), true⟩,
  ⟨some 107, .load true 2 (.t 106), some (96, true), true⟩,
  ⟨some 108, .iaa 4 2 (.t 10) (.c (.int .i64 1)), some (96, true), true⟩,
  ⟨some 109, .load true 2 (.t 108), some (96, true), true⟩,
  ⟨some 110, .iaa 4 2 (.t 10) (.c (.int .i64 2)), some (96, true), true⟩,
  ⟨some 111, .load true 2 (.t 110), some (96, true), true⟩,
  ⟨some 112, .iaa 4 2 (.t 10) (.c (.int .i64 3)), some (96, true), true⟩,
  ⟨some 113, .load true 2 (.t 112), some (96, true), true⟩,
  ⟨some 114, .call 24 [.t 107, .t 109, .t 111, .t 113], some (96, true), true⟩,
  ⟨some 115, .bib false (.t 105) (.t 114), some (96, true), true⟩,
  ⟨some 116, .pick (.t 96) (.t 115) (.c (.bool false)), none, true⟩,
  ⟨some 117, .mv (.t 116), none, true⟩,
  ⟨some 118, .load true 2 (.t 13), some (117, true), true⟩,
  ⟨some 119, .load true 2 (.t 15), some (117, true), true⟩,
  ⟨some 120, .eqa false [0, 0] (.t 118) (.t 119), some (117, true), true⟩,
  ⟨some 121, .pick (.t 117) (.t 120) (.c (.bool false)), none, true⟩,
  ⟨some 122, .mv (.t 121), none, true⟩,
  ⟨some 123, .load true 2 (.t 14), some (122, true), true⟩,
  ⟨some 124, .load true 2 (.t 16), some (122, true), true⟩,
  ⟨some 125, .eqa false [0, 0] (.t 123) (.t 124), some (122, true), true⟩,
  ⟨some 126, .pick (.t 122) (.t 125) (.c (.bool false)), none, true⟩,
  ⟨some 127, .mv (.t 126), none, true⟩,
  ⟨some 128, .mv (.t 11), some (127, true), true⟩,
  ⟨some 129, .mv (.t 12), some (127, true), true⟩,
  ⟨some 130, .call 25 [.t 128, .t 129], some (127, true), true⟩,
  ⟨some 131, .mv (.t 11), some (127, true), true⟩,
  ⟨some 132, .mv (.t 12), some (127, true), true⟩,
  ⟨some 133, .call 26 [.t 131, .t 132], some (127, true), true⟩,
  ⟨some 134, .bin .eql (.t 130) (.t 133), some (127, true), true⟩,
  ⟨some 135, .pick (.t 127) (.t 134) (.c (.bool false)), none, true⟩,
  ⟨some 8, .as (.t 135), none, true⟩] (some [8]) [4, 10, 13, 14, 15, 16]) (
.ret)))))))))))))))))
/-- ambidexter/ambidexterlaw02.GeomSides -/
def A4 : AFn := .code [.t 4] (
(.seq (
.reg none [
  ⟨some 2, .box (.t 0), none, true⟩,
  ⟨some 4, .as (.c (.bool false)), none, true⟩] (some [1, 2]) []) (
(.seq (
.reg none [
  ⟨some 12, .call 10 [], none, true⟩,
  ⟨some 5, .as (.t 12), none, true⟩] (some [1, 2, 5]) []) (
(.seq (
.reg none [
  ⟨some 13, .load true 8 (.t 2), none, true⟩,
  ⟨some 14, .mv (.t 1), none, true⟩,
  ⟨some 15, .call 11 [.t 13, .t 14], none, true⟩,
  ⟨some 6, .alloc [.int .i64 0, .int .i64 0, .int .i64 0, .int .i64 0, .int .i64 0, .int .i64 0, .int .i64 0, .int .i64 0], none, true⟩,
  ⟨none, .store 8 (.t 6) (.t 15), none, true⟩] (some [2, 5, 6]) []) (
(.seq (
.reg none [
  ⟨some 16, .iaa 4 2 (.t 6) (.c (.int .i64 0)), none, true⟩,
  ⟨some 17, .fad 0 (.t 16), none, true⟩,
  ⟨some 18, .load false 1 (.t 17), none, true⟩,
  ⟨some 19, .bin .quo (.t 18) (.c (.int .i64 2)), none, true⟩,
  ⟨some 20, .iaa 4 2 (.t 6) (.c (.int .i64 0)), none, true⟩,
  ⟨some 21, .fad 1 (.t 20), none, true⟩,
  ⟨some 22, .load false 1 (.t 21), none, true⟩,
  ⟨some 23, .bin .quo (.t 22) (.c (.int .i64 2)), none, true⟩,
  ⟨some 24, .call 27 [.t 19, .t 23], none, true⟩,
  ⟨some 7, .alloc [.int .i64 0, .int .i64 0], none, true⟩,
  ⟨none, .store 2 (.t 7) (.t 24), none, true⟩] (some [2, 5, 6, 7]) []) (
(.seq (
.reg none [
  ⟨some 25, .iaa 4 2 (.t 6) (.c (.int .i64 1)), none, true⟩,
  ⟨some 26, .fad 0 (.t 25), none, true⟩,
  ⟨some 27, .load false 1 (.t 26), none, true⟩,
  ⟨some 28, .bin .quo (.t 27) (.c (.int .i64 2)), none, true⟩,
  ⟨some 29, .iaa 4 2 (.t 6) (.c (.int .i64 1)), none, true⟩,
  ⟨some 30, .fad 1 (.t 29), none, true⟩,
  ⟨some 31, .load false 1 (.t 30), none, true⟩,
  ⟨some 32, .bin .quo (.t 31) (.c (.int .i64 2)), none, true⟩,
  ⟨some 33, .call 27 [.t 28, .t 32], none, true⟩,
  ⟨some 8, .alloc [.int .i64 0, .int .i64 0], none, true⟩,
  ⟨none, .store 2 (.t 8) (.t 33), none, true⟩] (some [2, 5, 6, 7, 8]) []) (
(.seq (
.reg none [
  ⟨some 34, .iaa 4 2 (.t 6) (.c (.int .i64 2)), none, true⟩,
  ⟨some 35, .fad 0 (.t 34), none, true⟩,
  ⟨some 36, .load false 1 (.t 35), none, true⟩,
  ⟨some 37, .bin .quo (.t 36) (.c (.int .i64 2)), none, true⟩,
  ⟨some 38, .iaa 4 2 (.t 6) (.c (.int .i64 2)), none, true⟩,
  ⟨some 39, .fad 1 (.t 38), none, true⟩,
  ⟨some 40, .load false 1 (.t 39), none, true⟩,
  ⟨some 41, .bin .quo (.t 40) (.c (.int .i64 2)), none, true⟩,
  ⟨some 42, .call 27 [.t 37, .t 41], none, true⟩,
  ⟨some 9, .alloc [.int .i64 0, .int .i64 0], none, true⟩,
  ⟨none, .store 2 (.t 9) (.t 42), none, true⟩] (some [2, 5, 7, 8, 9]) [6]) (
(.seq (
.reg none [
  ⟨some 43, .iaa 4 2 (.t 2) (.c (.int .i64 3)), none, true⟩,
  ⟨some 44, .fad 0 (.t 43), none, true⟩,
  ⟨some 45, .load false 1 (.t 44), none, true⟩,
  ⟨some 46, .bin .rem (.t 45) (.c (.int .i64 1000)), none, true⟩,
  ⟨some 47, .iaa 4 2 (.t 2) (.c (.int .i64 3)), none, true⟩,
  ⟨some 48, .fad 1 (.t 47), none, true⟩,
  ⟨some 49, .load false 1 (.t 48), none, true⟩,
  ⟨some 50, .bin .rem (.t 49) (.c (.int .i64 1000)), none, true⟩,
  ⟨some 51, .call 27 [.t 46, .t 50], none, true⟩,
  ⟨some 10, .alloc [.int .i64 0, .int .i64 0], none, true⟩,
  ⟨none, .store 2 (.t 10) (.t 51), none, true⟩] (some [5, 7, 8, 9, 10]) [2]) (
(.seq (
.reg none [
  ⟨some 52, .load true 2 (.t 7), none, true⟩,
  ⟨some 53, .load true 2 (.t 8), none, true⟩,
  ⟨some 54, .load true 2 (.t 9), none, true⟩,
  ⟨some 55, .call 19 [.t 52, .t 53, .t 54], none, true⟩,
  ⟨some 11, .as (.t 55), none, true⟩] (some [5, 7, 8, 9, 10, 11]) []) (
(.seq (
.reg (some [.free, .free, .dr [59, 60] [], .dr [58, 60] [], .dr [58, 59] [], .dr [] [], .dr [58, 59, 60, 61] [], .dr [58, 59, 60, 61] [], .free, .free, .free, .dr [68, 69] [], .dr [67, 69] [], .dr [67, 68] [], .dr [] [], .dr [67, 68, 69, 70] [], .dr [67, 68, 69, 70] [], .free, .free, .free, .dr [77, 78] [], .dr [76, 78] [], .dr [76, 77] [], .dr [] [], .dr [76, 77, 78, 79] [], .free, .free, .free, .dr [85, 86] [], .dr [84, 86] [], .dr [84, 85] [], .dr [] [], .dr [84, 85, 86, 87] [], .free, .free, .free, .dr [93, 95, 96, 98, 99] [], .dr [92, 95, 96, 98, 99] [], .dr [95, 96, 98, 99] [], .dr [92, 93, 94, 96, 98, 99] [], .dr [92, 93, 94, 95, 98, 99] [], .dr [98, 99] [], .dr [92, 93, 94, 95, 96, 97, 99] [], .dr [92, 93, 94, 95, 96, 97, 98] [], .dr [] [], .dr [] [], .dr [92, 93, 94, 95, 96, 97, 98, 99, 100, 101] [], .free, .free, .free, .dr [107, 109, 110, 112, 113] [], .dr [106, 109, 110, 112, 113] [], .dr [109, 110, 112, 113] [], .dr [106, 107, 108, 110, 112, 113] [], .dr [106, 107, 108, 109, 112, 113] [], .dr [112, 113] [], .dr [106, 107, 108, 109, 110, 111, 113] [], .dr [106, 107, 108, 109, 110, 111, 112] [], .dr [] [], .dr [] [], .dr [106, 107, 108, 109, 110, 111, 112, 113, 114, 115] [], .free, .free, .free, .dr [122, 124] [], .dr [122, 124] [], .dr [120, 121, 124] [], .dr [124] [], .dr [120, 121, 122, 123] [], .dr [] [], .dr [] [], .dr [120, 121, 122, 123, 124, 125, 126] [], .free, .free, .free, .dr [132, 133] [], .dr [131, 133] [], .dr [131, 132] [], .free, .free, .free, .free, .dr [139, 140] [], .dr [138, 140] [], .dr [138, 139] [], .free, .free, .free, .free]) [
  ⟨some 56, .mv (.t 5), none, true⟩,
  ⟨some 57, .mv (.t 56), none, true⟩,
  ⟨some 58, .load true 2 (.t 8), some (57, true), true⟩,
  ⟨some 59, .load true 2 (.t 7), some (57, true), true⟩,
  ⟨some 60, .load true 2 (.t 9), some (57, true), true⟩,
  ⟨some 61, .call 19 [.t 58, .t 59, .t 60], some (57, true), true⟩,
  ⟨some 62, .mv (.t 11), some (57, true), true⟩,
  ⟨some 63, .bin .sub (.c (.int .i64 0)) (.t 62), some (57, true), true⟩,
  ⟨some 64, .bin .eql (.t 61) (.t 63), some (57, true), true⟩,
  ⟨some 65, .pick (.t 57) (.t 64) (.c (.bool false)), none, true⟩,
  ⟨some 66, .mv (.t 65), none, true⟩,
  ⟨some 67, .load true 2 (.t 7), some (66, true), true⟩,
  ⟨some 68, .load true 2 (.t 9), some (66, true), true⟩,
  ⟨some 69, .load true 2 (.t 8), some (66, true), true⟩,
  ⟨some 70, .call 19 [.t 67, .t 68, .t 69], some (66, true), true⟩,
  ⟨some 71, .mv (.t 11), some (66, true), true⟩,
  ⟨some 72, .bin .sub (.c (.int .i64 0)) (.t 71), some (66, true), true⟩,
  ⟨some 73, .bin .eql (.t 70) (.t 72), some (66, true), true⟩,
  ⟨some 74, .pick (.t 66) (.t 73) (.c (.bool false)), none, true⟩,
  ⟨some 75, .mv (.t 74), none, true⟩,
  ⟨some 76, .load true 2 (.t 8), some (75, true), true⟩,
  ⟨some 77, .load true 2 (.t 9), some (75, true), true⟩,
  ⟨some 78, .load true 2 (.t 7), some (75, true), true⟩,
  ⟨some 79, .call 19 [.t 76, .t 77, .t 78], some (75, true), true⟩,
  ⟨some 80, .mv (.t 11), some (75, true), true⟩,
  ⟨some 81, .bin .eql (.t 79) (.t 80), some (75, true), true⟩,
  ⟨some 82, .pick (.t 75) (.t 81) (.c (.bool false)), none, true⟩,
  ⟨some 83, .mv (.t 82), none, true⟩,
  ⟨some 84, .load true 2 (.t 9), some (83, true), true⟩,
  ⟨some 85, .load true 2 (.t 7), some (83, true), true⟩,
  ⟨some 86, .load true 2 (.t 8), some (83, true), true⟩,
  ⟨some 87, .call 19 [.t 84, .t 85, .t 86], some (83, true), true⟩,
  ⟨some 88, .mv (.t 11), some (83, true), true⟩,
  ⟨some 89, .bin .eql (.t 87) (.t 88), some (83, true), true⟩,
  ⟨some 90, .pick (.t 83) (.t 89) (.c (.bool false)), none, true⟩,
  ⟨some 91, .mv (.t 90), none, true⟩,
  ⟨some 92, .load true 2 (.t 7), some (91, true), true⟩,
  ⟨some 93, .load true 2 (.t 10), some (91, true), true⟩,
  ⟨some 94, .call 15 [.t 92, .t 93], some (91, true), true⟩,
  ⟨some 95, .load true 2 (.t 8), some (91, true), true⟩,
  ⟨some 96, .load true 2 (.t 10), some (91, true), true⟩,
  ⟨some 97, .call 15 [.t 95, .t 96], some (91, true), true⟩,
  ⟨some 98, .load true 2 (.t 9), some (91, true), true⟩,
  ⟨some 99, .load true 2 (.t 10), some (91, true), true⟩,
  ⟨some 100, .call 15 [.t 98, .t 99], some (91, true), true⟩,
  ⟨some 101, .call 19 [.t 94, .t 97, .t 100], some (91, true), true⟩,
  ⟨some 102, .mv (.t 11), some (91, true), true⟩,
  ⟨some 103, .bin .eql (.t 101) (.t 102), some (91, true), true⟩,
  ⟨some 104, .pick (.t 91) (.t 103) (.c (.bool false)), none, true⟩,
  ⟨some 105, .mv (.t 104), none, true⟩,
  ⟨some 106, .load true 2 (.t 7), some (105, true), true⟩,
  ⟨some 107, .load true 2 (.t 10), some (105, true), true⟩,
  ⟨some 108, .call 17 [.t 106, .t 107], some (105, true), true⟩,
  ⟨some 109, .load true 2 (.t 8), some (105, true), true⟩,
  ⟨some 110, .load true 2 (.t 10), some (105, true), true⟩,
  ⟨some 111, .call 17 [.t 109, .t 110], some (105, true), true⟩,
  ⟨some 112, .load true 2 (.t 9), some (105, true), true⟩,
  ⟨some 113, .load true 2 (.t 10), some (105, true), true⟩,
  ⟨some 114, .call 17 [.t 112, .t 113], some (105, true), true⟩,
  ⟨some 115, .call 19 [.t 108, .t 111, .t 114], some (105, true), true⟩,
  ⟨some 116, .mv (.t 11), some (105, true), true⟩,
  ⟨some 117, .bin .eql (.t 115) (.t 116), some (105, true), true⟩,
  ⟨some 118, .pick (.t 105) (.t 117) (.c (.bool false)), none, true⟩,
  ⟨some 119, .mv (.t 118), none, true⟩,
  ⟨some 120, .load true 2 (.t 7), some (119, true), true⟩,
  ⟨some 121, .call 28 [.t 120], some (119, true), true⟩,
  ⟨some 122, .load true 2 (.t 8), some (119, true), true⟩,
  ⟨some 123, .call 28 [.t 122], some (119, true), true⟩,
  ⟨some 124, .load true 2 (.t 9), some (119, true), true⟩,
  ⟨some 125, .call 28 [.t 124], some (119, true), true⟩,
  ⟨some 126, .call 19 [.t 121, .t 123, .t 125], some (119, true), true⟩,
  ⟨some 127, .mv (.t 11), some (119, true), true⟩,
  ⟨some 128, .bin .eql (.t 126) (.t 127), some (119, true), true⟩,
  ⟨some 129, .pick (.t 119) (.t 128) (.c (.bool false)), none, true⟩,
  ⟨some 130, .mv (.t 129), none, true⟩,
  ⟨some 131, .load true 2 (.t 7), some (130, true), true⟩,
  ⟨some 132, .load true 2 (.t 7), some (130, true), true⟩,
  ⟨some 133, .load true 2 (.t 9), some (130, true), true⟩,
  ⟨some 134, .call 19 [.t 131, .t 132, .t 133], some (130, true), true⟩,
  ⟨some 135, .bin .eql (.t 134) (.c (.int .i64 0)), some (130, true), true⟩,
  ⟨some 136, .pick (.t 130) (.t 135) (.c (.bool false)), none, true⟩,
  ⟨some 137, .mv (.t 136), none, true⟩,
  ⟨some 138, .load true 2 (.t 7), some (137, true), true⟩,
  ⟨some 139, .load true 2 (.t 8), some (137, true), true⟩,
  ⟨some 140, .load true 2 (.t 8), some (137, true), true⟩,
  ⟨some 141, .call 19 [.t 138, .t 139, .t 140], some (137, true), true⟩,
  ⟨some 142, .bin .eql (.t 141) (.c (.int .i64 0)), some (137, true), true⟩,
  ⟨some 143, .pick (.t 137) (.t 142) (.c (.bool false)), none, true⟩,
  ⟨some 4, .as (.t 143), none, true⟩] (some [4]) [7, 8, 9, 10]) (
.ret)))))))))))))))))))
/-- ambidexter/ambidexterlaw02.GeomOn -/
def A5 : AFn := .code [.t 4] (
(.seq (
.reg none [
  ⟨some 2, .box (.t 0), none, true⟩,
  ⟨some 4, .as (.c (.bool false)), none, true⟩] (some [1, 2]) []) (
(.seq (
.reg none [
  ⟨some 14, .call 10 [], none, true⟩,
  ⟨some 5, .as (.t 14), none, true⟩] (some [1, 2, 5]) []) (
(.seq (
.reg none [
  ⟨some 15, .load true 8 (.t 2), none, true⟩,
  ⟨some 16, .mv (.t 1), none, true⟩,
  ⟨some 17, .call 11 [.t 15, .t 16], none, true⟩,
  ⟨some 6, .alloc [.int .i64 0, .int .i64 0, .int .i64 0, .int .i64 0, .int .i64 0, .int .i64 0, .int .i64 0, .int .i64 0], none, true⟩,
  ⟨none, .store 8 (.t 6) (.t 17), none, true⟩] (some [5, 6]) [2]) (
(.seq (
.reg none [
  ⟨some 18, .iaa 4 2 (.t 6) (.c (.int .i64 0)), none, true⟩,
  ⟨some 19, .fad 0 (.t 18), none, true⟩,
  ⟨some 20, .load false 1 (.t 19), none, true⟩,
  ⟨some 21, .bin .quo (.t 20) (.c (.int .i64 2)), none, true⟩,
  ⟨some 22, .bin .mul (.t 21) (.c (.int .i64 2)), none, true⟩,
  ⟨some 23, .iaa 4 2 (.t 6) (.c (.int .i64 0)), none, true⟩,
  ⟨some 24, .fad 1 (.t 23), none, true⟩,
  ⟨some 25, .load false 1 (.t 24), none, true⟩,
  ⟨some 26, .bin .quo (.t 25) (.c (.int .i64 2)), none, true⟩,
  ⟨some 27, .bin .mul (.t 26) (.c (.int .i64 2)), none, true⟩,
  ⟨some 28, .call 27 [.t 22, .t 27], none, true⟩,
  ⟨some 7, .alloc [.int .i64 0, .int .i64 0], none, true⟩,
  ⟨none, .store 2 (.t 7) (.t 28), none, true⟩] (some [5, 6, 7]) []) (
(.seq (
.reg none [
  ⟨some 29, .iaa 4 2 (.t 6) (.c (.int .i64 1)), none, true⟩,
  ⟨some 30, .fad 0 (.t 29), none, true⟩,
  ⟨some 31, .load false 1 (.t 30), none, true⟩,
  ⟨some 32, .bin .quo (.t 31) (.c (.int .i64 2)), none, true⟩,
  ⟨some 33, .bin .mul (.t 32) (.c (.int .i64 2)), none, true⟩,
  ⟨some 34, .iaa 4 2 (.t 6) (.c (.int .i64 1)), none, true⟩,
  ⟨some 35, .fad 1 (.t 34), none, true⟩,
  ⟨some 36, .load false 1 (.t 35), none, true⟩,
  ⟨some 37, .bin .quo (.t 36) (.c (.int .i64 2)), none, true⟩,
  ⟨some 38, .bin .mul (.t 37) (.c (.int .i64 2)), none, true⟩,
  ⟨some 39, .call 27 [.t 33, .t 38], none, true⟩,
  ⟨some 8, .alloc [.int .i64 0, .int .i64 0], none, true⟩,
  ⟨none, .store 2 (.t 8) (.t 39), none, true⟩] (some [5, 6, 7, 8]) []) (
(.seq (
.reg none [
  ⟨some 40, .iaa 4 2 (.t 6) (.c (.int .i64 2)), none, true⟩,
  ⟨some 41, .load true 2 (.t 40), none, true⟩,
  ⟨some 9, .alloc [.int .i64 0, .int .i64 0], none, true⟩,
  ⟨none, .store 2 (.t 9) (.t 41), none, true⟩] (some [5, 7, 8, 9]) [6]) (
(.seq (
.reg none [
  ⟨some 42, .load true 2 (.t 7), none, true⟩,
  ⟨some 43, .load true 2 (.t 8), none, true⟩,
  ⟨some 44, .call 15 [.t 42, .t 43], none, true⟩,
  ⟨some 45, .call 29 [.t 44], none, true⟩,
  ⟨some 10, .alloc [.int .i64 0, .int .i64 0], none, true⟩,
  ⟨none, .store 2 (.t 10) (.t 45), none, true⟩] (some [5, 7, 8, 9, 10]) []) (
(.seq (
.reg (some [.dr [47, 48, 49, 50, 11] [], .dr [46, 48, 11] [], .dr [46, 47, 11] [], .dr [46, 11] [], .dr [46, 11] [], .dr [11] [], .dr [46, 47, 48, 49, 50, 51] [], .free]) [
  ⟨some 46, .load true 2 (.t 10), none, true⟩,
  ⟨some 47, .load true 2 (.t 8), none, true⟩,
  ⟨some 48, .load true 2 (.t 7), none, true⟩,
  ⟨some 49, .call 17 [.t 47, .t 48], none, true⟩,
  ⟨some 50, .call 29 [.t 49], none, true⟩,
  ⟨some 51, .call 17 [.t 46, .t 50], none, true⟩,
  ⟨some 11, .alloc [.int .i64 0, .int .i64 0], none, true⟩,
  ⟨none, .store 2 (.t 11) (.t 51), none, true⟩] (some [5, 7, 8, 9, 10, 11]) []) (
(.seq (
.reg none [
  ⟨some 52, .load true 2 (.t 7), none, true⟩,
  ⟨some 53, .load true 2 (.t 8), none, true⟩,
  ⟨some 54, .load true 2 (.t 9), none, true⟩,
  ⟨some 55, .call 21 [.t 52, .t 53, .t 54], none, true⟩,
  ⟨some 12, .as (.t 55), none, true⟩] (some [5, 7, 8, 9, 10, 11, 12]) []) (
(.seq (
.reg none [
  ⟨some 56, .fad 0 (.t 9), none, true⟩,
  ⟨some 57, .load false 1 (.t 56), none, true⟩,
  ⟨some 58, .fad 0 (.t 7), none, true⟩,
  ⟨some 59, .load false 1 (.t 58), none, true⟩,
  ⟨some 60, .bin .sub (.t 57) (.t 59), none, true⟩,
  ⟨some 61, .fad 0 (.t 8), none, true⟩,
  ⟨some 62, .load false 1 (.t 61), none, true⟩,
  ⟨some 63, .fad 0 (.t 9), none, true⟩,
  ⟨some 64, .load false 1 (.t 63), none, true⟩,
  ⟨some 65, .bin .sub (.t 62) (.t 64), none, true⟩,
  ⟨some 66, .bin .mul (.t 60) (.t 65), none, true⟩,
  ⟨some 67, .fad 1 (.t 9), none, true⟩,
  ⟨some 68, .load false 1 (.t 67), none, true⟩,
  ⟨some 69, .fad 1 (.t 7), none, true⟩,
  ⟨some 70, .load false 1 (.t 69), none, true⟩,
  ⟨some 71, .bin .sub (.t 68) (.t 70), none, true⟩,
  ⟨some 72, .fad 1 (.t 8), none, true⟩,
  ⟨some 73, .load false 1 (.t 72), none, true⟩,
  ⟨some 74, .fad 1 (.t 9), none, true⟩,
  ⟨some 75, .load false 1 (.t 74), none, true⟩,
  ⟨some 76, .bin .sub (.t 73) (.t 75), none, true⟩,
  ⟨some 77, .bin .mul (.t 71) (.t 76), none, true⟩,
  ⟨some 78, .bin .add (.t 66) (.t 77), none, true⟩,
  ⟨some 13, .as (.t 78), none, true⟩] (some [5, 7, 8, 9, 10, 11, 12, 13]) []) (
(.seq (
(.seq (
.reg none [
  ⟨some 79, .mv (.t 12), none, true⟩,
  ⟨some 80, .load true 2 (.t 7), none, true⟩,
  ⟨some 81, .load true 2 (.t 8), none, true⟩,
  ⟨some 82, .load true 2 (.t 9), none, true⟩,
  ⟨some 83, .call 19 [.t 80, .t 81, .t 82], none, true⟩,
  ⟨some 84, .bin .eql (.t 83) (.c (.int .i64 0)), none, true⟩,
  ⟨some 85, .mv (.t 84), none, true⟩,
  ⟨some 86, .mv (.t 13), some (85, true), true⟩,
  ⟨some 87, .bin .geq (.t 86) (.c (.int .i64 0)), some (85, true), true⟩,
  ⟨some 88, .pick (.t 85) (.t 87) (.c (.bool false)), none, true⟩,
  ⟨some 89, .mv (.t 88), none, true⟩,
  ⟨some 90, .load true 2 (.t 7), some (89, true), true⟩,
  ⟨some 91, .load true 2 (.t 8), some (89, true), true⟩,
  ⟨some 92, .eqa true [0, 0] (.t 90) (.t 91), some (89, true), true⟩,
  ⟨some 93, .mv (.t 92), some (89, true), true⟩,
  ⟨some 94, .load true 2 (.t 9), some (93, false), true⟩,
  ⟨some 95, .load true 2 (.t 7), some (93, false), true⟩,
  ⟨some 96, .eqa false [0, 0] (.t 94) (.t 95), some (93, false), true⟩,
  ⟨some 97, .pick (.t 93) (.c (.bool true)) (.t 96), some (89, true), true⟩,
  ⟨some 98, .pick (.t 89) (.t 97) (.c (.bool false)), none, true⟩,
  ⟨some 99, .bib true (.t 79) (.t 98), none, true⟩] (some [5, 7, 8, 9, 10, 11, 12, 99]) []) (
(.cond (.t 99) (
  (.seq (
  .reg none [
    ⟨some 4, .as (.c (.bool false)), none, true⟩] (some [4]) []) (
  .ret))) (
  .skip))))) (
(.seq (
.reg (some [.free, .free, .dr [103, 104] [], .dr [102, 104] [], .dr [102, 103] [], .free, .free, .free, .dr [109, 110] [], .dr [108, 110] [], .dr [108, 109] [], .free, .free, .free, .dr [115, 116] [], .dr [114, 116] [], .dr [114, 115] [], .free, .free, .free, .dr [121] [], .dr [120] [], .free, .free, .free, .dr [126, 127, 128, 129] [], .dr [127, 128] [], .dr [126, 128] [], .dr [126, 127] [], .dr [] [], .free, .free, .free, .dr [134, 135, 137, 138] [], .dr [133, 135, 137, 138] [], .dr [133, 134, 137, 138] [], .dr [137, 138] [], .dr [133, 134, 135, 136, 138] [], .dr [133, 134, 135, 136, 137] [], .dr [133, 134, 135, 136] [], .free, .free, .free]) [
  ⟨some 100, .mv (.t 5), none, true⟩,
  ⟨some 101, .mv (.t 100), none, true⟩,
  ⟨some 102, .load true 2 (.t 7), some (101, true), true⟩,
  ⟨some 103, .load true 2 (.t 8), some (101, true), true⟩,
  ⟨some 104, .load true 2 (.t 7), some (101, true), true⟩,
  ⟨some 105, .call 21 [.t 102, .t 103, .t 104], some (101, true), true⟩,
  ⟨some 106, .pick (.t 101) (.t 105) (.c (.bool false)), none, true⟩,
  ⟨some 107, .mv (.t 106), none, true⟩,
  ⟨some 108, .load true 2 (.t 7), some (107, true), true⟩,
  ⟨some 109, .load true 2 (.t 8), some (107, true), true⟩,
  ⟨some 110, .load true 2 (.t 8), some (107, true), true⟩,
  ⟨some 111, .call 21 [.t 108, .t 109, .t 110], some (107, true), true⟩,
  ⟨some 112, .pick (.t 107) (.t 111) (.c (.bool false)), none, true⟩,
  ⟨some 113, .mv (.t 112), none, true⟩,
  ⟨some 114, .load true 2 (.t 7), some (113, true), true⟩,
  ⟨some 115, .load true 2 (.t 8), some (113, true), true⟩,
  ⟨some 116, .load true 2 (.t 10), some (113, true), true⟩,
  ⟨some 117, .call 21 [.t 114, .t 115, .t 116], some (113, true), true⟩,
  ⟨some 118, .pick (.t 113) (.t 117) (.c (.bool false)), none, true⟩,
  ⟨some 119, .mv (.t 118), none, true⟩,
  ⟨some 120, .load true 2 (.t 11), some (119, true), true⟩,
  ⟨some 121, .load true 2 (.t 7), some (119, true), true⟩,
  ⟨some 122, .eqa false [0, 0] (.t 120) (.t 121), some (119, true), true⟩,
  ⟨some 123, .pick (.t 119) (.t 122) (.c (.bool false)), none, true⟩,
  ⟨some 124, .mv (.t 123), none, true⟩,
  ⟨some 125, .mv (.t 12), some (124, true), true⟩,
  ⟨some 126, .load true 2 (.t 8), some (124, true), true⟩,
  ⟨some 127, .load true 2 (.t 7), some (124, true), true⟩,
  ⟨some 128, .load true 2 (.t 9), some (124, true), true⟩,
  ⟨some 129, .call 21 [.t 126, .t 127, .t 128], some (124, true), true⟩,
  ⟨some 130, .bib false (.t 125) (.t 129), some (124, true), true⟩,
  ⟨some 131, .pick (.t 124) (.t 130) (.c (.bool false)), none, true⟩,
  ⟨some 132, .mv (.t 131), none, true⟩,
  ⟨some 133, .load true 2 (.t 7), some (132, true), true⟩,
  ⟨some 134, .load true 2 (.t 7), some (132, true), true⟩,
  ⟨some 135, .load true 2 (.t 9), some (132, true), true⟩,
  ⟨some 136, .call 21 [.t 133, .t 134, .t 135], some (132, true), true⟩,
  ⟨some 137, .load true 2 (.t 7), some (132, true), true⟩,
  ⟨some 138, .load true 2 (.t 9), some (132, true), true⟩,
  ⟨some 139, .eqa false [0, 0] (.t 137) (.t 138), some (132, true), true⟩,
  ⟨some 140, .bib false (.t 136) (.t 139), some (132, true), true⟩,
  ⟨some 141, .pick (.t 132) (.t 140) (.c (.bool false)), none, true⟩,
  ⟨some 4, .as (.t 141), none, true⟩] (some [4]) [7, 8, 9, 10, 11]) (
.ret)))))))))))))))))))))))))
/-- ambidexter/ambidexterlaw02.GeomCuts -/
def A6 : AFn := .code [.t 4] (
(.seq (
.reg none [
  ⟨some 2, .box (.t 0), none, true⟩,
  ⟨some 4, .as (.c (.bool false)), none, true⟩] (some [1, 2]) []) (
(.seq (
.reg none [
  ⟨some 9, .call 10 [], none, true⟩,
  ⟨some 5, .as (.t 9), none, true⟩] (some [1, 2, 5]) []) (
(.seq (
.reg none [
  ⟨some 10, .load true 8 (.t 2), none, true⟩,
  ⟨some 11, .mv (.t 1), none, true⟩,
  ⟨some 12, .call 11 [.t 10, .t 11], none, true⟩,
  ⟨some 6, .alloc [.int .i64 0, .int .i64 0, .int .i64 0, .int .i64 0, .int .i64 0, .int .i64 0, .int .i64 0, .int .i64 0], none, true⟩,
  ⟨none, .store 8 (.t 6) (.t 12), none, true⟩] (some [5, 6]) [2]) (
(.seq (
.reg none [
  ⟨some 13, .iaa 4 2 (.t 6) (.c (.int .i64 1)), none, true⟩,
  ⟨some 14, .fad 0 (.t 13), none, true⟩,
  ⟨some 15, .load false 1 (.t 14), none, true⟩,
  ⟨some 16, .iaa 4 2 (.t 6) (.c (.int .i64 0)), none, true⟩,
  ⟨some 17, .fad 0 (.t 16), none, true⟩,
  ⟨some 18, .load false 1 (.t 17), none, true⟩,
  ⟨some 19, .bin .sub (.t 15) (.t 18), none, true⟩,
  ⟨some 20, .iaa 4 2 (.t 6) (.c (.int .i64 3)), none, true⟩,
  ⟨some 21, .fad 1 (.t 20), none, true⟩,
  ⟨some 22, .load false 1 (.t 21), none, true⟩,
  ⟨some 23, .iaa 4 2 (.t 6) (.c (.int .i64 2)), none, true⟩,
  ⟨some 24, .fad 1 (.t 23), none, true⟩,
  ⟨some 25, .load false 1 (.t 24), none, true⟩,
  ⟨some 26, .bin .sub (.t 22) (.t 25), none, true⟩,
  ⟨some 27, .bin .mul (.t 19) (.t 26), none, true⟩,
  ⟨some 28, .iaa 4 2 (.t 6) (.c (.int .i64 1)), none, true⟩,
  ⟨some 29, .fad 1 (.t 28), none, true⟩,
  ⟨some 30, .load false 1 (.t 29), none, true⟩,
  ⟨some 31, .iaa 4 2 (.t 6) (.c (.int .i64 0)), none, true⟩,
  ⟨some 32, .fad 1 (.t 31), none, true⟩,
  ⟨some 33, .load false 1 (.t 32), none, true⟩,
  ⟨some 34, .bin .sub (.t 30) (.t 33), none, true⟩,
  ⟨some 35, .iaa 4 2 (.t 6) (.c (.int .i64 3)), none, true⟩,
  ⟨some 36, .fad 0 (.t 35), none, true⟩,
  ⟨some 37, .load false 1 (.t 36), none, true⟩,
  ⟨some 38, .iaa 4 2 (.t 6) (.c (.int .i64 2)), none, true⟩,
  ⟨some 39, .fad 0 (.t 38), none, true⟩,
  ⟨some 40, .load false 1 (.t 39), none, true⟩,
  ⟨some 41, .bin .sub (.t 37) (.t 40), none, true⟩,
  ⟨some 42, .bin .mul (.t 34) (.t 41), none, true⟩,
  ⟨some 43, .bin .sub (.t 27) (.t 42), none, true⟩,
  ⟨some 7, .as (.t 43), none, true⟩] (some [5, 6, 7]) []) (
(.seq (
(.seq (
.reg none [
  ⟨some 44, .mv (.t 7), none, true⟩,
  ⟨some 45, .bin .eql (.t 44) (.c (.int .i64 0)), none, true⟩] (some [5, 6, 45]) []) (
(.cond (.t 45) (
  (.seq (
  .reg none [
    ⟨some 46, .iaa 4 2 (.t 6) (.c (.int .i64 0)), none, true⟩,
    ⟨some 47, .load true 2 (.t 46), none, true⟩,
    ⟨some 48, .iaa 4 2 (.t 6) (.c (.int .i64 1)), none, true⟩,
    ⟨some 49, .load true 2 (.t 48), none, true⟩,
    ⟨some 50, .iaa 4 2 (.t 6) (.c (.int .i64 2)), none, true⟩,
    ⟨some 51, .load true 2 (.t 50), none, true⟩,
    ⟨some 52, .call 21 [.t 47, .t 49, .t 51], none, true⟩,
    ⟨some 53, .mv (.t 52), none, true⟩,
    ⟨some 54, .iaa 4 2 (.t 6) (.c (.int .i64 0)), some (53, false), true⟩,
    ⟨some 55, .load true 2 (.t 54), some (53, false), true⟩,
    ⟨some 56, .iaa 4 2 (.t 6) (.c (.int .i64 1)), some (53, false), true⟩,
    ⟨some 57, .load true 2 (.t 56), some (53, false), true⟩,
    ⟨some 58, .iaa 4 2 (.t 6) (.c (.int .i64 3)), some (53, false), true⟩,
    ⟨some 59, .load true 2 (.t 58), some (53, false), true⟩,
    ⟨some 60, .call 21 [.t 55, .t 57, .t 59], some (53, false), true⟩,
    ⟨some 61, .pick (.t 53) (.c (.bool true)) (.t 60), none, true⟩,
    ⟨some 62, .mv (.t 61), none, true⟩,
    ⟨some 63, .iaa 4 2 (.t 6) (.c (.int .i64 2)), some (62, false), true⟩,
    ⟨some 64, .load true 2 (.t 63), some (62, false), true⟩,
    ⟨some 65, .iaa 4 2 (.t 6) (.c (.int .i64 3)), some (62, false), true⟩,
    ⟨some 66, .load true 2 (.t 65), some (62, false), true⟩,
    ⟨some 67, .iaa 4 2 (.t 6) (.c (.int .i64 0)), some (62, false), true⟩,
    ⟨some 68, .load true 2 (.t 67), some (62, false), true⟩,
    ⟨some 69, .call 21 [.t 64, .t 66, .t 68], some (62, false), true⟩,
    ⟨some 70, .pick (.t 62) (.c (.bool true)) (.t 69), none, true⟩,
    ⟨some 71, .mv (.t 70), none, true⟩,
    ⟨some 72, .iaa 4 2 (.t 6) (.c (.int .i64 2)), some (71, false), true⟩,
    ⟨some 73, .load true 2 (.t 72), some (71, false), true⟩,
    ⟨some 74, .iaa 4 2 (.t 6) (.c (.int .i64 3)), some (71, false), true⟩,
    ⟨some 75, .load true 2 (.t 74), some (71, false), true⟩,
    ⟨some 76, .iaa 4 2 (.t 6) (.c (.int .i64 1)), some (71, false), true⟩,
    ⟨some 77, .load true 2 (.t 76), some (71, false), true⟩,
    ⟨some 78, .call 21 [.t 73, .t 75, .t 77], some (71, false), true⟩,
    ⟨some 79, .pick (.t 71) (.c (.bool true)) (.t 78), none, true⟩,
    ⟨some 8, .as (.t 79), none, true⟩] (some [5, 6, 8]) []) (
  (.seq (
  .reg none [
    ⟨some 80, .mv (.t 5), none, true⟩,
    ⟨some 81, .mv (.t 80), none, true⟩,
    ⟨some 82, .iaa 4 2 (.t 6) (.c (.int .i64 0)), some (81, true), true⟩,
    ⟨some 83, .load true 2 (.t 82), some (81, true), true⟩,
    ⟨some 84, .iaa 4 2 (.t 6) (.c (.int .i64 1)), some (81, true), true⟩,
    ⟨some 85, .load true 2 (.t 84), some (81, true), true⟩,
    ⟨some 86, .iaa 4 2 (.t 6) (.c (.int .i64 2)), some (81, true), true⟩,
    ⟨some 87, .load true 2 (.t 86), some (81, true), true⟩,
    ⟨some 88, .iaa 4 2 (.t 6) (.c (.int .i64 3)), some (81, true), true⟩,
    ⟨some 89, .load true 2 (.t 88), some (81, true), true⟩,
    ⟨some 90, .call 23 [.t 83, .t 85, .t 87, .t 89], some (81, true), true⟩,
    ⟨some 91, .mv (.t 8), some (81, true), true⟩,
    ⟨some 92, .bib false (.t 90) (.t 91), some (81, true), true⟩,
    ⟨some 93, .pick (.t 81) (.t 92) (.c (.bool false)), none, true⟩,
    ⟨some 4, .as (.t 93), none, true⟩] (some [4]) [6]) (
  .ret))))) (
  .skip))))) (
(.seq (
.reg (some [.free, .free, .dr [99, 101, 103, 106, 108, 110, 112] [], .dr [99, 101, 103, 106, 108, 110, 112] [], .dr [97, 101, 103, 106, 108, 110, 112] [], .dr [97, 101, 103, 106, 108, 110, 112] [], .dr [97, 99, 103, 106, 108, 110, 112] [], .dr [97, 99, 103, 106, 108, 110, 112] [], .dr [97, 99, 101, 106, 108, 110, 112] [], .dr [97, 99, 101, 106, 108, 110, 112] [], .dr [106, 108, 110, 112] [], .dr [97, 99, 101, 103, 104, 108, 110, 112] [], .dr [97, 99, 101, 103, 104, 108, 110, 112] [], .dr [97, 99, 101, 103, 104, 106, 110, 112] [], .dr [97, 99, 101, 103, 104, 106, 110, 112] [], .dr [97, 99, 101, 103, 104, 106, 108, 112] [], .dr [97, 99, 101, 103, 104, 106, 108, 112] [], .dr [97, 99, 101, 103, 104, 106, 108, 110] [], .dr [97, 99, 101, 103, 104, 106, 108, 110] [], .free, .free, .free, .free]) [
  ⟨some 94, .mv (.t 5), none, true⟩,
  ⟨some 95, .mv (.t 94), none, true⟩,
  ⟨some 96, .iaa 4 2 (.t 6) (.c (.int .i64 0)), some (95, true), true⟩,
  ⟨some 97, .load true 2 (.t 96), some (95, true), true⟩,
  ⟨some 98, .iaa 4 2 (.t 6) (.c (.int .i64 1)), some (95, true), true⟩,
  ⟨some 99, .load true 2 (.t 98), some (95, true), true⟩,
  ⟨some 100, .iaa 4 2 (.t 6) (.c (.int .i64 2)), some (95, true), true⟩,
  ⟨some 101, .load true 2 (.t 100), some (95, true), true⟩,
  ⟨some 102, .iaa 4 2 (.t 6) (.c (.int .i64 3)), some (95, true), true⟩,
  ⟨some 103, .load true 2 (.t 102), some (95, true), true⟩,
  ⟨some 104, .call 23 [.t 97, .t 99, .t 101, .t 103], some (95, true), true⟩,
  ⟨some 105, .iaa 4 2 (.t 6) (.c (.int .i64 0)), some (95, true), true⟩,
  ⟨some 106, .load true 2 (.t 105), some (95, true), true⟩,
  ⟨some 107, .iaa 4 2 (.t 6) (.c (.int .i64 1)), some (95, true), true⟩,
  ⟨some 108, .load true 2 (.t 107), some (95, true), true⟩,
  ⟨some 109, .iaa 4 2 (.t 6) (.c (.int .i64 2)), some (95, true), true⟩,
  ⟨some 110, .load true 2 (.t 109), some (95, true), true⟩,
  ⟨some 111, .iaa 4 2 (.t 6) (.c (.int .i64 3)), some (95, true), true⟩,
  ⟨some 112, .load true 2 (.t 111), some (95, true), true⟩,
  ⟨some 113, .call 30 [.t 106, .t 108, .t 110, .t 112], some (95, true), true⟩,
  ⟨some 114, .bib false (.t 104) (.t 113), some (95, true), true⟩,
  ⟨some 115, .pick (.t 95) (.t 114) (.c (.bool false)), none, true⟩,
  ⟨some 4, .as (.t 115), none, true⟩] (some [4]) [6]) (
.ret)))))))))))))
/-- ambidexter/ambidexterlaw02.GeomSymmetric -/
def A7 : AFn := .code [.t 6] (
(.seq (
.reg none [
  ⟨some 3, .box (.t 0), none, true⟩,
  ⟨some 5, .box (.t 2), none, true⟩,
  ⟨some 6, .as (.c (.bool false)), none, true⟩] (some [1, 3, 5]) []) (
(.seq (
.reg none [
  ⟨some 11, .call 10 [], none, true⟩,
  ⟨some 7, .as (.t 11), none, true⟩] (some [1, 3, 5, 7]) []) (
(.seq (
.reg none [
  ⟨some 12, .load true 8 (.t 3), none, true⟩,
  ⟨some 13, .mv (.t 1), none, true⟩,
  ⟨some 14, .call 11 [.t 12, .t 13], none, true⟩,
  ⟨some 8, .alloc [.int .i64 0, .int .i64 0, .int .i64 0, .int .i64 0, .int .i64 0, .int .i64 0, .int .i64 0, .int .i64 0], none, true⟩,
  ⟨none, .store 8 (.t 8) (.t 14), none, true⟩] (some [5, 7, 8]) [3]) (
(.seq (
.reg none [
  ⟨some 15, .iaa 4 2 (.t 8) (.c (.int .i64 0)), none, true⟩,
  ⟨some 16, .load true 2 (.t 15), none, true⟩,
  ⟨some 17, .iaa 4 2 (.t 8) (.c (.int .i64 1)), none, true⟩,
  ⟨some 18, .load true 2 (.t 17), none, true⟩,
  ⟨some 19, .iaa 4 2 (.t 8) (.c (.int .i64 2)), none, true⟩,
  ⟨some 20, .load true 2 (.t 19), none, true⟩,
  ⟨some 21, .iaa 4 2 (.t 8) (.c (.int .i64 3)), none, true⟩,
  ⟨some 22, .load true 2 (.t 21), none, true⟩,
  ⟨some 23, .call 23 [.t 16, .t 18, .t 20, .t 22], none, true⟩,
  ⟨some 9, .as (.t 23), none, true⟩] (some [5, 7, 8, 9]) []) (
(.seq (
.reg none [
  ⟨some 24, .load true 2 (.t 5), none, true⟩,
  ⟨some 25, .call 31 [.t 24], none, true⟩,
  ⟨some 10, .alloc [.int .i64 0, .int .i64 0], none, true⟩,
  ⟨none, .store 2 (.t 10) (.t 25), none, true⟩] (some [7, 8, 9, 10]) [5]) (
(.seq (
(.seq (
.reg (some [.free, .free, .dr [] [], .dr [] [], .free, .free, .free, .free, .dr [37, 38] [], .dr [37, 38] [], .dr [35, 38] [], .dr [35, 38] [], .dr [35, 37] [], .free, .free, .dr [44, 45] [], .dr [44, 45] [], .dr [42, 45] [], .dr [42, 45] [], .dr [42, 44] [], .free, .free, .free, .free, .free, .free, .free]) [
  ⟨some 26, .mv (.t 9), none, true⟩,
  ⟨some 27, .mv (.t 26), none, true⟩,
  ⟨some 28, .sla 4 2 (.t 8) none (some (.c (.int .i64 2))), some (27, true), true⟩,
  ⟨some 29, .sla 4 2 (.t 8) (some (.c (.int .i64 2))) none, some (27, true), true⟩,
  ⟨some 30, .call 25 [.t 28, .t 29], some (27, true), true⟩,
  ⟨some 31, .bin .neq (.t 30) (.c (.int .i64 0)), some (27, true), true⟩,
  ⟨some 32, .pick (.t 27) (.t 31) (.c (.bool false)), none, true⟩,
  ⟨some 33, .mv (.t 32), none, true⟩,
  ⟨some 34, .iaa 4 2 (.t 8) (.c (.int .i64 0)), some (33, false), true⟩,
  ⟨some 35, .load true 2 (.t 34), some (33, false), true⟩,
  ⟨some 36, .iaa 4 2 (.t 8) (.c (.int .i64 1)), some (33, false), true⟩,
  ⟨some 37, .load true 2 (.t 36), some (33, false), true⟩,
  ⟨some 38, .load true 2 (.t 10), some (33, false), true⟩,
  ⟨some 39, .call 21 [.t 35, .t 37, .t 38], some (33, false), true⟩,
  ⟨some 40, .mv (.t 39), some (33, false), true⟩,
  ⟨some 41, .iaa 4 2 (.t 8) (.c (.int .i64 2)), some (40, true), true⟩,
  ⟨some 42, .load true 2 (.t 41), some (40, true), true⟩,
  ⟨some 43, .iaa 4 2 (.t 8) (.c (.int .i64 3)), some (40, true), true⟩,
  ⟨some 44, .load true 2 (.t 43), some (40, true), true⟩,
  ⟨some 45, .load true 2 (.t 10), some (40, true), true⟩,
  ⟨some 46, .call 21 [.t 42, .t 44, .t 45], some (40, true), true⟩,
  ⟨some 47, .pick (.t 40) (.t 46) (.c (.bool false)), some (33, false), true⟩,
  ⟨some 48, .mv (.t 47), some (33, false), true⟩,
  ⟨some 49, .mv (.t 9), some (48, true), true⟩,
  ⟨some 50, .un .not (.t 49), some (48, true), true⟩,
  ⟨some 51, .pick (.t 48) (.t 50) (.c (.bool false)), some (33, false), true⟩,
  ⟨some 52, .pick (.t 33) (.c (.bool true)) (.t 51), none, true⟩] (some [7, 8, 9, 52]) [10]) (
(.cond (.t 52) (
  (.seq (
  .reg none [
    ⟨some 6, .as (.c (.bool false)), none, true⟩] (some [6]) []) (
  .ret))) (
  .skip))))) (
(.seq (
.reg none [
  ⟨some 53, .mv (.t 7), none, true⟩,
  ⟨some 54, .mv (.t 53), none, true⟩,
  ⟨some 55, .iaa 4 2 (.t 8) (.c (.int .i64 1)), some (54, true), true⟩,
  ⟨some 56, .load true 2 (.t 55), some (54, true), true⟩,
  ⟨some 57, .iaa 4 2 (.t 8) (.c (.int .i64 0)), some (54, true), true⟩,
  ⟨some 58, .load true 2 (.t 57), some (54, true), true⟩,
  ⟨some 59, .iaa 4 2 (.t 8) (.c (.int .i64 2)), some (54, true), true⟩,
  ⟨some 60, .load true 2 (.t 59), some (54, true), true⟩,
  ⟨some 61, .iaa 4 2 (.t 8) (.c (.int .i64 3)), some (54, true), true⟩,
  ⟨some 62, .load true 2 (.t 61), some (54, true), true⟩,
  ⟨some 63, .call 23 [.t 56, .t 58, .t 60, .t 62], some (54, true), true⟩,
  ⟨some 64, .mv (.t 9), some (54, true), true⟩,
  ⟨some 65, .bib false (.t 63) (.t 64), some (54, true), true⟩,
  ⟨some 66, .pick (.t 54) (.t 65) (.c (.bool false)), none, true⟩,
  ⟨some 67, .mv (.t 66), none, true⟩,
  ⟨some 68, .iaa 4 2 (.t 8) (.c (.int .i64 0)), some (67, true), true⟩,
  ⟨some 69, .load true 2 (.t 68), some (67, true), true⟩,
  ⟨some 70, .iaa 4 2 (.t 8) (.c (.int .i64 1)), some (67, true), true⟩,
  ⟨some 71, .load true 2 (.t 70), some (67, true), true⟩,
  ⟨some 72, .iaa 4 2 (.t 8) (.c (.int .i64 3)), some (67, true), true⟩,
  ⟨some 73, .load true 2 (.t 72), some (67, true), true⟩,
  ⟨some 74, .iaa 4 2 (.t 8) (.c (.int .i64 2)), some (67, true), true⟩,
  ⟨some 75, .load true 2 (.t 74), some (67, true), true⟩,
  ⟨some 76, .call 23 [.t 69, .t 71, .t 73, .t 75], some (67, true), true⟩,
  ⟨some 77, .mv (.t 9), some (67, true), true⟩,
  ⟨some 78, .bib false (.t 76) (.t 77), some (67, true), true⟩,
  ⟨some 79, .pick (.t 67) (.t 78) (.c (.bool false)), none, true⟩,
  ⟨some 80, .mv (.t 79), none, true⟩,
  ⟨some 81, .iaa 4 2 (.t 8) (.c (.int .i64 2)), some (80, true), true⟩,
  ⟨some 82, .load true 2 (.t 81), some (80, true), true⟩,
  ⟨some 83, .iaa 4 2 (.t 8) (.c (.int .i64 3)), some (80, true), true⟩,
  ⟨some 84, .load true 2 (.t 83), some (80, true), true⟩,
  ⟨some 85, .iaa 4 2 (.t 8) (.c (.int .i64 0)), some (80, true), true⟩,
  ⟨some 86, .load true 2 (.t 85), some (80, true), true⟩,
  ⟨some 87, .iaa 4 2 (.t 8) (.c (.int .i64 1)), some (80, true), true⟩,
  ⟨some 88, .load true 2 (.t 87), some (80, true), true⟩,
  ⟨some 89, .call 23 [.t 82, .t 84, .t 86, .t 88], some (80, true), true⟩,
  ⟨some 90, .mv (.t 9), some (80, true), true⟩,
  ⟨some 91, .bib false (.t 89) (.t 90), some (80, true), true⟩,
  ⟨some 92, .pick (.t 80) (.t 91) (.c (.bool false)), none, true⟩,
  ⟨some 93, .mv (.t 92), none, true⟩,
  ⟨some 94, .iaa 4 2 (.t 8) (.c (.int .i64 0)), some (93, true), true⟩,
  ⟨some 95, .load true 2 (.t 94), some (93, true), true⟩,
  ⟨some 96, .iaa 4 2 (.t 8) (.c (.int .i64 1)), some (93, true), true⟩,
  ⟨some 97, .load true 2 (.t 96), some (93, true), true⟩,
  ⟨some 98, .iaa 4 2 (.t 8) (.c (.int .i64 0)), some (93, true), true⟩,
  ⟨some 99, .load true 2 (.t 98), some (93, true), true⟩,
  ⟨some 100, .iaa 4 2 (.t 8) (.c (.int .i64 3)), some (93, true), true⟩,
  ⟨some 101, .load true 2 (.t 100), some (93, true), true⟩,
  ⟨some 102, .call 23 [.t 95, .t 97, .t 99, .t 101], some (93, true), true⟩,
  ⟨some 103, .pick (.t 93) (.t 102) (.c (.bool false)), none, true⟩,
  ⟨some 104, .mv (.t 103), none, true⟩,
  ⟨some 105, .iaa 4 2 (.t 8) (.c (.int .i64 0)), some (104, true), true⟩,
  ⟨some 106, .load true 2 (.t 105), some (104, true), true⟩,
  ⟨some 107, .iaa 4 2 (.t 8) (.c (.int .i64 1)), some (104, true), true⟩,
  ⟨some 108, .load true 2 (.t 107), some (104, true), true⟩,
  ⟨some 109, .iaa 4 2 (.t 8) (.c (.int .i64 0)), some (104, true), true⟩,
  ⟨some 110, .load true 2 (.t 109), some (104, true), true⟩,
  ⟨some 111, .iaa 4 2 (.t 8) (.c (.int .i64 1)), some (104, true), true⟩,
  ⟨some 112, .load true 2 (.t 111), some (104, true), true⟩,
  ⟨some 113, .call 23 [.t 106, .t 108, .t 110, .t 112], some (104, true), true⟩,
  ⟨some 114, .pick (.t 104) (.t 113) (.c (.bool false)), none, true⟩,
  ⟨some 6, .as (.t 114), none, true⟩] (some [6]) []) (
.ret)))))))))))))))
def A8_L0b : ACode := 
  (.seq (
  (.seq (
  .reg none [
    ⟨some 48, .mv (.t 14), none, true⟩,
    ⟨some 49, .mv (.t 6), none, true⟩,
    ⟨some 50, .len 0 (.t 49), none, true⟩,
    ⟨some 51, .bin .lss (.t 48) (.t 50), none, true⟩] (some [5, 6, 8, 9, 10, 11, 12, 13, 14, 51]) []) (
  (.cond (.t 51) (
    .skip) (
    .exit 0))))) (
  (.seq (
  (.block 1 (
  (.seq (
  .reg none [
    ⟨some 54, .mv (.t 6), none, true⟩,
    ⟨some 55, .mv (.t 14), none, true⟩,
    ⟨some 56, .ias 2 (.t 54) (.t 55), none, true⟩,
    ⟨some 57, .load true 2 (.t 56), none, true⟩,
    ⟨some 15, .alloc [.int .i64 0, .int .i64 0], none, true⟩,
    ⟨none, .store 2 (.t 15) (.t 57), none, true⟩] (some [5, 6, 8, 9, 10, 11, 12, 13, 14, 15]) []) (
  (.seq (
  (.seq (
  .reg none [
    ⟨some 58, .fad 0 (.t 15), none, true⟩,
    ⟨some 59, .load false 1 (.t 58), none, true⟩,
    ⟨some 60, .fad 0 (.t 9), none, true⟩,
    ⟨some 61, .load false 1 (.t 60), none, true⟩,
    ⟨some 62, .bin .lss (.t 59) (.t 61), none, true⟩,
    ⟨some 63, .mv (.t 62), none, true⟩,
    ⟨some 64, .fad 1 (.t 15), some (63, false), true⟩,
    ⟨some 65, .load false 1 (.t 64), some (63, false), true⟩,
    ⟨some 66, .fad 1 (.t 9), some (63, false), true⟩,
    ⟨some 67, .load false 1 (.t 66), some (63, false), true⟩,
    ⟨some 68, .bin .lss (.t 65) (.t 67), some (63, false), true⟩,
    ⟨some 69, .pick (.t 63) (.c (.bool true)) (.t 68), none, true⟩,
    ⟨some 70, .mv (.t 69), none, true⟩,
    ⟨some 71, .fad 0 (.t 15), some (70, false), true⟩,
    ⟨some 72, .load false 1 (.t 71), some (70, false), true⟩,
    ⟨some 73, .fad 0 (.t 10), some (70, false), true⟩,
    ⟨some 74, .load false 1 (.t 73), some (70, false), true⟩,
    ⟨some 75, .bin .gtr (.t 72) (.t 74), some (70, false), true⟩,
    ⟨some 76, .pick (.t 70) (.c (.bool true)) (.t 75), none, true⟩,
    ⟨some 77, .mv (.t 76), none, true⟩,
    ⟨some 78, .fad 1 (.t 15), some (77, false), true⟩,
    ⟨some 79, .load false 1 (.t 78), some (77, false), true⟩,
    ⟨some 80, .fad 1 (.t 10), some (77, false), true⟩,
    ⟨some 81, .load false 1 (.t 80), some (77, false), true⟩,
    ⟨some 82, .bin .gtr (.t 79) (.t 81), some (77, false), true⟩,
    ⟨some 83, .pick (.t 77) (.c (.bool true)) (.t 82), none, true⟩] (some [5, 6, 8, 9, 10, 11, 12, 13, 14, 15, 83]) []) (
  (.cond (.t 83) (
    (.seq (
    .reg none [
      ⟨some 4, .as (.c (.bool false)), none, true⟩] (some [4]) []) (
    .ret))) (
    .skip))))) (
  (.seq (
  .reg none [
    ⟨some 84, .iaa 4 1 (.t 13) (.c (.int .i64 0)), none, true⟩,
    ⟨some 85, .load false 1 (.t 84), none, true⟩,
    ⟨some 86, .mv (.t 85), none, true⟩,
    ⟨some 87, .fad 0 (.t 15), some (86, false), true⟩,
    ⟨some 88, .load false 1 (.t 87), some (86, false), true⟩,
    ⟨some 89, .fad 0 (.t 9), some (86, false), true⟩,
    ⟨some 90, .load false 1 (.t 89), some (86, false), true⟩,
    ⟨some 91, .bin .eql (.t 88) (.t 90), some (86, false), true⟩,
    ⟨some 92, .pick (.t 86) (.c (.bool true)) (.t 91), none, true⟩,
    ⟨some 93, .iaa 4 1 (.t 13) (.c (.int .i64 0)), none, true⟩,
    ⟨none, .store 1 (.t 93) (.t 92), none, true⟩] (some [5, 6, 8, 9, 10, 11, 12, 13, 14, 15]) []) (
  (.seq (
  .reg none [
    ⟨some 94, .iaa 4 1 (.t 13) (.c (.int .i64 1)), none, true⟩,
    ⟨some 95, .load false 1 (.t 94), none, true⟩,
    ⟨some 96, .mv (.t 95), none, true⟩,
    ⟨some 97, .fad 1 (.t 15), some (96, false), true⟩,
    ⟨some 98, .load false 1 (.t 97), some (96, false), true⟩,
    ⟨some 99, .fad 1 (.t 9), some (96, false), true⟩,
    ⟨some 100, .load false 1 (.t 99), some (96, false), true⟩,
    ⟨some 101, .bin .eql (.t 98) (.t 100), some (96, false), true⟩,
    ⟨some 102, .pick (.t 96) (.c (.bool true)) (.t 101), none, true⟩,
    ⟨some 103, .iaa 4 1 (.t 13) (.c (.int .i64 1)), none, true⟩,
    ⟨none, .store 1 (.t 103) (.t 102), none, true⟩] (some [5, 6, 8, 9, 10, 11, 12, 13, 14, 15]) []) (
  (.seq (
  .reg none [
    ⟨some 104, .iaa 4 1 (.t 13) (.c (.int .i64 2)), none, true⟩,
    ⟨some 105, .load false 1 (.t 104), none, true⟩,
    ⟨some 106, .mv (.t 105), none, true⟩,
    ⟨some 107, .fad 0 (.t 15), some (106, false), true⟩,
    ⟨some 108, .load false 1 (.t 107), some (106, false), true⟩,
    ⟨some 109, .fad 0 (.t 10), some (106, false), true⟩,
    ⟨some 110, .load false 1 (.t 109), some (106, false), true⟩,
    ⟨some 111, .bin .eql (.t 108) (.t 110), some (106, false), true⟩,
    ⟨some 112, .pick (.t 106) (.c (.bool true)) (.t 111), none, true⟩,
    ⟨some 113, .iaa 4 1 (.t 13) (.c (.int .i64 2)), none, true⟩,
    ⟨none, .store 1 (.t 113) (.t 112), none, true⟩] (some [5, 6, 8, 9, 10, 11, 12, 13, 14, 15]) []) (
  .reg none [
    ⟨some 114, .iaa 4 1 (.t 13) (.c (.int .i64 3)), none, true⟩,
    ⟨some 115, .load false 1 (.t 114), none, true⟩,
    ⟨some 116, .mv (.t 115), none, true⟩,
    ⟨some 117, .fad 1 (.t 15), some (116, false), true⟩,
    ⟨some 118, .load false 1 (.t 117), some (116, false), true⟩,
    ⟨some 119, .fad 1 (.t 10), some (116, false), true⟩,
    ⟨some 120, .load false 1 (.t 119), some (116, false), true⟩,
    ⟨some 121, .bin .eql (.t 118) (.t 120), some (116, false), true⟩,
    ⟨some 122, .pick (.t 116) (.c (.bool true)) (.t 121), none, true⟩,
    ⟨some 123, .iaa 4 1 (.t 13) (.c (.int .i64 3)), none, true⟩,
    ⟨none, .store 1 (.t 123) (.t 122), none, true⟩] (some [5, 6, 8, 9, 10, 11, 12, 13, 14]) [15]))))))))))) (some [5, 6, 8, 9, 10, 11, 12, 13, 14]) [4, 15])) (
  .reg none [
    ⟨some 52, .mv (.t 14), none, true⟩,
    ⟨some 53, .bin .add (.t 52) (.c (.int .i64 1)), none, true⟩,
    ⟨some 14, .as (.t 53), none, true⟩] (some [5, 6, 8, 9, 10, 11, 12, 13, 14]) []))))
def A8_L0 : ACode := .loop A8_L0b (some [5, 6, 8, 9, 10, 11, 12, 13, 14]) [4, 15]
/-- ambidexter/ambidexterlaw02.GeomBoxes -/
def A8 : AFn := .code [.t 4] (
(.seq (
.reg none [
  ⟨some 4, .as (.c (.bool false)), none, true⟩] (some [0, 1]) []) (
(.seq (
.reg none [
  ⟨some 16, .call 10 [], none, true⟩,
  ⟨some 5, .as (.t 16), none, true⟩] (some [0, 1, 5]) []) (
(.seq (
.reg none [
  ⟨some 17, .mv (.t 0), none, true⟩,
  ⟨some 18, .call 12 [.t 17], none, true⟩,
  ⟨some 6, .as (.t 18), none, true⟩] (some [1, 5, 6]) []) (
(.seq (
.reg none [
  ⟨some 19, .mv (.t 1), none, true⟩,
  ⟨some 20, .call 12 [.t 19], none, true⟩,
  ⟨some 7, .as (.t 20), none, true⟩] (some [5, 6, 7]) []) (
(.seq (
.reg none [
  ⟨some 21, .bsl 2 0 [.int .i64 0, .int .i64 0] [], none, true⟩,
  ⟨some 22, .mv (.t 6), none, true⟩,
  ⟨some 23, .app 2 (.t 21) (.t 22), none, true⟩,
  ⟨some 8, .as (.t 23), none, true⟩] (some [5, 6, 7, 8]) []) (
(.seq (
.reg none [
  ⟨some 24, .mv (.t 8), none, true⟩,
  ⟨some 25, .mv (.t 7), none, true⟩,
  ⟨some 26, .app 2 (.t 24) (.t 25), none, true⟩,
  ⟨some 8, .as (.t 26), none, true⟩] (some [5, 6, 7, 8]) []) (
(.seq (
(.seq (
.reg none [
  ⟨some 27, .mv (.t 6), none, true⟩,
  ⟨some 28, .len 0 (.t 27), none, true⟩,
  ⟨some 29, .bin .eql (.t 28) (.c (.int .i64 0)), none, true⟩] (some [5, 6, 7, 8, 29]) []) (
(.cond (.t 29) (
  (.seq (
  .reg none [
    ⟨some 30, .mv (.t 5), none, true⟩,
    ⟨some 31, .mv (.t 30), none, true⟩,
    ⟨some 32, .mv (.t 6), some (31, true), true⟩,
    ⟨some 33, .mv (.t 7), some (31, true), true⟩,
    ⟨some 34, .call 25 [.t 32, .t 33], some (31, true), true⟩,
    ⟨some 35, .bin .eql (.t 34) (.c (.int .i64 0)), some (31, true), true⟩,
    ⟨some 36, .pick (.t 31) (.t 35) (.c (.bool false)), none, true⟩,
    ⟨some 4, .as (.t 36), none, true⟩] (some [4]) []) (
  .ret))) (
  .skip))))) (
(.seq (
.reg none [
  ⟨some 38, .mv (.t 6), none, true⟩,
  ⟨some 39, .call 13 [.t 38], none, true⟩,
  ⟨some 37, .mv (.t 39), none, true⟩,
  ⟨some 40, .ext (.t 37) 0, none, true⟩,
  ⟨some 41, .ext (.t 37) 1, none, true⟩,
  ⟨some 9, .alloc [.int .i64 0, .int .i64 0], none, true⟩,
  ⟨some 10, .alloc [.int .i64 0, .int .i64 0], none, true⟩,
  ⟨none, .store 2 (.t 9) (.t 40), none, true⟩,
  ⟨none, .store 2 (.t 10) (.t 41), none, true⟩] (some [5, 6, 8, 9, 10]) []) (
(.seq (
.reg none [
  ⟨some 43, .mv (.t 8), none, true⟩,
  ⟨some 44, .call 13 [.t 43], none, true⟩,
  ⟨some 42, .mv (.t 44), none, true⟩,
  ⟨some 45, .ext (.t 42) 0, none, true⟩,
  ⟨some 46, .ext (.t 42) 1, none, true⟩,
  ⟨some 11, .alloc [.int .i64 0, .int .i64 0], none, true⟩,
  ⟨some 12, .alloc [.int .i64 0, .int .i64 0], none, true⟩,
  ⟨none, .store 2 (.t 11) (.t 45), none, true⟩,
  ⟨none, .store 2 (.t 12) (.t 46), none, true⟩] (some [5, 6, 8, 9, 10, 11, 12]) []) (
(.seq (
.reg none [
  ⟨some 47, .build [.bool false, .bool false, .bool false, .bool false] [], none, true⟩,
  ⟨some 13, .alloc [.bool false, .bool false, .bool false, .bool false], none, true⟩,
  ⟨none, .store 4 (.t 13) (.t 47), none, true⟩] (some [5, 6, 8, 9, 10, 11, 12, 13]) []) (
(.seq (
(.seq (
.reg none [
  ⟨some 14, .as (.c (.int .i64 0)), none, true⟩] (some [5, 6, 8, 9, 10, 11, 12, 13, 14]) []) (
(.block 0 (
A8_L0) (some [5, 6, 8, 9, 10, 11, 12, 13]) [4, 14, 15])))) (
(.seq (
.reg none [
  ⟨some 124, .mv (.t 5), none, true⟩,
  ⟨some 125, .mv (.t 124), none, true⟩,
  ⟨some 126, .iaa 4 1 (.t 13) (.c (.int .i64 0)), some (125, true), true⟩,
  ⟨some 127, .load false 1 (.t 126), some (125, true), true⟩,
  ⟨some 128, .pick (.t 125) (.t 127) (.c (.bool false)), none, true⟩,
  ⟨some 129, .mv (.t 128), none, true⟩,
  ⟨some 130, .iaa 4 1 (.t 13) (.c (.int .i64 1)), some (129, true), true⟩,
  ⟨some 131, .load false 1 (.t 130), some (129, true), true⟩,
  ⟨some 132, .pick (.t 129) (.t 131) (.c (.bool false)), none, true⟩,
  ⟨some 133, .mv (.t 132), none, true⟩,
  ⟨some 134, .iaa 4 1 (.t 13) (.c (.int .i64 2)), some (133, true), true⟩,
  ⟨some 135, .load false 1 (.t 134), some (133, true), true⟩,
  ⟨some 136, .pick (.t 133) (.t 135) (.c (.bool false)), none, true⟩,
  ⟨some 137, .mv (.t 136), none, true⟩,
  ⟨some 138, .iaa 4 1 (.t 13) (.c (.int .i64 3)), some (137, true), true⟩,
  ⟨some 139, .load false 1 (.t 138), some (137, true), true⟩,
  ⟨some 140, .pick (.t 137) (.t 139) (.c (.bool false)), none, true⟩,
  ⟨some 141, .mv (.t 140), none, true⟩,
  ⟨some 142, .fad 0 (.t 11), some (141, true), true⟩,
  ⟨some 143, .load false 1 (.t 142), some (141, true), true⟩,
  ⟨some 144, .fad 0 (.t 9), some (141, true), true⟩,
  ⟨some 145, .load false 1 (.t 144), some (141, true), true⟩,
  ⟨some 146, .bin .leq (.t 143) (.t 145), some (141, true), true⟩,
  ⟨some 147, .pick (.t 141) (.t 146) (.c (.bool false)), none, true⟩,
  ⟨some 148, .mv (.t 147), none, true⟩,
  ⟨some 149, .fad 1 (.t 11), some (148, true), true⟩,
  ⟨some 150, .load false 1 (.t 149), some (148, true), true⟩,
  ⟨some 151, .fad 1 (.t 9), some (148, true), true⟩,
  ⟨some 152, .load false 1 (.t 151), some (148, true), true⟩,
  ⟨some 153, .bin .leq (.t 150) (.t 152), some (148, true), true⟩,
  ⟨some 154, .pick (.t 148) (.t 153) (.c (.bool false)), none, true⟩,
  ⟨some 155, .mv (.t 154), none, true⟩,
  ⟨some 156, .fad 0 (.t 12), some (155, true), true⟩,
  ⟨some 157, .load false 1 (.t 156), some (155, true), true⟩,
  ⟨some 158, .fad 0 (.t 10), some (155, true), true⟩,
  ⟨some 159, .load false 1 (.t 158), some (155, true), true⟩,
  ⟨some 160, .bin .geq (.t 157) (.t 159), some (155, true), true⟩,
  ⟨some 161, .pick (.t 155) (.t 160) (.c (.bool false)), none, true⟩,
  ⟨some 162, .mv (.t 161), none, true⟩,
  ⟨some 163, .fad 1 (.t 12), some (162, true), true⟩,
  ⟨some 164, .load false 1 (.t 163), some (162, true), true⟩,
  ⟨some 165, .fad 1 (.t 10), some (162, true), true⟩,
  ⟨some 166, .load false 1 (.t 165), some (162, true), true⟩,
  ⟨some 167, .bin .geq (.t 164) (.t 166), some (162, true), true⟩,
  ⟨some 168, .pick (.t 162) (.t 167) (.c (.bool false)), none, true⟩,
  ⟨some 169, .mv (.t 168), none, true⟩,
  ⟨some 170, .mv (.t 6), some (169, true), true⟩,
  ⟨some 171, .mv (.t 8), some (169, true), true⟩,
  ⟨some 172, .call 25 [.t 170, .t 171], some (169, true), true⟩,
  ⟨some 173, .bin .eql (.t 172) (.c (.int .i64 0)), some (169, true), true⟩,
  ⟨some 174, .pick (.t 169) (.t 173) (.c (.bool false)), none, true⟩,
  ⟨some 4, .as (.t 174), none, true⟩] (some [4]) [9, 10, 11, 12, 13]) (
.ret)))))))))))))))))))))))))
def A9_L0b : ACode := 
  (.seq (
  (.seq (
  .reg none [
    ⟨some 71, .mv (.t 15), none, true⟩,
    ⟨some 72, .mv (.t 6), none, true⟩,
    ⟨some 73, .len 0 (.t 72), none, true⟩,
    ⟨some 74, .bin .lss (.t 71) (.t 73), none, true⟩] (some [5, 6, 7, 8, 13, 14, 15, 74]) []) (
  (.cond (.t 74) (
    .skip) (
    .exit 4))))) (
  (.seq (
  (.block 5 (
  (.seq (
  .reg (some [.dr [80, 82, 86, 88, 90, 91] [], .dr [86, 88] [], .dr [86, 88] [], .dr [86, 88] [], .dr [86, 88] [], .dr [86, 88] [], .dr [86, 88] [], .dr [80, 82] [], .dr [80, 82] [], .dr [80, 82] [], .dr [80, 82] [], .dr [80, 82] [], .dr [80, 82] [], .dr [] [], .dr [] [], .free, .free]) [
    ⟨some 77, .mv (.t 13), none, true⟩,
    ⟨some 78, .mv (.t 6), none, true⟩,
    ⟨some 79, .mv (.t 15), none, true⟩,
    ⟨some 80, .ias 2 (.t 78) (.t 79), none, true⟩,
    ⟨some 81, .fad 0 (.t 80), none, true⟩,
    ⟨some 82, .load false 1 (.t 81), none, true⟩,
    ⟨some 83, .bin .quo (.t 82) (.c (.int .i64 4)), none, true⟩,
    ⟨some 84, .mv (.t 6), none, true⟩,
    ⟨some 85, .mv (.t 15), none, true⟩,
    ⟨some 86, .ias 2 (.t 84) (.t 85), none, true⟩,
    ⟨some 87, .fad 1 (.t 86), none, true⟩,
    ⟨some 88, .load false 1 (.t 87), none, true⟩,
    ⟨some 89, .bin .quo (.t 88) (.c (.int .i64 4)), none, true⟩,
    ⟨some 90, .call 27 [.t 83, .t 89], none, true⟩,
    ⟨some 91, .bsl 2 1 [.int .i64 0, .int .i64 0] [(0, .t 90)], none, true⟩,
    ⟨some 92, .app 2 (.t 77) (.t 91), none, true⟩,
    ⟨some 13, .as (.t 92), none, true⟩] (some [5, 6, 7, 8, 13, 14, 15]) []) (
  .reg (some [.dr [96, 98, 104, 106, 108, 109] [], .dr [104, 106] [], .dr [104, 106] [], .dr [104, 106] [], .dr [104, 106] [], .dr [104, 106] [], .dr [104, 106] [], .dr [104, 106] [], .dr [104, 106] [], .dr [96, 98] [], .dr [96, 98] [], .dr [96, 98] [], .dr [96, 98] [], .dr [96, 98] [], .dr [96, 98] [], .dr [] [], .dr [] [], .free, .free]) [
    ⟨some 93, .mv (.t 14), none, true⟩,
    ⟨some 94, .mv (.t 6), none, true⟩,
    ⟨some 95, .mv (.t 15), none, true⟩,
    ⟨some 96, .ias 2 (.t 94) (.t 95), none, true⟩,
    ⟨some 97, .fad 0 (.t 96), none, true⟩,
    ⟨some 98, .load false 1 (.t 97), none, true⟩,
    ⟨some 99, .bin .quo (.t 98) (.c (.int .i64 4)), none, true⟩,
    ⟨some 100, .bin .add (.t 99) (.c (.int .i64 219700000)), none, true⟩,
    ⟨some 101, .bin .add (.t 100) (.c (.int .i64 9)), none, true⟩,
    ⟨some 102, .mv (.t 6), none, true⟩,
    ⟨some 103, .mv (.t 15), none, true⟩,
    ⟨some 104, .ias 2 (.t 102) (.t 103), none, true⟩,
    ⟨some 105, .fad 1 (.t 104), none, true⟩,
    ⟨some 106, .load false 1 (.t 105), none, true⟩,
    ⟨some 107, .bin .quo (.t 106) (.c (.int .i64 4)), none, true⟩,
    ⟨some 108, .call 27 [.t 101, .t 107], none, true⟩,
    ⟨some 109, .bsl 2 1 [.int .i64 0, .int .i64 0] [(0, .t 108)], none, true⟩,
    ⟨some 110, .app 2 (.t 93) (.t 109), none, true⟩,
    ⟨some 14, .as (.t 110), none, true⟩] (some [5, 6, 7, 8, 13, 14, 15]) []))) (some [5, 6, 7, 8, 13, 14, 15]) [90, 91, 108, 109])) (
  .reg none [
    ⟨some 75, .mv (.t 15), none, true⟩,
    ⟨some 76, .bin .add (.t 75) (.c (.int .i64 1)), none, true⟩,
    ⟨some 15, .as (.t 76), none, true⟩] (some [5, 6, 7, 8, 13, 14, 15]) []))))
def A9_L0 : ACode := .loop A9_L0b (some [5, 6, 7, 8, 13, 14, 15]) [90, 91, 108, 109]
def A9_L1b : ACode := 
    (.seq (
    (.seq (
    .reg none [
      ⟨some 32, .mv (.t 10), none, true⟩,
      ⟨some 33, .mv (.t 7), none, true⟩,
      ⟨some 34, .len 0 (.t 33), none, true⟩,
      ⟨some 35, .bin .lss (.t 32) (.t 34), none, true⟩] (some [5, 6, 7, 8, 9, 10, 35]) []) (
    (.cond (.t 35) (
      .skip) (
      .exit 2))))) (
    (.seq (
    (.block 3 (
    (.seq (
    .reg (some [.dr [45, 47] [], .dr [45, 47] [], .dr [45, 47] [], .dr [45, 47] [], .dr [45, 47] [], .dr [40, 42] [], .dr [40, 42] [], .dr [40, 42] [], .dr [40, 42] [], .dr [40, 42] [], .free, .free]) [
      ⟨some 38, .mv (.t 6), none, true⟩,
      ⟨some 39, .mv (.t 9), none, true⟩,
      ⟨some 40, .ias 2 (.t 38) (.t 39), none, true⟩,
      ⟨some 41, .fad 0 (.t 40), none, true⟩,
      ⟨some 42, .load false 1 (.t 41), none, true⟩,
      ⟨some 43, .mv (.t 7), none, true⟩,
      ⟨some 44, .mv (.t 10), none, true⟩,
      ⟨some 45, .ias 2 (.t 43) (.t 44), none, true⟩,
      ⟨some 46, .fad 0 (.t 45), none, true⟩,
      ⟨some 47, .load false 1 (.t 46), none, true⟩,
      ⟨some 48, .bin .sub (.t 42) (.t 47), none, true⟩,
      ⟨some 11, .as (.t 48), none, true⟩] (some [5, 6, 7, 8, 9, 10, 11]) []) (
    (.seq (
    .reg (some [.dr [56, 58] [], .dr [56, 58] [], .dr [56, 58] [], .dr [56, 58] [], .dr [56, 58] [], .dr [51, 53] [], .dr [51, 53] [], .dr [51, 53] [], .dr [51, 53] [], .dr [51, 53] [], .free, .free]) [
      ⟨some 49, .mv (.t 6), none, true⟩,
      ⟨some 50, .mv (.t 9), none, true⟩,
      ⟨some 51, .ias 2 (.t 49) (.t 50), none, true⟩,
      ⟨some 52, .fad 1 (.t 51), none, true⟩,
      ⟨some 53, .load false 1 (.t 52), none, true⟩,
      ⟨some 54, .mv (.t 7), none, true⟩,
      ⟨some 55, .mv (.t 10), none, true⟩,
      ⟨some 56, .ias 2 (.t 54) (.t 55), none, true⟩,
      ⟨some 57, .fad 1 (.t 56), none, true⟩,
      ⟨some 58, .load false 1 (.t 57), none, true⟩,
      ⟨some 59, .bin .sub (.t 53) (.t 58), none, true⟩,
      ⟨some 12, .as (.t 59), none, true⟩] (some [5, 6, 7, 8, 9, 10, 11, 12]) []) (
    (.seq (
    .reg none [
      ⟨some 60, .mv (.t 8), none, true⟩,
      ⟨some 61, .mv (.t 11), none, true⟩,
      ⟨some 62, .mv (.t 11), none, true⟩,
      ⟨some 63, .bin .sub (.c (.int .i64 0)) (.t 62), none, true⟩,
      ⟨some 64, .mv (.t 12), none, true⟩,
      ⟨some 65, .mv (.t 12), none, true⟩,
      ⟨some 66, .bin .sub (.c (.int .i64 0)) (.t 65), none, true⟩,
      ⟨some 67, .mx [.t 61, .t 63, .t 64, .t 66], none, true⟩,
      ⟨some 68, .bin .gtr (.t 60) (.t 67), none, true⟩] (some [5, 6, 7, 8, 9, 10, 68]) []) (
    (.cond (.t 68) (
      (.seq (
      .reg none [
        ⟨some 4, .as (.c (.bool false)), none, true⟩] (some [4]) []) (
      .ret))) (
      .skip))))))))) (some [5, 6, 7, 8, 9, 10]) [4, 11, 12])) (
    .reg none [
      ⟨some 36, .mv (.t 10), none, true⟩,
      ⟨some 37, .bin .add (.t 36) (.c (.int .i64 1)), none, true⟩,
      ⟨some 10, .as (.t 37), none, true⟩] (some [5, 6, 7, 8, 9, 10]) []))))
def A9_L1 : ACode := .loop A9_L1b (some [5, 6, 7, 8, 9, 10]) [4, 11, 12]
def A9_L2b : ACode := 
  (.seq (
  (.seq (
  .reg none [
    ⟨some 26, .mv (.t 9), none, true⟩,
    ⟨some 27, .mv (.t 6), none, true⟩,
    ⟨some 28, .len 0 (.t 27), none, true⟩,
    ⟨some 29, .bin .lss (.t 26) (.t 28), none, true⟩] (some [5, 6, 7, 8, 9, 29]) []) (
  (.cond (.t 29) (
    .skip) (
    .exit 0))))) (
  (.seq (
  (.block 1 (
  (.seq (
  .reg none [
    ⟨some 10, .as (.c (.int .i64 0)), none, true⟩] (some [5, 6, 7, 8, 9, 10]) []) (
  (.block 2 (
  A9_L1) (some [5, 6, 7, 8, 9]) [4, 10, 11, 12])))) (some [5, 6, 7, 8, 9]) [4, 10, 11, 12])) (
  .reg none [
    ⟨some 30, .mv (.t 9), none, true⟩,
    ⟨some 31, .bin .add (.t 30) (.c (.int .i64 1)), none, true⟩,
    ⟨some 9, .as (.t 31), none, true⟩] (some [5, 6, 7, 8, 9]) []))))
def A9_L2 : ACode := .loop A9_L2b (some [5, 6, 7, 8, 9]) [4, 10, 11, 12]
/-- ambidexter/ambidexterlaw02.GeomGaps -/
def A9 : AFn := .code [.t 4] (
(.seq (
.reg none [
  ⟨some 4, .as (.c (.bool false)), none, true⟩] (some [0, 1]) []) (
(.seq (
.reg none [
  ⟨some 18, .call 10 [], none, true⟩,
  ⟨some 5, .as (.t 18), none, true⟩] (some [0, 1, 5]) []) (
(.seq (
.reg none [
  ⟨some 19, .mv (.t 0), none, true⟩,
  ⟨some 20, .call 12 [.t 19], none, true⟩,
  ⟨some 6, .as (.t 20), none, true⟩] (some [1, 5, 6]) []) (
(.seq (
.reg none [
  ⟨some 21, .mv (.t 1), none, true⟩,
  ⟨some 22, .call 12 [.t 21], none, true⟩,
  ⟨some 7, .as (.t 22), none, true⟩] (some [5, 6, 7]) []) (
(.seq (
.reg none [
  ⟨some 23, .mv (.t 6), none, true⟩,
  ⟨some 24, .mv (.t 7), none, true⟩,
  ⟨some 25, .call 25 [.t 23, .t 24], none, true⟩,
  ⟨some 8, .as (.t 25), none, true⟩] (some [5, 6, 7, 8]) []) (
(.seq (
(.seq (
.reg none [
  ⟨some 9, .as (.c (.int .i64 0)), none, true⟩] (some [5, 6, 7, 8, 9]) []) (
(.block 0 (
A9_L2) (some [5, 6, 7, 8]) [4, 9, 10, 11, 12])))) (
(.seq (
.reg none [
  ⟨some 69, .bsl 2 0 [.int .i64 0, .int .i64 0] [], none, true⟩,
  ⟨some 13, .as (.t 69), none, true⟩] (some [5, 6, 7, 8, 13]) []) (
(.seq (
.reg none [
  ⟨some 70, .bsl 2 0 [.int .i64 0, .int .i64 0] [], none, true⟩,
  ⟨some 14, .as (.t 70), none, true⟩] (some [5, 6, 7, 8, 13, 14]) []) (
(.seq (
(.seq (
.reg none [
  ⟨some 15, .as (.c (.int .i64 0)), none, true⟩] (some [5, 6, 7, 8, 13, 14, 15]) []) (
(.block 4 (
A9_L0) (some [5, 6, 7, 8, 13, 14]) [15, 90, 91, 108, 109])))) (
(.seq (
.reg none [
  ⟨some 112, .mv (.t 13), none, true⟩,
  ⟨some 113, .call 13 [.t 112], none, true⟩,
  ⟨some 111, .mv (.t 113), none, true⟩,
  ⟨some 114, .ext (.t 111) 0, none, true⟩,
  ⟨some 115, .ext (.t 111) 1, none, true⟩,
  ⟨some 16, .alloc [.int .i64 0, .int .i64 0], none, true⟩,
  ⟨some 17, .alloc [.int .i64 0, .int .i64 0], none, true⟩,
  ⟨none, .store 2 (.t 16) (.t 114), none, true⟩,
  ⟨none, .store 2 (.t 17) (.t 115), none, true⟩] (some [5, 6, 7, 8, 13, 14, 16, 17]) []) (
(.seq (
.reg (some [.free, .free, .free, .free, .free, .free, .dr [125] [], .dr [] [], .dr [] [], .dr [] [], .free, .free, .free, .free, .free, .free, .free, .dr [137, 139] [], .dr [137, 139] [], .dr [137, 139] [], .dr [135, 139] [], .dr [135, 139] [], .dr [135, 137] [], .dr [135, 137] [], .dr [135] [], .dr [135] [], .dr [135] [], .free, .free, .free, .free]) [
  ⟨some 116, .mv (.t 5), none, true⟩,
  ⟨some 117, .mv (.t 116), none, true⟩,
  ⟨some 118, .mv (.t 8), some (117, true), true⟩,
  ⟨some 119, .bin .geq (.t 118) (.c (.int .i64 0)), some (117, true), true⟩,
  ⟨some 120, .pick (.t 117) (.t 119) (.c (.bool false)), none, true⟩,
  ⟨some 121, .mv (.t 120), none, true⟩,
  ⟨some 122, .mv (.t 8), some (121, true), true⟩,
  ⟨some 123, .mv (.t 7), some (121, true), true⟩,
  ⟨some 124, .mv (.t 6), some (121, true), true⟩,
  ⟨some 125, .call 25 [.t 123, .t 124], some (121, true), true⟩,
  ⟨some 126, .bin .eql (.t 122) (.t 125), some (121, true), true⟩,
  ⟨some 127, .pick (.t 121) (.t 126) (.c (.bool false)), none, true⟩,
  ⟨some 128, .mv (.t 127), none, true⟩,
  ⟨some 129, .mv (.t 6), some (128, true), true⟩,
  ⟨some 130, .len 0 (.t 129), some (128, true), true⟩,
  ⟨some 131, .bin .eql (.t 130) (.c (.int .i64 0)), some (128, true), true⟩,
  ⟨some 132, .mv (.t 131), some (128, true), true⟩,
  ⟨some 133, .mv (.t 13), some (132, false), true⟩,
  ⟨some 134, .mv (.t 14), some (132, false), true⟩,
  ⟨some 135, .call 25 [.t 133, .t 134], some (132, false), true⟩,
  ⟨some 136, .fad 0 (.t 17), some (132, false), true⟩,
  ⟨some 137, .load false 1 (.t 136), some (132, false), true⟩,
  ⟨some 138, .fad 0 (.t 16), some (132, false), true⟩,
  ⟨some 139, .load false 1 (.t 138), some (132, false), true⟩,
  ⟨some 140, .bin .sub (.t 137) (.t 139), some (132, false), true⟩,
  ⟨some 141, .bin .sub (.c (.int .i64 219700009)) (.t 140), some (132, false), true⟩,
  ⟨some 142, .mx [.c (.int .i64 0), .t 141], some (132, false), true⟩,
  ⟨some 143, .bin .eql (.t 135) (.t 142), some (132, false), true⟩,
  ⟨some 144, .pick (.t 132) (.c (.bool true)) (.t 143), some (128, true), true⟩,
  ⟨some 145, .pick (.t 128) (.t 144) (.c (.bool false)), none, true⟩,
  ⟨some 4, .as (.t 145), none, true⟩] (some [4]) [16, 17]) (
.ret)))))))))))))))))))))))
/-- ambidexter/ambidexterlaw02.head -/
def A10 : AFn := .code [.t 0] (
(.seq (
.reg none [
  ⟨some 0, .as (.c (.bool false)), none, true⟩] (some []) []) (
(.seq (
.reg none [
  ⟨some 6, .call 27 [.c (.int .i64 0), .c (.int .i64 0)], none, true⟩,
  ⟨some 7, .call 27 [.c (.int .i64 2), .c (.int .i64 1)], none, true⟩,
  ⟨some 8, .bsl 2 2 [.int .i64 0, .int .i64 0] [(0, .t 6), (1, .t 7)], none, true⟩,
  ⟨some 9, .call 13 [.t 8], none, true⟩,
  ⟨some 5, .mv (.t 9), none, true⟩,
  ⟨some 10, .ext (.t 5) 0, none, true⟩,
  ⟨some 11, .ext (.t 5) 1, none, true⟩,
  ⟨some 1, .alloc [.int .i64 0, .int .i64 0], none, true⟩,
  ⟨some 2, .alloc [.int .i64 0, .int .i64 0], none, true⟩,
  ⟨none, .store 2 (.t 1) (.t 10), none, true⟩,
  ⟨none, .store 2 (.t 2) (.t 11), none, true⟩] (some [1, 2]) []) (
(.seq (
.reg none [
  ⟨some 13, .call 13 [.c (.nils 2)], none, true⟩,
  ⟨some 12, .mv (.t 13), none, true⟩,
  ⟨some 14, .ext (.t 12) 0, none, true⟩,
  ⟨some 15, .ext (.t 12) 1, none, true⟩,
  ⟨some 3, .alloc [.int .i64 0, .int .i64 0], none, true⟩,
  ⟨some 4, .alloc [.int .i64 0, .int .i64 0], none, true⟩,
  ⟨none, .store 2 (.t 3) (.t 14), none, true⟩,
  ⟨none, .store 2 (.t 4) (.t 15), none, true⟩] (some [1, 2, 3, 4]) []) (
(.seq (
.reg (some [.free, .free, .free, .free, .free, .free, .free, .free, .free, .free, .free, .free, .free, .free, .free, .free, .free, .free, .free, .free, .free, .free, .free, .free, .free, .free, .free, .free, .free, .free, .free, .free, .free, .free, .free, .free, .free, .free, .free, .free, .free, .free, .free, .dr [60, 61] [], .dr [59] [], .dr [59] [], .free, .free, .free, .free, .dr [67] [], .dr [66] [], .free, .free, .free, .dr [72] [], .dr [71] [], .free, .free, .free, .dr [77] [], .dr [76] [], .free, .free, .free, .dr [82] [], .dr [81] [], .free, .free, .free, .free, .free, .free, .free, .free, .free, .free, .free, .free, .free, .free, .free, .free, .free]) [
  ⟨some 16, .call 27 [.c (.int .i64 0), .c (.int .i64 0)], none, true⟩,
  ⟨some 17, .call 27 [.c (.int .i64 2), .c (.int .i64 0)], none, true⟩,
  ⟨some 18, .call 27 [.c (.int .i64 1), .c (.int .i64 1)], none, true⟩,
  ⟨some 19, .call 19 [.t 16, .t 17, .t 18], none, true⟩,
  ⟨some 20, .bin .eql (.t 19) (.c (.int .i64 1)), none, true⟩,
  ⟨some 21, .mv (.t 20), none, true⟩,
  ⟨some 22, .call 27 [.c (.int .i64 0), .c (.int .i64 0)], some (21, true), true⟩,
  ⟨some 23, .call 27 [.c (.int .i64 2), .c (.int .i64 0)], some (21, true), true⟩,
  ⟨some 24, .call 27 [.c (.int .i64 1), .c (.int .i64 (-1))], some (21, true), true⟩,
  ⟨some 25, .call 19 [.t 22, .t 23, .t 24], some (21, true), true⟩,
  ⟨some 26, .bin .eql (.t 25) (.c (.int .i64 (-1))), some (21, true), true⟩,
  ⟨some 27, .pick (.t 21) (.t 26) (.c (.bool false)), none, true⟩,
  ⟨some 28, .mv (.t 27), none, true⟩,
  ⟨some 29, .call 27 [.c (.int .i64 0), .c (.int .i64 0)], some (28, true), true⟩,
  ⟨some 30, .call 27 [.c (.int .i64 4), .c (.int .i64 2)], some (28, true), true⟩,
  ⟨some 31, .call 27 [.c (.int .i64 2), .c (.int .i64 1)], some (28, true), true⟩,
  ⟨some 32, .call 21 [.t 29, .t 30, .t 31], some (28, true), true⟩,
  ⟨some 33, .pick (.t 28) (.t 32) (.c (.bool false)), none, true⟩,
  ⟨some 34, .mv (.t 33), none, true⟩,
  ⟨some 35, .call 27 [.c (.int .i64 0), .c (.int .i64 0)], some (34, true), true⟩,
  ⟨some 36, .call 27 [.c (.int .i64 4), .c (.int .i64 2)], some (34, true), true⟩,
  ⟨some 37, .call 27 [.c (.int .i64 6), .c (.int .i64 3)], some (34, true), true⟩,
  ⟨some 38, .call 21 [.t 35, .t 36, .t 37], some (34, true), true⟩,
  ⟨some 39, .un .not (.t 38), some (34, true), true⟩,
  ⟨some 40, .pick (.t 34) (.t 39) (.c (.bool false)), none, true⟩,
  ⟨some 41, .mv (.t 40), none, true⟩,
  ⟨some 42, .call 27 [.c (.int .i64 0), .c (.int .i64 0)], some (41, true), true⟩,
  ⟨some 43, .call 27 [.c (.int .i64 4), .c (.int .i64 4)], some (41, true), true⟩,
  ⟨some 44, .call 27 [.c (.int .i64 0), .c (.int .i64 4)], some (41, true), true⟩,
  ⟨some 45, .call 27 [.c (.int .i64 4), .c (.int .i64 0)], some (41, true), true⟩,
  ⟨some 46, .call 23 [.t 42, .t 43, .t 44, .t 45], some (41, true), true⟩,
  ⟨some 47, .pick (.t 41) (.t 46) (.c (.bool false)), none, true⟩,
  ⟨some 48, .mv (.t 47), none, true⟩,
  ⟨some 49, .call 27 [.c (.int .i64 0), .c (.int .i64 0)], some (48, true), true⟩,
  ⟨some 50, .call 27 [.c (.int .i64 1), .c (.int .i64 1)], some (48, true), true⟩,
  ⟨some 51, .call 27 [.c (.int .i64 0), .c (.int .i64 4)], some (48, true), true⟩,
  ⟨some 52, .call 27 [.c (.int .i64 4), .c (.int .i64 0)], some (48, true), true⟩,
  ⟨some 53, .call 23 [.t 49, .t 50, .t 51, .t 52], some (48, true), true⟩,
  ⟨some 54, .un .not (.t 53), some (48, true), true⟩,
  ⟨some 55, .pick (.t 48) (.t 54) (.c (.bool false)), none, true⟩,
  ⟨some 56, .mv (.t 55), none, true⟩,
  ⟨some 57, .call 27 [.c (.int .i64 0), .c (.int .i64 0)], some (56, true), true⟩,
  ⟨some 58, .call 27 [.c (.int .i64 2), .c (.int .i64 1)], some (56, true), true⟩,
  ⟨some 59, .bsl 2 2 [.int .i64 0, .int .i64 0] [(0, .t 57), (1, .t 58)], some (56, true), true⟩,
  ⟨some 60, .call 27 [.c (.int .i64 5), .c (.int .i64 5)], some (56, true), true⟩,
  ⟨some 61, .bsl 2 1 [.int .i64 0, .int .i64 0] [(0, .t 60)], some (56, true), true⟩,
  ⟨some 62, .call 25 [.t 59, .t 61], some (56, true), true⟩,
  ⟨some 63, .bin .eql (.t 62) (.c (.int .i64 4)), some (56, true), true⟩,
  ⟨some 64, .pick (.t 56) (.t 63) (.c (.bool false)), none, true⟩,
  ⟨some 65, .mv (.t 64), none, true⟩,
  ⟨some 66, .load true 2 (.t 1), some (65, true), true⟩,
  ⟨some 67, .call 27 [.c (.int .i64 0), .c (.int .i64 0)], some (65, true), true⟩,
  ⟨some 68, .eqa false [0, 0] (.t 66) (.t 67), some (65, true), true⟩,
  ⟨some 69, .pick (.t 65) (.t 68) (.c (.bool false)), none, true⟩,
  ⟨some 70, .mv (.t 69), none, true⟩,
  ⟨some 71, .load true 2 (.t 2), some (70, true), true⟩,
  ⟨some 72, .call 27 [.c (.int .i64 2), .c (.int .i64 1)], some (70, true), true⟩,
  ⟨some 73, .eqa false [0, 0] (.t 71) (.t 72), some (70, true), true⟩,
  ⟨some 74, .pick (.t 70) (.t 73) (.c (.bool false)), none, true⟩,
  ⟨some 75, .mv (.t 74), none, true⟩,
  ⟨some 76, .load true 2 (.t 3), some (75, true), true⟩,
  ⟨some 77, .load true 2 (.t 4), some (75, true), true⟩,
  ⟨some 78, .eqa false [0, 0] (.t 76) (.t 77), some (75, true), true⟩,
  ⟨some 79, .pick (.t 75) (.t 78) (.c (.bool false)), none, true⟩,
  ⟨some 80, .mv (.t 79), none, true⟩,
  ⟨some 81, .load true 2 (.t 3), some (80, true), true⟩,
  ⟨some 82, .call 27 [.c (.int .i64 0), .c (.int .i64 0)], some (80, true), true⟩,
  ⟨some 83, .eqa false [0, 0] (.t 81) (.t 82), some (80, true), true⟩,
  ⟨some 84, .pick (.t 80) (.t 83) (.c (.bool false)), none, true⟩,
  ⟨some 85, .mv (.t 84), none, true⟩,
  ⟨some 86, .call 27 [.c (.int .i64 1), .c (.int .i64 2)], some (85, true), true⟩,
  ⟨some 87, .call 27 [.c (.int .i64 3), .c (.int .i64 4)], some (85, true), true⟩,
  ⟨some 88, .call 15 [.t 86, .t 87], some (85, true), true⟩,
  ⟨some 89, .call 27 [.c (.int .i64 4), .c (.int .i64 6)], some (85, true), true⟩,
  ⟨some 90, .eqa false [0, 0] (.t 88) (.t 89), some (85, true), true⟩,
  ⟨some 91, .pick (.t 85) (.t 90) (.c (.bool false)), none, true⟩,
  ⟨some 92, .mv (.t 91), none, true⟩,
  ⟨some 93, .call 27 [.c (.int .i64 1), .c (.int .i64 2)], some (92, true), true⟩,
  ⟨some 94, .call 27 [.c (.int .i64 3), .c (.int .i64 5)], some (92, true), true⟩,
  ⟨some 95, .call 17 [.t 93, .t 94], some (92, true), true⟩,
  ⟨some 96, .call 27 [.c (.int .i64 (-2)), .c (.int .i64 (-3))], some (92, true), true⟩,
  ⟨some 97, .eqa false [0, 0] (.t 95) (.t 96), some (92, true), true⟩,
  ⟨some 98, .pick (.t 92) (.t 97) (.c (.bool false)), none, true⟩,
  ⟨some 0, .as (.t 98), none, true⟩] (some [0]) [1, 2, 3, 4]) (
.ret)))))))))
def A11_L0b : ACode := 
  (.seq (
  (.seq (
  .reg none [
    ⟨some 8, .mv (.t 6), none, true⟩,
    ⟨some 9, .bin .lss (.t 8) (.c (.int .i64 4)), none, true⟩] (some [1, 2, 4, 5, 6, 9]) []) (
  (.cond (.t 9) (
    .skip) (
    .exit 0))))) (
  (.seq (
  (.block 1 (
  (.seq (
  .reg none [
    ⟨some 12, .mv (.t 1), none, true⟩] (some [1, 2, 4, 5, 6, 12]) []) (
  (.cond (.t 12) (
    .reg none [
      ⟨some 13, .mv (.t 6), none, true⟩,
      ⟨some 14, .mv (.t 6), none, true⟩,
      ⟨some 15, .iaa 4 2 (.t 2) (.t 14), none, true⟩,
      ⟨some 16, .load true 2 (.t 15), none, true⟩,
      ⟨some 17, .call 31 [.t 16], none, true⟩,
      ⟨some 18, .iaa 4 2 (.t 5) (.t 13), none, true⟩,
      ⟨none, .store 2 (.t 18) (.t 17), none, true⟩] (some [1, 2, 4, 5, 6]) []) (
    .reg none [
      ⟨some 19, .mv (.t 6), none, true⟩,
      ⟨some 20, .mv (.t 6), none, true⟩,
      ⟨some 21, .iaa 4 2 (.t 2) (.t 20), none, true⟩,
      ⟨some 22, .load true 2 (.t 21), none, true⟩,
      ⟨some 23, .call 32 [.t 22], none, true⟩,
      ⟨some 24, .iaa 4 2 (.t 5) (.t 19), none, true⟩,
      ⟨none, .store 2 (.t 24) (.t 23), none, true⟩] (some [1, 2, 4, 5, 6]) []))))) (some [1, 2, 4, 5, 6]) [17, 23])) (
  .reg none [
    ⟨some 10, .mv (.t 6), none, true⟩,
    ⟨some 11, .bin .add (.t 10) (.c (.int .i64 1)), none, true⟩,
    ⟨some 6, .as (.t 11), none, true⟩] (some [1, 2, 4, 5, 6]) []))))
def A11_L0 : ACode := .loop A11_L0b (some [1, 2, 4, 5, 6]) [17, 23]
/-- ambidexter/ambidexterlaw02.pick -/
def A11 : AFn := .code [.cell true 8 4] (
(.seq (
.reg none [
  ⟨some 2, .box (.t 0), none, true⟩,
  ⟨some 4, .alloc [.int .i64 0, .int .i64 0, .int .i64 0, .int .i64 0, .int .i64 0, .int .i64 0, .int .i64 0, .int .i64 0], none, true⟩] (some [1, 2, 4]) []) (
(.seq (
.reg none [
  ⟨some 7, .load true 8 (.t 2), none, true⟩,
  ⟨some 5, .alloc [.int .i64 0, .int .i64 0, .int .i64 0, .int .i64 0, .int .i64 0, .int .i64 0, .int .i64 0, .int .i64 0], none, true⟩,
  ⟨none, .store 8 (.t 5) (.t 7), none, true⟩] (some [1, 2, 4, 5]) []) (
(.seq (
(.seq (
.reg none [
  ⟨some 6, .as (.c (.int .i64 0)), none, true⟩] (some [1, 2, 4, 5, 6]) []) (
(.block 0 (
A11_L0) (some [4, 5]) [6, 17, 23])))) (
(.seq (
.reg none [
  ⟨some 25, .load true 8 (.t 5), none, true⟩,
  ⟨none, .store 8 (.t 4) (.t 25), none, true⟩] (some [4]) [5]) (
.ret)))))))))
def A12_L0b : ACode := 
  (.seq (
  (.seq (
  .reg none [
    ⟨some 6, .mv (.t 4), none, true⟩,
    ⟨some 7, .mv (.t 0), none, true⟩,
    ⟨some 8, .len 0 (.t 7), none, true⟩,
    ⟨some 9, .bin .lss (.t 6) (.t 8), none, true⟩,
    ⟨some 10, .mv (.t 9), none, true⟩,
    ⟨some 11, .mv (.t 4), some (10, true), true⟩,
    ⟨some 12, .bin .lss (.t 11) (.c (.int .i64 30)), some (10, true), true⟩,
    ⟨some 13, .pick (.t 10) (.t 12) (.c (.bool false)), none, true⟩] (some [0, 3, 4, 13]) []) (
  (.cond (.t 13) (
    .skip) (
    .exit 0))))) (
  (.seq (
  (.block 1 (
  .reg none [
    ⟨some 16, .mv (.t 3), none, true⟩,
    ⟨some 17, .mv (.t 0), none, true⟩,
    ⟨some 18, .mv (.t 4), none, true⟩,
    ⟨some 19, .ias 2 (.t 17) (.t 18), none, true⟩,
    ⟨some 20, .load true 2 (.t 19), none, true⟩,
    ⟨some 21, .call 32 [.t 20], none, true⟩,
    ⟨some 22, .bsl 2 1 [.int .i64 0, .int .i64 0] [(0, .t 21)], none, true⟩,
    ⟨some 23, .app 2 (.t 16) (.t 22), none, true⟩,
    ⟨some 3, .as (.t 23), none, true⟩] (some [0, 3, 4]) []) (some [0, 3, 4]) [21, 22])) (
  .reg none [
    ⟨some 14, .mv (.t 4), none, true⟩,
    ⟨some 15, .bin .add (.t 14) (.c (.int .i64 1)), none, true⟩,
    ⟨some 4, .as (.t 15), none, true⟩] (some [0, 3, 4]) []))))
def A12_L0 : ACode := .loop A12_L0b (some [0, 3, 4]) [21, 22]
/-- ambidexter/ambidexterref02.Fits -/
def A12 : AFn := .code [.t 2] (
(.seq (
.reg none [
  ⟨some 2, .as (.c (.nils 2)), none, true⟩] (some [0]) []) (
(.seq (
.reg none [
  ⟨some 5, .bsl 2 0 [.int .i64 0, .int .i64 0] [], none, true⟩,
  ⟨some 3, .as (.t 5), none, true⟩] (some [0, 3]) []) (
(.seq (
(.seq (
.reg none [
  ⟨some 4, .as (.c (.int .i64 0)), none, true⟩] (some [0, 3, 4]) []) (
(.block 0 (
A12_L0) (some [3]) [4, 21, 22])))) (
(.seq (
.reg none [
  ⟨some 24, .mv (.t 3), none, true⟩,
  ⟨some 2, .as (.t 24), none, true⟩] (some [2]) []) (
.ret)))))))))
/-- ambidexter/geom.BoundingBox -/
def A13 : AFn := .code [.cell true 2 2, .cell true 2 3] (
(.seq (
.reg none [
  ⟨some 2, .alloc [.int .i64 0, .int .i64 0], none, true⟩,
  ⟨some 3, .alloc [.int .i64 0, .int .i64 0], none, true⟩] (some [0, 2, 3]) []) (
(.seq (
(.seq (
.reg none [
  ⟨some 6, .mv (.t 0), none, true⟩,
  ⟨some 7, .len 0 (.t 6), none, true⟩,
  ⟨some 8, .bin .eql (.t 7) (.c (.int .i64 0)), none, true⟩] (some [0, 2, 3, 8]) []) (
(.cond (.t 8) (
  (.seq (
  .reg none [
    ⟨some 9, .build [.int .i64 0, .int .i64 0] [], none, true⟩,
    ⟨some 10, .build [.int .i64 0, .int .i64 0] [], none, true⟩,
    ⟨none, .store 2 (.t 2) (.t 9), none, true⟩,
    ⟨none, .store 2 (.t 3) (.t 10), none, true⟩] (some [2, 3]) []) (
  .ret))) (
  .skip))))) (
(.seq (
.reg none [
  ⟨some 11, .mv (.t 0), none, true⟩,
  ⟨some 12, .mv (.t 0), none, true⟩,
  ⟨some 13, .ias 2 (.t 12) (.c (.int .i64 0)), none, true⟩,
  ⟨some 14, .load true 2 (.t 13), none, true⟩,
  ⟨some 15, .call 33 [.t 11, .t 14, .fu 34], none, true⟩,
  ⟨some 4, .alloc [.int .i64 0, .int .i64 0], none, true⟩,
  ⟨none, .store 2 (.t 4) (.t 15), none, true⟩] (some [0, 2, 3, 4]) []) (
(.seq (
.reg none [
  ⟨some 16, .mv (.t 0), none, true⟩,
  ⟨some 17, .mv (.t 0), none, true⟩,
  ⟨some 18, .ias 2 (.t 17) (.c (.int .i64 0)), none, true⟩,
  ⟨some 19, .load true 2 (.t 18), none, true⟩,
  ⟨some 20, .call 33 [.t 16, .t 19, .fu 35], none, true⟩,
  ⟨some 5, .alloc [.int .i64 0, .int .i64 0], none, true⟩,
  ⟨none, .store 2 (.t 5) (.t 20), none, true⟩] (some [2, 3, 4, 5]) []) (
(.seq (
.reg (some [.dr [22] [], .dr [21] [2], .dr [22] [], .free]) [
  ⟨some 21, .load true 2 (.t 4), none, true⟩,
  ⟨some 22, .load true 2 (.t 5), none, true⟩,
  ⟨none, .store 2 (.t 2) (.t 21), none, true⟩,
  ⟨none, .store 2 (.t 3) (.t 22), none, true⟩] (some [2, 3]) [4, 5]) (
.ret)))))))))))
def A14_L0b : ACode := 
  (.seq (
  (.seq (
  .reg none [
    ⟨some 18, .mv (.t 6), none, true⟩,
    ⟨some 19, .mv (.t 0), none, true⟩,
    ⟨some 20, .len 0 (.t 19), none, true⟩,
    ⟨some 21, .bin .lss (.t 18) (.t 20), none, true⟩] (some [0, 2, 3, 4, 5, 6, 21]) []) (
  (.cond (.t 21) (
    .skip) (
    .exit 0))))) (
  (.seq (
  (.block 1 (
  (.seq (
  .reg (some [.dr [28, 30, 33, 36, 38] [], .dr [28, 30, 33, 36, 38] [], .dr [25, 33, 36, 38] [], .dr [25, 33, 36, 38] [], .dr [25, 33, 36, 38] [], .dr [25, 33, 36, 38] [], .dr [25, 33, 36, 38] [], .dr [33, 36, 38] [], .dr [25, 28, 30, 36, 38] [], .dr [25, 28, 30, 36, 38] [], .dr [25, 28, 30, 33] [], .dr [25, 28, 30, 33] [], .dr [25, 28, 30, 33] [], .dr [25, 28, 30, 33] [], .dr [25, 28, 30, 33] [], .dr [25, 28, 30] [], .free, .free]) [
    ⟨some 24, .fad 0 (.t 4), none, true⟩,
    ⟨some 25, .load false 1 (.t 24), none, true⟩,
    ⟨some 26, .mv (.t 0), none, true⟩,
    ⟨some 27, .mv (.t 6), none, true⟩,
    ⟨some 28, .ias 2 (.t 26) (.t 27), none, true⟩,
    ⟨some 29, .fad 0 (.t 28), none, true⟩,
    ⟨some 30, .load false 1 (.t 29), none, true⟩,
    ⟨some 31, .mn [.t 25, .t 30], none, true⟩,
    ⟨some 32, .fad 1 (.t 4), none, true⟩,
    ⟨some 33, .load false 1 (.t 32), none, true⟩,
    ⟨some 34, .mv (.t 0), none, true⟩,
    ⟨some 35, .mv (.t 6), none, true⟩,
    ⟨some 36, .ias 2 (.t 34) (.t 35), none, true⟩,
    ⟨some 37, .fad 1 (.t 36), none, true⟩,
    ⟨some 38, .load false 1 (.t 37), none, true⟩,
    ⟨some 39, .mn [.t 33, .t 38], none, true⟩,
    ⟨some 40, .build [.int .i64 0, .int .i64 0] [(0, 1, .t 31), (1, 1, .t 39)], none, true⟩,
    ⟨none, .store 2 (.t 4) (.t 40), none, true⟩] (some [0, 2, 3, 4, 5, 6]) []) (
  .reg (some [.dr [45, 47, 50, 53, 55] [], .dr [45, 47, 50, 53, 55] [], .dr [42, 50, 53, 55] [], .dr [42, 50, 53, 55] [], .dr [42, 50, 53, 55] [], .dr [42, 50, 53, 55] [], .dr [42, 50, 53, 55] [], .dr [50, 53, 55] [], .dr [42, 45, 47, 53, 55] [], .dr [42, 45, 47, 53, 55] [], .dr [42, 45, 47, 50] [], .dr [42, 45, 47, 50] [], .dr [42, 45, 47, 50] [], .dr [42, 45, 47, 50] [], .dr [42, 45, 47, 50] [], .dr [42, 45, 47] [], .free, .free]) [
    ⟨some 41, .fad 0 (.t 5), none, true⟩,
    ⟨some 42, .load false 1 (.t 41), none, true⟩,
    ⟨some 43, .mv (.t 0), none, true⟩,
    ⟨some 44, .mv (.t 6), none, true⟩,
    ⟨some 45, .ias 2 (.t 43) (.t 44), none, true⟩,
    ⟨some 46, .fad 0 (.t 45), none, true⟩,
    ⟨some 47, .load false 1 (.t 46), none, true⟩,
    ⟨some 48, .mx [.t 42, .t 47], none, true⟩,
    ⟨some 49, .fad 1 (.t 5), none, true⟩,
    ⟨some 50, .load false 1 (.t 49), none, true⟩,
    ⟨some 51, .mv (.t 0), none, true⟩,
    ⟨some 52, .mv (.t 6), none, true⟩,
    ⟨some 53, .ias 2 (.t 51) (.t 52), none, true⟩,
    ⟨some 54, .fad 1 (.t 53), none, true⟩,
    ⟨some 55, .load false 1 (.t 54), none, true⟩,
    ⟨some 56, .mx [.t 50, .t 55], none, true⟩,
    ⟨some 57, .build [.int .i64 0, .int .i64 0] [(0, 1, .t 48), (1, 1, .t 56)], none, true⟩,
    ⟨none, .store 2 (.t 5) (.t 57), none, true⟩] (some [0, 2, 3, 4, 5, 6]) []))) (some [0, 2, 3, 4, 5, 6]) [])) (
  .reg none [
    ⟨some 22, .mv (.t 6), none, true⟩,
    ⟨some 23, .bin .add (.t 22) (.c (.int .i64 1)), none, true⟩,
    ⟨some 6, .as (.t 23), none, true⟩] (some [0, 2, 3, 4, 5, 6]) []))))
def A14_L0 : ACode := .loop A14_L0b (some [0, 2, 3, 4, 5, 6]) []
/-- ambidexter/ambidexterref02.Box -/
def A14 : AFn := .code [.cell true 2 2, .cell true 2 3] (
(.seq (
.reg none [
  ⟨some 2, .alloc [.int .i64 0, .int .i64 0], none, true⟩,
  ⟨some 3, .alloc [.int .i64 0, .int .i64 0], none, true⟩] (some [0, 2, 3]) []) (
(.seq (
(.seq (
.reg none [
  ⟨some 7, .mv (.t 0), none, true⟩,
  ⟨some 8, .len 0 (.t 7), none, true⟩,
  ⟨some 9, .bin .eql (.t 8) (.c (.int .i64 0)), none, true⟩] (some [0, 2, 3, 9]) []) (
(.cond (.t 9) (
  (.seq (
  .reg none [
    ⟨some 10, .build [.int .i64 0, .int .i64 0] [], none, true⟩,
    ⟨some 11, .build [.int .i64 0, .int .i64 0] [], none, true⟩,
    ⟨none, .store 2 (.t 2) (.t 10), none, true⟩,
    ⟨none, .store 2 (.t 3) (.t 11), none, true⟩] (some [2, 3]) []) (
  .ret))) (
  .skip))))) (
(.seq (
.reg none [
  ⟨some 12, .mv (.t 0), none, true⟩,
  ⟨some 13, .ias 2 (.t 12) (.c (.int .i64 0)), none, true⟩,
  ⟨some 14, .load true 2 (.t 13), none, true⟩,
  ⟨some 4, .alloc [.int .i64 0, .int .i64 0], none, true⟩,
  ⟨none, .store 2 (.t 4) (.t 14), none, true⟩] (some [0, 2, 3, 4]) []) (
(.seq (
.reg none [
  ⟨some 15, .mv (.t 0), none, true⟩,
  ⟨some 16, .ias 2 (.t 15) (.c (.int .i64 0)), none, true⟩,
  ⟨some 17, .load true 2 (.t 16), none, true⟩,
  ⟨some 5, .alloc [.int .i64 0, .int .i64 0], none, true⟩,
  ⟨none, .store 2 (.t 5) (.t 17), none, true⟩] (some [0, 2, 3, 4, 5]) []) (
(.seq (
(.seq (
.reg none [
  ⟨some 6, .as (.c (.int .i64 0)), none, true⟩] (some [0, 2, 3, 4, 5, 6]) []) (
(.block 0 (
A14_L0) (some [2, 3, 4, 5]) [6])))) (
(.seq (
.reg (some [.dr [59] [], .dr [58] [2], .dr [59] [], .free]) [
  ⟨some 58, .load true 2 (.t 4), none, true⟩,
  ⟨some 59, .load true 2 (.t 5), none, true⟩,
  ⟨none, .store 2 (.t 2) (.t 58), none, true⟩,
  ⟨none, .store 2 (.t 3) (.t 59), none, true⟩] (some [2, 3]) [4, 5]) (
.ret)))))))))))))
/-- ambidexter/geom.Add -/
def A15 : AFn := .code [.cell true 2 4] (
(.seq (
.reg none [
  ⟨some 2, .box (.t 0), none, true⟩,
  ⟨some 3, .box (.t 1), none, true⟩,
  ⟨some 4, .alloc [.int .i64 0, .int .i64 0], none, true⟩] (some [2, 3, 4]) []) (
(.seq (
.reg none [
  ⟨some 5, .fad 0 (.t 2), none, true⟩,
  ⟨some 6, .load false 1 (.t 5), none, true⟩,
  ⟨some 7, .fad 0 (.t 3), none, true⟩,
  ⟨some 8, .load false 1 (.t 7), none, true⟩,
  ⟨some 9, .bin .add (.t 6) (.t 8), none, true⟩,
  ⟨some 10, .fad 1 (.t 2), none, true⟩,
  ⟨some 11, .load false 1 (.t 10), none, true⟩,
  ⟨some 12, .fad 1 (.t 3), none, true⟩,
  ⟨some 13, .load false 1 (.t 12), none, true⟩,
  ⟨some 14, .bin .add (.t 11) (.t 13), none, true⟩,
  ⟨some 15, .build [.int .i64 0, .int .i64 0] [(0, 1, .t 9), (1, 1, .t 14)], none, true⟩,
  ⟨none, .store 2 (.t 4) (.t 15), none, true⟩] (some [4]) [2, 3]) (
.ret)))))
/-- ambidexter/ambidexterref02.Add -/
def A16 : AFn := .code [.cell true 2 4] (
(.seq (
.reg none [
  ⟨some 2, .box (.t 0), none, true⟩,
  ⟨some 3, .box (.t 1), none, true⟩,
  ⟨some 4, .alloc [.int .i64 0, .int .i64 0], none, true⟩] (some [2, 3, 4]) []) (
(.seq (
.reg none [
  ⟨some 5, .fad 0 (.t 2), none, true⟩,
  ⟨some 6, .load false 1 (.t 5), none, true⟩,
  ⟨some 7, .fad 0 (.t 3), none, true⟩,
  ⟨some 8, .load false 1 (.t 7), none, true⟩,
  ⟨some 9, .bin .add (.t 6) (.t 8), none, true⟩,
  ⟨some 10, .fad 1 (.t 2), none, true⟩,
  ⟨some 11, .load false 1 (.t 10), none, true⟩,
  ⟨some 12, .fad 1 (.t 3), none, true⟩,
  ⟨some 13, .load false 1 (.t 12), none, true⟩,
  ⟨some 14, .bin .add (.t 11) (.t 13), none, true⟩,
  ⟨some 15, .build [.int .i64 0, .int .i64 0] [(0, 1, .t 9), (1, 1, .t 14)], none, true⟩,
  ⟨none, .store 2 (.t 4) (.t 15), none, true⟩] (some [4]) [2, 3]) (
.ret)))))
/-- ambidexter/geom.Sub -/
def A17 : AFn := .code [.cell true 2 4] (
(.seq (
.reg none [
  ⟨some 2, .box (.t 0), none, true⟩,
  ⟨some 3, .box (.t 1), none, true⟩,
  ⟨some 4, .alloc [.int .i64 0, .int .i64 0], none, true⟩] (some [2, 3, 4]) []) (
(.seq (
.reg none [
  ⟨some 5, .fad 0 (.t 2), none, true⟩,
  ⟨some 6, .load false 1 (.t 5), none, true⟩,
  ⟨some 7, .fad 0 (.t 3), none, true⟩,
  ⟨some 8, .load false 1 (.t 7), none, true⟩,
  ⟨some 9, .bin .sub (.t 6) (.t 8), none, true⟩,
  ⟨some 10, .fad 1 (.t 2), none, true⟩,
  ⟨some 11, .load false 1 (.t 10), none, true⟩,
  ⟨some 12, .fad 1 (.t 3), none, true⟩,
  ⟨some 13, .load false 1 (.t 12), none, true⟩,
  ⟨some 14, .bin .sub (.t 11) (.t 13), none, true⟩,
  ⟨some 15, .build [.int .i64 0, .int .i64 0] [(0, 1, .t 9), (1, 1, .t 14)], none, true⟩,
  ⟨none, .store 2 (.t 4) (.t 15), none, true⟩] (some [4]) [2, 3]) (
.ret)))))
/-- ambidexter/ambidexterref02.Sub -/
def A18 : AFn := .code [.cell true 2 4] (
(.seq (
.reg none [
  ⟨some 2, .box (.t 0), none, true⟩,
  ⟨some 3, .box (.t 1), none, true⟩,
  ⟨some 4, .alloc [.int .i64 0, .int .i64 0], none, true⟩] (some [2, 3, 4]) []) (
(.seq (
.reg none [
  ⟨some 5, .fad 0 (.t 2), none, true⟩,
  ⟨some 6, .load false 1 (.t 5), none, true⟩,
  ⟨some 7, .fad 0 (.t 3), none, true⟩,
  ⟨some 8, .load false 1 (.t 7), none, true⟩,
  ⟨some 9, .bin .sub (.t 6) (.t 8), none, true⟩,
  ⟨some 10, .fad 1 (.t 2), none, true⟩,
  ⟨some 11, .load false 1 (.t 10), none, true⟩,
  ⟨some 12, .fad 1 (.t 3), none, true⟩,
  ⟨some 13, .load false 1 (.t 12), none, true⟩,
  ⟨some 14, .bin .sub (.t 11) (.t 13), none, true⟩,
  ⟨some 15, .build [.int .i64 0, .int .i64 0] [(0, 1, .t 9), (1, 1, .t 14)], none, true⟩,
  ⟨none, .store 2 (.t 4) (.t 15), none, true⟩] (some [4]) [2, 3]) (
.ret)))))
/-- ambidexter/geom.Orientation -/
def A19 : AFn := .code [.t 6] (
(.seq (
.reg none [
  ⟨some 3, .box (.t 0), none, true⟩,
  ⟨some 4, .box (.t 1), none, true⟩,
  ⟨some 5, .box (.t 2), none, true⟩,
  ⟨some 6, .as (.c (.int .i64 0)), none, true⟩] (some [3, 4, 5]) []) (
(.seq (
.reg (some [.dr [11, 13, 14, 7, 8] [], .dr [10, 13, 14, 7, 8] [], .dr [13, 14, 7, 8] [], .dr [10, 11, 12, 14, 7, 8] [], .dr [10, 11, 12, 13, 7, 8] [], .dr [7, 8] [], .dr [10, 11, 12, 13, 14, 15, 8] [], .dr [10, 11, 12, 13, 14, 15, 7] [], .free, .free]) [
  ⟨some 10, .load true 2 (.t 4), none, true⟩,
  ⟨some 11, .load true 2 (.t 3), none, true⟩,
  ⟨some 12, .call 17 [.t 10, .t 11], none, true⟩,
  ⟨some 13, .load true 2 (.t 5), none, true⟩,
  ⟨some 14, .load true 2 (.t 3), none, true⟩,
  ⟨some 15, .call 17 [.t 13, .t 14], none, true⟩,
  ⟨some 7, .alloc [.int .i64 0, .int .i64 0], none, true⟩,
  ⟨some 8, .alloc [.int .i64 0, .int .i64 0], none, true⟩,
  ⟨none, .store 2 (.t 7) (.t 12), none, true⟩,
  ⟨none, .store 2 (.t 8) (.t 15), none, true⟩] (some [7, 8]) [3, 4, 5]) (
(.seq (
(.seq (
.reg none [
  ⟨some 16, .fad 0 (.t 7), none, true⟩,
  ⟨some 17, .load false 1 (.t 16), none, true⟩,
  ⟨some 18, .fad 1 (.t 8), none, true⟩,
  ⟨some 19, .load false 1 (.t 18), none, true⟩,
  ⟨some 20, .bin .mul (.t 17) (.t 19), none, true⟩,
  ⟨some 21, .fad 1 (.t 7), none, true⟩,
  ⟨some 22, .load false 1 (.t 21), none, true⟩,
  ⟨some 23, .fad 0 (.t 8), none, true⟩,
  ⟨some 24, .load false 1 (.t 23), none, true⟩,
  ⟨some 25, .bin .mul (.t 22) (.t 24), none, true⟩,
  ⟨some 26, .bin .sub (.t 20) (.t 25), none, true⟩,
  ⟨some 9, .as (.t 26), none, true⟩] (some [9]) [7, 8]) (
(.block 0 (
(.seq (
.reg none [
  ⟨some 28, .mv (.t 9), none, true⟩,
  ⟨some 29, .bin .gtr (.t 28) (.c (.int .i64 0)), none, true⟩,
  ⟨some 27, .as (.t 29), none, true⟩] (some [9, 27]) []) (
(.cond (.t 27) (
  (.seq (
  .reg none [
    ⟨some 6, .as (.c (.int .i64 1)), none, true⟩] (some [6]) []) (
  .ret))) (
  (.seq (
  .reg none [
    ⟨some 31, .mv (.t 9), none, true⟩,
    ⟨some 32, .bin .lss (.t 31) (.c (.int .i64 0)), none, true⟩,
    ⟨some 30, .as (.t 32), none, true⟩] (some [30]) []) (
  (.cond (.t 30) (
    (.seq (
    .reg none [
      ⟨some 6, .as (.c (.int .i64 (-1))), none, true⟩] (some [6]) []) (
    .ret))) (
    .skip))))))))) (some []) [6, 27, 30])))) (
(.seq (
.reg none [
  ⟨some 6, .as (.c (.int .i64 0)), none, true⟩] (some [6]) []) (
.ret)))))))))
/-- ambidexter/ambidexterref02.Side -/
def A20 : AFn := .code [.t 6] (
(.seq (
.reg none [
  ⟨some 3, .box (.t 0), none, true⟩,
  ⟨some 4, .box (.t 1), none, true⟩,
  ⟨some 5, .box (.t 2), none, true⟩,
  ⟨some 6, .as (.c (.int .i64 0)), none, true⟩] (some [3, 4, 5]) []) (
(.seq (
.reg none [
  ⟨some 8, .load true 2 (.t 3), none, true⟩,
  ⟨some 9, .load true 2 (.t 4), none, true⟩,
  ⟨some 10, .load true 2 (.t 5), none, true⟩,
  ⟨some 11, .call 36 [.t 8, .t 9, .t 10], none, true⟩,
  ⟨some 7, .as (.t 11), none, true⟩] (some [7]) [3, 4, 5]) (
(.seq (
(.seq (
.reg none [
  ⟨some 12, .mv (.t 7), none, true⟩,
  ⟨some 13, .bin .gtr (.t 12) (.c (.int .i64 0)), none, true⟩] (some [7, 13]) []) (
(.cond (.t 13) (
  (.seq (
  .reg none [
    ⟨some 6, .as (.c (.int .i64 1)), none, true⟩] (some [6]) []) (
  .ret))) (
  .skip))))) (
(.seq (
(.seq (
.reg none [
  ⟨some 14, .mv (.t 7), none, true⟩,
  ⟨some 15, .bin .lss (.t 14) (.c (.int .i64 0)), none, true⟩] (some [15]) []) (
(.cond (.t 15) (
  (.seq (
  .reg none [
    ⟨some 6, .as (.c (.int .i64 (-1))), none, true⟩] (some [6]) []) (
  .ret))) (
  .skip))))) (
(.seq (
.reg none [
  ⟨some 6, .as (.c (.int .i64 0)), none, true⟩] (some [6]) []) (
.ret)))))))))))
/-- ambidexter/geom.OnSegment -/
def A21 : AFn := .code [.t 6] (
(.seq (
.reg none [
  ⟨some 3, .box (.t 0), none, true⟩,
  ⟨some 4, .box (.t 1), none, true⟩,
  ⟨some 5, .box (.t 2), none, true⟩,
  ⟨some 6, .as (.c (.bool false)), none, true⟩] (some [3, 4, 5]) []) (
(.seq (
.reg none [
  ⟨some 7, .load true 2 (.t 3), none, true⟩,
  ⟨some 8, .load true 2 (.t 4), none, true⟩,
  ⟨some 9, .load true 2 (.t 5), none, true⟩,
  ⟨some 10, .call 37 [.t 7, .t 8, .t 9], none, true⟩,
  ⟨some 11, .mv (.t 10), none, true⟩,
  ⟨some 12, .load true 2 (.t 3), some (11, true), true⟩,
  ⟨some 13, .load true 2 (.t 4), some (11, true), true⟩,
  ⟨some 14, .load true 2 (.t 5), some (11, true), true⟩,
  ⟨some 15, .call 19 [.t 12, .t 13, .t 14], some (11, true), true⟩,
  ⟨some 16, .bin .eql (.t 15) (.c (.int .i64 0)), some (11, true), true⟩,
  ⟨some 17, .pick (.t 11) (.t 16) (.c (.bool false)), none, true⟩,
  ⟨some 6, .as (.t 17), none, true⟩] (some [6]) [3, 4, 5]) (
.ret)))))
/-- ambidexter/ambidexterref02.On -/
def A22 : AFn := .code [.t 6] (
(.seq (
.reg none [
  ⟨some 3, .box (.t 0), none, true⟩,
  ⟨some 4, .box (.t 1), none, true⟩,
  ⟨some 5, .box (.t 2), none, true⟩,
  ⟨some 6, .as (.c (.bool false)), none, true⟩] (some [3, 4, 5]) []) (
(.seq (
.reg none [
  ⟨some 7, .load true 2 (.t 3), none, true⟩,
  ⟨some 8, .load true 2 (.t 4), none, true⟩,
  ⟨some 9, .load true 2 (.t 5), none, true⟩,
  ⟨some 10, .call 20 [.t 7, .t 8, .t 9], none, true⟩,
  ⟨some 11, .bin .eql (.t 10) (.c (.int .i64 0)), none, true⟩,
  ⟨some 12, .mv (.t 11), none, true⟩,
  ⟨some 13, .fad 0 (.t 3), some (12, true), true⟩,
  ⟨some 14, .load false 1 (.t 13), some (12, true), true⟩,
  ⟨some 15, .fad 0 (.t 4), some (12, true), true⟩,
  ⟨some 16, .load false 1 (.t 15), some (12, true), true⟩,
  ⟨some 17, .fad 0 (.t 5), some (12, true), true⟩,
  ⟨some 18, .load false 1 (.t 17), some (12, true), true⟩,
  ⟨some 19, .call 38 [.t 14, .t 16, .t 18], some (12, true), true⟩,
  ⟨some 20, .pick (.t 12) (.t 19) (.c (.bool false)), none, true⟩,
  ⟨some 21, .mv (.t 20), none, true⟩,
  ⟨some 22, .fad 1 (.t 3), some (21, true), true⟩,
  ⟨some 23, .load false 1 (.t 22), some (21, true), true⟩,
  ⟨some 24, .fad 1 (.t 4), some (21, true), true⟩,
  ⟨some 25, .load false 1 (.t 24), some (21, true), true⟩,
  ⟨some 26, .fad 1 (.t 5), some (21, true), true⟩,
  ⟨some 27, .load false 1 (.t 26), some (21, true), true⟩,
  ⟨some 28, .call 38 [.t 23, .t 25, .t 27], some (21, true), true⟩,
  ⟨some 29, .pick (.t 21) (.t 28) (.c (.bool false)), none, true⟩,
  ⟨some 6, .as (.t 29), none, true⟩] (some [6]) [3, 4, 5]) (
.ret)))))
/-- ambidexter/geom.SegmentsIntersect -/
def A23 : AFn := .code [.t 8] (
(.seq (
.reg none [
  ⟨some 4, .box (.t 0), none, true⟩,
  ⟨some 5, .box (.t 1), none, true⟩,
  ⟨some 6, .box (.t 2), none, true⟩,
  ⟨some 7, .box (.t 3), none, true⟩,
  ⟨some 8, .as (.c (.bool false)), none, true⟩] (some [4, 5, 6, 7]) []) (
(.seq (
.reg none [
  ⟨some 9, .as (.fu 39), none, true⟩] (some [4, 5, 6, 7, 9]) []) (
(.seq (
.reg none [
  ⟨some 15, .mv (.t 9), none, true⟩,
  ⟨some 16, .load true 2 (.t 4), none, true⟩,
  ⟨some 17, .load true 2 (.t 5), none, true⟩,
  ⟨some 18, .load true 2 (.t 6), none, true⟩,
  ⟨some 19, .load true 2 (.t 7), none, true⟩,
  ⟨some 20, .cal (.t 15) [.t 16, .t 17, .t 18, .t 19], none, true⟩,
  ⟨some 14, .mv (.t 20), none, true⟩,
  ⟨some 21, .ext (.t 14) 0, none, true⟩,
  ⟨some 22, .ext (.t 14) 1, none, true⟩,
  ⟨some 10, .as (.t 21), none, true⟩,
  ⟨some 11, .as (.t 22), none, true⟩] (some [4, 5, 6, 7, 9, 10, 11]) []) (
(.seq (
.reg none [
  ⟨some 24, .mv (.t 9), none, true⟩,
  ⟨some 25, .load true 2 (.t 6), none, true⟩,
  ⟨some 26, .load true 2 (.t 7), none, true⟩,
  ⟨some 27, .load true 2 (.t 4), none, true⟩,
  ⟨some 28, .load true 2 (.t 5), none, true⟩,
  ⟨some 29, .cal (.t 24) [.t 25, .t 26, .t 27, .t 28], none, true⟩,
  ⟨some 23, .mv (.t 29), none, true⟩,
  ⟨some 30, .ext (.t 23) 0, none, true⟩,
  ⟨some 31, .ext (.t 23) 1, none, true⟩,
  ⟨some 12, .as (.t 30), none, true⟩,
  ⟨some 13, .as (.t 31), none, true⟩] (some [10, 11, 12, 13]) [4, 5, 6, 7]) (
(.seq (
.reg none [
  ⟨some 32, .mv (.t 10), none, true⟩,
  ⟨some 33, .mv (.t 32), none, true⟩,
  ⟨some 34, .mv (.t 12), some (33, true), true⟩,
  ⟨some 35, .pick (.t 33) (.t 34) (.c (.bool false)), none, true⟩,
  ⟨some 36, .mv (.t 35), none, true⟩,
  ⟨some 37, .mv (.t 11), some (36, false), true⟩,
  ⟨some 38, .pick (.t 36) (.c (.bool true)) (.t 37), none, true⟩,
  ⟨some 39, .mv (.t 38), none, true⟩,
  ⟨some 40, .mv (.t 13), some (39, false), true⟩,
  ⟨some 41, .pick (.t 39) (.c (.bool true)) (.t 40), none, true⟩,
  ⟨some 8, .as (.t 41), none, true⟩] (some [8]) []) (
.ret)))))))))))
/-- ambidexter/ambidexterref02.Cut -/
def A24 : AFn := .code [.t 8] (
(.seq (
.reg none [
  ⟨some 4, .box (.t 0), none, true⟩,
  ⟨some 5, .box (.t 1), none, true⟩,
  ⟨some 6, .box (.t 2), none, true⟩,
  ⟨some 7, .box (.t 3), none, true⟩,
  ⟨some 8, .as (.c (.bool false)), none, true⟩] (some [4, 5, 6, 7]) []) (
(.seq (
(.seq (
.reg none [
  ⟨some 9, .load true 2 (.t 4), none, true⟩,
  ⟨some 10, .load true 2 (.t 5), none, true⟩,
  ⟨some 11, .load true 2 (.t 6), none, true⟩,
  ⟨some 12, .call 22 [.t 9, .t 10, .t 11], none, true⟩,
  ⟨some 13, .mv (.t 12), none, true⟩,
  ⟨some 14, .load true 2 (.t 4), some (13, false), true⟩,
  ⟨some 15, .load true 2 (.t 5), some (13, false), true⟩,
  ⟨some 16, .load true 2 (.t 7), some (13, false), true⟩,
  ⟨some 17, .call 22 [.t 14, .t 15, .t 16], some (13, false), true⟩,
  ⟨some 18, .pick (.t 13) (.c (.bool true)) (.t 17), none, true⟩,
  ⟨some 19, .mv (.t 18), none, true⟩,
  ⟨some 20, .load true 2 (.t 6), some (19, false), true⟩,
  ⟨some 21, .load true 2 (.t 7), some (19, false), true⟩,
  ⟨some 22, .load true 2 (.t 4), some (19, false), true⟩,
  ⟨some 23, .call 22 [.t 20, .t 21, .t 22], some (19, false), true⟩,
  ⟨some 24, .pick (.t 19) (.c (.bool true)) (.t 23), none, true⟩,
  ⟨some 25, .mv (.t 24), none, true⟩,
  ⟨some 26, .load true 2 (.t 6), some (25, false), true⟩,
  ⟨some 27, .load true 2 (.t 7), some (25, false), true⟩,
  ⟨some 28, .load true 2 (.t 5), some (25, false), true⟩,
  ⟨some 29, .call 22 [.t 26, .t 27, .t 28], some (25, false), true⟩,
  ⟨some 30, .pick (.t 25) (.c (.bool true)) (.t 29), none, true⟩] (some [4, 5, 6, 7, 30]) []) (
(.cond (.t 30) (
  (.seq (
  .reg none [
    ⟨some 8, .as (.c (.bool true)), none, true⟩] (some [8]) []) (
  .ret))) (
  .skip))))) (
(.seq (
.reg (some [.dr [32, 33, 35, 36, 37] [], .dr [31, 33, 35, 36, 37] [], .dr [31, 32, 35, 36, 37] [], .dr [35, 36, 37] [], .dr [31, 32, 33, 34, 36, 37] [], .dr [31, 32, 33, 34, 35, 37] [], .dr [31, 32, 33, 34, 35, 36] [], .free, .free, .free, .free, .dr [43, 44, 46, 47, 48] [], .dr [42, 44, 46, 47, 48] [], .dr [42, 43, 46, 47, 48] [], .dr [46, 47, 48] [], .dr [42, 43, 44, 45, 47, 48] [], .dr [42, 43, 44, 45, 46, 48] [], .dr [42, 43, 44, 45, 46, 47] [], .free, .free, .free, .free, .free]) [
  ⟨some 31, .load true 2 (.t 4), none, true⟩,
  ⟨some 32, .load true 2 (.t 5), none, true⟩,
  ⟨some 33, .load true 2 (.t 6), none, true⟩,
  ⟨some 34, .call 20 [.t 31, .t 32, .t 33], none, true⟩,
  ⟨some 35, .load true 2 (.t 4), none, true⟩,
  ⟨some 36, .load true 2 (.t 5), none, true⟩,
  ⟨some 37, .load true 2 (.t 7), none, true⟩,
  ⟨some 38, .call 20 [.t 35, .t 36, .t 37], none, true⟩,
  ⟨some 39, .bin .mul (.t 34) (.t 38), none, true⟩,
  ⟨some 40, .bin .lss (.t 39) (.c (.int .i64 0)), none, true⟩,
  ⟨some 41, .mv (.t 40), none, true⟩,
  ⟨some 42, .load true 2 (.t 6), some (41, true), true⟩,
  ⟨some 43, .load true 2 (.t 7), some (41, true), true⟩,
  ⟨some 44, .load true 2 (.t 4), some (41, true), true⟩,
  ⟨some 45, .call 20 [.t 42, .t 43, .t 44], some (41, true), true⟩,
  ⟨some 46, .load true 2 (.t 6), some (41, true), true⟩,
  ⟨some 47, .load true 2 (.t 7), some (41, true), true⟩,
  ⟨some 48, .load true 2 (.t 5), some (41, true), true⟩,
  ⟨some 49, .call 20 [.t 46, .t 47, .t 48], some (41, true), true⟩,
  ⟨some 50, .bin .mul (.t 45) (.t 49), some (41, true), true⟩,
  ⟨some 51, .bin .lss (.t 50) (.c (.int .i64 0)), some (41, true), true⟩,
  ⟨some 52, .pick (.t 41) (.t 51) (.c (.bool false)), none, true⟩,
  ⟨some 8, .as (.t 52), none, true⟩] (some [8]) [4, 5, 6, 7]) (
.ret)))))))
/-- ambidexter/geom.BoxDistance -/
def A25 : AFn := .code [.t 4] (
(.seq (
.reg none [
  ⟨some 4, .as (.c (.int .i64 0)), none, true⟩] (some [0, 1]) []) (
(.seq (
(.seq (
.reg none [
  ⟨some 11, .mv (.t 0), none, true⟩,
  ⟨some 12, .len 0 (.t 11), none, true⟩,
  ⟨some 13, .bin .eql (.t 12) (.c (.int .i64 0)), none, true⟩,
  ⟨some 14, .mv (.t 13), none, true⟩,
  ⟨some 15, .mv (.t 1), some (14, false), true⟩,
  ⟨some 16, .len 0 (.t 15), some (14, false), true⟩,
  ⟨some 17, .bin .eql (.t 16) (.c (.int .i64 0)), some (14, false), true⟩,
  ⟨some 18, .pick (.t 14) (.c (.bool true)) (.t 17), none, true⟩] (some [0, 1, 18]) []) (
(.cond (.t 18) (
  (.seq (
  .reg none [
    ⟨some 4, .as (.c (.int .i64 0)), none, true⟩] (some [4]) []) (
  .ret))) (
  .skip))))) (
(.seq (
.reg none [
  ⟨some 20, .mv (.t 0), none, true⟩,
  ⟨some 21, .call 13 [.t 20], none, true⟩,
  ⟨some 19, .mv (.t 21), none, true⟩,
  ⟨some 22, .ext (.t 19) 0, none, true⟩,
  ⟨some 23, .ext (.t 19) 1, none, true⟩,
  ⟨some 5, .alloc [.int .i64 0, .int .i64 0], none, true⟩,
  ⟨some 6, .alloc [.int .i64 0, .int .i64 0], none, true⟩,
  ⟨none, .store 2 (.t 5) (.t 22), none, true⟩,
  ⟨none, .store 2 (.t 6) (.t 23), none, true⟩] (some [1, 5, 6]) []) (
(.seq (
.reg none [
  ⟨some 25, .mv (.t 1), none, true⟩,
  ⟨some 26, .call 13 [.t 25], none, true⟩,
  ⟨some 24, .mv (.t 26), none, true⟩,
  ⟨some 27, .ext (.t 24) 0, none, true⟩,
  ⟨some 28, .ext (.t 24) 1, none, true⟩,
  ⟨some 7, .alloc [.int .i64 0, .int .i64 0], none, true⟩,
  ⟨some 8, .alloc [.int .i64 0, .int .i64 0], none, true⟩,
  ⟨none, .store 2 (.t 7) (.t 27), none, true⟩,
  ⟨none, .store 2 (.t 8) (.t 28), none, true⟩] (some [5, 6, 7, 8]) []) (
(.seq (
.reg (some [.dr [30, 32, 33, 9, 10] [], .dr [29, 32, 33, 9, 10] [], .dr [32, 33, 9, 10] [], .dr [29, 30, 31, 33, 9, 10] [], .dr [29, 30, 31, 32, 9, 10] [], .dr [9, 10] [], .dr [29, 30, 31, 32, 33, 34, 10] [], .dr [29, 30, 31, 32, 33, 34, 9] [], .free, .free]) [
  ⟨some 29, .load true 2 (.t 7), none, true⟩,
  ⟨some 30, .load true 2 (.t 6), none, true⟩,
  ⟨some 31, .call 17 [.t 29, .t 30], none, true⟩,
  ⟨some 32, .load true 2 (.t 5), none, true⟩,
  ⟨some 33, .load true 2 (.t 8), none, true⟩,
  ⟨some 34, .call 17 [.t 32, .t 33], none, true⟩,
  ⟨some 9, .alloc [.int .i64 0, .int .i64 0], none, true⟩,
  ⟨some 10, .alloc [.int .i64 0, .int .i64 0], none, true⟩,
  ⟨none, .store 2 (.t 9) (.t 31), none, true⟩,
  ⟨none, .store 2 (.t 10) (.t 34), none, true⟩] (some [9, 10]) [5, 6, 7, 8]) (
(.seq (
.reg none [
  ⟨some 35, .fad 0 (.t 9), none, true⟩,
  ⟨some 36, .load false 1 (.t 35), none, true⟩,
  ⟨some 37, .fad 1 (.t 9), none, true⟩,
  ⟨some 38, .load false 1 (.t 37), none, true⟩,
  ⟨some 39, .fad 0 (.t 10), none, true⟩,
  ⟨some 40, .load false 1 (.t 39), none, true⟩,
  ⟨some 41, .fad 1 (.t 10), none, true⟩,
  ⟨some 42, .load false 1 (.t 41), none, true⟩,
  ⟨some 43, .mx [.c (.int .i64 0), .t 36, .t 38, .t 40, .t 42], none, true⟩,
  ⟨some 4, .as (.t 43), none, true⟩] (some [4]) [9, 10]) (
.ret)))))))))))))
/-- ambidexter/ambidexterref02.Gap -/
def A26 : AFn := .code [.t 4] (
(.seq (
.reg none [
  ⟨some 4, .as (.c (.int .i64 0)), none, true⟩] (some [0, 1]) []) (
(.seq (
(.seq (
.reg none [
  ⟨some 9, .mv (.t 0), none, true⟩,
  ⟨some 10, .len 0 (.t 9), none, true⟩,
  ⟨some 11, .bin .eql (.t 10) (.c (.int .i64 0)), none, true⟩,
  ⟨some 12, .mv (.t 11), none, true⟩,
  ⟨some 13, .mv (.t 1), some (12, false), true⟩,
  ⟨some 14, .len 0 (.t 13), some (12, false), true⟩,
  ⟨some 15, .bin .eql (.t 14) (.c (.int .i64 0)), some (12, false), true⟩,
  ⟨some 16, .pick (.t 12) (.c (.bool true)) (.t 15), none, true⟩] (some [0, 1, 16]) []) (
(.cond (.t 16) (
  (.seq (
  .reg none [
    ⟨some 4, .as (.c (.int .i64 0)), none, true⟩] (some [4]) []) (
  .ret))) (
  .skip))))) (
(.seq (
.reg none [
  ⟨some 18, .mv (.t 0), none, true⟩,
  ⟨some 19, .call 14 [.t 18], none, true⟩,
  ⟨some 17, .mv (.t 19), none, true⟩,
  ⟨some 20, .ext (.t 17) 0, none, true⟩,
  ⟨some 21, .ext (.t 17) 1, none, true⟩,
  ⟨some 5, .alloc [.int .i64 0, .int .i64 0], none, true⟩,
  ⟨some 6, .alloc [.int .i64 0, .int .i64 0], none, true⟩,
  ⟨none, .store 2 (.t 5) (.t 20), none, true⟩,
  ⟨none, .store 2 (.t 6) (.t 21), none, true⟩] (some [1, 5, 6]) []) (
(.seq (
.reg none [
  ⟨some 23, .mv (.t 1), none, true⟩,
  ⟨some 24, .call 14 [.t 23], none, true⟩,
  ⟨some 22, .mv (.t 24), none, true⟩,
  ⟨some 25, .ext (.t 22) 0, none, true⟩,
  ⟨some 26, .ext (.t 22) 1, none, true⟩,
  ⟨some 7, .alloc [.int .i64 0, .int .i64 0], none, true⟩,
  ⟨some 8, .alloc [.int .i64 0, .int .i64 0], none, true⟩,
  ⟨none, .store 2 (.t 7) (.t 25), none, true⟩,
  ⟨none, .store 2 (.t 8) (.t 26), none, true⟩] (some [5, 6, 7, 8]) []) (
(.seq (
.reg none [
  ⟨some 27, .fad 0 (.t 7), none, true⟩,
  ⟨some 28, .load false 1 (.t 27), none, true⟩,
  ⟨some 29, .fad 0 (.t 6), none, true⟩,
  ⟨some 30, .load false 1 (.t 29), none, true⟩,
  ⟨some 31, .bin .sub (.t 28) (.t 30), none, true⟩,
  ⟨some 32, .fad 0 (.t 5), none, true⟩,
  ⟨some 33, .load false 1 (.t 32), none, true⟩,
  ⟨some 34, .fad 0 (.t 8), none, true⟩,
  ⟨some 35, .load false 1 (.t 34), none, true⟩,
  ⟨some 36, .bin .sub (.t 33) (.t 35), none, true⟩,
  ⟨some 37, .fad 1 (.t 7), none, true⟩,
  ⟨some 38, .load false 1 (.t 37), none, true⟩,
  ⟨some 39, .fad 1 (.t 6), none, true⟩,
  ⟨some 40, .load false 1 (.t 39), none, true⟩,
  ⟨some 41, .bin .sub (.t 38) (.t 40), none, true⟩,
  ⟨some 42, .fad 1 (.t 5), none, true⟩,
  ⟨some 43, .load false 1 (.t 42), none, true⟩,
  ⟨some 44, .fad 1 (.t 8), none, true⟩,
  ⟨some 45, .load false 1 (.t 44), none, true⟩,
  ⟨some 46, .bin .sub (.t 43) (.t 45), none, true⟩,
  ⟨some 47, .mx [.c (.int .i64 0), .t 31, .t 36, .t 41, .t 46], none, true⟩,
  ⟨some 4, .as (.t 47), none, true⟩] (some [4]) [5, 6, 7, 8]) (
.ret)))))))))))
/-- ambidexter/ambidexterlaw02.at -/
def A27 : AFn := .code [.cell true 2 4] (
(.seq (
.reg none [
  ⟨some 4, .alloc [.int .i64 0, .int .i64 0], none, true⟩] (some [0, 1, 4]) []) (
(.seq (
.reg none [
  ⟨some 5, .mv (.t 0), none, true⟩,
  ⟨some 6, .mv (.t 1), none, true⟩,
  ⟨some 7, .build [.int .i64 0, .int .i64 0] [(0, 1, .t 5), (1, 1, .t 6)], none, true⟩,
  ⟨none, .store 2 (.t 4) (.t 7), none, true⟩] (some [4]) []) (
.ret)))))
/-- ambidexter/ambidexterlaw02.quarter -/
def A28 : AFn := .code [.cell true 2 2] (
(.seq (
.reg none [
  ⟨some 1, .box (.t 0), none, true⟩,
  ⟨some 2, .alloc [.int .i64 0, .int .i64 0], none, true⟩] (some [1, 2]) []) (
(.seq (
.reg none [
  ⟨some 3, .fad 1 (.t 1), none, true⟩,
  ⟨some 4, .load false 1 (.t 3), none, true⟩,
  ⟨some 5, .bin .sub (.c (.int .i64 0)) (.t 4), none, true⟩,
  ⟨some 6, .fad 0 (.t 1), none, true⟩,
  ⟨some 7, .load false 1 (.t 6), none, true⟩,
  ⟨some 8, .call 27 [.t 5, .t 7], none, true⟩,
  ⟨none, .store 2 (.t 2) (.t 8), none, true⟩] (some [2]) [1]) (
.ret)))))
/-- ambidexter/ambidexterlaw02.half -/
def A29 : AFn := .code [.cell true 2 2] (
(.seq (
.reg none [
  ⟨some 1, .box (.t 0), none, true⟩,
  ⟨some 2, .alloc [.int .i64 0, .int .i64 0], none, true⟩] (some [1, 2]) []) (
(.seq (
.reg none [
  ⟨some 3, .fad 0 (.t 1), none, true⟩,
  ⟨some 4, .load false 1 (.t 3), none, true⟩,
  ⟨some 5, .bin .quo (.t 4) (.c (.int .i64 2)), none, true⟩,
  ⟨some 6, .fad 1 (.t 1), none, true⟩,
  ⟨some 7, .load false 1 (.t 6), none, true⟩,
  ⟨some 8, .bin .quo (.t 7) (.c (.int .i64 2)), none, true⟩,
  ⟨some 9, .call 27 [.t 5, .t 8], none, true⟩,
  ⟨none, .store 2 (.t 2) (.t 9), none, true⟩] (some [2]) [1]) (
.ret)))))
/-- ambidexter/ambidexterlaw02.shared -/
def A30 : AFn := .code [.t 8] (
(.seq (
.reg none [
  ⟨some 4, .box (.t 0), none, true⟩,
  ⟨some 5, .box (.t 1), none, true⟩,
  ⟨some 6, .box (.t 2), none, true⟩,
  ⟨some 7, .box (.t 3), none, true⟩,
  ⟨some 8, .as (.c (.bool false)), none, true⟩] (some [4, 5, 6, 7]) []) (
(.seq (
.reg none [
  ⟨some 12, .fad 0 (.t 5), none, true⟩,
  ⟨some 13, .load false 1 (.t 12), none, true⟩,
  ⟨some 14, .fad 0 (.t 4), none, true⟩,
  ⟨some 15, .load false 1 (.t 14), none, true⟩,
  ⟨some 16, .bin .sub (.t 13) (.t 15), none, true⟩,
  ⟨some 17, .fad 1 (.t 7), none, true⟩,
  ⟨some 18, .load false 1 (.t 17), none, true⟩,
  ⟨some 19, .fad 1 (.t 6), none, true⟩,
  ⟨some 20, .load false 1 (.t 19), none, true⟩,
  ⟨some 21, .bin .sub (.t 18) (.t 20), none, true⟩,
  ⟨some 22, .bin .mul (.t 16) (.t 21), none, true⟩,
  ⟨some 23, .fad 1 (.t 5), none, true⟩,
  ⟨some 24, .load false 1 (.t 23), none, true⟩,
  ⟨some 25, .fad 1 (.t 4), none, true⟩,
  ⟨some 26, .load false 1 (.t 25), none, true⟩,
  ⟨some 27, .bin .sub (.t 24) (.t 26), none, true⟩,
  ⟨some 28, .fad 0 (.t 7), none, true⟩,
  ⟨some 29, .load false 1 (.t 28), none, true⟩,
  ⟨some 30, .fad 0 (.t 6), none, true⟩,
  ⟨some 31, .load false 1 (.t 30), none, true⟩,
  ⟨some 32, .bin .sub (.t 29) (.t 31), none, true⟩,
  ⟨some 33, .bin .mul (.t 27) (.t 32), none, true⟩,
  ⟨some 34, .bin .sub (.t 22) (.t 33), none, true⟩,
  ⟨some 9, .as (.t 34), none, true⟩] (some [4, 5, 6, 7, 9]) []) (
(.seq (
.reg none [
  ⟨some 35, .fad 0 (.t 6), none, true⟩,
  ⟨some 36, .load false 1 (.t 35), none, true⟩,
  ⟨some 37, .fad 0 (.t 4), none, true⟩,
  ⟨some 38, .load false 1 (.t 37), none, true⟩,
  ⟨some 39, .bin .sub (.t 36) (.t 38), none, true⟩,
  ⟨some 40, .fad 1 (.t 7), none, true⟩,
  ⟨some 41, .load false 1 (.t 40), none, true⟩,
  ⟨some 42, .fad 1 (.t 6), none, true⟩,
  ⟨some 43, .load false 1 (.t 42), none, true⟩,
  ⟨some 44, .bin .sub (.t 41) (.t 43), none, true⟩,
  ⟨some 45, .bin .mul (.t 39) (.t 44), none, true⟩,
  ⟨some 46, .fad 1 (.t 6), none, true⟩,
  ⟨some 47, .load false 1 (.t 46), none, true⟩,
  ⟨some 48, .fad 1 (.t 4), none, true⟩,
  ⟨some 49, .load false 1 (.t 48), none, true⟩,
  ⟨some 50, .bin .sub (.t 47) (.t 49), none, true⟩,
  ⟨some 51, .fad 0 (.t 7), none, true⟩,
  ⟨some 52, .load false 1 (.t 51), none, true⟩,
  ⟨some 53, .fad 0 (.t 6), none, true⟩,
  ⟨some 54, .load false 1 (.t 53), none, true⟩,
  ⟨some 55, .bin .sub (.t 52) (.t 54), none, true⟩,
  ⟨some 56, .bin .mul (.t 50) (.t 55), none, true⟩,
  ⟨some 57, .bin .sub (.t 45) (.t 56), none, true⟩,
  ⟨some 10, .as (.t 57), none, true⟩] (some [4, 5, 6, 9, 10]) [7]) (
(.seq (
.reg none [
  ⟨some 58, .fad 0 (.t 6), none, true⟩,
  ⟨some 59, .load false 1 (.t 58), none, true⟩,
  ⟨some 60, .fad 0 (.t 4), none, true⟩,
  ⟨some 61, .load false 1 (.t 60), none, true⟩,
  ⟨some 62, .bin .sub (.t 59) (.t 61), none, true⟩,
  ⟨some 63, .fad 1 (.t 5), none, true⟩,
  ⟨some 64, .load false 1 (.t 63), none, true⟩,
  ⟨some 65, .fad 1 (.t 4), none, true⟩,
  ⟨some 66, .load false 1 (.t 65), none, true⟩,
  ⟨some 67, .bin .sub (.t 64) (.t 66), none, true⟩,
  ⟨some 68, .bin .mul (.t 62) (.t 67), none, true⟩,
  ⟨some 69, .fad 1 (.t 6), none, true⟩,
  ⟨some 70, .load false 1 (.t 69), none, true⟩,
  ⟨some 71, .fad 1 (.t 4), none, true⟩,
  ⟨some 72, .load false 1 (.t 71), none, true⟩,
  ⟨some 73, .bin .sub (.t 70) (.t 72), none, true⟩,
  ⟨some 74, .fad 0 (.t 5), none, true⟩,
  ⟨some 75, .load false 1 (.t 74), none, true⟩,
  ⟨some 76, .fad 0 (.t 4), none, true⟩,
  ⟨some 77, .load false 1 (.t 76), none, true⟩,
  ⟨some 78, .bin .sub (.t 75) (.t 77), none, true⟩,
  ⟨some 79, .bin .mul (.t 73) (.t 78), none, true⟩,
  ⟨some 80, .bin .sub (.t 68) (.t 79), none, true⟩,
  ⟨some 11, .as (.t 80), none, true⟩] (some [9, 10, 11]) [4, 5, 6]) (
(.seq (
(.seq (
.reg none [
  ⟨some 81, .mv (.t 9), none, true⟩,
  ⟨some 82, .bin .lss (.t 81) (.c (.int .i64 0)), none, true⟩] (some [9, 10, 11, 82]) []) (
(.cond (.t 82) (
  (.seq (
  .reg none [
    ⟨some 83, .mv (.t 9), none, true⟩,
    ⟨some 84, .bin .sub (.c (.int .i64 0)) (.t 83), none, true⟩,
    ⟨some 9, .as (.t 84), none, true⟩] (some [9, 10, 11]) []) (
  (.seq (
  .reg none [
    ⟨some 85, .mv (.t 10), none, true⟩,
    ⟨some 86, .bin .sub (.c (.int .i64 0)) (.t 85), none, true⟩,
    ⟨some 10, .as (.t 86), none, true⟩] (some [9, 10, 11]) []) (
  .reg none [
    ⟨some 87, .mv (.t 11), none, true⟩,
    ⟨some 88, .bin .sub (.c (.int .i64 0)) (.t 87), none, true⟩,
    ⟨some 11, .as (.t 88), none, true⟩] (some [9, 10, 11]) []))))) (
  .skip))))) (
(.seq (
.reg none [
  ⟨some 89, .mv (.t 10), none, true⟩,
  ⟨some 90, .bin .geq (.t 89) (.c (.int .i64 0)), none, true⟩,
  ⟨some 91, .mv (.t 90), none, true⟩,
  ⟨some 92, .mv (.t 10), some (91, true), true⟩,
  ⟨some 93, .mv (.t 9), some (91, true), true⟩,
  ⟨some 94, .bin .leq (.t 92) (.t 93), some (91, true), true⟩,
  ⟨some 95, .pick (.t 91) (.t 94) (.c (.bool false)), none, true⟩,
  ⟨some 96, .mv (.t 95), none, true⟩,
  ⟨some 97, .mv (.t 11), some (96, true), true⟩,
  ⟨some 98, .bin .geq (.t 97) (.c (.int .i64 0)), some (96, true), true⟩,
  ⟨some 99, .pick (.t 96) (.t 98) (.c (.bool false)), none, true⟩,
  ⟨some 100, .mv (.t 99), none, true⟩,
  ⟨some 101, .mv (.t 11), some (100, true), true⟩,
  ⟨some 102, .mv (.t 9), some (100, true), true⟩,
  ⟨some 103, .bin .leq (.t 101) (.t 102), some (100, true), true⟩,
  ⟨some 104, .pick (.t 100) (.t 103) (.c (.bool false)), none, true⟩,
  ⟨some 8, .as (.t 104), none, true⟩] (some [8]) []) (
.ret)))))))))))))
/-- ambidexter/ambidexterref02.Near -/
def A31 : AFn := .code [.cell true 2 2] (
(.seq (
.reg none [
  ⟨some 1, .box (.t 0), none, true⟩,
  ⟨some 2, .alloc [.int .i64 0, .int .i64 0], none, true⟩] (some [1, 2]) []) (
(.seq (
.reg none [
  ⟨some 3, .fad 0 (.t 1), none, true⟩,
  ⟨some 4, .load false 1 (.t 3), none, true⟩,
  ⟨some 5, .bin .rem (.t 4) (.c (.int .i64 9)), none, true⟩,
  ⟨some 6, .fad 1 (.t 1), none, true⟩,
  ⟨some 7, .load false 1 (.t 6), none, true⟩,
  ⟨some 8, .bin .rem (.t 7) (.c (.int .i64 9)), none, true⟩,
  ⟨some 9, .build [.int .i64 0, .int .i64 0] [(0, 1, .t 5), (1, 1, .t 8)], none, true⟩,
  ⟨none, .store 2 (.t 2) (.t 9), none, true⟩] (some [2]) [1]) (
.ret)))))
/-- ambidexter/ambidexterref02.Fit -/
def A32 : AFn := .code [.cell true 2 2] (
(.seq (
.reg none [
  ⟨some 1, .box (.t 0), none, true⟩,
  ⟨some 2, .alloc [.int .i64 0, .int .i64 0], none, true⟩] (some [1, 2]) []) (
(.seq (
.reg none [
  ⟨some 3, .fad 0 (.t 1), none, true⟩,
  ⟨some 4, .load false 1 (.t 3), none, true⟩,
  ⟨some 5, .bin .rem (.t 4) (.c (.int .i64 439400001)), none, true⟩,
  ⟨some 6, .fad 1 (.t 1), none, true⟩,
  ⟨some 7, .load false 1 (.t 6), none, true⟩,
  ⟨some 8, .bin .rem (.t 7) (.c (.int .i64 439400001)), none, true⟩,
  ⟨some 9, .build [.int .i64 0, .int .i64 0] [(0, 1, .t 5), (1, 1, .t 8)], none, true⟩,
  ⟨none, .store 2 (.t 2) (.t 9), none, true⟩] (some [2]) [1]) (
.ret)))))
def A33_L0b : ACode := 
  (.seq (
  .reg none [
    ⟨some 12, .bin .lss (.t 11) (.t 10), none, true⟩] (some [2, 4, 6, 9, 10, 11, 12]) []) (
  (.seq (
  (.cond (.t 12) (
    .skip) (
    .exit 0))) (
  (.seq (
  (.block 1 (
  (.seq (
  .reg none [
    ⟨some 13, .ias 2 (.t 9) (.t 11), none, true⟩,
    ⟨some 14, .load true 2 (.t 13), none, true⟩,
    ⟨some 8, .alloc [.int .i64 0, .int .i64 0], none, true⟩,
    ⟨none, .store 2 (.t 8) (.t 14), none, true⟩] (some [2, 4, 6, 8, 9, 10, 11]) []) (
  .reg none [
    ⟨some 15, .mv (.t 2), none, true⟩,
    ⟨some 16, .load true 2 (.t 4), none, true⟩,
    ⟨some 17, .load true 2 (.t 8), none, true⟩,
    ⟨some 18, .cal (.t 15) [.t 16, .t 17], none, true⟩,
    ⟨none, .store 2 (.t 4) (.t 18), none, true⟩] (some [2, 4, 6, 9, 10, 11]) [8]))) (some [2, 4, 6, 9, 10, 11]) [8])) (
  .reg none [
    ⟨some 19, .bin .add (.t 11) (.c (.int .i64 1)), none, true⟩,
    ⟨some 11, .mv (.t 19), none, true⟩] (some [2, 4, 6, 9, 10, 11]) []))))))
def A33_L0 : ACode := .loop A33_L0b (some [2, 4, 6, 9, 10, 11]) [8]
/-- ambidexter/geom.fold[ambidexter/api.Point,ambidexter/api.Point] -/
def A33 : AFn := .code [.cell true 2 6] (
(.seq (
.reg none [
  ⟨some 4, .box (.t 1), none, true⟩,
  ⟨some 6, .alloc [.int .i64 0, .int .i64 0], none, true⟩] (some [0, 2, 4, 6]) []) (
(.seq (
(.seq (
.reg none [
  ⟨some 9, .mv (.t 0), none, true⟩,
  ⟨some 10, .len 0 (.t 9), none, true⟩,
  ⟨some 11, .mv (.c (.int .i64 0)), none, true⟩] (some [2, 4, 6, 9, 10, 11]) []) (
(.block 0 (
A33_L0) (some [4, 6]) [8])))) (
(.seq (
.reg none [
  ⟨some 20, .load true 2 (.t 4), none, true⟩,
  ⟨none, .store 2 (.t 6) (.t 20), none, true⟩] (some [6]) [4]) (
.ret)))))))
/-- ambidexter/geom.BoundingBox$1 -/
def A34 : AFn := .code [.cell true 2 4] (
(.seq (
.reg none [
  ⟨some 2, .box (.t 0), none, true⟩,
  ⟨some 3, .box (.t 1), none, true⟩,
  ⟨some 4, .alloc [.int .i64 0, .int .i64 0], none, true⟩] (some [2, 3, 4]) []) (
(.seq (
.reg none [
  ⟨some 5, .fad 0 (.t 2), none, true⟩,
  ⟨some 6, .load false 1 (.t 5), none, true⟩,
  ⟨some 7, .fad 0 (.t 3), none, true⟩,
  ⟨some 8, .load false 1 (.t 7), none, true⟩,
  ⟨some 9, .mn [.t 6, .t 8], none, true⟩,
  ⟨some 10, .fad 1 (.t 2), none, true⟩,
  ⟨some 11, .load false 1 (.t 10), none, true⟩,
  ⟨some 12, .fad 1 (.t 3), none, true⟩,
  ⟨some 13, .load false 1 (.t 12), none, true⟩,
  ⟨some 14, .mn [.t 11, .t 13], none, true⟩,
  ⟨some 15, .build [.int .i64 0, .int .i64 0] [(0, 1, .t 9), (1, 1, .t 14)], none, true⟩,
  ⟨none, .store 2 (.t 4) (.t 15), none, true⟩] (some [4]) [2, 3]) (
.ret)))))
/-- ambidexter/geom.BoundingBox$2 -/
def A35 : AFn := .code [.cell true 2 4] (
(.seq (
.reg none [
  ⟨some 2, .box (.t 0), none, true⟩,
  ⟨some 3, .box (.t 1), none, true⟩,
  ⟨some 4, .alloc [.int .i64 0, .int .i64 0], none, true⟩] (some [2, 3, 4]) []) (
(.seq (
.reg none [
  ⟨some 5, .fad 0 (.t 2), none, true⟩,
  ⟨some 6, .load false 1 (.t 5), none, true⟩,
  ⟨some 7, .fad 0 (.t 3), none, true⟩,
  ⟨some 8, .load false 1 (.t 7), none, true⟩,
  ⟨some 9, .mx [.t 6, .t 8], none, true⟩,
  ⟨some 10, .fad 1 (.t 2), none, true⟩,
  ⟨some 11, .load false 1 (.t 10), none, true⟩,
  ⟨some 12, .fad 1 (.t 3), none, true⟩,
  ⟨some 13, .load false 1 (.t 12), none, true⟩,
  ⟨some 14, .mx [.t 11, .t 13], none, true⟩,
  ⟨some 15, .build [.int .i64 0, .int .i64 0] [(0, 1, .t 9), (1, 1, .t 14)], none, true⟩,
  ⟨none, .store 2 (.t 4) (.t 15), none, true⟩] (some [4]) [2, 3]) (
.ret)))))
/-- ambidexter/ambidexterref02.Cross -/
def A36 : AFn := .code [.t 6] (
(.seq (
.reg none [
  ⟨some 3, .box (.t 0), none, true⟩,
  ⟨some 4, .box (.t 1), none, true⟩,
  ⟨some 5, .box (.t 2), none, true⟩,
  ⟨some 6, .as (.c (.int .i64 0)), none, true⟩] (some [3, 4, 5]) []) (
(.seq (
.reg none [
  ⟨some 7, .fad 0 (.t 4), none, true⟩,
  ⟨some 8, .load false 1 (.t 7), none, true⟩,
  ⟨some 9, .fad 0 (.t 3), none, true⟩,
  ⟨some 10, .load false 1 (.t 9), none, true⟩,
  ⟨some 11, .bin .sub (.t 8) (.t 10), none, true⟩,
  ⟨some 12, .fad 1 (.t 5), none, true⟩,
  ⟨some 13, .load false 1 (.t 12), none, true⟩,
  ⟨some 14, .fad 1 (.t 3), none, true⟩,
  ⟨some 15, .load false 1 (.t 14), none, true⟩,
  ⟨some 16, .bin .sub (.t 13) (.t 15), none, true⟩,
  ⟨some 17, .bin .mul (.t 11) (.t 16), none, true⟩,
  ⟨some 18, .fad 1 (.t 4), none, true⟩,
  ⟨some 19, .load false 1 (.t 18), none, true⟩,
  ⟨some 20, .fad 1 (.t 3), none, true⟩,
  ⟨some 21, .load false 1 (.t 20), none, true⟩,
  ⟨some 22, .bin .sub (.t 19) (.t 21), none, true⟩,
  ⟨some 23, .fad 0 (.t 5), none, true⟩,
  ⟨some 24, .load false 1 (.t 23), none, true⟩,
  ⟨some 25, .fad 0 (.t 3), none, true⟩,
  ⟨some 26, .load false 1 (.t 25), none, true⟩,
  ⟨some 27, .bin .sub (.t 24) (.t 26), none, true⟩,
  ⟨some 28, .bin .mul (.t 22) (.t 27), none, true⟩,
  ⟨some 29, .bin .sub (.t 17) (.t 28), none, true⟩,
  ⟨some 6, .as (.t 29), none, true⟩] (some [6]) [3, 4, 5]) (
.ret)))))
/-- ambidexter/geom.within -/
def A37 : AFn := .code [.t 6] (
(.seq (
.reg none [
  ⟨some 3, .box (.t 0), none, true⟩,
  ⟨some 4, .box (.t 1), none, true⟩,
  ⟨some 5, .box (.t 2), none, true⟩,
  ⟨some 6, .as (.c (.bool false)), none, true⟩] (some [3, 4, 5]) []) (
(.seq (
.reg none [
  ⟨some 10, .load true 2 (.t 3), none, true⟩,
  ⟨some 11, .load true 2 (.t 4), none, true⟩,
  ⟨some 12, .bsl 2 2 [.int .i64 0, .int .i64 0] [(0, .t 10), (1, .t 11)], none, true⟩,
  ⟨some 13, .call 13 [.t 12], none, true⟩,
  ⟨some 9, .mv (.t 13), none, true⟩,
  ⟨some 14, .ext (.t 9) 0, none, true⟩,
  ⟨some 15, .ext (.t 9) 1, none, true⟩,
  ⟨some 7, .alloc [.int .i64 0, .int .i64 0], none, true⟩,
  ⟨some 8, .alloc [.int .i64 0, .int .i64 0], none, true⟩,
  ⟨none, .store 2 (.t 7) (.t 14), none, true⟩,
  ⟨none, .store 2 (.t 8) (.t 15), none, true⟩] (some [5, 7, 8]) [3, 4]) (
(.seq (
.reg none [
  ⟨some 16, .fad 0 (.t 5), none, true⟩,
  ⟨some 17, .load false 1 (.t 16), none, true⟩,
  ⟨some 18, .fad 0 (.t 7), none, true⟩,
  ⟨some 19, .load false 1 (.t 18), none, true⟩,
  ⟨some 20, .bin .geq (.t 17) (.t 19), none, true⟩,
  ⟨some 21, .mv (.t 20), none, true⟩,
  ⟨some 22, .fad 0 (.t 5), some (21, true), true⟩,
  ⟨some 23, .load false 1 (.t 22), some (21, true), true⟩,
  ⟨some 24, .fad 0 (.t 8), some (21, true), true⟩,
  ⟨some 25, .load false 1 (.t 24), some (21, true), true⟩,
  ⟨some 26, .bin .leq (.t 23) (.t 25), some (21, true), true⟩,
  ⟨some 27, .pick (.t 21) (.t 26) (.c (.bool false)), none, true⟩,
  ⟨some 28, .mv (.t 27), none, true⟩,
  ⟨some 29, .fad 1 (.t 5), some (28, true), true⟩,
  ⟨some 30, .load false 1 (.t 29), some (28, true), true⟩,
  ⟨some 31, .fad 1 (.t 7), some (28, true), true⟩,
  ⟨some 32, .load false 1 (.t 31), some (28, true), true⟩,
  ⟨some 33, .bin .geq (.t 30) (.t 32), some (28, true), true⟩,
  ⟨some 34, .pick (.t 28) (.t 33) (.c (.bool false)), none, true⟩,
  ⟨some 35, .mv (.t 34), none, true⟩,
  ⟨some 36, .fad 1 (.t 5), some (35, true), true⟩,
  ⟨some 37, .load false 1 (.t 36), some (35, true), true⟩,
  ⟨some 38, .fad 1 (.t 8), some (35, true), true⟩,
  ⟨some 39, .load false 1 (.t 38), some (35, true), true⟩,
  ⟨some 40, .bin .leq (.t 37) (.t 39), some (35, true), true⟩,
  ⟨some 41, .pick (.t 35) (.t 40) (.c (.bool false)), none, true⟩,
  ⟨some 6, .as (.t 41), none, true⟩] (some [6]) [5, 7, 8]) (
.ret)))))))
/-- ambidexter/ambidexterref02.between -/
def A38 : AFn := .code [.t 6] (
(.seq (
.reg none [
  ⟨some 6, .as (.c (.bool false)), none, true⟩] (some [0, 1, 2]) []) (
(.seq (
.reg none [
  ⟨some 7, .mv (.t 2), none, true⟩,
  ⟨some 8, .mv (.t 0), none, true⟩,
  ⟨some 9, .mv (.t 1), none, true⟩,
  ⟨some 10, .mn [.t 8, .t 9], none, true⟩,
  ⟨some 11, .bin .geq (.t 7) (.t 10), none, true⟩,
  ⟨some 12, .mv (.t 11), none, true⟩,
  ⟨some 13, .mv (.t 2), some (12, true), true⟩,
  ⟨some 14, .mv (.t 0), some (12, true), true⟩,
  ⟨some 15, .mv (.t 1), some (12, true), true⟩,
  ⟨some 16, .mx [.t 14, .t 15], some (12, true), true⟩,
  ⟨some 17, .bin .leq (.t 13) (.t 16), some (12, true), true⟩,
  ⟨some 18, .pick (.t 12) (.t 17) (.c (.bool false)), none, true⟩,
  ⟨some 6, .as (.t 18), none, true⟩] (some [6]) []) (
.ret)))))
/-- ambidexter/geom.SegmentsIntersect$1 -/
def A39 : AFn := .code [.t 8, .t 9] (
(.seq (
.reg none [
  ⟨some 4, .box (.t 0), none, true⟩,
  ⟨some 5, .box (.t 1), none, true⟩,
  ⟨some 6, .box (.t 2), none, true⟩,
  ⟨some 7, .box (.t 3), none, true⟩,
  ⟨some 8, .as (.c (.bool false)), none, true⟩,
  ⟨some 9, .as (.c (.bool false)), none, true⟩] (some [4, 5, 6, 7]) []) (
(.seq (
.reg (some [.dr [13, 14, 16, 17, 18] [], .dr [12, 14, 16, 17, 18] [], .dr [12, 13, 16, 17, 18] [], .dr [16, 17, 18] [], .dr [12, 13, 14, 15, 17, 18] [], .dr [12, 13, 14, 15, 16, 18] [], .dr [12, 13, 14, 15, 16, 17] [], .free, .free, .free]) [
  ⟨some 12, .load true 2 (.t 4), none, true⟩,
  ⟨some 13, .load true 2 (.t 5), none, true⟩,
  ⟨some 14, .load true 2 (.t 6), none, true⟩,
  ⟨some 15, .call 19 [.t 12, .t 13, .t 14], none, true⟩,
  ⟨some 16, .load true 2 (.t 4), none, true⟩,
  ⟨some 17, .load true 2 (.t 5), none, true⟩,
  ⟨some 18, .load true 2 (.t 7), none, true⟩,
  ⟨some 19, .call 19 [.t 16, .t 17, .t 18], none, true⟩,
  ⟨some 10, .as (.t 15), none, true⟩,
  ⟨some 11, .as (.t 19), none, true⟩] (some [4, 5, 6, 7, 10, 11]) []) (
(.seq (
.reg none [
  ⟨some 20, .mv (.t 10), none, true⟩,
  ⟨some 21, .mv (.t 11), none, true⟩,
  ⟨some 22, .bin .mul (.t 20) (.t 21), none, true⟩,
  ⟨some 23, .bin .lss (.t 22) (.c (.int .i64 0)), none, true⟩,
  ⟨some 24, .mv (.t 10), none, true⟩,
  ⟨some 25, .bin .eql (.t 24) (.c (.int .i64 0)), none, true⟩,
  ⟨some 26, .mv (.t 25), none, true⟩,
  ⟨some 27, .load true 2 (.t 4), some (26, true), true⟩,
  ⟨some 28, .load true 2 (.t 5), some (26, true), true⟩,
  ⟨some 29, .load true 2 (.t 6), some (26, true), true⟩,
  ⟨some 30, .call 37 [.t 27, .t 28, .t 29], some (26, true), true⟩,
  ⟨some 31, .pick (.t 26) (.t 30) (.c (.bool false)), none, true⟩,
  ⟨some 32, .mv (.t 31), none, true⟩,
  ⟨some 33, .mv (.t 11), some (32, false), true⟩,
  ⟨some 34, .bin .eql (.t 33) (.c (.int .i64 0)), some (32, false), true⟩,
  ⟨some 35, .mv (.t 34), some (32, false), true⟩,
  ⟨some 36, .load true 2 (.t 4), some (35, true), true⟩,
  ⟨some 37, .load true 2 (.t 5), some (35, true), true⟩,
  ⟨some 38, .load true 2 (.t 7), some (35, true), true⟩,
  ⟨some 39, .call 37 [.t 36, .t 37, .t 38], some (35, true), true⟩,
  ⟨some 40, .pick (.t 35) (.t 39) (.c (.bool false)), some (32, false), true⟩,
  ⟨some 41, .pick (.t 32) (.c (.bool true)) (.t 40), none, true⟩,
  ⟨some 8, .as (.t 23), none, true⟩,
  ⟨some 9, .as (.t 41), none, true⟩] (some [8, 9]) [4, 5, 6, 7]) (
.ret)))))))

def E : FuncId → Option AFn
  | 2 => some A2
  | 3 => some A3
  | 4 => some A4
  | 5 => some A5
  | 6 => some A6
  | 7 => some A7
  | 8 => some A8
  | 9 => some A9
  | 10 => some A10
  | 11 => some A11
  | 12 => some A12
  | 13 => some A13
  | 14 => some A14
  | 15 => some A15
  | 16 => some A16
  | 17 => some A17
  | 18 => some A18
  | 19 => some A19
  | 20 => some A20
  | 21 => some A21
  | 22 => some A22
  | 23 => some A23
  | 24 => some A24
  | 25 => some A25
  | 26 => some A26
  | 27 => some A27
  | 28 => some A28
  | 29 => some A29
  | 30 => some A30
  | 31 => some A31
  | 32 => some A32
  | 33 => some A33
  | 34 => some A34
  | 35 => some A35
  | 36 => some A36
  | 37 => some A37
  | 38 => some A38
  | 39 => some A39
  | _ => none
theorem E_2 : E 2 = some A2 := rfl
theorem E_3 : E 3 = some A3 := rfl
theorem E_4 : E 4 = some A4 := rfl
theorem E_5 : E 5 = some A5 := rfl
theorem E_6 : E 6 = some A6 := rfl
theorem E_7 : E 7 = some A7 := rfl
theorem E_8 : E 8 = some A8 := rfl
theorem E_9 : E 9 = some A9 := rfl
theorem E_10 : E 10 = some A10 := rfl
theorem E_11 : E 11 = some A11 := rfl
theorem E_12 : E 12 = some A12 := rfl
theorem E_13 : E 13 = some A13 := rfl
theorem E_14 : E 14 = some A14 := rfl
theorem E_15 : E 15 = some A15 := rfl
theorem E_16 : E 16 = some A16 := rfl
theorem E_17 : E 17 = some A17 := rfl
theorem E_18 : E 18 = some A18 := rfl
theorem E_19 : E 19 = some A19 := rfl
theorem E_20 : E 20 = some A20 := rfl
theorem E_21 : E 21 = some A21 := rfl
theorem E_22 : E 22 = some A22 := rfl
theorem E_23 : E 23 = some A23 := rfl
theorem E_24 : E 24 = some A24 := rfl
theorem E_25 : E 25 = some A25 := rfl
theorem E_26 : E 26 = some A26 := rfl
theorem E_27 : E 27 = some A27 := rfl
theorem E_28 : E 28 = some A28 := rfl
theorem E_29 : E 29 = some A29 := rfl
theorem E_30 : E 30 = some A30 := rfl
theorem E_31 : E 31 = some A31 := rfl
theorem E_32 : E 32 = some A32 := rfl
theorem E_33 : E 33 = some A33 := rfl
theorem E_34 : E 34 = some A34 := rfl
theorem E_35 : E 35 = some A35 := rfl
theorem E_36 : E 36 = some A36 := rfl
theorem E_37 : E 37 = some A37 := rfl
theorem E_38 : E 38 = some A38 := rfl
theorem E_39 : E 39 = some A39 := rfl
theorem A8_L0_eq (s : St) : K E A8_L0 s = (K E A8_L0b s).bind (loopF E A8_L0 (some [5, 6, 8, 9, 10, 11, 12, 13, 14]) [4, 15]) := loop_fold rfl s
theorem A9_L0_eq (s : St) : K E A9_L0 s = (K E A9_L0b s).bind (loopF E A9_L0 (some [5, 6, 7, 8, 13, 14, 15]) [90, 91, 108, 109]) := loop_fold rfl s
theorem A9_L1_eq (s : St) : K E A9_L1 s = (K E A9_L1b s).bind (loopF E A9_L1 (some [5, 6, 7, 8, 9, 10]) [4, 11, 12]) := loop_fold rfl s
theorem A9_L2_eq (s : St) : K E A9_L2 s = (K E A9_L2b s).bind (loopF E A9_L2 (some [5, 6, 7, 8, 9]) [4, 10, 11, 12]) := loop_fold rfl s
theorem A11_L0_eq (s : St) : K E A11_L0 s = (K E A11_L0b s).bind (loopF E A11_L0 (some [1, 2, 4, 5, 6]) [17, 23]) := loop_fold rfl s
theorem A12_L0_eq (s : St) : K E A12_L0 s = (K E A12_L0b s).bind (loopF E A12_L0 (some [0, 3, 4]) [21, 22]) := loop_fold rfl s
theorem A14_L0_eq (s : St) : K E A14_L0 s = (K E A14_L0b s).bind (loopF E A14_L0 (some [0, 2, 3, 4, 5, 6]) []) := loop_fold rfl s
theorem A33_L0_eq (s : St) : K E A33_L0 s = (K E A33_L0b s).bind (loopF E A33_L0 (some [2, 4, 6, 9, 10, 11]) [8]) := loop_fold rfl s
end Go.Proofs.Ytojjdhdflhcdkaa
