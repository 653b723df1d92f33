/- Part of the proof: the evaluation of the program's code and its tie to the machine, or what functions of the program compute over it. -/
import Derived.Test.YtjmnepfdhkabfaaPart1
import Derived.Test.YtjmnepfdhkabfaaEng6
namespace Go.Proofs.Ytjmnepfdhkabfaa
open Go Go.Zv
set_option maxRecDepth 100000
/-- ambidexter/ambidexterref31.SameJournal -/
def A41 : AFn := .code [.t 4] (
(.seq (
.reg none [
  ⟨some 2, .box (.t 0), none, true⟩,
  ⟨some 3, .box (.t 1), none, true⟩,
  ⟨some 4, .as (.c (.bool false)), none, true⟩] (some [2, 3]) []) (
(.seq (
(.seq (
.reg none [
  ⟨some 6, .fad 4 (.t 2), none, true⟩,
  ⟨some 7, .load false 1 (.t 6), none, true⟩,
  ⟨some 8, .fad 4 (.t 3), none, true⟩,
  ⟨some 9, .load false 1 (.t 8), none, true⟩,
  ⟨some 10, .bin .neq (.t 7) (.t 9), none, true⟩,
  ⟨some 11, .mv (.t 10), none, true⟩,
  ⟨some 12, .fad 5 (.t 2), some (11, false), true⟩,
  ⟨some 13, .load false 1 (.t 12), some (11, false), true⟩,
  ⟨some 14, .fad 5 (.t 3), some (11, false), true⟩,
  ⟨some 15, .load false 1 (.t 14), some (11, false), true⟩,
  ⟨some 16, .bin .neq (.t 13) (.t 15), some (11, false), true⟩,
  ⟨some 17, .pick (.t 11) (.c (.bool true)) (.t 16), none, true⟩,
  ⟨some 18, .mv (.t 17), none, true⟩,
  ⟨some 19, .fad 0 (.t 2), some (18, false), true⟩,
  ⟨some 20, .fad 1 (.t 19), some (18, false), true⟩,
  ⟨some 21, .load false 1 (.t 20), some (18, false), true⟩,
  ⟨some 22, .fad 0 (.t 3), some (18, false), true⟩,
  ⟨some 23, .fad 1 (.t 22), some (18, false), true⟩,
  ⟨some 24, .load false 1 (.t 23), some (18, false), true⟩,
  ⟨some 25, .bin .neq (.t 21) (.t 24), some (18, false), true⟩,
  ⟨some 26, .pick (.t 18) (.c (.bool true)) (.t 25), none, true⟩,
  ⟨some 27, .mv (.t 26), none, true⟩,
  ⟨some 28, .fad 0 (.t 2), some (27, false), true⟩,
  ⟨some 29, .fad 2 (.t 28), some (27, false), true⟩,
  ⟨some 30, .load false 1 (.t 29), some (27, false), true⟩,
  ⟨some 31, .fad 0 (.t 3), some (27, false), true⟩,
  ⟨some 32, .fad 2 (.t 31), some (27, false), true⟩,
  ⟨some 33, .load false 1 (.t 32), some (27, false), true⟩,
  ⟨some 34, .bin .neq (.t 30) (.t 33), some (27, false), true⟩,
  ⟨some 35, .pick (.t 27) (.c (.bool true)) (.t 34), none, true⟩,
  ⟨some 36, .mv (.t 35), none, true⟩,
  ⟨some 37, .fad 0 (.t 2), some (36, false), true⟩,
  ⟨some 38, .fad 3 (.t 37), some (36, false), true⟩,
  ⟨some 39, .load false 1 (.t 38), some (36, false), true⟩,
  ⟨some 40, .fad 0 (.t 3), some (36, false), true⟩,
  ⟨some 41, .fad 3 (.t 40), some (36, false), true⟩,
  ⟨some 42, .load false 1 (.t 41), some (36, false), true⟩,
  ⟨some 43, .bib true (.t 39) (.t 42), some (36, false), true⟩,
  ⟨some 44, .pick (.t 36) (.c (.bool true)) (.t 43), none, true⟩,
  ⟨some 45, .mv (.t 44), none, true⟩,
  ⟨some 46, .fad 0 (.t 2), some (45, false), true⟩,
  ⟨some 47, .fad 0 (.t 46), some (45, false), true⟩,
  ⟨some 48, .load false 1 (.t 47), some (45, false), true⟩,
  ⟨some 49, .len 0 (.t 48), some (45, false), true⟩,
  ⟨some 50, .fad 0 (.t 3), some (45, false), true⟩,
  ⟨some 51, .fad 0 (.t 50), some (45, false), true⟩,
  ⟨some 52, .load false 1 (.t 51), some (45, false), true⟩,
  ⟨some 53, .len 0 (.t 52), some (45, false), true⟩,
  ⟨some 54, .bin .neq (.t 49) (.t 53), some (45, false), true⟩,
  ⟨some 55, .pick (.t 45) (.c (.bool true)) (.t 54), none, true⟩] (some [2, 3, 55]) []) (
(.cond (.t 55) (
  (.seq (
  .reg none [
    ⟨some 4, .as (.c (.bool false)), none, true⟩] (some [4]) []) (
  .ret))) (
  .skip))))) (
(.seq (
(.seq (
.reg none [
  ⟨some 5, .as (.c (.int .i64 0)), none, true⟩] (some [2, 3, 5]) []) (
(.block 0 (
A41_L0) (some []) [4, 5, 76])))) (
(.seq (
.reg none [
  ⟨some 4, .as (.c (.bool true)), none, true⟩] (some [4]) []) (
.ret)))))))))
def A42_L0b : ACode := 
  (.seq (
  .reg none [
    ⟨some 18, .bin .lss (.t 17) (.t 16), none, true⟩] (some [1, 2, 3, 5, 6, 16, 17, 18]) []) (
  (.seq (
  (.cond (.t 18) (
    .skip) (
    .exit 0))) (
  (.seq (
  (.block 1 (
  (.seq (
  .reg none [
    ⟨some 19, .mv (.t 17), none, true⟩,
    ⟨some 7, .as (.t 19), none, true⟩] (some [1, 2, 3, 5, 6, 7, 16, 17]) []) (
  (.seq (
  .reg none [
    ⟨some 21, .load true 4 (.t 1), none, true⟩,
    ⟨some 22, .mv (.t 7), none, true⟩,
    ⟨some 23, .call 25 [.t 21, .t 22], none, true⟩,
    ⟨some 20, .mv (.t 23), none, true⟩,
    ⟨some 24, .ext (.t 20) 0, none, true⟩,
    ⟨some 25, .ext (.t 20) 1, none, true⟩,
    ⟨some 8, .as (.t 24), none, true⟩,
    ⟨some 9, .as (.t 25), none, true⟩] (some [1, 2, 3, 5, 6, 7, 8, 9, 16, 17]) []) (
  (.seq (
  (.seq (
  .reg none [
    ⟨some 26, .mv (.t 9), none, true⟩,
    ⟨some 27, .bin .neq (.t 26) (.c (.int .i64 0)), none, true⟩] (some [1, 2, 3, 5, 6, 7, 8, 16, 17, 27]) []) (
  (.cond (.t 27) (
    .exit 1) (
    .skip))))) (
  (.seq (
  .reg none [
    ⟨some 29, .mv (.t 8), none, true⟩,
    ⟨some 30, .call 33 [.t 29], none, true⟩,
    ⟨some 28, .mv (.t 30), none, true⟩,
    ⟨some 31, .ext (.t 28) 0, none, true⟩,
    ⟨some 32, .ext (.t 28) 1, none, true⟩,
    ⟨some 10, .alloc [.int .i64 0, .int .i64 0, .int .i64 0, .int .i64 0, .int .i64 0, .int .i64 0, .int .i64 0, .int .i64 0, .int .i64 0, .int .i64 0, .nils 1, .int .i64 0], none, true⟩,
    ⟨none, .store 12 (.t 10) (.t 31), none, true⟩,
    ⟨some 11, .as (.t 32), none, true⟩] (some [1, 2, 3, 5, 6, 7, 10, 11, 16, 17]) []) (
  (.seq (
  .reg none [
    ⟨some 33, .mv (.t 11), none, true⟩,
    ⟨some 34, .bin .eql (.t 33) (.c (.int .i64 0)), none, true⟩,
    ⟨some 35, .mv (.t 34), none, true⟩,
    ⟨some 36, .fad 0 (.t 10), some (35, true), true⟩,
    ⟨some 37, .load false 1 (.t 36), some (35, true), true⟩,
    ⟨some 38, .fad 0 (.t 6), some (35, true), true⟩,
    ⟨some 39, .load false 1 (.t 38), some (35, true), true⟩,
    ⟨some 40, .bin .gtr (.t 37) (.t 39), some (35, true), true⟩,
    ⟨some 41, .pick (.t 35) (.t 40) (.c (.bool false)), none, true⟩] (some [1, 2, 3, 5, 6, 7, 10, 16, 17, 41]) []) (
  (.cond (.t 41) (
    (.seq (
    .reg none [
      ⟨some 42, .load true 12 (.t 10), none, true⟩,
      ⟨none, .store 12 (.t 6) (.t 42), none, true⟩] (some [1, 2, 3, 5, 6, 7, 10, 16, 17]) []) (
    .reg (some [.dr [46, 48] [], .dr [46, 48] [], .dr [46, 48] [], .dr [44] [], .dr [44, 46] [], .dr [44] [], .dr [46, 48] [], .free, .free, .free]) [
      ⟨some 43, .fad 0 (.t 10), none, true⟩,
      ⟨some 44, .load false 1 (.t 43), none, true⟩,
      ⟨some 45, .bin .add (.t 44) (.c (.int .i64 1)), none, true⟩,
      ⟨some 46, .load true 4 (.t 1), none, true⟩,
      ⟨some 47, .mv (.t 7), none, true⟩,
      ⟨some 48, .call 68 [.t 46, .t 47], none, true⟩,
      ⟨some 49, .fad 4 (.t 5), none, true⟩,
      ⟨none, .store 1 (.t 49) (.t 45), none, true⟩,
      ⟨some 50, .fad 5 (.t 5), none, true⟩,
      ⟨none, .store 1 (.t 50) (.t 48), none, true⟩] (some [1, 2, 3, 5, 6, 16, 17]) [10]))) (
    .skip))))))))))))) (some [1, 2, 3, 5, 6, 16, 17]) [7, 8, 9, 10, 11, 23, 30, 48])) (
  .reg none [
    ⟨some 51, .bin .add (.t 17) (.c (.int .i64 1)), none, true⟩,
    ⟨some 17, .mv (.t 51), none, true⟩] (some [1, 2, 3, 5, 6, 16, 17]) []))))))
def A42_L0 : ACode := .loop A42_L0b (some [1, 2, 3, 5, 6, 16, 17]) [7, 8, 9, 10, 11, 23, 30, 48]
/-- ambidexter/journal.Recover -/
def A42 : AFn := .code [.cell true 6 2, .cell true 12 3, .t 4] (
(.seq (
.reg none [
  ⟨some 1, .box (.t 0), none, true⟩,
  ⟨some 2, .alloc [.nils 1, .int .i64 0, .int .i64 0, .bool false, .int .i64 0, .int .i64 0], none, true⟩,
  ⟨some 3, .alloc [.int .i64 0, .int .i64 0, .int .i64 0, .int .i64 0, .int .i64 0, .int .i64 0, .int .i64 0, .int .i64 0, .int .i64 0, .int .i64 0, .nils 1, .int .i64 0], none, true⟩,
  ⟨some 4, .as (.c (.bool false)), none, true⟩] (some [1, 2, 3]) []) (
(.seq (
.reg none [
  ⟨some 12, .load true 4 (.t 1), none, true⟩,
  ⟨some 13, .call 38 [.t 12], none, true⟩,
  ⟨some 5, .alloc [.nils 1, .int .i64 0, .int .i64 0, .bool false, .int .i64 0, .int .i64 0], none, true⟩,
  ⟨none, .store 6 (.t 5) (.t 13), none, true⟩] (some [1, 2, 3, 5]) []) (
(.seq (
.reg none [
  ⟨some 6, .alloc [.int .i64 0, .int .i64 0, .int .i64 0, .int .i64 0, .int .i64 0, .int .i64 0, .int .i64 0, .int .i64 0, .int .i64 0, .int .i64 0, .nils 1, .int .i64 0], none, true⟩] (some [1, 2, 3, 5, 6]) [1001547]) (
(.seq (
(.seq (
.reg none [
  ⟨some 14, .fad 0 (.t 1), none, true⟩,
  ⟨some 15, .load false 1 (.t 14), none, true⟩,
  ⟨some 16, .len 0 (.t 15), none, true⟩,
  ⟨some 17, .mv (.c (.int .i64 0)), none, true⟩] (some [1, 2, 3, 5, 6, 16, 17]) []) (
(.block 0 (
A42_L0) (some [2, 3, 5, 6]) [7, 8, 9, 10, 11, 23, 30, 48])))) (
(.seq (
.reg (some [.dr [53, 55] [], .dr [52, 55] [2], .dr [52, 53] [], .dr [52, 53] [2, 3], .dr [52, 53] [], .dr [53, 55] [], .dr [55] [], .free]) [
  ⟨some 52, .load true 6 (.t 5), none, true⟩,
  ⟨some 53, .load true 12 (.t 6), none, true⟩,
  ⟨some 54, .fad 0 (.t 6), none, true⟩,
  ⟨some 55, .load false 1 (.t 54), none, true⟩,
  ⟨some 56, .bin .gtr (.t 55) (.c (.int .i64 0)), none, true⟩,
  ⟨none, .store 6 (.t 2) (.t 52), none, true⟩,
  ⟨none, .store 12 (.t 3) (.t 53), none, true⟩,
  ⟨some 4, .as (.t 56), none, true⟩] (some [2, 3, 4]) [5, 6]) (
.ret)))))))))))
/-- slices.ContainsFunc[[][]byte,[]byte] -/
def A48 : AFn := .code [.t 4] (
(.seq (
.reg none [
  ⟨some 4, .as (.c (.bool false)), none, true⟩] (some [0, 1]) []) (
(.seq (
.reg none [
  ⟨some 5, .mv (.t 0), none, true⟩,
  ⟨some 6, .mv (.t 1), none, true⟩,
  ⟨some 7, .call 79 [.t 5, .t 6], none, true⟩,
  ⟨some 8, .bin .geq (.t 7) (.c (.int .i64 0)), none, true⟩,
  ⟨some 4, .as (.t 8), none, true⟩] (some [4]) []) (
.ret)))))
/-- ambidexter/disk.Valid$1 -/
def A49 : AFn := .code [.t 2] (
(.seq (
.reg none [
  ⟨some 2, .as (.c (.bool false)), none, true⟩] (some [0]) []) (
(.seq (
.reg none [
  ⟨some 3, .mv (.t 0), none, true⟩,
  ⟨some 4, .len 0 (.t 3), none, true⟩,
  ⟨some 5, .bin .neq (.t 4) (.c (.int .i64 64)), none, true⟩,
  ⟨some 2, .as (.t 5), none, true⟩] (some [2]) []) (
.ret)))))
/-- ambidexter/ambidexterlaw30.fused -/
def A50 : AFn := .code [.cell true 4 4] (
(.seq (
.reg none [
  ⟨some 2, .box (.t 0), none, true⟩,
  ⟨some 3, .box (.t 1), none, true⟩,
  ⟨some 4, .alloc [.nils 1, .int .i64 0, .int .i64 0, .bool false], none, true⟩] (some [2, 3, 4]) []) (
(.seq (
(.seq (
.reg none [
  ⟨some 5, .fad 3 (.t 2), none, true⟩,
  ⟨some 6, .load false 1 (.t 5), none, true⟩,
  ⟨some 7, .un .not (.t 6), none, true⟩] (some [2, 3, 4, 7]) []) (
(.cond (.t 7) (
  (.seq (
  .reg none [
    ⟨some 8, .fad 2 (.t 3), none, true⟩,
    ⟨some 9, .load false 1 (.t 8), none, true⟩,
    ⟨some 10, .conv .i64 (.t 9), none, true⟩,
    ⟨some 11, .bin .rem (.t 10) (.c (.int .i64 9)), none, true⟩,
    ⟨some 12, .bin .add (.c (.int .i64 1)) (.t 11), none, true⟩,
    ⟨some 13, .fad 1 (.t 2), none, true⟩,
    ⟨none, .store 1 (.t 13) (.t 12), none, true⟩] (some [2, 3, 4]) []) (
  .reg none [
    ⟨some 14, .fad 3 (.t 3), none, true⟩,
    ⟨some 15, .load false 1 (.t 14), none, true⟩,
    ⟨some 16, .conv .i64 (.t 15), none, true⟩,
    ⟨some 17, .bin .rem (.t 16) (.c (.int .i64 65)), none, true⟩,
    ⟨some 18, .fad 2 (.t 2), none, true⟩,
    ⟨none, .store 1 (.t 18) (.t 17), none, true⟩] (some [2, 4]) [3]))) (
  .skip))))) (
(.seq (
.reg none [
  ⟨some 19, .load true 4 (.t 2), none, true⟩,
  ⟨none, .store 4 (.t 4) (.t 19), none, true⟩] (some [4]) [2]) (
.ret)))))))
/-- ambidexter/ambidexterref30.Up -/
def A51 : AFn := .code [.cell true 4 2] (
(.seq (
.reg none [
  ⟨some 1, .box (.t 0), none, true⟩,
  ⟨some 2, .alloc [.nils 1, .int .i64 0, .int .i64 0, .bool false], none, true⟩] (some [1, 2]) []) (
(.seq (
.reg none [
  ⟨some 3, .fad 3 (.t 1), none, true⟩,
  ⟨none, .store 1 (.t 3) (.c (.bool false)), none, true⟩] (some [1, 2]) []) (
(.seq (
.reg none [
  ⟨some 4, .load true 4 (.t 1), none, true⟩,
  ⟨none, .store 4 (.t 2) (.t 4), none, true⟩] (some [2]) [1]) (
.ret)))))))
/-- ambidexter/ambidexterref30.Write -/
def A52 : AFn := .code [.cell true 4 6, .t 7] (
(.seq (
.reg none [
  ⟨some 3, .box (.t 0), none, true⟩,
  ⟨some 6, .alloc [.nils 1, .int .i64 0, .int .i64 0, .bool false], none, true⟩,
  ⟨some 7, .as (.c (.int .i64 0)), none, true⟩] (some [1, 2, 3, 6]) []) (
(.seq (
(.seq (
.reg none [
  ⟨some 9, .fad 3 (.t 3), none, true⟩,
  ⟨some 10, .load false 1 (.t 9), none, true⟩] (some [1, 2, 3, 6, 10]) []) (
(.cond (.t 10) (
  (.seq (
  .reg none [
    ⟨some 11, .load true 4 (.t 3), none, true⟩,
    ⟨none, .store 4 (.t 6) (.t 11), none, true⟩,
    ⟨some 7, .as (.c (.int .i64 300)), none, true⟩] (some [6, 7]) [3]) (
  .ret))) (
  .skip))))) (
(.seq (
(.seq (
.reg none [
  ⟨some 12, .mv (.t 1), none, true⟩,
  ⟨some 13, .bin .lss (.t 12) (.c (.int .i64 0)), none, true⟩,
  ⟨some 14, .mv (.t 13), none, true⟩,
  ⟨some 15, .mv (.t 1), some (14, false), true⟩,
  ⟨some 16, .fad 0 (.t 3), some (14, false), true⟩,
  ⟨some 17, .load false 1 (.t 16), some (14, false), true⟩,
  ⟨some 18, .len 0 (.t 17), some (14, false), true⟩,
  ⟨some 19, .bin .geq (.t 15) (.t 18), some (14, false), true⟩,
  ⟨some 20, .pick (.t 14) (.c (.bool true)) (.t 19), none, true⟩,
  ⟨some 21, .mv (.t 20), none, true⟩,
  ⟨some 22, .mv (.t 2), some (21, false), true⟩,
  ⟨some 23, .len 0 (.t 22), some (21, false), true⟩,
  ⟨some 24, .bin .gtr (.t 23) (.c (.int .i64 64)), some (21, false), true⟩,
  ⟨some 25, .pick (.t 21) (.c (.bool true)) (.t 24), none, true⟩] (some [1, 2, 3, 6, 25]) []) (
(.cond (.t 25) (
  (.seq (
  .reg none [
    ⟨some 26, .load true 4 (.t 3), none, true⟩,
    ⟨none, .store 4 (.t 6) (.t 26), none, true⟩,
    ⟨some 7, .as (.c (.int .i64 1)), none, true⟩] (some [6, 7]) [3]) (
  .ret))) (
  .skip))))) (
(.seq (
(.seq (
.reg none [
  ⟨some 27, .fad 1 (.t 3), none, true⟩,
  ⟨some 28, .load false 1 (.t 27), none, true⟩,
  ⟨some 29, .bin .eql (.t 28) (.c (.int .i64 1)), none, true⟩] (some [1, 2, 3, 6, 29]) []) (
(.cond (.t 29) (
  (.seq (
  .reg (some [.dr [35, 37, 39] [], .dr [35, 37, 39] [], .dr [31, 35, 37, 39] [], .dr [31, 35, 37] [], .dr [31, 37] [], .dr [31, 37] [], .dr [31, 35] [], .dr [31, 35] [], .dr [31] [], .dr [31] [], .free, .free]) [
    ⟨some 30, .fad 0 (.t 3), none, true⟩,
    ⟨some 31, .load false 1 (.t 30), none, true⟩,
    ⟨some 32, .mv (.t 1), none, true⟩,
    ⟨some 33, .mv (.t 2), none, true⟩,
    ⟨some 34, .fad 2 (.t 3), none, true⟩,
    ⟨some 35, .load false 1 (.t 34), none, true⟩,
    ⟨some 36, .mv (.t 2), none, true⟩,
    ⟨some 37, .len 0 (.t 36), none, true⟩,
    ⟨some 38, .mn [.t 35, .t 37], none, true⟩,
    ⟨some 39, .sls 1 (.t 33) none (some (.t 38)), none, true⟩,
    ⟨some 40, .call 80 [.t 31, .t 32, .t 39], none, true⟩,
    ⟨some 8, .as (.t 40), none, true⟩] (some [6, 8]) [3]) (
  (.seq (
  .reg none [
    ⟨some 41, .mv (.t 8), none, true⟩,
    ⟨some 42, .build [.nils 1, .int .i64 0, .int .i64 0, .bool false] [(0, 1, .t 41), (1, 1, .c (.int .i64 (-1))), (3, 1, .c (.bool true))], none, true⟩,
    ⟨none, .store 4 (.t 6) (.t 42), none, true⟩,
    ⟨some 7, .as (.c (.int .i64 300)), none, true⟩] (some [6, 7]) []) (
  .ret))))) (
  .skip))))) (
(.seq (
.reg none [
  ⟨some 43, .fad 0 (.t 3), none, true⟩,
  ⟨some 44, .load false 1 (.t 43), none, true⟩,
  ⟨some 45, .mv (.t 1), none, true⟩,
  ⟨some 46, .mv (.t 2), none, true⟩,
  ⟨some 47, .call 80 [.t 44, .t 45, .t 46], none, true⟩,
  ⟨some 48, .fad 0 (.t 3), none, true⟩,
  ⟨none, .store 1 (.t 48) (.t 47), none, true⟩] (some [3, 6]) []) (
(.seq (
(.seq (
.reg none [
  ⟨some 49, .fad 1 (.t 3), none, true⟩,
  ⟨some 50, .load false 1 (.t 49), none, true⟩,
  ⟨some 51, .bin .gtr (.t 50) (.c (.int .i64 1)), none, true⟩] (some [3, 6, 51]) []) (
(.cond (.t 51) (
  .reg none [
    ⟨some 52, .fad 1 (.t 3), none, true⟩,
    ⟨some 53, .load false 1 (.t 52), none, true⟩,
    ⟨some 54, .bin .sub (.t 53) (.c (.int .i64 1)), none, true⟩,
    ⟨some 55, .fad 1 (.t 3), none, true⟩,
    ⟨none, .store 1 (.t 55) (.t 54), none, true⟩] (some [3, 6]) []) (
  .skip))))) (
(.seq (
.reg none [
  ⟨some 56, .load true 4 (.t 3), none, true⟩,
  ⟨none, .store 4 (.t 6) (.t 56), none, true⟩,
  ⟨some 7, .as (.c (.int .i64 0)), none, true⟩] (some [6, 7]) [3]) (
.ret)))))))))))))))
/-- ambidexter/disk.there -/
def A53 : AFn := .code [.t 4] (
(.seq (
.reg none [
  ⟨some 2, .box (.t 0), none, true⟩,
  ⟨some 4, .as (.c (.bool false)), none, true⟩] (some [1, 2]) []) (
(.seq (
.reg none [
  ⟨some 5, .mv (.t 1), none, true⟩,
  ⟨some 6, .bin .geq (.t 5) (.c (.int .i64 0)), none, true⟩,
  ⟨some 7, .mv (.t 6), none, true⟩,
  ⟨some 8, .mv (.t 1), some (7, true), true⟩,
  ⟨some 9, .fad 0 (.t 2), some (7, true), true⟩,
  ⟨some 10, .load false 1 (.t 9), some (7, true), true⟩,
  ⟨some 11, .len 0 (.t 10), some (7, true), true⟩,
  ⟨some 12, .bin .lss (.t 8) (.t 11), some (7, true), true⟩,
  ⟨some 13, .pick (.t 7) (.t 12) (.c (.bool false)), none, true⟩,
  ⟨some 4, .as (.t 13), none, true⟩] (some [4]) [2]) (
.ret)))))
/-- ambidexter/disk.Write$1 -/
def A54 : AFn := .code [.t 1] (
(.seq (
.reg none [
  ⟨some 1, .as (.c (.int .i64 0)), none, true⟩] (some [0]) []) (
(.seq (
(.seq (
.reg none [
  ⟨some 2, .fad 3 (.t 0), none, true⟩,
  ⟨some 3, .load false 1 (.t 2), none, true⟩] (some [3]) []) (
(.cond (.t 3) (
  (.seq (
  .reg none [
    ⟨some 1, .as (.c (.int .i64 300)), none, true⟩] (some [1]) []) (
  .ret))) (
  .skip))))) (
(.seq (
.reg none [
  ⟨some 1, .as (.c (.int .i64 0)), none, true⟩] (some [1]) []) (
.ret)))))))
/-- ambidexter/disk.Write$2 -/
def A55 : AFn := .code [.t 3] (
(.seq (
.reg none [
  ⟨some 3, .as (.c (.int .i64 0)), none, true⟩] (some [0, 1, 2]) []) (
(.seq (
(.seq (
.reg none [
  ⟨some 4, .load true 4 (.t 0), none, true⟩,
  ⟨some 5, .load false 1 (.t 1), none, true⟩,
  ⟨some 6, .call 53 [.t 4, .t 5], none, true⟩,
  ⟨some 7, .un .not (.t 6), none, true⟩,
  ⟨some 8, .mv (.t 7), none, true⟩,
  ⟨some 9, .load false 1 (.t 2), some (8, false), true⟩,
  ⟨some 10, .len 0 (.t 9), some (8, false), true⟩,
  ⟨some 11, .bin .gtr (.t 10) (.c (.int .i64 64)), some (8, false), true⟩,
  ⟨some 12, .pick (.t 8) (.c (.bool true)) (.t 11), none, true⟩] (some [12]) []) (
(.cond (.t 12) (
  (.seq (
  .reg none [
    ⟨some 3, .as (.c (.int .i64 1)), none, true⟩] (some [3]) []) (
  .ret))) (
  .skip))))) (
(.seq (
.reg none [
  ⟨some 3, .as (.c (.int .i64 0)), none, true⟩] (some [3]) []) (
.ret)))))))
def A56_L0b : ACode := 
  (.seq (
  .reg none [
    ⟨some 9, .bin .lss (.t 8) (.t 7), none, true⟩] (some [6, 7, 8, 9]) []) (
  (.seq (
  (.cond (.t 9) (
    .skip) (
    .exit 0))) (
  (.seq (
  (.block 1 (
  (.seq (
  .reg none [
    ⟨some 10, .ias 1 (.t 6) (.t 8), none, true⟩,
    ⟨some 11, .load false 1 (.t 10), none, true⟩,
    ⟨some 4, .as (.t 11), none, true⟩] (some [4, 6, 7, 8]) []) (
  (.seq (
  .reg none [
    ⟨some 12, .mv (.t 4), none, true⟩,
    ⟨some 13, .cal (.t 12) [], none, true⟩,
    ⟨some 5, .as (.t 13), none, true⟩] (some [5, 6, 7, 8]) []) (
  (.seq (
  .reg none [
    ⟨some 14, .mv (.t 5), none, true⟩,
    ⟨some 15, .bin .neq (.t 14) (.c (.int .i64 0)), none, true⟩] (some [5, 6, 7, 8, 15]) []) (
  (.cond (.t 15) (
    (.seq (
    .reg none [
      ⟨some 16, .mv (.t 5), none, true⟩,
      ⟨some 2, .as (.t 16), none, true⟩] (some [2]) []) (
    .ret))) (
    .skip))))))))) (some [6, 7, 8]) [2, 4, 5, 13])) (
  .reg none [
    ⟨some 17, .bin .add (.t 8) (.c (.int .i64 1)), none, true⟩,
    ⟨some 8, .mv (.t 17), none, true⟩] (some [6, 7, 8]) []))))))
def A56_L0 : ACode := .loop A56_L0b (some [6, 7, 8]) [2, 4, 5, 13]
/-- ambidexter/disk.refused -/
def A56 : AFn := .code [.t 2] (
(.seq (
.reg none [
  ⟨some 2, .as (.c (.int .i64 0)), none, true⟩] (some [0]) []) (
(.seq (
(.seq (
.reg none [
  ⟨some 6, .mv (.t 0), none, true⟩,
  ⟨some 7, .len 0 (.t 6), none, true⟩,
  ⟨some 8, .mv (.c (.int .i64 0)), none, true⟩] (some [6, 7, 8]) []) (
(.block 0 (
A56_L0) (some []) [2, 4, 5, 13])))) (
(.seq (
.reg none [
  ⟨some 2, .as (.c (.int .i64 0)), none, true⟩] (some [2]) []) (
.ret)))))))
/-- slices.Clone[[]byte,byte] -/
def A57 : AFn := .code [.t 2] (
(.seq (
.reg none [
  ⟨some 2, .as (.c (.nils 1)), none, true⟩] (some [0]) []) (
(.seq (
(.seq (
.reg none [
  ⟨some 3, .mv (.t 0), none, true⟩,
  ⟨some 4, .isn false (.t 3), none, true⟩] (some [0, 4]) []) (
(.cond (.t 4) (
  (.seq (
  .reg none [
    ⟨some 2, .as (.c (.nils 1)), none, true⟩] (some [2]) []) (
  .ret))) (
  .skip))))) (
(.seq (
.reg none [
  ⟨some 5, .bsl 1 0 [.int .u8 0] [], none, true⟩,
  ⟨some 6, .mv (.t 0), none, true⟩,
  ⟨some 7, .app 1 (.t 5) (.t 6), none, true⟩,
  ⟨some 2, .as (.t 7), none, true⟩] (some [2]) []) (
.ret)))))))
/-- ambidexter/disk.changed[[]byte] -/
def A58 : AFn := .code [.t 6] (
(.seq (
.reg none [
  ⟨some 6, .as (.c (.nils 1)), none, true⟩] (some [0, 1, 2]) []) (
(.seq (
.reg none [
  ⟨some 8, .mv (.t 0), none, true⟩,
  ⟨some 9, .call 81 [.t 8], none, true⟩,
  ⟨some 7, .as (.t 9), none, true⟩] (some [1, 2, 7]) []) (
(.seq (
.reg none [
  ⟨some 10, .mv (.t 7), none, true⟩,
  ⟨some 11, .mv (.t 1), none, true⟩,
  ⟨some 12, .mv (.t 2), none, true⟩,
  ⟨some 13, .ias 1 (.t 10) (.t 11), none, true⟩,
  ⟨none, .store 1 (.t 13) (.t 12), none, true⟩] (some [7]) []) (
(.seq (
.reg none [
  ⟨some 14, .mv (.t 7), none, true⟩,
  ⟨some 6, .as (.t 14), none, true⟩] (some [6]) []) (
.ret)))))))))
/-- ambidexter/ambidexterlaw31.One -/
def A59 : AFn := .code [.cell true 12 2] (
(.seq (
.reg none [
  ⟨some 2, .alloc [.int .i64 0, .int .i64 0, .int .i64 0, .int .i64 0, .int .i64 0, .int .i64 0, .int .i64 0, .int .i64 0, .int .i64 0, .int .i64 0, .nils 1, .int .i64 0], none, true⟩] (some [0, 2]) []) (
(.seq (
.reg none [
  ⟨some 3, .mv (.t 0), none, true⟩,
  ⟨some 4, .build [.int .i64 0, .int .i64 0, .int .i64 0] [(0, 1, .c (.int .i64 1)), (1, 1, .c (.int .i64 (-17))), (2, 1, .c (.int .i64 18))], none, true⟩,
  ⟨some 5, .build [.int .i64 0, .int .i64 0, .int .i64 0] [], none, true⟩,
  ⟨some 6, .build [.int .i64 0, .int .i64 0, .int .i64 0, .int .i64 0, .int .i64 0, .int .i64 0] [(0, 3, .t 4), (3, 3, .t 5)], none, true⟩,
  ⟨some 7, .build [.int .i64 0, .int .i64 0] [(0, 1, .c (.int .i64 (-1))), (1, 1, .c (.int .i64 2))], none, true⟩,
  ⟨some 8, .bsl 1 3 [.int .i64 0] [(0, .c (.int .i64 3)), (1, .c (.int .i64 0)), (2, .c (.int .i64 (-1)))], none, true⟩,
  ⟨some 9, .build [.int .i64 0, .int .i64 0, .int .i64 0, .int .i64 0, .int .i64 0, .int .i64 0, .int .i64 0, .int .i64 0, .nils 1] [(0, 6, .t 6), (6, 2, .t 7), (8, 1, .t 8)], none, true⟩,
  ⟨some 10, .build [.int .i64 0, .int .i64 0, .int .i64 0, .int .i64 0, .int .i64 0, .int .i64 0, .int .i64 0, .int .i64 0, .int .i64 0, .int .i64 0, .nils 1, .int .i64 0] [(0, 1, .c (.int .i64 1)), (1, 1, .t 3), (2, 9, .t 9), (11, 1, .c (.int .i64 2))], none, true⟩,
  ⟨none, .store 12 (.t 2) (.t 10), none, true⟩] (some [2]) []) (
.ret)))))
def A60_L0b : ACode := 
  (.seq (
  .reg none [
    ⟨some 8, .bin .lss (.t 7) (.t 6), none, true⟩] (some [0, 5, 6, 7, 8]) []) (
  (.seq (
  (.cond (.t 8) (
    .skip) (
    .exit 0))) (
  (.seq (
  (.block 1 (
  (.seq (
  .reg none [
    ⟨some 9, .mv (.t 5), none, true⟩,
    ⟨some 10, .bin .shl (.t 9) (.c (.int .u64 8)), none, true⟩,
    ⟨some 11, .mv (.t 0), none, true⟩,
    ⟨some 12, .nilc (.t 11), none, true⟩,
    ⟨some 13, .fad 0 (.t 12), none, true⟩,
    ⟨some 14, .load false 1 (.t 13), none, true⟩,
    ⟨some 15, .ias 1 (.t 14) (.c (.int .i64 0)), none, true⟩,
    ⟨some 16, .load false 1 (.t 15), none, true⟩,
    ⟨some 17, .conv .i64 (.t 16), none, true⟩,
    ⟨some 18, .bin .or (.t 10) (.t 17), none, true⟩,
    ⟨some 5, .as (.t 18), none, true⟩] (some [0, 5, 6, 7]) []) (
  .reg none [
    ⟨some 19, .mv (.t 0), none, true⟩,
    ⟨some 20, .mv (.t 0), none, true⟩,
    ⟨some 21, .nilc (.t 20), none, true⟩,
    ⟨some 22, .fad 0 (.t 21), none, true⟩,
    ⟨some 23, .load false 1 (.t 22), none, true⟩,
    ⟨some 24, .sls 1 (.t 23) (some (.c (.int .i64 1))) none, none, true⟩,
    ⟨some 25, .nilc (.t 19), none, true⟩,
    ⟨some 26, .fad 0 (.t 25), none, true⟩,
    ⟨none, .store 1 (.t 26) (.t 24), none, true⟩] (some [0, 5, 6, 7]) []))) (some [0, 5, 6, 7]) [])) (
  .reg none [
    ⟨some 27, .bin .add (.t 7) (.c (.int .i64 1)), none, true⟩,
    ⟨some 7, .mv (.t 27), none, true⟩] (some [0, 5, 6, 7]) []))))))
def A60_L0 : ACode := .loop A60_L0b (some [0, 5, 6, 7]) []
/-- (*ambidexter/journal.bytes).next -/
def A60 : AFn := .code [.t 4] (
(.seq (
.reg none [
  ⟨some 4, .as (.c (.int .i64 0)), none, true⟩] (some [0, 1]) []) (
(.seq (
.reg none [
  ⟨some 5, .as (.c (.int .i64 0)), none, true⟩] (some [0, 1, 5]) []) (
(.seq (
(.seq (
.reg none [
  ⟨some 6, .mv (.t 1), none, true⟩,
  ⟨some 7, .mv (.c (.int .i64 0)), none, true⟩] (some [0, 5, 6, 7]) []) (
(.block 0 (
A60_L0) (some [5]) [])))) (
(.seq (
.reg none [
  ⟨some 28, .mv (.t 5), none, true⟩,
  ⟨some 4, .as (.t 28), none, true⟩] (some [4]) []) (
.ret)))))))))
def A61_L0b : ACode := 
  (.seq (
  .reg none [
    ⟨some 37, .bin .lss (.t 36) (.t 35), none, true⟩] (some [1, 34, 35, 36, 37]) []) (
  (.seq (
  (.cond (.t 37) (
    .skip) (
    .exit 4))) (
  (.seq (
  (.block 5 (
  (.seq (
  .reg none [
    ⟨some 38, .ias 1 (.t 34) (.t 36), none, true⟩,
    ⟨some 39, .load false 1 (.t 38), none, true⟩,
    ⟨some 8, .as (.t 39), none, true⟩] (some [1, 8, 34, 35, 36]) []) (
  (.seq (
  .reg none [
    ⟨some 40, .mv (.t 8), none, true⟩,
    ⟨some 41, .call 82 [.t 40, .c (.int .i64 (-1)), .c (.int .i64 15)], none, true⟩,
    ⟨some 42, .un .not (.t 41), none, true⟩] (some [1, 34, 35, 36, 42]) []) (
  (.cond (.t 42) (
    (.seq (
    .reg none [
      ⟨some 2, .as (.c (.bool false)), none, true⟩] (some [2]) []) (
    .ret))) (
    .skip))))))) (some [1, 34, 35, 36]) [2, 8, 41])) (
  .reg none [
    ⟨some 43, .bin .add (.t 36) (.c (.int .i64 1)), none, true⟩,
    ⟨some 36, .mv (.t 43), none, true⟩] (some [1, 34, 35, 36]) []))))))
def A61_L0 : ACode := .loop A61_L0b (some [1, 34, 35, 36]) [2, 8, 41]
def A61_L1b : ACode := 
    (.seq (
    .reg none [
      ⟨some 18, .bin .lss (.t 17) (.c (.int .i64 3)), none, true⟩] (some [1, 3, 11, 12, 16, 17, 18]) []) (
    (.seq (
    (.cond (.t 18) (
      .skip) (
      .exit 2))) (
    (.seq (
    (.block 3 (
    (.seq (
    .reg none [
      ⟨some 19, .ixa false 3 1 (.t 16) (.t 17), none, true⟩,
      ⟨some 6, .as (.t 19), none, true⟩] (some [1, 3, 6, 11, 12, 16, 17]) []) (
    (.seq (
    .reg none [
      ⟨some 20, .mv (.t 6), none, true⟩,
      ⟨some 21, .call 82 [.t 20, .c (.int .i64 (-17)), .c (.int .i64 18)], none, true⟩,
      ⟨some 22, .un .not (.t 21), none, true⟩] (some [1, 3, 11, 12, 16, 17, 22]) []) (
    (.cond (.t 22) (
      (.seq (
      .reg none [
        ⟨some 2, .as (.c (.bool false)), none, true⟩] (some [2]) []) (
      .ret))) (
      .skip))))))) (some [1, 3, 11, 12, 16, 17]) [2, 6, 21])) (
    .reg none [
      ⟨some 23, .bin .add (.t 17) (.c (.int .i64 1)), none, true⟩,
      ⟨some 17, .mv (.t 23), none, true⟩] (some [1, 3, 11, 12, 16, 17]) []))))))
def A61_L1 : ACode := .loop A61_L1b (some [1, 3, 11, 12, 16, 17]) [2, 6, 21]
def A61_L2b : ACode := 
  (.seq (
  .reg none [
    ⟨some 13, .bin .lss (.t 12) (.c (.int .i64 2)), none, true⟩] (some [1, 11, 12, 13]) []) (
  (.seq (
  (.cond (.t 13) (
    .skip) (
    .exit 0))) (
  (.seq (
  (.block 1 (
  (.seq (
  .reg none [
    ⟨some 14, .mv (.t 12), none, true⟩,
    ⟨some 15, .ixa true 2 3 (.t 11) (.t 12), none, true⟩,
    ⟨some 4, .alloc [.int .i64 0, .int .i64 0, .int .i64 0], none, true⟩,
    ⟨some 3, .as (.t 14), none, true⟩,
    ⟨none, .store 3 (.t 4) (.t 15), none, true⟩] (some [1, 3, 4, 11, 12]) []) (
  (.seq (
  (.seq (
  .reg none [
    ⟨some 16, .load true 3 (.t 4), none, true⟩,
    ⟨some 17, .mv (.c (.int .i64 0)), none, true⟩] (some [1, 3, 11, 12, 16, 17]) [4]) (
  (.block 2 (
  A61_L1) (some [1, 3, 11, 12]) [2, 6, 21])))) (
  (.seq (
  .reg none [
    ⟨some 24, .mv (.t 3), none, true⟩,
    ⟨some 25, .fad 2 (.t 1), none, true⟩,
    ⟨some 26, .fad 6 (.t 25), none, true⟩,
    ⟨some 27, .iaa 2 1 (.t 26) (.t 24), none, true⟩,
    ⟨some 28, .load false 1 (.t 27), none, true⟩,
    ⟨some 29, .call 82 [.t 28, .c (.int .i64 (-1)), .c (.int .i64 7)], none, true⟩,
    ⟨some 30, .un .not (.t 29), none, true⟩] (some [1, 11, 12, 30]) []) (
  (.cond (.t 30) (
    (.seq (
    .reg none [
      ⟨some 2, .as (.c (.bool false)), none, true⟩] (some [2]) []) (
    .ret))) (
    .skip))))))))) (some [1, 11, 12]) [2, 3, 4, 6, 21, 29])) (
  .reg none [
    ⟨some 31, .bin .add (.t 12) (.c (.int .i64 1)), none, true⟩,
    ⟨some 12, .mv (.t 31), none, true⟩] (some [1, 11, 12]) []))))))
def A61_L2 : ACode := .loop A61_L2b (some [1, 11, 12]) [2, 3, 4, 6, 21, 29]
/-- ambidexter/journal.may -/
def A61 : AFn := .code [.t 2] (
(.seq (
.reg none [
  ⟨some 1, .box (.t 0), none, true⟩,
  ⟨some 2, .as (.c (.bool false)), none, true⟩] (some [1]) []) (
(.seq (
(.seq (
.reg none [
  ⟨some 9, .fad 2 (.t 1), none, true⟩,
  ⟨some 10, .fad 0 (.t 9), none, true⟩,
  ⟨some 11, .load true 6 (.t 10), none, true⟩,
  ⟨some 12, .mv (.c (.int .i64 0)), none, true⟩] (some [1, 11, 12]) []) (
(.block 0 (
A61_L2) (some [1]) [2, 3, 4, 6, 21, 29])))) (
(.seq (
(.seq (
.reg none [
  ⟨some 32, .fad 2 (.t 1), none, true⟩,
  ⟨some 33, .fad 8 (.t 32), none, true⟩,
  ⟨some 34, .load false 1 (.t 33), none, true⟩,
  ⟨some 35, .len 0 (.t 34), none, true⟩,
  ⟨some 36, .mv (.c (.int .i64 0)), none, true⟩] (some [1, 34, 35, 36]) []) (
(.block 4 (
A61_L0) (some [1]) [2, 8, 41])))) (
(.seq (
.reg none [
  ⟨some 44, .fad 0 (.t 1), none, true⟩,
  ⟨some 45, .load false 1 (.t 44), none, true⟩,
  ⟨some 46, .call 82 [.t 45, .c (.int .i64 1), .c (.int .i64 1073741824)], none, true⟩,
  ⟨some 47, .mv (.t 46), none, true⟩,
  ⟨some 48, .fad 1 (.t 1), some (47, true), true⟩,
  ⟨some 49, .load false 1 (.t 48), some (47, true), true⟩,
  ⟨some 50, .call 82 [.t 49, .c (.int .i64 0), .c (.int .i64 300)], some (47, true), true⟩,
  ⟨some 51, .pick (.t 47) (.t 50) (.c (.bool false)), none, true⟩,
  ⟨some 52, .mv (.t 51), none, true⟩,
  ⟨some 53, .fad 2 (.t 1), some (52, true), true⟩,
  ⟨some 54, .fad 8 (.t 53), some (52, true), true⟩,
  ⟨some 55, .load false 1 (.t 54), some (52, true), true⟩,
  ⟨some 56, .len 0 (.t 55), some (52, true), true⟩,
  ⟨some 57, .bin .leq (.t 56) (.c (.int .i64 8)), some (52, true), true⟩,
  ⟨some 58, .pick (.t 52) (.t 57) (.c (.bool false)), none, true⟩,
  ⟨some 59, .mv (.t 58), none, true⟩,
  ⟨some 60, .fad 11 (.t 1), some (59, true), true⟩,
  ⟨some 61, .load false 1 (.t 60), some (59, true), true⟩,
  ⟨some 62, .call 82 [.t 61, .c (.int .i64 1), .c (.int .i64 5)], some (59, true), true⟩,
  ⟨some 63, .pick (.t 59) (.t 62) (.c (.bool false)), none, true⟩,
  ⟨some 2, .as (.t 63), none, true⟩] (some [2]) [1]) (
.ret)))))))))
def A62_L0b : ACode := 
  (.seq (
  .reg none [
    ⟨some 14, .bin .lss (.t 13) (.t 12), none, true⟩] (some [0, 1, 12, 13, 14]) []) (
  (.seq (
  (.cond (.t 14) (
    .skip) (
    .exit 0))) (
  (.seq (
  (.block 1 (
  (.seq (
  .reg none [
    ⟨some 15, .mv (.t 13), none, true⟩,
    ⟨some 5, .as (.t 15), none, true⟩] (some [0, 1, 5, 12, 13]) []) (
  (.seq (
  .reg (some [.dr [22, 23] [], .dr [22, 23] [], .dr [22, 23] [], .dr [22, 23] [], .dr [18, 19] [], .dr [18, 19] [], .dr [18, 19] [], .dr [18, 19] [], .free]) [
    ⟨some 16, .mv (.t 0), none, true⟩,
    ⟨some 17, .mv (.t 5), none, true⟩,
    ⟨some 18, .ias 1 (.t 16) (.t 17), none, true⟩,
    ⟨some 19, .load false 1 (.t 18), none, true⟩,
    ⟨some 20, .mv (.t 1), none, true⟩,
    ⟨some 21, .mv (.t 5), none, true⟩,
    ⟨some 22, .ias 1 (.t 20) (.t 21), none, true⟩,
    ⟨some 23, .load false 1 (.t 22), none, true⟩,
    ⟨some 24, .bin .neq (.t 19) (.t 23), none, true⟩] (some [0, 1, 12, 13, 24]) []) (
  (.cond (.t 24) (
    (.seq (
    .reg none [
      ⟨some 4, .as (.c (.bool false)), none, true⟩] (some [4]) []) (
    .ret))) (
    .skip))))))) (some [0, 1, 12, 13]) [4, 5])) (
  .reg none [
    ⟨some 25, .bin .add (.t 13) (.c (.int .i64 1)), none, true⟩,
    ⟨some 13, .mv (.t 25), none, true⟩] (some [0, 1, 12, 13]) []))))))
def A62_L0 : ACode := .loop A62_L0b (some [0, 1, 12, 13]) [4, 5]
/-- slices.Equal[[]byte,byte] -/
def A62 : AFn := .code [.t 4] (
(.seq (
.reg none [
  ⟨some 4, .as (.c (.bool false)), none, true⟩] (some [0, 1]) []) (
(.seq (
(.seq (
.reg none [
  ⟨some 6, .mv (.t 0), none, true⟩,
  ⟨some 7, .len 0 (.t 6), none, true⟩,
  ⟨some 8, .mv (.t 1), none, true⟩,
  ⟨some 9, .len 0 (.t 8), none, true⟩,
  ⟨some 10, .bin .neq (.t 7) (.t 9), none, true⟩] (some [0, 1, 10]) []) (
(.cond (.t 10) (
  (.seq (
  .reg none [
    ⟨some 4, .as (.c (.bool false)), none, true⟩] (some [4]) []) (
  .ret))) (
  .skip))))) (
(.seq (
(.seq (
.reg none [
  ⟨some 11, .mv (.t 0), none, true⟩,
  ⟨some 12, .len 0 (.t 11), none, true⟩,
  ⟨some 13, .mv (.c (.int .i64 0)), none, true⟩] (some [0, 1, 12, 13]) []) (
(.block 0 (
A62_L0) (some []) [4, 5])))) (
(.seq (
.reg none [
  ⟨some 4, .as (.c (.bool true)), none, true⟩] (some [4]) []) (
.ret)))))))))
def A63_L0b : ACode := 
  (.seq (
  .reg none [
    ⟨some 28, .bin .lss (.t 27) (.t 26), none, true⟩] (some [6, 25, 26, 27, 28]) []) (
  (.seq (
  (.cond (.t 28) (
    .skip) (
    .exit 2))) (
  (.seq (
  (.block 3 (
  (.seq (
  .reg none [
    ⟨some 29, .ias 1 (.t 25) (.t 27), none, true⟩,
    ⟨some 30, .load false 1 (.t 29), none, true⟩,
    ⟨some 8, .as (.t 30), none, true⟩] (some [6, 8, 25, 26, 27]) []) (
  .reg none [
    ⟨some 31, .mv (.t 6), none, true⟩,
    ⟨some 32, .mv (.t 8), none, true⟩,
    ⟨some 33, .app 1 (.t 31) (.t 32), none, true⟩,
    ⟨some 6, .as (.t 33), none, true⟩] (some [6, 25, 26, 27]) []))) (some [6, 25, 26, 27]) [8])) (
  .reg none [
    ⟨some 34, .bin .add (.t 27) (.c (.int .i64 1)), none, true⟩,
    ⟨some 27, .mv (.t 34), none, true⟩] (some [6, 25, 26, 27]) []))))))
def A63_L0 : ACode := .loop A63_L0b (some [6, 25, 26, 27]) [8]
def A63_L1b : ACode := 
  (.seq (
  .reg none [
    ⟨some 12, .bin .lss (.t 11) (.t 10), none, true⟩] (some [0, 3, 9, 10, 11, 12]) []) (
  (.seq (
  (.cond (.t 12) (
    .skip) (
    .exit 0))) (
  (.seq (
  (.block 1 (
  (.seq (
  .reg none [
    ⟨some 13, .ias 1 (.t 9) (.t 11), none, true⟩,
    ⟨some 14, .load false 1 (.t 13), none, true⟩,
    ⟨some 5, .as (.t 14), none, true⟩] (some [0, 3, 5, 9, 10, 11]) []) (
  (.seq (
  .reg none [
    ⟨some 15, .mv (.t 3), none, true⟩,
    ⟨some 16, .mv (.t 5), none, true⟩,
    ⟨some 17, .len 0 (.t 16), none, true⟩,
    ⟨some 18, .bin .add (.t 15) (.t 17), none, true⟩,
    ⟨some 3, .as (.t 18), none, true⟩] (some [0, 3, 9, 10, 11]) []) (
  (.seq (
  .reg none [
    ⟨some 19, .mv (.t 3), none, true⟩,
    ⟨some 20, .bin .lss (.t 19) (.c (.int .i64 0)), none, true⟩] (some [0, 3, 9, 10, 11, 20]) []) (
  (.cond (.t 20) (
    .reg none [
      ⟨some 21, .bad, none, true⟩,
      ⟨none, .bad, none, true⟩] (some [0, 3, 9, 10, 11]) []) (
    .skip))))))))) (some [0, 3, 9, 10, 11]) [5])) (
  .reg none [
    ⟨some 22, .bin .add (.t 11) (.c (.int .i64 1)), none, true⟩,
    ⟨some 11, .mv (.t 22), none, true⟩] (some [0, 3, 9, 10, 11]) []))))))
def A63_L1 : ACode := .loop A63_L1b (some [0, 3, 9, 10, 11]) [5]
/-- slices.Concat[[]byte,byte] -/
def A63 : AFn := .code [.t 2] (
(.seq (
.reg none [
  ⟨some 2, .as (.c (.nils 1)), none, true⟩] (some [0]) []) (
(.seq (
.reg none [
  ⟨some 3, .as (.c (.int .i64 0)), none, true⟩] (some [0, 3]) []) (
(.seq (
(.seq (
.reg none [
  ⟨some 9, .mv (.t 0), none, true⟩,
  ⟨some 10, .len 0 (.t 9), none, true⟩,
  ⟨some 11, .mv (.c (.int .i64 0)), none, true⟩] (some [0, 3, 9, 10, 11]) []) (
(.block 0 (
A63_L1) (some [0, 3]) [5])))) (
(.seq (
.reg none [
  ⟨some 23, .mv (.t 3), none, true⟩,
  ⟨some 24, .call 83 [.c (.nul), .t 23], none, true⟩,
  ⟨some 6, .as (.t 24), none, true⟩] (some [0, 6]) []) (
(.seq (
(.seq (
.reg none [
  ⟨some 25, .mv (.t 0), none, true⟩,
  ⟨some 26, .len 0 (.t 25), none, true⟩,
  ⟨some 27, .mv (.c (.int .i64 0)), none, true⟩] (some [6, 25, 26, 27]) []) (
(.block 2 (
A63_L0) (some [6]) [8])))) (
(.seq (
.reg none [
  ⟨some 35, .mv (.t 6), none, true⟩,
  ⟨some 2, .as (.t 35), none, true⟩] (some [2]) []) (
.ret)))))))))))))
def A64_L0b : ACode := 
  (.seq (
  .reg none [
    ⟨some 11, .bin .lss (.t 10) (.t 9), none, true⟩] (some [0, 5, 8, 9, 10, 11]) []) (
  (.seq (
  (.cond (.t 11) (
    .skip) (
    .exit 0))) (
  (.seq (
  (.block 1 (
  (.seq (
  .reg none [
    ⟨some 12, .ias 1 (.t 8) (.t 10), none, true⟩,
    ⟨some 13, .load false 1 (.t 12), none, true⟩,
    ⟨some 7, .as (.t 13), none, true⟩] (some [0, 5, 7, 8, 9, 10]) []) (
  .reg none [
    ⟨some 14, .mv (.t 5), none, true⟩,
    ⟨some 15, .mv (.t 7), none, true⟩,
    ⟨some 16, .mv (.t 0), none, true⟩,
    ⟨some 17, .bin .add (.t 15) (.t 16), none, true⟩,
    ⟨some 18, .conv .u8 (.t 17), none, true⟩,
    ⟨some 19, .bsl 1 1 [.int .u8 0] [(0, .t 18)], none, true⟩,
    ⟨some 20, .app 1 (.t 14) (.t 19), none, true⟩,
    ⟨some 5, .as (.t 20), none, true⟩] (some [0, 5, 8, 9, 10]) []))) (some [0, 5, 8, 9, 10]) [7, 19])) (
  .reg none [
    ⟨some 21, .bin .add (.t 10) (.c (.int .i64 1)), none, true⟩,
    ⟨some 10, .mv (.t 21), none, true⟩] (some [0, 5, 8, 9, 10]) []))))))
def A64_L0 : ACode := .loop A64_L0b (some [0, 5, 8, 9, 10]) [7, 19]
/-- ambidexter/journal.row -/
def A64 : AFn := .code [.t 4] (
(.seq (
.reg none [
  ⟨some 4, .as (.c (.nils 1)), none, true⟩] (some [0, 1]) []) (
(.seq (
.reg none [
  ⟨some 5, .as (.c (.nils 1)), none, true⟩] (some [0, 1, 5]) []) (
(.seq (
(.seq (
.reg none [
  ⟨some 8, .mv (.t 1), none, true⟩,
  ⟨some 9, .len 0 (.t 8), none, true⟩,
  ⟨some 10, .mv (.c (.int .i64 0)), none, true⟩] (some [0, 5, 8, 9, 10]) []) (
(.block 0 (
A64_L0) (some [5]) [7, 19])))) (
(.seq (
.reg none [
  ⟨some 22, .mv (.t 5), none, true⟩,
  ⟨some 4, .as (.t 22), none, true⟩] (some [4]) []) (
.ret)))))))))
def A65_L0b : ACode := 
  (.seq (
  (.seq (
  .reg none [
    ⟨some 11, .mv (.t 6), none, true⟩,
    ⟨some 12, .bin .geq (.t 11) (.c (.int .i64 0)), none, true⟩] (some [0, 5, 6, 12]) []) (
  (.cond (.t 12) (
    .skip) (
    .exit 0))))) (
  (.seq (
  (.block 1 (
  (.seq (
  .reg none [
    ⟨some 15, .mv (.t 5), none, true⟩,
    ⟨some 16, .mv (.t 6), none, true⟩,
    ⟨some 17, .mv (.t 0), none, true⟩,
    ⟨some 18, .conv .u8 (.t 17), none, true⟩,
    ⟨some 19, .ias 1 (.t 15) (.t 16), none, true⟩,
    ⟨none, .store 1 (.t 19) (.t 18), none, true⟩] (some [0, 5, 6]) []) (
  .reg none [
    ⟨some 20, .mv (.t 0), none, true⟩,
    ⟨some 21, .bin .shr (.t 20) (.c (.int .u64 8)), none, true⟩,
    ⟨some 0, .as (.t 21), none, true⟩] (some [0, 5, 6]) []))) (some [0, 5, 6]) [])) (
  .reg none [
    ⟨some 13, .mv (.t 6), none, true⟩,
    ⟨some 14, .bin .sub (.t 13) (.c (.int .i64 1)), none, true⟩,
    ⟨some 6, .as (.t 14), none, true⟩] (some [0, 5, 6]) []))))
def A65_L0 : ACode := .loop A65_L0b (some [0, 5, 6]) []
/-- ambidexter/journal.wide -/
def A65 : AFn := .code [.t 4] (
(.seq (
.reg none [
  ⟨some 4, .as (.c (.nils 1)), none, true⟩] (some [0, 1]) []) (
(.seq (
.reg none [
  ⟨some 7, .mv (.t 1), none, true⟩,
  ⟨some 8, .mks 1 [.int .u8 0] (.t 7) (.t 7), none, true⟩,
  ⟨some 5, .as (.t 8), none, true⟩] (some [0, 1, 5]) []) (
(.seq (
(.seq (
.reg none [
  ⟨some 9, .mv (.t 1), none, true⟩,
  ⟨some 10, .bin .sub (.t 9) (.c (.int .i64 1)), none, true⟩,
  ⟨some 6, .as (.t 10), none, true⟩] (some [0, 5, 6]) []) (
(.block 0 (
A65_L0) (some [5]) [0, 6])))) (
(.seq (
.reg none [
  ⟨some 22, .mv (.t 5), none, true⟩,
  ⟨some 4, .as (.t 22), none, true⟩] (some [4]) []) (
.ret)))))))))
def A66_L0b : ACode := 
  (.seq (
  .reg none [
    ⟨some 9, .bin .lss (.t 8) (.t 7), none, true⟩] (some [3, 6, 7, 8, 9]) []) (
  (.seq (
  (.cond (.t 9) (
    .skip) (
    .exit 0))) (
  (.seq (
  (.block 1 (
  (.seq (
  .reg none [
    ⟨some 10, .mv (.t 8), none, true⟩,
    ⟨some 11, .ias 1 (.t 6) (.t 8), none, true⟩,
    ⟨some 12, .load false 1 (.t 11), none, true⟩,
    ⟨some 4, .as (.t 10), none, true⟩,
    ⟨some 5, .as (.t 12), none, true⟩] (some [3, 4, 5, 6, 7, 8]) []) (
  .reg none [
    ⟨some 13, .mv (.t 3), none, true⟩,
    ⟨some 14, .mv (.t 4), none, true⟩,
    ⟨some 15, .bin .add (.t 14) (.c (.int .i64 1)), none, true⟩,
    ⟨some 16, .mv (.t 5), none, true⟩,
    ⟨some 17, .conv .i64 (.t 16), none, true⟩,
    ⟨some 18, .bin .mul (.t 15) (.t 17), none, true⟩,
    ⟨some 19, .bin .add (.t 13) (.t 18), none, true⟩,
    ⟨some 3, .as (.t 19), none, true⟩] (some [3, 6, 7, 8]) []))) (some [3, 6, 7, 8]) [4, 5])) (
  .reg none [
    ⟨some 20, .bin .add (.t 8) (.c (.int .i64 1)), none, true⟩,
    ⟨some 8, .mv (.t 20), none, true⟩] (some [3, 6, 7, 8]) []))))))
def A66_L0 : ACode := .loop A66_L0b (some [3, 6, 7, 8]) [4, 5]
/-- ambidexter/journal.sum -/
def A66 : AFn := .code [.t 2] (
(.seq (
.reg none [
  ⟨some 2, .as (.c (.int .i64 0)), none, true⟩] (some [0]) []) (
(.seq (
.reg none [
  ⟨some 3, .as (.c (.int .i64 0)), none, true⟩] (some [0, 3]) []) (
(.seq (
(.seq (
.reg none [
  ⟨some 6, .mv (.t 0), none, true⟩,
  ⟨some 7, .len 0 (.t 6), none, true⟩,
  ⟨some 8, .mv (.c (.int .i64 0)), none, true⟩] (some [3, 6, 7, 8]) []) (
(.block 0 (
A66_L0) (some [3]) [4, 5])))) (
(.seq (
.reg none [
  ⟨some 21, .mv (.t 3), none, true⟩,
  ⟨some 22, .bin .rem (.t 21) (.c (.int .i64 65521)), none, true⟩,
  ⟨some 2, .as (.t 22), none, true⟩] (some [2]) []) (
.ret)))))))))
/-- ambidexter/ambidexterref31.in -/
def A67 : AFn := .code [.t 6] (
(.seq (
.reg none [
  ⟨some 6, .as (.c (.bool false)), none, true⟩] (some [0, 1, 2]) []) (
(.seq (
.reg none [
  ⟨some 7, .mv (.t 0), none, true⟩,
  ⟨some 8, .mv (.t 1), none, true⟩,
  ⟨some 9, .bin .geq (.t 7) (.t 8), none, true⟩,
  ⟨some 10, .mv (.t 9), none, true⟩,
  ⟨some 11, .mv (.t 0), some (10, true), true⟩,
  ⟨some 12, .mv (.t 2), some (10, true), true⟩,
  ⟨some 13, .bin .leq (.t 11) (.t 12), some (10, true), true⟩,
  ⟨some 14, .pick (.t 10) (.t 13) (.c (.bool false)), none, true⟩,
  ⟨some 6, .as (.t 14), none, true⟩] (some [6]) []) (
.ret)))))
/-- ambidexter/journal.after -/
def A68 : AFn := .code [.t 4] (
(.seq (
.reg none [
  ⟨some 2, .box (.t 0), none, true⟩,
  ⟨some 4, .as (.c (.int .i64 0)), none, true⟩] (some [1, 2]) []) (
(.seq (
.reg none [
  ⟨some 5, .mv (.t 1), none, true⟩,
  ⟨some 6, .bin .add (.t 5) (.c (.int .i64 1)), none, true⟩,
  ⟨some 7, .fad 0 (.t 2), none, true⟩,
  ⟨some 8, .load false 1 (.t 7), none, true⟩,
  ⟨some 9, .len 0 (.t 8), none, true⟩,
  ⟨some 10, .mx [.c (.int .i64 1), .t 9], none, true⟩,
  ⟨some 11, .bin .rem (.t 6) (.t 10), none, true⟩,
  ⟨some 4, .as (.t 11), none, true⟩] (some [4]) [2]) (
.ret)))))
def A79_L0b : ACode := 
  (.seq (
  .reg none [
    ⟨some 9, .bin .lss (.t 8) (.t 7), none, true⟩] (some [0, 1, 7, 8, 9]) []) (
  (.seq (
  (.cond (.t 9) (
    .skip) (
    .exit 0))) (
  (.seq (
  (.block 1 (
  (.seq (
  .reg none [
    ⟨some 10, .mv (.t 8), none, true⟩,
    ⟨some 5, .as (.t 10), none, true⟩] (some [0, 1, 5, 7, 8]) []) (
  (.seq (
  .reg none [
    ⟨some 11, .mv (.t 1), none, true⟩,
    ⟨some 12, .mv (.t 0), none, true⟩,
    ⟨some 13, .mv (.t 5), none, true⟩,
    ⟨some 14, .ias 1 (.t 12) (.t 13), none, true⟩,
    ⟨some 15, .load false 1 (.t 14), none, true⟩,
    ⟨some 16, .cal (.t 11) [.t 15], none, true⟩] (some [0, 1, 5, 7, 8, 16]) []) (
  (.cond (.t 16) (
    (.seq (
    .reg none [
      ⟨some 17, .mv (.t 5), none, true⟩,
      ⟨some 4, .as (.t 17), none, true⟩] (some [4]) []) (
    .ret))) (
    .skip))))))) (some [0, 1, 7, 8]) [4, 5, 16])) (
  .reg none [
    ⟨some 18, .bin .add (.t 8) (.c (.int .i64 1)), none, true⟩,
    ⟨some 8, .mv (.t 18), none, true⟩] (some [0, 1, 7, 8]) []))))))
def A79_L0 : ACode := .loop A79_L0b (some [0, 1, 7, 8]) [4, 5, 16]
/-- slices.IndexFunc[[][]byte,[]byte] -/
def A79 : AFn := .code [.t 4] (
(.seq (
.reg none [
  ⟨some 4, .as (.c (.int .i64 0)), none, true⟩] (some [0, 1]) []) (
(.seq (
(.seq (
.reg none [
  ⟨some 6, .mv (.t 0), none, true⟩,
  ⟨some 7, .len 0 (.t 6), none, true⟩,
  ⟨some 8, .mv (.c (.int .i64 0)), none, true⟩] (some [0, 1, 7, 8]) []) (
(.block 0 (
A79_L0) (some []) [4, 5, 16])))) (
(.seq (
.reg none [
  ⟨some 4, .as (.c (.int .i64 (-1))), none, true⟩] (some [4]) []) (
.ret)))))))
def A80_L0b : ACode := 
  (.seq (
  (.seq (
  .reg none [
    ⟨some 11, .mv (.t 8), none, true⟩,
    ⟨some 12, .mv (.t 0), none, true⟩,
    ⟨some 13, .len 0 (.t 12), none, true⟩,
    ⟨some 14, .bin .lss (.t 11) (.t 13), none, true⟩] (some [0, 1, 2, 7, 8, 14]) []) (
  (.cond (.t 14) (
    .skip) (
    .exit 0))))) (
  (.seq (
  (.block 1 (
  (.seq (
  (.seq (
  .reg none [
    ⟨some 17, .mv (.t 8), none, true⟩,
    ⟨some 18, .mv (.t 1), none, true⟩,
    ⟨some 19, .bin .neq (.t 17) (.t 18), none, true⟩] (some [0, 1, 2, 7, 8, 19]) []) (
  (.cond (.t 19) (
    (.seq (
    .reg none [
      ⟨some 20, .mv (.t 7), none, true⟩,
      ⟨some 21, .mv (.t 0), none, true⟩,
      ⟨some 22, .mv (.t 8), none, true⟩,
      ⟨some 23, .ias 1 (.t 21) (.t 22), none, true⟩,
      ⟨some 24, .load false 1 (.t 23), none, true⟩,
      ⟨some 25, .bsl 1 1 [.nils 1] [(0, .t 24)], none, true⟩,
      ⟨some 26, .app 1 (.t 20) (.t 25), none, true⟩,
      ⟨some 7, .as (.t 26), none, true⟩] (some [0, 1, 2, 7, 8]) []) (
    .exit 1))) (
    .skip))))) (
  (.seq (
  .reg none [
    ⟨some 27, .bsl 1 0 [.int .u8 0] [], none, true⟩,
    ⟨some 28, .mv (.t 2), none, true⟩,
    ⟨some 29, .app 1 (.t 27) (.t 28), none, true⟩,
    ⟨some 9, .as (.t 29), none, true⟩] (some [0, 1, 2, 7, 8, 9]) []) (
  (.seq (
  .reg none [
    ⟨some 30, .mv (.t 9), none, true⟩,
    ⟨some 31, .mv (.t 0), none, true⟩,
    ⟨some 32, .mv (.t 8), none, true⟩,
    ⟨some 33, .ias 1 (.t 31) (.t 32), none, true⟩,
    ⟨some 34, .load false 1 (.t 33), none, true⟩,
    ⟨some 35, .mv (.t 2), none, true⟩,
    ⟨some 36, .len 0 (.t 35), none, true⟩,
    ⟨some 37, .sls 1 (.t 34) (some (.t 36)) none, none, true⟩,
    ⟨some 38, .app 1 (.t 30) (.t 37), none, true⟩,
    ⟨some 9, .as (.t 38), none, true⟩] (some [0, 1, 2, 7, 8, 9]) []) (
  .reg none [
    ⟨some 39, .mv (.t 7), none, true⟩,
    ⟨some 40, .mv (.t 9), none, true⟩,
    ⟨some 41, .bsl 1 1 [.nils 1] [(0, .t 40)], none, true⟩,
    ⟨some 42, .app 1 (.t 39) (.t 41), none, true⟩,
    ⟨some 7, .as (.t 42), none, true⟩] (some [0, 1, 2, 7, 8]) []))))))) (some [0, 1, 2, 7, 8]) [9, 25, 27, 29, 38, 41])) (
  .reg none [
    ⟨some 15, .mv (.t 8), none, true⟩,
    ⟨some 16, .bin .add (.t 15) (.c (.int .i64 1)), none, true⟩,
    ⟨some 8, .as (.t 16), none, true⟩] (some [0, 1, 2, 7, 8]) []))))
def A80_L0 : ACode := .loop A80_L0b (some [0, 1, 2, 7, 8]) [9, 25, 27, 29, 38, 41]
/-- ambidexter/ambidexterref30.laid -/
def A80 : AFn := .code [.t 6] (
(.seq (
.reg none [
  ⟨some 6, .as (.c (.nils 1)), none, true⟩] (some [0, 1, 2]) []) (
(.seq (
.reg none [
  ⟨some 10, .bsl 1 0 [.nils 1] [], none, true⟩,
  ⟨some 7, .as (.t 10), none, true⟩] (some [0, 1, 2, 7]) []) (
(.seq (
(.seq (
.reg none [
  ⟨some 8, .as (.c (.int .i64 0)), none, true⟩] (some [0, 1, 2, 7, 8]) []) (
(.block 0 (
A80_L0) (some [7]) [8, 9, 25, 27, 29, 38, 41])))) (
(.seq (
.reg none [
  ⟨some 43, .mv (.t 7), none, true⟩,
  ⟨some 6, .as (.t 43), none, true⟩] (some [6]) []) (
.ret)))))))))
/-- slices.Clone[[][]byte,[]byte] -/
def A81 : AFn := .code [.t 2] (
(.seq (
.reg none [
  ⟨some 2, .as (.c (.nils 1)), none, true⟩] (some [0]) []) (
(.seq (
(.seq (
.reg none [
  ⟨some 3, .mv (.t 0), none, true⟩,
  ⟨some 4, .isn false (.t 3), none, true⟩] (some [0, 4]) []) (
(.cond (.t 4) (
  (.seq (
  .reg none [
    ⟨some 2, .as (.c (.nils 1)), none, true⟩] (some [2]) []) (
  .ret))) (
  .skip))))) (
(.seq (
.reg none [
  ⟨some 5, .bsl 1 0 [.nils 1] [], none, true⟩,
  ⟨some 6, .mv (.t 0), none, true⟩,
  ⟨some 7, .app 1 (.t 5) (.t 6), none, true⟩,
  ⟨some 2, .as (.t 7), none, true⟩] (some [2]) []) (
.ret)))))))
/-- ambidexter/journal.within -/
def A82 : AFn := .code [.t 6] (
(.seq (
.reg none [
  ⟨some 6, .as (.c (.bool false)), none, true⟩] (some [0, 1, 2]) []) (
(.seq (
.reg none [
  ⟨some 7, .mv (.t 0), none, true⟩,
  ⟨some 8, .mv (.t 1), none, true⟩,
  ⟨some 9, .bin .geq (.t 7) (.t 8), none, true⟩,
  ⟨some 10, .mv (.t 9), none, true⟩,
  ⟨some 11, .mv (.t 0), some (10, true), true⟩,
  ⟨some 12, .mv (.t 2), some (10, true), true⟩,
  ⟨some 13, .bin .leq (.t 11) (.t 12), some (10, true), true⟩,
  ⟨some 14, .pick (.t 10) (.t 13) (.c (.bool false)), none, true⟩,
  ⟨some 6, .as (.t 14), none, true⟩] (some [6]) []) (
.ret)))))
/-- slices.Grow[[]byte,byte] -/
def A83 : AFn := .code [.t 4] (
(.seq (
.reg none [
  ⟨some 4, .as (.c (.nils 1)), none, true⟩] (some [0, 1]) []) (
(.seq (
(.seq (
.reg none [
  ⟨some 5, .mv (.t 1), none, true⟩,
  ⟨some 6, .bin .lss (.t 5) (.c (.int .i64 0)), none, true⟩] (some [0, 1, 6]) []) (
(.cond (.t 6) (
  .reg none [
    ⟨some 7, .bad, none, true⟩,
    ⟨none, .bad, none, true⟩] (some [0, 1]) []) (
  .skip))))) (
(.seq (
(.seq (
.reg none [
  ⟨some 8, .mv (.t 1), none, true⟩,
  ⟨some 9, .mv (.t 0), none, true⟩,
  ⟨some 10, .capn (.t 9), none, true⟩,
  ⟨some 11, .mv (.t 0), none, true⟩,
  ⟨some 12, .len 0 (.t 11), none, true⟩,
  ⟨some 13, .bin .sub (.t 10) (.t 12), none, true⟩,
  ⟨some 14, .bin .sub (.t 8) (.t 13), none, true⟩,
  ⟨some 1, .as (.t 14), none, true⟩] (some [0, 1]) []) (
(.seq (
.reg none [
  ⟨some 15, .mv (.t 1), none, true⟩,
  ⟨some 16, .bin .gtr (.t 15) (.c (.int .i64 0)), none, true⟩] (some [0, 1, 16]) []) (
(.cond (.t 16) (
  .reg none [
    ⟨some 17, .mv (.t 0), none, true⟩,
    ⟨some 18, .mv (.t 0), none, true⟩,
    ⟨some 19, .capn (.t 18), none, true⟩,
    ⟨some 20, .sls 1 (.t 17) none (some (.t 19)), none, true⟩,
    ⟨some 21, .mv (.t 1), none, true⟩,
    ⟨some 22, .apz 1 [.int .u8 0] (.t 20) (.t 21), none, true⟩,
    ⟨some 23, .mv (.t 0), none, true⟩,
    ⟨some 24, .len 0 (.t 23), none, true⟩,
    ⟨some 25, .sls 1 (.t 22) none (some (.t 24)), none, true⟩,
    ⟨some 0, .as (.t 25), none, true⟩] (some [0]) []) (
  .skip))))))) (
(.seq (
.reg none [
  ⟨some 26, .mv (.t 0), none, true⟩,
  ⟨some 4, .as (.t 26), none, true⟩] (some [4]) []) (
.ret)))))))))

end Go.Proofs.Ytjmnepfdhkabfaa

namespace Go.Proofs.Ytjmnepfdhkabfaa
open Go Go.Zv
set_option maxRecDepth 100000

def E : FuncId → Option AFn
  | 3 => some A3
  | 4 => some A4
  | 5 => some A5
  | 6 => some A6
  | 7 => some A7
  | 8 => some A8
  | 9 => some A9
  | 10 => some A10
  | 11 => some A11
  | 12 => some A12
  | 13 => some A13
  | 15 => some A15
  | 16 => some A16
  | 17 => some A17
  | 18 => some A18
  | 19 => some A19
  | 20 => some A20
  | 21 => some A21
  | 22 => some A22
  | 23 => some A23
  | 24 => some A24
  | 25 => some A25
  | 26 => some A26
  | 27 => some A27
  | 28 => some A28
  | 29 => some A29
  | 30 => some A30
  | 31 => some A31
  | 32 => some A32
  | 33 => some A33
  | 34 => some A34
  | 35 => some A35
  | 36 => some A36
  | 37 => some A37
  | 38 => some A38
  | 39 => some A39
  | 40 => some A40
  | 41 => some A41
  | 42 => some A42
  | 48 => some A48
  | 49 => some A49
  | 50 => some A50
  | 51 => some A51
  | 52 => some A52
  | 53 => some A53
  | 54 => some A54
  | 55 => some A55
  | 56 => some A56
  | 57 => some A57
  | 58 => some A58
  | 59 => some A59
  | 60 => some A60
  | 61 => some A61
  | 62 => some A62
  | 63 => some A63
  | 64 => some A64
  | 65 => some A65
  | 66 => some A66
  | 67 => some A67
  | 68 => some A68
  | 79 => some A79
  | 80 => some A80
  | 81 => some A81
  | 82 => some A82
  | 83 => some A83
  | _ => none
theorem E_3 : E 3 = some A3 := rfl
theorem E_4 : E 4 = some A4 := rfl
theorem E_5 : E 5 = some A5 := rfl
theorem E_6 : E 6 = some A6 := rfl
theorem E_7 : E 7 = some A7 := rfl
theorem E_8 : E 8 = some A8 := rfl
theorem E_9 : E 9 = some A9 := rfl
theorem E_10 : E 10 = some A10 := rfl
theorem E_11 : E 11 = some A11 := rfl
theorem E_12 : E 12 = some A12 := rfl
theorem E_13 : E 13 = some A13 := rfl
theorem E_15 : E 15 = some A15 := rfl
theorem E_16 : E 16 = some A16 := rfl
theorem E_17 : E 17 = some A17 := rfl
theorem E_18 : E 18 = some A18 := rfl
theorem E_19 : E 19 = some A19 := rfl
theorem E_20 : E 20 = some A20 := rfl
theorem E_21 : E 21 = some A21 := rfl
theorem E_22 : E 22 = some A22 := rfl
theorem E_23 : E 23 = some A23 := rfl
theorem E_24 : E 24 = some A24 := rfl
theorem E_25 : E 25 = some A25 := rfl
theorem E_26 : E 26 = some A26 := rfl
theorem E_27 : E 27 = some A27 := rfl
theorem E_28 : E 28 = some A28 := rfl
theorem E_29 : E 29 = some A29 := rfl
theorem E_30 : E 30 = some A30 := rfl
theorem E_31 : E 31 = some A31 := rfl
theorem E_32 : E 32 = some A32 := rfl
theorem E_33 : E 33 = some A33 := rfl
theorem E_34 : E 34 = some A34 := rfl
theorem E_35 : E 35 = some A35 := rfl
theorem E_36 : E 36 = some A36 := rfl
theorem E_37 : E 37 = some A37 := rfl
theorem E_38 : E 38 = some A38 := rfl
theorem E_39 : E 39 = some A39 := rfl
theorem E_40 : E 40 = some A40 := rfl
theorem E_41 : E 41 = some A41 := rfl
theorem E_42 : E 42 = some A42 := rfl
theorem E_48 : E 48 = some A48 := rfl
theorem E_49 : E 49 = some A49 := rfl
theorem E_50 : E 50 = some A50 := rfl
theorem E_51 : E 51 = some A51 := rfl
theorem E_52 : E 52 = some A52 := rfl
theorem E_53 : E 53 = some A53 := rfl
theorem E_54 : E 54 = some A54 := rfl
theorem E_55 : E 55 = some A55 := rfl
theorem E_56 : E 56 = some A56 := rfl
theorem E_57 : E 57 = some A57 := rfl
theorem E_58 : E 58 = some A58 := rfl
theorem E_59 : E 59 = some A59 := rfl
theorem E_60 : E 60 = some A60 := rfl
theorem E_61 : E 61 = some A61 := rfl
theorem E_62 : E 62 = some A62 := rfl
theorem E_63 : E 63 = some A63 := rfl
theorem E_64 : E 64 = some A64 := rfl
theorem E_65 : E 65 = some A65 := rfl
theorem E_66 : E 66 = some A66 := rfl
theorem E_67 : E 67 = some A67 := rfl
theorem E_68 : E 68 = some A68 := rfl
theorem E_79 : E 79 = some A79 := rfl
theorem E_80 : E 80 = some A80 := rfl
theorem E_81 : E 81 = some A81 := rfl
theorem E_82 : E 82 = some A82 := rfl
theorem E_83 : E 83 = some A83 := rfl
theorem A3_L0_eq (s : St) : K E A3_L0 s = (K E A3_L0b s).bind (loopF E A3_L0 (some [1, 4, 11, 17, 18]) [10, 19, 20, 21, 22, 23, 24, 25, 26, 96, 105, 114, 125, 135, 144]) := loop_fold rfl s
theorem A3_L1_eq (s : St) : K E A3_L1 s = (K E A3_L1b s).bind (loopF E A3_L1 (some [0, 1, 3, 4, 7, 11, 12]) [10]) := loop_fold rfl s
theorem A5_L0_eq (s : St) : K E A5_L0 s = (K E A5_L0b s).bind (loopF E A5_L0 (some [5, 7, 8, 9, 11]) [6, 12, 13, 14, 15, 60, 66, 97, 110, 122]) := loop_fold rfl s
theorem A6_L0_eq (s : St) : K E A6_L0 s = (K E A6_L0b s).bind (loopF E A6_L0 (some [5, 7, 8, 11, 12]) [6, 13, 14, 15, 16, 17, 91, 97, 133, 142]) := loop_fold rfl s
theorem A7_L0_eq (s : St) : K E A7_L0 s = (K E A7_L0b s).bind (loopF E A7_L0 (some [7, 8, 9, 10, 11]) [6, 12, 13, 14, 15, 50, 51, 63, 64]) := loop_fold rfl s
theorem A11_L0_eq (s : St) : K E A11_L0 s = (K E A11_L0b s).bind (loopF E A11_L0 (some [1, 5, 6, 7, 8]) [4, 9, 10, 11, 12, 13, 36, 44, 64, 84, 96, 102]) := loop_fold rfl s
theorem A12_L0_eq (s : St) : K E A12_L0 s = (K E A12_L0b s).bind (loopF E A12_L0 (some [1, 9, 10, 11, 12, 13]) [8, 14, 15, 16, 17, 18, 19, 20, 21, 22, 55, 70, 82, 83, 89, 99]) := loop_fold rfl s
theorem A13_L0_eq (s : St) : K E A13_L0 s = (K E A13_L0b s).bind (loopF E A13_L0 (some [1, 2, 7, 8, 9, 10, 11, 15, 16, 17, 18, 19]) []) := loop_fold rfl s
theorem A13_L1_eq (s : St) : K E A13_L1 s = (K E A13_L1b s).bind (loopF E A13_L1 (some [1, 2, 7, 8, 9, 10, 11]) [6, 12, 13, 14, 15, 16, 17, 18, 19, 47, 86, 97, 105, 106, 131]) := loop_fold rfl s
theorem A16_L0_eq (s : St) : K E A16_L0 s = (K E A16_L0b s).bind (loopF E A16_L0 (some [0, 3]) [2]) := loop_fold rfl s
theorem A17_L0_eq (s : St) : K E A17_L0 s = (K E A17_L0b s).bind (loopF E A17_L0 (some [2, 4, 18, 19]) [5, 25]) := loop_fold rfl s
theorem A18_L0_eq (s : St) : K E A18_L0 s = (K E A18_L0b s).bind (loopF E A18_L0 (some [0, 2, 4, 5]) [21, 22, 23]) := loop_fold rfl s
theorem A19_L0_eq (s : St) : K E A19_L0 s = (K E A19_L0b s).bind (loopF E A19_L0 (some [2, 3, 5]) [4, 51]) := loop_fold rfl s
theorem A21_L0_eq (s : St) : K E A21_L0 s = (K E A21_L0b s).bind (loopF E A21_L0 (some [1, 3]) [2]) := loop_fold rfl s
theorem A28_L0_eq (s : St) : K E A28_L0 s = (K E A28_L0b s).bind (loopF E A28_L0 (some [1, 4, 5, 6]) [7, 8, 23]) := loop_fold rfl s
theorem A33_L0_eq (s : St) : K E A33_L0 s = (K E A33_L0b s).bind (loopF E A33_L0 (some [0, 2, 4, 5, 59, 60]) [66, 68, 69]) := loop_fold rfl s
theorem A33_L1_eq (s : St) : K E A33_L1 s = (K E A33_L1b s).bind (loopF E A33_L1 (some [0, 2, 4, 5, 43]) [8, 48]) := loop_fold rfl s
theorem A33_L2_eq (s : St) : K E A33_L2 s = (K E A33_L2b s).bind (loopF E A33_L2 (some [0, 2, 4, 5, 6, 26, 29]) [7, 35]) := loop_fold rfl s
theorem A33_L3_eq (s : St) : K E A33_L3 s = (K E A33_L3b s).bind (loopF E A33_L3 (some [0, 2, 4, 5, 26]) [6, 7, 35]) := loop_fold rfl s
theorem A34_L0_eq (s : St) : K E A34_L0 s = (K E A34_L0b s).bind (loopF E A34_L0 (some [0, 1, 5]) [4]) := loop_fold rfl s
theorem A36_L0_eq (s : St) : K E A36_L0 s = (K E A36_L0b s).bind (loopF E A36_L0 (some [2, 3, 5]) [4]) := loop_fold rfl s
theorem A37_L0_eq (s : St) : K E A37_L0 s = (K E A37_L0b s).bind (loopF E A37_L0 (some [1, 5]) [2, 44]) := loop_fold rfl s
theorem A37_L1_eq (s : St) : K E A37_L1 s = (K E A37_L1b s).bind (loopF E A37_L1 (some [1, 3, 4]) [2, 21]) := loop_fold rfl s
theorem A37_L2_eq (s : St) : K E A37_L2 s = (K E A37_L2b s).bind (loopF E A37_L2 (some [1, 3]) [2, 4, 21, 28]) := loop_fold rfl s
theorem A41_L0_eq (s : St) : K E A41_L0 s = (K E A41_L0b s).bind (loopF E A41_L0 (some [2, 3, 5]) [4, 76]) := loop_fold rfl s
theorem A42_L0_eq (s : St) : K E A42_L0 s = (K E A42_L0b s).bind (loopF E A42_L0 (some [1, 2, 3, 5, 6, 16, 17]) [7, 8, 9, 10, 11, 23, 30, 48]) := loop_fold rfl s
theorem A56_L0_eq (s : St) : K E A56_L0 s = (K E A56_L0b s).bind (loopF E A56_L0 (some [6, 7, 8]) [2, 4, 5, 13]) := loop_fold rfl s
theorem A60_L0_eq (s : St) : K E A60_L0 s = (K E A60_L0b s).bind (loopF E A60_L0 (some [0, 5, 6, 7]) []) := loop_fold rfl s
theorem A61_L0_eq (s : St) : K E A61_L0 s = (K E A61_L0b s).bind (loopF E A61_L0 (some [1, 34, 35, 36]) [2, 8, 41]) := loop_fold rfl s
theorem A61_L1_eq (s : St) : K E A61_L1 s = (K E A61_L1b s).bind (loopF E A61_L1 (some [1, 3, 11, 12, 16, 17]) [2, 6, 21]) := loop_fold rfl s
theorem A61_L2_eq (s : St) : K E A61_L2 s = (K E A61_L2b s).bind (loopF E A61_L2 (some [1, 11, 12]) [2, 3, 4, 6, 21, 29]) := loop_fold rfl s
theorem A62_L0_eq (s : St) : K E A62_L0 s = (K E A62_L0b s).bind (loopF E A62_L0 (some [0, 1, 12, 13]) [4, 5]) := loop_fold rfl s
theorem A63_L0_eq (s : St) : K E A63_L0 s = (K E A63_L0b s).bind (loopF E A63_L0 (some [6, 25, 26, 27]) [8]) := loop_fold rfl s
theorem A63_L1_eq (s : St) : K E A63_L1 s = (K E A63_L1b s).bind (loopF E A63_L1 (some [0, 3, 9, 10, 11]) [5]) := loop_fold rfl s
theorem A64_L0_eq (s : St) : K E A64_L0 s = (K E A64_L0b s).bind (loopF E A64_L0 (some [0, 5, 8, 9, 10]) [7, 19]) := loop_fold rfl s
theorem A65_L0_eq (s : St) : K E A65_L0 s = (K E A65_L0b s).bind (loopF E A65_L0 (some [0, 5, 6]) []) := loop_fold rfl s
theorem A66_L0_eq (s : St) : K E A66_L0 s = (K E A66_L0b s).bind (loopF E A66_L0 (some [3, 6, 7, 8]) [4, 5]) := loop_fold rfl s
theorem A79_L0_eq (s : St) : K E A79_L0 s = (K E A79_L0b s).bind (loopF E A79_L0 (some [0, 1, 7, 8]) [4, 5, 16]) := loop_fold rfl s
theorem A80_L0_eq (s : St) : K E A80_L0 s = (K E A80_L0b s).bind (loopF E A80_L0 (some [0, 1, 2, 7, 8]) [9, 25, 27, 29, 38, 41]) := loop_fold rfl s
end Go.Proofs.Ytjmnepfdhkabfaa

namespace Go.Proofs.Ytjmnepfdhkabfaa
set_option maxRecDepth 100000
set_option maxHeartbeats 4000000
set_option linter.unusedSimpArgs false
set_option linter.unusedVariables false
open Go Go.Zv
def b1 (b : UInt8) : List LV := [.int .u8 b.toNat]
abbrev bv (s : List UInt8) : LV := .vs (s.map b1)
def s1 (s : List UInt8) : List LV := [bv s]
abbrev sv (l : List (List UInt8)) : LV := .vs (l.map s1)
structure Dsk where
  sec : List (List UInt8)
  fuse : Int
  torn : Int
  down : Bool
abbrev dv (d : Dsk) : LV := .agg [sv d.sec, .int .i64 d.fuse, .int .i64 d.torn, .bool d.down]
theorem b2s_b1 (a : List UInt8) : b2sK (a.map b1) = some (.str a) := by
  have h : ∀ a : List UInt8, bytesOf (a.map b1) = some a := fun a => by
    induction a with
    | nil => rfl
    | cons x a ih =>
      show (byte1 (b1 x)).bind _ = _
      rw [show byte1 (b1 x) = some x from by simp [b1, byte1]]
      simp only [Option.bind_some]
      rw [ih]; rfl
  unfold b2sK; rw [h]; rfl
theorem c27 (a b : List UInt8) : pc E 27 [bv a, bv b] = some (.bool (a == b)) := by
  rw [pc_eq]; simp +contextual -implicitDefEqProofs (maxSteps := 2000000) only [go_sem, ↓reduceIte, Nat.reduceAdd, Nat.reduceMul, Nat.reduceSub, Nat.reduceEqDiff, Nat.reduceLeDiff, Nat.reduceDiv, Nat.reduceMod, Nat.reduceBEq, Nat.reduceBNe, reduceCtorEq, Int.reduceLE, Int.reduceLT, Int.reduceToNat, Int.reduceNeg, Nat.reduceLT, Int.reduceEq, Int.reduceSub, Int.reduceAdd, Int.reduceMul, Nat.reducePow, Int.reduceBEq, Int.reduceBNe, Int.reduceMod, E_27, A27, b2s_b1]
theorem c53 (s : List (List UInt8)) (f t : Int) (w : Bool) (i : Int) : pc E 53 [.agg [sv s, .int .i64 f, .int .i64 t, .bool w], .int .i64 i] = some (.bool (decide (0 ≤ i ∧ i < s.length))) := by
  rw [pc_eq]; simp +contextual -implicitDefEqProofs (maxSteps := 2000000) only [go_sem, ↓reduceIte, Nat.reduceAdd, Nat.reduceMul, Nat.reduceSub, Nat.reduceEqDiff, Nat.reduceLeDiff, Nat.reduceDiv, Nat.reduceMod, Nat.reduceBEq, Nat.reduceBNe, reduceCtorEq, Int.reduceLE, Int.reduceLT, Int.reduceToNat, Int.reduceNeg, Nat.reduceLT, Int.reduceEq, Int.reduceSub, Int.reduceAdd, Int.reduceMul, Nat.reducePow, Int.reduceBEq, Int.reduceBNe, Int.reduceMod, E_53, A53, List.length_map]
  by_cases h : 0 ≤ i <;> simp [h]
theorem c30 (s : List (List UInt8)) (f t : Int) (w : Bool) : pc E 30 [.agg [sv s, .int .i64 f, .int .i64 t, .bool w]] = some (.agg [sv s, .int .i64 f, .int .i64 t, .bool false]) := by
  rw [pc_eq]; simp +contextual -implicitDefEqProofs (maxSteps := 2000000) only [go_sem, ↓reduceIte, Nat.reduceAdd, Nat.reduceMul, Nat.reduceSub, Nat.reduceEqDiff, Nat.reduceLeDiff, Nat.reduceDiv, Nat.reduceMod, Nat.reduceBEq, Nat.reduceBNe, reduceCtorEq, Int.reduceLE, Int.reduceLT, Int.reduceToNat, Int.reduceNeg, Nat.reduceLT, Int.reduceEq, Int.reduceSub, Int.reduceAdd, Int.reduceMul, Nat.reducePow, Int.reduceBEq, Int.reduceBNe, Int.reduceMod, E_30, A30]
theorem c51 (s : List (List UInt8)) (f t : Int) (w : Bool) : pc E 51 [.agg [sv s, .int .i64 f, .int .i64 t, .bool w]] = some (.agg [sv s, .int .i64 f, .int .i64 t, .bool false]) := by
  rw [pc_eq]; simp +contextual -implicitDefEqProofs (maxSteps := 2000000) only [go_sem, ↓reduceIte, Nat.reduceAdd, Nat.reduceMul, Nat.reduceSub, Nat.reduceEqDiff, Nat.reduceLeDiff, Nat.reduceDiv, Nat.reduceMod, Nat.reduceBEq, Nat.reduceBNe, reduceCtorEq, Int.reduceLE, Int.reduceLT, Int.reduceToNat, Int.reduceNeg, Nat.reduceLT, Int.reduceEq, Int.reduceSub, Int.reduceAdd, Int.reduceMul, Nat.reducePow, Int.reduceBEq, Int.reduceBNe, Int.reduceMod, E_51, A51]
theorem get_s1 {l : List (List UInt8)} {i : Nat} {p : List UInt8} (h : l[i]? = some p) : (l.map s1)[i]? = some [bv p] := by
  rw [List.getElem?_map, h]; rfl
/-- what Read answers -/
def rdv (s : List (List UInt8)) (w : Bool) (i : Int) : LV :=
  if w = true then .tup [.os 1 [], .int .i64 300] else
  if 0 ≤ i ∧ i < s.length then .tup [bv (s[i.toNat]?.getD []), .int .i64 0] else .tup [.os 1 [], .int .i64 1]
theorem c25 (s : List (List UInt8)) (f t : Int) (w : Bool) (i : Int) : pc E 25 [.agg [sv s, .int .i64 f, .int .i64 t, .bool w], .int .i64 i] = some (rdv s w i) := by
  cases w with
  | true => rw [pc_eq]; simp +contextual -implicitDefEqProofs (maxSteps := 2000000) only [go_sem, ↓reduceIte, Nat.reduceAdd, Nat.reduceMul, Nat.reduceSub, Nat.reduceEqDiff, Nat.reduceLeDiff, Nat.reduceDiv, Nat.reduceMod, Nat.reduceBEq, Nat.reduceBNe, reduceCtorEq, Int.reduceLE, Int.reduceLT, Int.reduceToNat, Int.reduceNeg, Nat.reduceLT, Int.reduceEq, Int.reduceSub, Int.reduceAdd, Int.reduceMul, Nat.reducePow, Int.reduceBEq, Int.reduceBNe, Int.reduceMod, E_25, A25, rdv]
  | false =>
    by_cases h : 0 ≤ i ∧ i < s.length
    · have hget : s[i.toNat]? = some (s[i.toNat]'(by omega)) := List.getElem?_eq_getElem _
      have hg := get_s1 hget
      rw [pc_eq]; simp +contextual -implicitDefEqProofs (maxSteps := 2000000) only [go_sem, ↓reduceIte, Nat.reduceAdd, Nat.reduceMul, Nat.reduceSub, Nat.reduceEqDiff, Nat.reduceLeDiff, Nat.reduceDiv, Nat.reduceMod, Nat.reduceBEq, Nat.reduceBNe, reduceCtorEq, Int.reduceLE, Int.reduceLT, Int.reduceToNat, Int.reduceNeg, Nat.reduceLT, Int.reduceEq, Int.reduceSub, Int.reduceAdd, Int.reduceMul, Nat.reducePow, Int.reduceBEq, Int.reduceBNe, Int.reduceMod, E_25, A25, rdv, c53, h, h.1, h.2, hg, hget, List.length_map]
    · rw [pc_eq]; simp +contextual -implicitDefEqProofs (maxSteps := 2000000) only [go_sem, ↓reduceIte, Nat.reduceAdd, Nat.reduceMul, Nat.reduceSub, Nat.reduceEqDiff, Nat.reduceLeDiff, Nat.reduceDiv, Nat.reduceMod, Nat.reduceBEq, Nat.reduceBNe, reduceCtorEq, Int.reduceLE, Int.reduceLT, Int.reduceToNat, Int.reduceNeg, Nat.reduceLT, Int.reduceEq, Int.reduceSub, Int.reduceAdd, Int.reduceMul, Nat.reducePow, Int.reduceBEq, Int.reduceBNe, Int.reduceMod, E_25, A25, rdv, c53, h]
theorem c26 (s : List (List UInt8)) (f t : Int) (w : Bool) (i : Int) : pc E 26 [.agg [sv s, .int .i64 f, .int .i64 t, .bool w], .int .i64 i] = some (rdv s w i) := by
  cases w with
  | true => rw [pc_eq]; simp +contextual -implicitDefEqProofs (maxSteps := 2000000) only [go_sem, ↓reduceIte, Nat.reduceAdd, Nat.reduceMul, Nat.reduceSub, Nat.reduceEqDiff, Nat.reduceLeDiff, Nat.reduceDiv, Nat.reduceMod, Nat.reduceBEq, Nat.reduceBNe, reduceCtorEq, Int.reduceLE, Int.reduceLT, Int.reduceToNat, Int.reduceNeg, Nat.reduceLT, Int.reduceEq, Int.reduceSub, Int.reduceAdd, Int.reduceMul, Nat.reducePow, Int.reduceBEq, Int.reduceBNe, Int.reduceMod, E_26, A26, rdv]
  | false =>
    by_cases h1 : i < 0
    · have h : ¬ (0 ≤ i ∧ i < s.length) := by omega
      rw [pc_eq]; simp +contextual -implicitDefEqProofs (maxSteps := 2000000) only [go_sem, ↓reduceIte, Nat.reduceAdd, Nat.reduceMul, Nat.reduceSub, Nat.reduceEqDiff, Nat.reduceLeDiff, Nat.reduceDiv, Nat.reduceMod, Nat.reduceBEq, Nat.reduceBNe, reduceCtorEq, Int.reduceLE, Int.reduceLT, Int.reduceToNat, Int.reduceNeg, Nat.reduceLT, Int.reduceEq, Int.reduceSub, Int.reduceAdd, Int.reduceMul, Nat.reducePow, Int.reduceBEq, Int.reduceBNe, Int.reduceMod, E_26, A26, rdv, h, h1, List.length_map]
    · by_cases h2 : (s.length : Int) ≤ i
      · have h : ¬ (0 ≤ i ∧ i < s.length) := by omega
        rw [pc_eq]; simp +contextual -implicitDefEqProofs (maxSteps := 2000000) only [go_sem, ↓reduceIte, Nat.reduceAdd, Nat.reduceMul, Nat.reduceSub, Nat.reduceEqDiff, Nat.reduceLeDiff, Nat.reduceDiv, Nat.reduceMod, Nat.reduceBEq, Nat.reduceBNe, reduceCtorEq, Int.reduceLE, Int.reduceLT, Int.reduceToNat, Int.reduceNeg, Nat.reduceLT, Int.reduceEq, Int.reduceSub, Int.reduceAdd, Int.reduceMul, Nat.reducePow, Int.reduceBEq, Int.reduceBNe, Int.reduceMod, E_26, A26, rdv, h, h1, h2, List.length_map]
      · have h : (0 ≤ i ∧ i < s.length) := by omega
        have hget : s[i.toNat]? = some (s[i.toNat]'(by omega)) := List.getElem?_eq_getElem _
        have hg := get_s1 hget
        rw [pc_eq]; simp +contextual -implicitDefEqProofs (maxSteps := 2000000) only [go_sem, ↓reduceIte, Nat.reduceAdd, Nat.reduceMul, Nat.reduceSub, Nat.reduceEqDiff, Nat.reduceLeDiff, Nat.reduceDiv, Nat.reduceMod, Nat.reduceBEq, Nat.reduceBNe, reduceCtorEq, Int.reduceLE, Int.reduceLT, Int.reduceToNat, Int.reduceNeg, Nat.reduceLT, Int.reduceEq, Int.reduceSub, Int.reduceAdd, Int.reduceMul, Nat.reducePow, Int.reduceBEq, Int.reduceBNe, Int.reduceMod, E_26, A26, rdv, h, h.1, h.2, h1, h2, hg, hget, List.length_map]
theorem all_b1 (l : List UInt8) : ((l.map b1).all fun x => x.length == 1) = true := by simp [b1]
theorem all_s1 (l : List (List UInt8)) : ((l.map s1).all fun x => x.length == 1) = true := by simp [s1]
theorem take_b1 (l : List UInt8) : (l.map b1).take l.length = l.map b1 := List.take_of_length_le (by simp)
theorem take_s1 (l : List (List UInt8)) : (l.map s1).take l.length = l.map s1 := List.take_of_length_le (by simp)
theorem c57 (l : List UInt8) (h0 : l ≠ []) (h1 : l.length ≤ 1000000000) : pc E 57 [bv l] = some (.os 1 (l.map b1)) := by
  have h2 : (l.map b1).isEmpty = false := by simp [h0]
  rw [pc_eq]; simp +contextual -implicitDefEqProofs (maxSteps := 2000000) only [go_sem, ↓reduceIte, Nat.reduceAdd, Nat.reduceMul, Nat.reduceSub, Nat.reduceEqDiff, Nat.reduceLeDiff, Nat.reduceDiv, Nat.reduceMod, Nat.reduceBEq, Nat.reduceBNe, reduceCtorEq, Int.reduceLE, Int.reduceLT, Int.reduceToNat, Int.reduceNeg, Nat.reduceLT, Int.reduceEq, Int.reduceSub, Int.reduceAdd, Int.reduceMul, Nat.reducePow, Int.reduceBEq, Int.reduceBNe, Int.reduceMod, E_57, A57, List.length_map, h2, all_b1, take_b1, h1]
theorem c81 (l : List (List UInt8)) (h0 : l ≠ []) (h1 : l.length ≤ 1000000000) : pc E 81 [sv l] = some (.os 1 (l.map s1)) := by
  have h2 : (l.map s1).isEmpty = false := by simp [h0]
  rw [pc_eq]; simp +contextual -implicitDefEqProofs (maxSteps := 2000000) only [go_sem, ↓reduceIte, Nat.reduceAdd, Nat.reduceMul, Nat.reduceSub, Nat.reduceEqDiff, Nat.reduceLeDiff, Nat.reduceDiv, Nat.reduceMod, Nat.reduceBEq, Nat.reduceBNe, reduceCtorEq, Int.reduceLE, Int.reduceLT, Int.reduceToNat, Int.reduceNeg, Nat.reduceLT, Int.reduceEq, Int.reduceSub, Int.reduceAdd, Int.reduceMul, Nat.reducePow, Int.reduceBEq, Int.reduceBNe, Int.reduceMod, E_81, A81, List.length_map, h2, all_s1, take_s1, h1]
theorem c58 (l : List (List UInt8)) (i : Nat) (x : List UInt8) (hi : i < l.length) (h1 : l.length ≤ 1000000000) : pc E 58 [sv l, .int .i64 i, bv x] = some (.os 1 ((l.set i x).map s1)) := by
  have h0 : l ≠ [] := fun h => by subst h; simp at hi
  have h2 : (i : Int) < l.length := by omega
  have h3 : (0 : Int) ≤ i := by omega
  have e : (l.map s1).set i [.vs (x.map b1)] = (l.set i x).map s1 := by rw [List.map_set]; rfl
  have e2 : ((l.set i x).map s1).take l.length = (l.set i x).map s1 := List.take_of_length_le (by simp)
  have hget : l[i]? = some (l[i]'hi) := List.getElem?_eq_getElem _
  have hg := get_s1 hget
  rw [pc_eq]; simp +contextual -implicitDefEqProofs (maxSteps := 2000000) only [go_sem, ↓reduceIte, Nat.reduceAdd, Nat.reduceMul, Nat.reduceSub, Nat.reduceEqDiff, Nat.reduceLeDiff, Nat.reduceDiv, Nat.reduceMod, Nat.reduceBEq, Nat.reduceBNe, reduceCtorEq, Int.reduceLE, Int.reduceLT, Int.reduceToNat, Int.reduceNeg, Nat.reduceLT, Int.reduceEq, Int.reduceSub, Int.reduceAdd, Int.reduceMul, Nat.reducePow, Int.reduceBEq, Int.reduceBNe, Int.reduceMod, E_58, A58, List.length_map, c81 l h0 h1, h2, h3, hg, e, e2, Nat.le_refl, List.length_set]
end Go.Proofs.Ytjmnepfdhkabfaa

namespace Go.Proofs.Ytjmnepfdhkabfaa
set_option maxRecDepth 100000
set_option maxHeartbeats 4000000
set_option linter.unusedSimpArgs false
set_option linter.unusedVariables false
open Go Go.Zv
theorem c29a (s : List (List UInt8)) (f t : Int) (i : Int) (x : List UInt8) : pc E 29 [.agg [sv s, .int .i64 f, .int .i64 t, .bool true], .int .i64 i, bv x] = some (.tup [.agg [sv s, .int .i64 f, .int .i64 t, .bool true], .int .i64 300]) := by
  rw [pc_eq]; simp +contextual -implicitDefEqProofs (maxSteps := 2000000) only [go_sem, ↓reduceIte, Nat.reduceAdd, Nat.reduceMul, Nat.reduceSub, Nat.reduceEqDiff, Nat.reduceLeDiff, Nat.reduceDiv, Nat.reduceMod, Nat.reduceBEq, Nat.reduceBNe, reduceCtorEq, Int.reduceLE, Int.reduceLT, Int.reduceToNat, Int.reduceNeg, Nat.reduceLT, Int.reduceEq, Int.reduceSub, Int.reduceAdd, Int.reduceMul, Nat.reducePow, Int.reduceBEq, Int.reduceBNe, Int.reduceMod, E_29, A29, E_56, A56, A56_L0_eq, A56_L0b, E_54, A54, E_55, A55, c53]
theorem c29b (s : List (List UInt8)) (f t : Int) (i : Int) (x : List UInt8) (h : ¬ (0 ≤ i ∧ i < s.length)) : pc E 29 [.agg [sv s, .int .i64 f, .int .i64 t, .bool false], .int .i64 i, bv x] = some (.tup [.agg [sv s, .int .i64 f, .int .i64 t, .bool false], .int .i64 1]) := by
  rw [pc_eq]; simp +contextual -implicitDefEqProofs (maxSteps := 2000000) only [go_sem, ↓reduceIte, Nat.reduceAdd, Nat.reduceMul, Nat.reduceSub, Nat.reduceEqDiff, Nat.reduceLeDiff, Nat.reduceDiv, Nat.reduceMod, Nat.reduceBEq, Nat.reduceBNe, reduceCtorEq, Int.reduceLE, Int.reduceLT, Int.reduceToNat, Int.reduceNeg, Nat.reduceLT, Int.reduceEq, Int.reduceSub, Int.reduceAdd, Int.reduceMul, Nat.reducePow, Int.reduceBEq, Int.reduceBNe, Int.reduceMod, E_29, A29, E_56, A56, A56_L0_eq, A56_L0b, E_54, A54, E_55, A55, c53, h]
theorem c29c (s : List (List UInt8)) (f t : Int) (i : Int) (x : List UInt8) (h : (0 ≤ i ∧ i < s.length)) (hx : (64 : Int) < x.length) : pc E 29 [.agg [sv s, .int .i64 f, .int .i64 t, .bool false], .int .i64 i, bv x] = some (.tup [.agg [sv s, .int .i64 f, .int .i64 t, .bool false], .int .i64 1]) := by
  rw [pc_eq]; simp +contextual -implicitDefEqProofs (maxSteps := 2000000) only [go_sem, ↓reduceIte, Nat.reduceAdd, Nat.reduceMul, Nat.reduceSub, Nat.reduceEqDiff, Nat.reduceLeDiff, Nat.reduceDiv, Nat.reduceMod, Nat.reduceBEq, Nat.reduceBNe, reduceCtorEq, Int.reduceLE, Int.reduceLT, Int.reduceToNat, Int.reduceNeg, Nat.reduceLT, Int.reduceEq, Int.reduceSub, Int.reduceAdd, Int.reduceMul, Nat.reducePow, Int.reduceBEq, Int.reduceBNe, Int.reduceMod, E_29, A29, E_56, A56, A56_L0_eq, A56_L0b, E_54, A54, E_55, A55, c53, h, hx, List.length_map]
/-- a sector with new bytes at its beginning -/
def over (x p : List UInt8) : List UInt8 := x ++ p.drop x.length
theorem over_len {x p : List UInt8} (h : x.length ≤ p.length) : (over x p).length = p.length := by simp [over]; omega
theorem over_row {x p : List UInt8} (h : x.length ≤ p.length) : List.take (min x.length p.length) (x.map b1) ++ List.drop (min x.length p.length) (p.map b1) = (over x p).map b1 := by
  rw [Nat.min_eq_left h, take_b1]; simp [over]
theorem c29d (s : List (List UInt8)) (f t : Int) (i : Nat) (x : List UInt8) (p : List UInt8) (hp : s[i]? = some p) (hpl : p.length = 64) (hs : s.length ≤ 64) (hx : x.length ≤ 64) (hf : f ≠ 1) (hf1 : ¬ f > 1) : pc E 29 [.agg [sv s, .int .i64 f, .int .i64 t, .bool false], .int .i64 i, bv x] = some (.tup [.agg [sv (s.set i (over x p)), .int .i64 f, .int .i64 t, .bool false], .int .i64 0]) := by
  have hi := (List.getElem?_eq_some_iff.1 hp).1
  have h : 0 ≤ (i : Int) ∧ (i : Int) < s.length := by omega
  have hx2 : ¬ ((64 : Int) < x.length) := by omega
  have hg := get_s1 hp
  have h57 := c57 p (by intro h; subst h; simp at hpl) (by omega)
  have hle : x.length ≤ p.length := by omega
  have o1 := over_row hle
  have o2 := over_len hle
  have o3 : ((over x p).map b1).take p.length = (over x p).map b1 := List.take_of_length_le (by simp [o2])
  have h58 := c58 s i (over x p) hi (by omega)
  have tk : ((s.set i (over x p)).map s1).take s.length = (s.set i (over x p)).map s1 := List.take_of_length_le (by simp)
  rw [pc_eq]; simp +contextual -implicitDefEqProofs (maxSteps := 2000000) only [go_sem, ↓reduceIte, Nat.reduceAdd, Nat.reduceMul, Nat.reduceSub, Nat.reduceEqDiff, Nat.reduceLeDiff, Nat.reduceDiv, Nat.reduceMod, Nat.reduceBEq, Nat.reduceBNe, reduceCtorEq, Int.reduceLE, Int.reduceLT, Int.reduceToNat, Int.reduceNeg, Nat.reduceLT, Int.reduceEq, Int.reduceSub, Int.reduceAdd, Int.reduceMul, Nat.reducePow, Int.reduceBEq, Int.reduceBNe, Int.reduceMod, E_29, A29, E_56, A56, A56_L0_eq, A56_L0b, E_54, A54, E_55, A55, c53, h, h.1, h.2, hx2, List.length_map, hf, hf1, hg, h57, beq_eq_false_iff_ne.2 hf, all_b1, o1, o2, o3, h58, Nat.le_refl, tk, List.length_set, ite_self]
theorem c29e (s : List (List UInt8)) (f t : Int) (i : Nat) (x : List UInt8) (p : List UInt8) (hp : s[i]? = some p) (hpl : p.length = 64) (hs : s.length ≤ 64) (hx : x.length ≤ 64) (hf : f ≠ 1) (hf1 : f > 1) (hf2 : f ≤ 9223372036854775807) : pc E 29 [.agg [sv s, .int .i64 f, .int .i64 t, .bool false], .int .i64 i, bv x] = some (.tup [.agg [sv (s.set i (over x p)), .int .i64 (f - 1), .int .i64 t, .bool false], .int .i64 0]) := by
  have hi := (List.getElem?_eq_some_iff.1 hp).1
  have h : 0 ≤ (i : Int) ∧ (i : Int) < s.length := by omega
  have hx2 : ¬ ((64 : Int) < x.length) := by omega
  have hg := get_s1 hp
  have h57 := c57 p (by intro h; subst h; simp at hpl) (by omega)
  have hle : x.length ≤ p.length := by omega
  have o1 := over_row hle
  have o2 := over_len hle
  have o3 : ((over x p).map b1).take p.length = (over x p).map b1 := List.take_of_length_le (by simp [o2])
  have h58 := c58 s i (over x p) hi (by omega)
  have tk : ((s.set i (over x p)).map s1).take s.length = (s.set i (over x p)).map s1 := List.take_of_length_le (by simp)
  have w1 : IntKind.i64.wrap (f - 1) = f - 1 := wrap_small (by omega) (by omega)
  rw [pc_eq]; simp +contextual -implicitDefEqProofs (maxSteps := 2000000) only [go_sem, ↓reduceIte, Nat.reduceAdd, Nat.reduceMul, Nat.reduceSub, Nat.reduceEqDiff, Nat.reduceLeDiff, Nat.reduceDiv, Nat.reduceMod, Nat.reduceBEq, Nat.reduceBNe, reduceCtorEq, Int.reduceLE, Int.reduceLT, Int.reduceToNat, Int.reduceNeg, Nat.reduceLT, Int.reduceEq, Int.reduceSub, Int.reduceAdd, Int.reduceMul, Nat.reducePow, Int.reduceBEq, Int.reduceBNe, Int.reduceMod, E_29, A29, E_56, A56, A56_L0_eq, A56_L0b, E_54, A54, E_55, A55, c53, h, h.1, h.2, hx2, List.length_map, hf, hf1, hg, h57, beq_eq_false_iff_ne.2 hf, all_b1, o1, o2, o3, h58, Nat.le_refl, tk, List.length_set, w1, ite_self]
theorem c29f (s : List (List UInt8)) (t : Int) (i : Nat) (x : List UInt8) (p : List UInt8) (hp : s[i]? = some p) (hpl : p.length = 64) (hs : s.length ≤ 64) (hx : x.length ≤ 64) (ht : 0 ≤ t) : pc E 29 [.agg [sv s, .int .i64 1, .int .i64 t, .bool false], .int .i64 i, bv x] = some (.tup [.agg [sv (s.set i (over (x.take t.toNat) p)), .int .i64 (-1), .int .i64 0, .bool true], .int .i64 300]) := by
  have hi := (List.getElem?_eq_some_iff.1 hp).1
  have h : 0 ≤ (i : Int) ∧ (i : Int) < s.length := by omega
  have hx2 : ¬ ((64 : Int) < x.length) := by omega
  have hg := get_s1 hp
  have h57 := c57 p (by intro h; subst h; simp at hpl) (by omega)
  have hle : (x.take t.toNat).length ≤ p.length := by rw [List.length_take]; omega
  have o1 := over_row hle
  have o2 := over_len hle
  have o3 : ((over (x.take t.toNat) p).map b1).take p.length = (over (x.take t.toNat) p).map b1 := List.take_of_length_le (by simp [o2])
  have h58 := c58 s i (over (x.take t.toNat) p) hi (by omega)
  have tk : ((s.set i (over (x.take t.toNat) p)).map s1).take s.length = (s.set i (over (x.take t.toNat) p)).map s1 := List.take_of_length_le (by simp)
  have hk : mnI t x.length = ((x.take t.toNat).length : Int) := by rw [List.length_take]; unfold mnI; split <;> omega
  have k1 : (0 : Int) ≤ ((x.take t.toNat).length : Int) := by omega
  have k2 : ((x.take t.toNat).length : Int) ≤ x.length := by rw [List.length_take]; omega
  have k3 : (x.map b1).take (x.take t.toNat).length = (x.take t.toNat).map b1 := by rw [List.length_take, List.map_take, List.take_eq_take_iff]; simp
  generalize x.take t.toNat = x' at *
  rw [pc_eq]; simp +contextual -implicitDefEqProofs (maxSteps := 2000000) only [go_sem, ↓reduceIte, Nat.reduceAdd, Nat.reduceMul, Nat.reduceSub, Nat.reduceEqDiff, Nat.reduceLeDiff, Nat.reduceDiv, Nat.reduceMod, Nat.reduceBEq, Nat.reduceBNe, reduceCtorEq, Int.reduceLE, Int.reduceLT, Int.reduceToNat, Int.reduceNeg, Nat.reduceLT, Int.reduceEq, Int.reduceSub, Int.reduceAdd, Int.reduceMul, Nat.reducePow, Int.reduceBEq, Int.reduceBNe, Int.reduceMod, hk, k1, k2, k3, E_29, A29, E_56, A56, A56_L0_eq, A56_L0b, E_54, A54, E_55, A55, c53, h, h.1, h.2, hx2, List.length_map, hg, h57, all_b1, o1, o2, o3, h58, Nat.le_refl, tk, List.length_set, ite_self]
end Go.Proofs.Ytjmnepfdhkabfaa

namespace Go.Proofs.Ytjmnepfdhkabfaa
set_option maxRecDepth 100000
set_option maxHeartbeats 4000000
set_option linter.unusedSimpArgs false
set_option linter.unusedVariables false
open Go Go.Zv
theorem wr_nat {n : Nat} (h : n < 9223372036854775808) : IntKind.i64.wrap (n : Int) = n := by
  simp [IntKind.wrap, IntKind.signed, IntKind.bits]; omega
theorem wr_succ {n : Nat} (h : n + 1 < 9223372036854775808) : IntKind.i64.wrap ((n : Int) + 1) = ((n + 1 : Nat) : Int) := by
  have := wr_nat h; simpa using this
theorem laid_loop (l : List (List UInt8)) (hl : l.length ≤ 64) (i : Nat) (x p : List UInt8) (hi : l[i]? = some p) (hx : x.length ≤ p.length) (hp : p.length = 64) : ∀ (j k : Nat), k + j = l.length →
    (K E A80_L0 ⟨[(0, sv l), (1, .int .i64 i), (2, bv x), (7, .bs 2560 0 k), (8, .int .i64 k)], [], [(2560, .row 1 (((l.set i (over x p)).take k).map s1)), (1536, .row 1 [])], 0⟩).bind (blockR 0 (some [7]) [8, 9, 25, 27, 29, 38, 41]) =
    some (.ex .nrm ⟨[(7, .bs 2560 0 l.length)], [], [(2560, .row 1 ((l.set i (over x p)).map s1)), (1536, .row 1 [])], 0⟩)
  | 0, k, h => by
    have hk : ¬ ((k : Int) < l.length) := by omega
    have e : (l.set i (over x p)).take k = l.set i (over x p) := List.take_of_length_le (by simp; omega)
    have e2 : l.length = k := by omega
    rw [A80_L0_eq, e]
    simp +contextual -implicitDefEqProofs (maxSteps := 2000000) only [go_sem, ↓reduceIte, Nat.reduceAdd, Nat.reduceMul, Nat.reduceSub, Nat.reduceEqDiff, Nat.reduceLeDiff, Nat.reduceDiv, Nat.reduceMod, Nat.reduceBEq, Nat.reduceBNe, reduceCtorEq, Int.reduceLE, Int.reduceLT, Int.reduceToNat, Int.reduceNeg, Nat.reduceLT, Int.reduceEq, Int.reduceSub, Int.reduceAdd, Int.reduceMul, Nat.reducePow, Int.reduceBEq, Int.reduceBNe, Int.reduceMod, A80_L0b, hk, List.length_map, e2, Int.lt_irrefl]
  | j + 1, k, h => by
    have hk : ((k : Int) < l.length) := by omega
    have hw := wr_succ (n := k) (by omega)
    have h0 : (0 : Int) ≤ (k : Int) := by omega
    have hb : k + 1 ≤ 1000000000 := by omega
    have ht : List.take k (((l.set i (over x p)).take k).map s1) = ((l.set i (over x p)).take k).map s1 := List.take_of_length_le (by simp; omega)
    have hln : (((l.set i (over x p)).take k).map s1).length = k := by simp; omega
    have ih := laid_loop l hl i x p hi hx hp j (k + 1) (by omega)
    have hlt : k < (l.set i (over x p)).length := by simp; omega
    rw [List.take_succ_eq_append_getElem hlt, List.map_append] at ih
    by_cases hki : k = i
    · subst hki
      have hg := get_s1 hi
      rw [List.getElem_set_self] at ih
      simp only [List.map_cons, List.map_nil, s1] at ih
      have b1' : x.length ≤ 1000000000 := by omega
      have b2 : (x.length : Int) ≤ p.length := by omega
      have b3 : x.length + (p.length - x.length) ≤ 1000000000 := by omega
      have t1 : (x.map b1).take x.length = x.map b1 := take_b1 x
      have t2 : ((p.map b1).drop x.length).length = p.length - x.length := by simp
      have t6 : ((p.map b1).drop x.length).all (fun x => x.length == 1) = true := by rw [List.all_eq_true]; intro y hy; exact List.all_eq_true.1 (all_b1 p) y (List.mem_of_mem_drop hy)
      have t7 : (0 : Int) ≤ x.length := by omega
      have t8 : (over x p).length = x.length + (p.length - x.length) := by simp [over]
      have t3 : x.map b1 ++ (p.map b1).drop x.length = (over x p).map b1 := by simp [over]
      have t4 : (over x p).length = x.length + (p.length - x.length) := by simp [over]
      have t5 : ((over x p).map b1).take (x.length + (p.length - x.length)) = (over x p).map b1 := List.take_of_length_le (by simp [over])
      rw [A80_L0_eq]
      simp +contextual -implicitDefEqProofs (maxSteps := 2000000) only [go_sem, ↓reduceIte, Nat.reduceAdd, Nat.reduceMul, Nat.reduceSub, Nat.reduceEqDiff, Nat.reduceLeDiff, Nat.reduceDiv, Nat.reduceMod, Nat.reduceBEq, Nat.reduceBNe, reduceCtorEq, Int.reduceLE, Int.reduceLT, Int.reduceToNat, Int.reduceNeg, Nat.reduceLT, Int.reduceEq, Int.reduceSub, Int.reduceAdd, Int.reduceMul, Nat.reducePow, Int.reduceBEq, Int.reduceBNe, Int.reduceMod, A80_L0b, hk, hw, h0, hb, ht, hln, hg, List.length_map, all_b1, b1', b2, b3, t1, t2, t3, t5, t6, t7, t8, take_b1, Nat.le_refl, ih, bne_self_eq_false]
    · have hg' : l[k]? = some (l[k]'(by omega)) := List.getElem?_eq_getElem _
      have hg := get_s1 hg'
      rw [List.getElem_set_ne (by omega)] at ih
      simp only [List.map_cons, List.map_nil, s1] at ih
      have hne : ((k : Int) != i) = true := by simp; omega
      have hne2 : ¬ ((k : Int) = i) := by omega
      rw [A80_L0_eq]
      simp +contextual -implicitDefEqProofs (maxSteps := 2000000) only [go_sem, ↓reduceIte, Nat.reduceAdd, Nat.reduceMul, Nat.reduceSub, Nat.reduceEqDiff, Nat.reduceLeDiff, Nat.reduceDiv, Nat.reduceMod, Nat.reduceBEq, Nat.reduceBNe, reduceCtorEq, Int.reduceLE, Int.reduceLT, Int.reduceToNat, Int.reduceNeg, Nat.reduceLT, Int.reduceEq, Int.reduceSub, Int.reduceAdd, Int.reduceMul, Nat.reducePow, Int.reduceBEq, Int.reduceBNe, Int.reduceMod, A80_L0b, hk, hw, h0, hb, ht, hln, hg, List.length_map, hne, hne2, ih]
theorem c80 (l : List (List UInt8)) (hl : l.length ≤ 64) (i : Nat) (x p : List UInt8) (hi : l[i]? = some p) (hx : x.length ≤ p.length) (hp : p.length = 64) :
    pc E 80 [sv l, .int .i64 i, bv x] = some (.os 1 ((l.set i (over x p)).map s1)) := by
  have ll := laid_loop l hl i x p hi hx hp l.length 0 (by omega)
  simp only [Int.ofNat_zero, Int.natCast_zero, List.take_zero, List.map_nil] at ll
  have tk : ((l.set i (over x p)).map s1).take l.length = (l.set i (over x p)).map s1 := List.take_of_length_le (by simp)
  rw [pc_eq]; simp +contextual -implicitDefEqProofs (maxSteps := 2000000) only [go_sem, ↓reduceIte, Nat.reduceAdd, Nat.reduceMul, Nat.reduceSub, Nat.reduceEqDiff, Nat.reduceLeDiff, Nat.reduceDiv, Nat.reduceMod, Nat.reduceBEq, Nat.reduceBNe, reduceCtorEq, Int.reduceLE, Int.reduceLT, Int.reduceToNat, Int.reduceNeg, Nat.reduceLT, Int.reduceEq, Int.reduceSub, Int.reduceAdd, Int.reduceMul, Nat.reducePow, Int.reduceBEq, Int.reduceBNe, Int.reduceMod, E_80, A80, ll, List.length_map, List.length_set, Nat.le_refl, tk]
theorem tk_set (s : List (List UInt8)) (n : Nat) (y : List UInt8) : ((s.set n y).map s1).take s.length = (s.set n y).map s1 := List.take_of_length_le (by simp)
structure OKd (d : Dsk) : Prop where
  len1 : 1 ≤ d.sec.length
  len2 : d.sec.length ≤ 64
  all : ∀ s ∈ d.sec, s.length = 64
  fuse : d.fuse = -1 ∨ (1 ≤ d.fuse ∧ d.fuse ≤ 1099511627776)
  torn0 : 0 ≤ d.torn
  torn1 : d.torn ≤ 64
/-- what Write answers -/
def wr (d : Dsk) (i : Int) (x : List UInt8) : Dsk × Int :=
  if d.down = true then (d, 300) else
  if 0 ≤ i ∧ i < d.sec.length ∧ x.length ≤ 64 then
    if d.fuse = 1 then (⟨d.sec.set i.toNat (over (x.take d.torn.toNat) (d.sec[i.toNat]?.getD [])), -1, 0, true⟩, 300)
    else (⟨d.sec.set i.toNat (over x (d.sec[i.toNat]?.getD [])), if d.fuse > 1 then d.fuse - 1 else d.fuse, d.torn, false⟩, 0)
  else (d, 1)
theorem c29 (d : Dsk) (h : OKd d) (i : Int) (x : List UInt8) (hxl : x.length ≤ 1000000000) : pc E 29 [dv d, .int .i64 i, bv x] = some (.tup [dv (wr d i x).1, .int .i64 (wr d i x).2]) := by
  obtain ⟨s, f, t, w⟩ := d
  obtain ⟨h1, h2, h3, h4, h5, h6⟩ := h
  simp only at h1 h2 h3 h4 h5 h6
  cases w with
  | true => simp only [wr, if_true]; exact c29a s f t i x
  | false =>
    simp only [wr, Bool.false_eq_true, if_false]
    by_cases hi : 0 ≤ i ∧ i < s.length
    · by_cases hx : x.length ≤ 64
      · rw [if_pos ⟨hi.1, hi.2, hx⟩]
        have hget : s[i.toNat]? = some (s[i.toNat]'(by omega)) := List.getElem?_eq_getElem _
        have hpl := h3 _ (List.getElem_mem (l := s) (n := i.toNat) (by omega))
        rw [hget, Option.getD_some]
        generalize s[i.toNat]'(by omega) = p at hget hpl
        have hii : i = (i.toNat : Int) := by omega
        generalize i.toNat = n at *
        subst hii
        by_cases hf : f = 1
        · subst hf; simp only [if_true]; exact c29f s t n x p hget hpl h2 hx h5
        · rw [if_neg hf]
          by_cases hf1 : f > 1
          · simp only [if_pos hf1]; exact c29e s f t n x p hget hpl h2 hx hf hf1 (by omega)
          · simp only [if_neg hf1]; exact c29d s f t n x p hget hpl h2 hx hf hf1
      · rw [if_neg (by omega)]; exact c29c s f t i x hi (by omega)
    · rw [if_neg (by omega)]; exact c29b s f t i x hi
theorem c52 (d : Dsk) (h : OKd d) (i : Int) (x : List UInt8) (hxl : x.length ≤ 1000000000) : pc E 52 [dv d, .int .i64 i, bv x] = some (.tup [dv (wr d i x).1, .int .i64 (wr d i x).2]) := by
  obtain ⟨s, f, t, w⟩ := d
  obtain ⟨h1, h2, h3, h4, h5, h6⟩ := h
  simp only at h1 h2 h3 h4 h5 h6
  cases w with
  | true => simp only [wr, if_true]; rw [pc_eq]; simp +contextual -implicitDefEqProofs (maxSteps := 2000000) only [go_sem, ↓reduceIte, Nat.reduceAdd, Nat.reduceMul, Nat.reduceSub, Nat.reduceEqDiff, Nat.reduceLeDiff, Nat.reduceDiv, Nat.reduceMod, Nat.reduceBEq, Nat.reduceBNe, reduceCtorEq, Int.reduceLE, Int.reduceLT, Int.reduceToNat, Int.reduceNeg, Nat.reduceLT, Int.reduceEq, Int.reduceSub, Int.reduceAdd, Int.reduceMul, Nat.reducePow, Int.reduceBEq, Int.reduceBNe, Int.reduceMod, E_52, A52]
  | false =>
    simp only [wr, Bool.false_eq_true, if_false]
    by_cases hi : 0 ≤ i ∧ i < s.length
    · have n1 : ¬ (i < 0) := by omega
      have n2 : ¬ ((s.length : Int) ≤ i) := by omega
      by_cases hx : x.length ≤ 64
      · rw [if_pos ⟨hi.1, hi.2, hx⟩]
        have n3 : ¬ ((64 : Int) < x.length) := by omega
        have hget : s[i.toNat]? = some (s[i.toNat]'(by omega)) := List.getElem?_eq_getElem _
        have hpl := h3 _ (List.getElem_mem (l := s) (n := i.toNat) (by omega))
        rw [hget, Option.getD_some]
        generalize s[i.toNat]'(by omega) = p at hget hpl
        have hii : i = (i.toNat : Int) := by omega
        generalize i.toNat = n at *
        subst hii
        by_cases hf : f = 1
        · subst hf; simp only [if_true]
          have hk : mnI t x.length = ((x.take t.toNat).length : Int) := by rw [List.length_take]; unfold mnI; split <;> omega
          have k1 : (0 : Int) ≤ ((x.take t.toNat).length : Int) := by omega
          have k2 : ((x.take t.toNat).length : Int) ≤ x.length := by rw [List.length_take]; omega
          have k3 : (x.map b1).take (x.take t.toNat).length = (x.take t.toNat).map b1 := by rw [List.length_take, List.map_take, List.take_eq_take_iff]; simp
          have k4 : (x.take t.toNat).length ≤ p.length := by rw [List.length_take]; omega
          generalize x.take t.toNat = x' at *
          have h80 := c80 s h2 n x' p hget k4 hpl
          rw [pc_eq]; simp +contextual -implicitDefEqProofs (maxSteps := 2000000) only [go_sem, ↓reduceIte, Nat.reduceAdd, Nat.reduceMul, Nat.reduceSub, Nat.reduceEqDiff, Nat.reduceLeDiff, Nat.reduceDiv, Nat.reduceMod, Nat.reduceBEq, Nat.reduceBNe, reduceCtorEq, Int.reduceLE, Int.reduceLT, Int.reduceToNat, Int.reduceNeg, Nat.reduceLT, Int.reduceEq, Int.reduceSub, Int.reduceAdd, Int.reduceMul, Nat.reducePow, Int.reduceBEq, Int.reduceBNe, Int.reduceMod, E_52, A52, n1, n2, n3, List.length_map, all_b1, hk, k1, k2, k3, h80, ite_self, take_s1, tk_set, List.length_set, Nat.le_refl]
        · rw [if_neg hf]
          have h80 := c80 s h2 n x p hget (by omega) hpl
          have hff : (f == 1) = false := by simp [hf]
          by_cases hf1 : f > 1
          · have w1 : IntKind.i64.wrap (f - 1) = f - 1 := wrap_small (by omega) (by omega)
            simp only [if_pos hf1]; rw [pc_eq]; simp +contextual -implicitDefEqProofs (maxSteps := 2000000) only [go_sem, ↓reduceIte, Nat.reduceAdd, Nat.reduceMul, Nat.reduceSub, Nat.reduceEqDiff, Nat.reduceLeDiff, Nat.reduceDiv, Nat.reduceMod, Nat.reduceBEq, Nat.reduceBNe, reduceCtorEq, Int.reduceLE, Int.reduceLT, Int.reduceToNat, Int.reduceNeg, Nat.reduceLT, Int.reduceEq, Int.reduceSub, Int.reduceAdd, Int.reduceMul, Nat.reducePow, Int.reduceBEq, Int.reduceBNe, Int.reduceMod, E_52, A52, n1, n2, n3, List.length_map, all_b1, hf, hff, h80, ite_self, take_s1, tk_set, List.length_set, Nat.le_refl, hf1, w1]
          · simp only [if_neg hf1]; rw [pc_eq]; simp +contextual -implicitDefEqProofs (maxSteps := 2000000) only [go_sem, ↓reduceIte, Nat.reduceAdd, Nat.reduceMul, Nat.reduceSub, Nat.reduceEqDiff, Nat.reduceLeDiff, Nat.reduceDiv, Nat.reduceMod, Nat.reduceBEq, Nat.reduceBNe, reduceCtorEq, Int.reduceLE, Int.reduceLT, Int.reduceToNat, Int.reduceNeg, Nat.reduceLT, Int.reduceEq, Int.reduceSub, Int.reduceAdd, Int.reduceMul, Nat.reducePow, Int.reduceBEq, Int.reduceBNe, Int.reduceMod, E_52, A52, n1, n2, n3, List.length_map, all_b1, hf, hff, h80, ite_self, take_s1, tk_set, List.length_set, Nat.le_refl, hf1]
      · rw [if_neg (by omega)]
        have n3 : ((64 : Int) < x.length) := by omega
        rw [pc_eq]; simp +contextual -implicitDefEqProofs (maxSteps := 2000000) only [go_sem, ↓reduceIte, Nat.reduceAdd, Nat.reduceMul, Nat.reduceSub, Nat.reduceEqDiff, Nat.reduceLeDiff, Nat.reduceDiv, Nat.reduceMod, Nat.reduceBEq, Nat.reduceBNe, reduceCtorEq, Int.reduceLE, Int.reduceLT, Int.reduceToNat, Int.reduceNeg, Nat.reduceLT, Int.reduceEq, Int.reduceSub, Int.reduceAdd, Int.reduceMul, Nat.reducePow, Int.reduceBEq, Int.reduceBNe, Int.reduceMod, E_52, A52, n1, n2, n3, List.length_map]
    · rw [if_neg (by omega)]
      by_cases n1 : i < 0
      · rw [pc_eq]; simp +contextual -implicitDefEqProofs (maxSteps := 2000000) only [go_sem, ↓reduceIte, Nat.reduceAdd, Nat.reduceMul, Nat.reduceSub, Nat.reduceEqDiff, Nat.reduceLeDiff, Nat.reduceDiv, Nat.reduceMod, Nat.reduceBEq, Nat.reduceBNe, reduceCtorEq, Int.reduceLE, Int.reduceLT, Int.reduceToNat, Int.reduceNeg, Nat.reduceLT, Int.reduceEq, Int.reduceSub, Int.reduceAdd, Int.reduceMul, Nat.reducePow, Int.reduceBEq, Int.reduceBNe, Int.reduceMod, E_52, A52, n1, List.length_map]
      · have n2 : ((s.length : Int) ≤ i) := by omega
        rw [pc_eq]; simp +contextual -implicitDefEqProofs (maxSteps := 2000000) only [go_sem, ↓reduceIte, Nat.reduceAdd, Nat.reduceMul, Nat.reduceSub, Nat.reduceEqDiff, Nat.reduceLeDiff, Nat.reduceDiv, Nat.reduceMod, Nat.reduceBEq, Nat.reduceBNe, reduceCtorEq, Int.reduceLE, Int.reduceLT, Int.reduceToNat, Int.reduceNeg, Nat.reduceLT, Int.reduceEq, Int.reduceSub, Int.reduceAdd, Int.reduceMul, Nat.reducePow, Int.reduceBEq, Int.reduceBNe, Int.reduceMod, E_52, A52, n1, n2, List.length_map]
end Go.Proofs.Ytjmnepfdhkabfaa

namespace Go.Proofs.Ytjmnepfdhkabfaa
set_option maxRecDepth 100000
set_option maxHeartbeats 4000000
set_option linter.unusedSimpArgs false
set_option linter.unusedVariables false
open Go Go.Zv
def zs : List UInt8 := List.replicate 64 0
theorem zs_len : zs.length = 64 := by simp [zs]
theorem zs_row : List.replicate 64 [LV.int .u8 0] = zs.map b1 := by simp [zs, b1]
def fresh (n k : Nat) : List (List UInt8) := List.replicate k zs ++ List.replicate (n - k) []
theorem fresh_len {n k : Nat} (h : k ≤ n) : (fresh n k).length = n := by simp [fresh]; omega
theorem fresh_set {n k : Nat} (h : k < n) : ((fresh n k).map s1).set k [bv zs] = (fresh n (k + 1)).map s1 := by
  have e : (fresh n k).set k zs = fresh n (k + 1) := by
    apply List.ext_getElem?
    intro j
    unfold fresh
    rw [List.getElem?_set]
    simp only [List.getElem?_append, List.length_replicate, List.getElem?_replicate, List.length_append]
    repeat' split
    all_goals (first | omega | rfl)
  rw [← e, List.map_set]; rfl
theorem new_loop (n : Nat) (hn : n ≤ 64) : ∀ (j k : Nat), k + j = n →
    (K E A17_L0 ⟨[(2, .ptr 512 0), (4, .ptr 1024 0), (18, .int .i64 n), (19, .int .i64 k)], [], [(1024, .box [.bs 3584 0 n, .int .i64 (-1), .int .i64 0, .bool false]),
                          (1025, .row 1 []), (3584, .row 1 ((fresh n k).map s1)),
                          (512, .box [.bs 513 0 0, .int .i64 0, .int .i64 0, .bool false]),
                          (513, .row 1 [])], 0⟩).bind (blockR 0 (some [2, 4]) [5, 25]) =
    some (.ex .nrm ⟨[(2, .ptr 512 0), (4, .ptr 1024 0)], [], [(1024, .box [.bs 3584 0 n, .int .i64 (-1), .int .i64 0, .bool false]),
                          (1025, .row 1 []), (3584, .row 1 ((fresh n n).map s1)),
                          (512, .box [.bs 513 0 0, .int .i64 0, .int .i64 0, .bool false]),
                          (513, .row 1 [])], 0⟩)
  | 0, k, h => by
    have hk : k = n := by omega
    subst hk
    rw [A17_L0_eq]
    simp +contextual -implicitDefEqProofs (maxSteps := 2000000) only [go_sem, ↓reduceIte, Nat.reduceAdd, Nat.reduceMul, Nat.reduceSub, Nat.reduceEqDiff, Nat.reduceLeDiff, Nat.reduceDiv, Nat.reduceMod, Nat.reduceBEq, Nat.reduceBNe, reduceCtorEq, Int.reduceLE, Int.reduceLT, Int.reduceToNat, Int.reduceNeg, Nat.reduceLT, Int.reduceEq, Int.reduceSub, Int.reduceAdd, Int.reduceMul, Nat.reducePow, Int.reduceBEq, Int.reduceBNe, Int.reduceMod, A17_L0b, Int.lt_irrefl]
  | j + 1, k, h => by
    have hk : (k : Int) < n := by omega
    have hw := wr_succ (n := k) (by omega)
    have h0 : (0 : Int) ≤ (k : Int) := by omega
    have hfs := fresh_set (n := n) (k := k) (by omega)
    have hget : (fresh n k)[k]? = some [] := by
      unfold fresh
      rw [List.getElem?_append_right (by simp)]
      simp only [List.length_replicate, Nat.sub_self, List.getElem?_replicate]
      rw [if_pos (by omega)]
    have hg := get_s1 hget
    have ih := new_loop n hn j (k + 1) (by omega)
    have tz : (zs.map b1).take 64 = zs.map b1 := List.take_of_length_le (by simp [zs])
    rw [show bv zs = .vs (List.replicate 64 [LV.int .u8 0]) from by rw [zs_row]] at hfs
    simp only [List.replicate_succ, List.replicate_zero] at hfs
    rw [A17_L0_eq]
    simp +contextual -implicitDefEqProofs (maxSteps := 2000000) only [go_sem, ↓reduceIte, Nat.reduceAdd, Nat.reduceMul, Nat.reduceSub, Nat.reduceEqDiff, Nat.reduceLeDiff, Nat.reduceDiv, Nat.reduceMod, Nat.reduceBEq, Nat.reduceBNe, reduceCtorEq, Int.reduceLE, Int.reduceLT, Int.reduceToNat, Int.reduceNeg, Nat.reduceLT, Int.reduceEq, Int.reduceSub, Int.reduceAdd, Int.reduceMul, Nat.reducePow, Int.reduceBEq, Int.reduceBNe, Int.reduceMod, A17_L0b, hk, hw, h0, hg, hfs, ih, zs_len, List.length_map, tz]
def mk (n : Nat) : Dsk := ⟨List.replicate n zs, -1, 0, false⟩
theorem c17 (n : Nat) (h1 : 1 ≤ n) (h2 : n ≤ 64) : pc E 17 [.int .i64 n] = some (.tup [dv (mk n), .int .i64 0]) := by
  have g1 : ¬ ((n : Int) < 1) := by omega
  have g2 : ¬ ((64 : Int) < n) := by omega
  have g3 : 0 ≤ (n : Int) := by omega
  have g4 : (n : Int) ≤ 1000000000 := by omega
  have nl := new_loop n h2 n 0 (by omega)
  have e0 : (fresh n 0).map s1 = List.replicate n [.vs []] := by simp [fresh, s1]
  have e1 : fresh n n = List.replicate n zs := by simp [fresh]
  rw [e0, e1] at nl
  simp only [Int.natCast_zero, Int.ofNat_zero] at nl
  have tk : ((List.replicate n zs).map s1).take n = (List.replicate n zs).map s1 := List.take_of_length_le (by simp)
  rw [pc_eq]; simp +contextual -implicitDefEqProofs (maxSteps := 2000000) only [go_sem, ↓reduceIte, Nat.reduceAdd, Nat.reduceMul, Nat.reduceSub, Nat.reduceEqDiff, Nat.reduceLeDiff, Nat.reduceDiv, Nat.reduceMod, Nat.reduceBEq, Nat.reduceBNe, reduceCtorEq, Int.reduceLE, Int.reduceLT, Int.reduceToNat, Int.reduceNeg, Nat.reduceLT, Int.reduceEq, Int.reduceSub, Int.reduceAdd, Int.reduceMul, Nat.reducePow, Int.reduceBEq, Int.reduceBNe, Int.reduceMod, E_17, A17, g1, g2, g3, g4, List.length_replicate, Int.le_refl, nl, List.length_map, Nat.le_refl, tk, mk]
theorem c17b (n : Int) (h : n < 1 ∨ 64 < n) : pc E 17 [.int .i64 n] = some (.tup [.agg [sv [], .int .i64 0, .int .i64 0, .bool false], .int .i64 1]) := by
  by_cases h1 : n < 1
  · rw [pc_eq]; simp +contextual -implicitDefEqProofs (maxSteps := 2000000) only [go_sem, ↓reduceIte, Nat.reduceAdd, Nat.reduceMul, Nat.reduceSub, Nat.reduceEqDiff, Nat.reduceLeDiff, Nat.reduceDiv, Nat.reduceMod, Nat.reduceBEq, Nat.reduceBNe, reduceCtorEq, Int.reduceLE, Int.reduceLT, Int.reduceToNat, Int.reduceNeg, Nat.reduceLT, Int.reduceEq, Int.reduceSub, Int.reduceAdd, Int.reduceMul, Nat.reducePow, Int.reduceBEq, Int.reduceBNe, Int.reduceMod, E_17, A17, h1, List.map_nil]; rfl
  · have h2 : 64 < n := by omega
    rw [pc_eq]; simp +contextual -implicitDefEqProofs (maxSteps := 2000000) only [go_sem, ↓reduceIte, Nat.reduceAdd, Nat.reduceMul, Nat.reduceSub, Nat.reduceEqDiff, Nat.reduceLeDiff, Nat.reduceDiv, Nat.reduceMod, Nat.reduceBEq, Nat.reduceBNe, reduceCtorEq, Int.reduceLE, Int.reduceLT, Int.reduceToNat, Int.reduceNeg, Nat.reduceLT, Int.reduceEq, Int.reduceSub, Int.reduceAdd, Int.reduceMul, Nat.reducePow, Int.reduceBEq, Int.reduceBNe, Int.reduceMod, E_17, A17, h1, h2, List.map_nil]; rfl
def reps (k : Nat) : List (List UInt8) := List.replicate k zs
theorem reps_len (k : Nat) : (reps k).length = k := by simp [reps]
theorem new_loop' (n : Nat) (hn : n ≤ 64) : ∀ (j k : Nat), k + j = n →
    (K E A18_L0 ⟨[(0, .int .i64 n), (2, .ptr 512 0), (4, .ptr 1024 0), (5, .int .i64 k)], [], [(1025, .row 1 ((reps k).map s1)),
                        (1024, .box [.bs 1025 0 k, .int .i64 (-1), .int .i64 0, .bool false]),
                        (512, .box [.bs 513 0 0, .int .i64 0, .int .i64 0, .bool false]),
                        (513, .row 1 [])], 0⟩).bind (blockR 0 (some [2, 4]) [5, 21, 22, 23]) =
    some (.ex .nrm ⟨[(2, .ptr 512 0), (4, .ptr 1024 0)], [], [(1025, .row 1 ((reps n).map s1)),
                        (1024, .box [.bs 1025 0 n, .int .i64 (-1), .int .i64 0, .bool false]),
                        (512, .box [.bs 513 0 0, .int .i64 0, .int .i64 0, .bool false]),
                        (513, .row 1 [])], 0⟩)
  | 0, k, h => by
    have hk : k = n := by omega
    subst hk
    rw [A18_L0_eq]
    simp +contextual -implicitDefEqProofs (maxSteps := 2000000) only [go_sem, ↓reduceIte, Nat.reduceAdd, Nat.reduceMul, Nat.reduceSub, Nat.reduceEqDiff, Nat.reduceLeDiff, Nat.reduceDiv, Nat.reduceMod, Nat.reduceBEq, Nat.reduceBNe, reduceCtorEq, Int.reduceLE, Int.reduceLT, Int.reduceToNat, Int.reduceNeg, Nat.reduceLT, Int.reduceEq, Int.reduceSub, Int.reduceAdd, Int.reduceMul, Nat.reducePow, Int.reduceBEq, Int.reduceBNe, Int.reduceMod, A18_L0b, Int.lt_irrefl]
  | j + 1, k, h => by
    have hk : (k : Int) < n := by omega
    have hw := wr_succ (n := k) (by omega)
    have hb : k + 1 ≤ 1000000000 := by omega
    have ht : ((reps k).map s1).take k = (reps k).map s1 := List.take_of_length_le (by simp [reps])
    have hfs : (reps k).map s1 ++ [[bv zs]] = (reps (k + 1)).map s1 := by simp [reps, List.replicate_succ', s1]
    rw [show bv zs = .vs (List.replicate 64 [LV.int .u8 0]) from by rw [zs_row]] at hfs
    rw [List.replicate_succ (n := 63), List.replicate_succ (n := 62)] at hfs
    simp only [List.replicate_succ (a := [LV.int .u8 0]), List.replicate_zero] at hfs
    have ih := new_loop' n hn j (k + 1) (by omega)
    rw [A18_L0_eq]
    simp +contextual -implicitDefEqProofs (maxSteps := 2000000) only [go_sem, ↓reduceIte, Nat.reduceAdd, Nat.reduceMul, Nat.reduceSub, Nat.reduceEqDiff, Nat.reduceLeDiff, Nat.reduceDiv, Nat.reduceMod, Nat.reduceBEq, Nat.reduceBNe, reduceCtorEq, Int.reduceLE, Int.reduceLT, Int.reduceToNat, Int.reduceNeg, Nat.reduceLT, Int.reduceEq, Int.reduceSub, Int.reduceAdd, Int.reduceMul, Nat.reducePow, Int.reduceBEq, Int.reduceBNe, Int.reduceMod, A18_L0b, hk, hw, hb, ht, hfs, ih, List.length_map, reps_len]
theorem c18 (n : Nat) (h1 : 1 ≤ n) (h2 : n ≤ 64) : pc E 18 [.int .i64 n] = some (.tup [dv (mk n), .int .i64 0]) := by
  have g1 : ¬ ((n : Int) < 1) := by omega
  have g2 : ¬ ((64 : Int) < n) := by omega
  have nl := new_loop' n h2 n 0 (by omega)
  rw [show (reps 0).map s1 = [] from rfl] at nl
  simp only [Int.natCast_zero, Int.ofNat_zero] at nl
  have tk : ((reps n).map s1).take n = (reps n).map s1 := List.take_of_length_le (by simp [reps])
  have e : mk n = ⟨reps n, -1, 0, false⟩ := rfl
  rw [e]
  rw [pc_eq]; simp +contextual -implicitDefEqProofs (maxSteps := 2000000) only [go_sem, ↓reduceIte, Nat.reduceAdd, Nat.reduceMul, Nat.reduceSub, Nat.reduceEqDiff, Nat.reduceLeDiff, Nat.reduceDiv, Nat.reduceMod, Nat.reduceBEq, Nat.reduceBNe, reduceCtorEq, Int.reduceLE, Int.reduceLT, Int.reduceToNat, Int.reduceNeg, Nat.reduceLT, Int.reduceEq, Int.reduceSub, Int.reduceAdd, Int.reduceMul, Nat.reducePow, Int.reduceBEq, Int.reduceBNe, Int.reduceMod, E_18, A18, g1, g2, nl, List.length_map, Nat.le_refl, tk, reps_len]
theorem c18b (n : Int) (h : n < 1 ∨ 64 < n) : pc E 18 [.int .i64 n] = some (.tup [.agg [sv [], .int .i64 0, .int .i64 0, .bool false], .int .i64 1]) := by
  by_cases h1 : n < 1
  · rw [pc_eq]; simp +contextual -implicitDefEqProofs (maxSteps := 2000000) only [go_sem, ↓reduceIte, Nat.reduceAdd, Nat.reduceMul, Nat.reduceSub, Nat.reduceEqDiff, Nat.reduceLeDiff, Nat.reduceDiv, Nat.reduceMod, Nat.reduceBEq, Nat.reduceBNe, reduceCtorEq, Int.reduceLE, Int.reduceLT, Int.reduceToNat, Int.reduceNeg, Nat.reduceLT, Int.reduceEq, Int.reduceSub, Int.reduceAdd, Int.reduceMul, Nat.reducePow, Int.reduceBEq, Int.reduceBNe, Int.reduceMod, E_18, A18, h1, List.map_nil]; rfl
  · have h2 : 64 < n := by omega
    rw [pc_eq]; simp +contextual -implicitDefEqProofs (maxSteps := 2000000) only [go_sem, ↓reduceIte, Nat.reduceAdd, Nat.reduceMul, Nat.reduceSub, Nat.reduceEqDiff, Nat.reduceLeDiff, Nat.reduceDiv, Nat.reduceMod, Nat.reduceBEq, Nat.reduceBNe, reduceCtorEq, Int.reduceLE, Int.reduceLT, Int.reduceToNat, Int.reduceNeg, Nat.reduceLT, Int.reduceEq, Int.reduceSub, Int.reduceAdd, Int.reduceMul, Nat.reducePow, Int.reduceBEq, Int.reduceBNe, Int.reduceMod, E_18, A18, h1, h2, List.map_nil]; rfl
end Go.Proofs.Ytjmnepfdhkabfaa

namespace Go.Proofs.Ytjmnepfdhkabfaa
set_option maxRecDepth 100000
set_option maxHeartbeats 4000000
set_option linter.unusedSimpArgs false
set_option linter.unusedVariables false
open Go Go.Zv
theorem ok_mk (n : Nat) (h1 : 1 ≤ n) (h2 : n ≤ 64) : OKd (mk n) := by
  refine ⟨by simp [mk]; omega, by simp [mk]; omega, fun s hs => ?_, .inl rfl, by simp [mk], by simp [mk]⟩
  have := List.eq_of_mem_replicate (show s ∈ List.replicate n zs from hs)
  rw [this, zs_len]
theorem c22 (n : Nat) (hn : n ≤ 255) : pc E 22 [.int .u8 n] = some (dv (mk (1 + n % 6))) := by
  have w1 : IntKind.i64.wrap (n : Int) = n := wrap_small (by omega) (by omega)
  have t1 : (n : Int).tmod 6 = ((n % 6 : Nat) : Int) := by rw [Int.tmod_eq_emod_of_nonneg (by omega)]; rfl
  have w2 : IntKind.i64.wrap (1 + ((n % 6 : Nat) : Int)) = ((1 + n % 6 : Nat) : Int) := by rw [wrap_small (by omega) (by omega)]; omega
  have h := c18 (1 + n % 6) (by omega) (by omega)
  generalize hm : (1 + n % 6 : Nat) = m at *
  generalize mk m = dd at *
  obtain ⟨s, f, t, w⟩ := dd
  rw [pc_eq]; simp +contextual -implicitDefEqProofs (maxSteps := 2000000) only [go_sem, ↓reduceIte, Nat.reduceAdd, Nat.reduceMul, Nat.reduceSub, Nat.reduceEqDiff, Nat.reduceLeDiff, Nat.reduceDiv, Nat.reduceMod, Nat.reduceBEq, Nat.reduceBNe, reduceCtorEq, Int.reduceLE, Int.reduceLT, Int.reduceToNat, Int.reduceNeg, Nat.reduceLT, Int.reduceEq, Int.reduceSub, Int.reduceAdd, Int.reduceMul, Nat.reducePow, Int.reduceBEq, Int.reduceBNe, Int.reduceMod, E_22, A22, w1, t1, w2, h]
/-- what fused makes -/
def fu (d : Dsk) (a2 a3 : Int) : Dsk := if d.down = true then d else ⟨d.sec, 1 + a2.tmod 9, a3.tmod 65, false⟩
theorem c50 (d : Dsk) (a0 a1 a2 a3 : Int) (x : List UInt8) (h1 : 0 ≤ a2) (h2 : a2 ≤ 255) (h3 : 0 ≤ a3) (h4 : a3 ≤ 255) : pc E 50 [dv d, .agg [.int .u8 a0, .int .i64 a1, .int .u8 a2, .int .u8 a3, bv x]] = some (dv (fu d a2 a3)) := by
  obtain ⟨s, f, t, w⟩ := d
  have w1 : IntKind.i64.wrap a2 = a2 := wrap_small (by omega) (by omega)
  have w2 : IntKind.i64.wrap a3 = a3 := wrap_small (by omega) (by omega)
  have e1 := Int.tmod_lt_of_pos a2 (show (0 : Int) < 9 by omega)
  have e2 := Int.lt_tmod_of_pos a2 (show (0 : Int) < 9 by omega)
  have w3 : IntKind.i64.wrap (1 + a2.tmod 9) = 1 + a2.tmod 9 := wrap_small (by omega) (by omega)
  cases w with
  | true => rw [pc_eq]; simp +contextual -implicitDefEqProofs (maxSteps := 2000000) only [go_sem, ↓reduceIte, Nat.reduceAdd, Nat.reduceMul, Nat.reduceSub, Nat.reduceEqDiff, Nat.reduceLeDiff, Nat.reduceDiv, Nat.reduceMod, Nat.reduceBEq, Nat.reduceBNe, reduceCtorEq, Int.reduceLE, Int.reduceLT, Int.reduceToNat, Int.reduceNeg, Nat.reduceLT, Int.reduceEq, Int.reduceSub, Int.reduceAdd, Int.reduceMul, Nat.reducePow, Int.reduceBEq, Int.reduceBNe, Int.reduceMod, E_50, A50, fu]
  | false => rw [pc_eq]; simp +contextual -implicitDefEqProofs (maxSteps := 2000000) only [go_sem, ↓reduceIte, Nat.reduceAdd, Nat.reduceMul, Nat.reduceSub, Nat.reduceEqDiff, Nat.reduceLeDiff, Nat.reduceDiv, Nat.reduceMod, Nat.reduceBEq, Nat.reduceBNe, reduceCtorEq, Int.reduceLE, Int.reduceLT, Int.reduceToNat, Int.reduceNeg, Nat.reduceLT, Int.reduceEq, Int.reduceSub, Int.reduceAdd, Int.reduceMul, Nat.reducePow, Int.reduceBEq, Int.reduceBNe, Int.reduceMod, E_50, A50, fu, w1, w2, w3]
theorem ok_fu {d : Dsk} (h : OKd d) {a2 a3 : Int} (h1 : 0 ≤ a2) (h3 : 0 ≤ a3) : OKd (fu d a2 a3) := by
  unfold fu
  split
  · exact h
  · have e1 := Int.tmod_lt_of_pos a2 (show (0 : Int) < 9 by omega)
    have e2 := Int.tmod_nonneg 9 h1
    have e3 := Int.tmod_lt_of_pos a3 (show (0 : Int) < 65 by omega)
    have e4 := Int.tmod_nonneg 65 h3
    exact ⟨h.len1, h.len2, h.all, .inr ⟨by simp only; omega, by simp only; omega⟩, e4, by simp only; omega⟩
theorem ok_wr {d : Dsk} (h : OKd d) (i : Int) (x : List UInt8) : OKd (wr d i x).1 := by
  unfold wr
  split
  · exact h
  · split
    · rename_i hc
      have hget : d.sec[i.toNat]? = some (d.sec[i.toNat]'(by omega)) := List.getElem?_eq_getElem _
      have hpl := h.all _ (List.getElem_mem (l := d.sec) (n := i.toNat) (by omega))
      rw [hget, Option.getD_some]
      have hset : ∀ y : List UInt8, y.length = 64 → ∀ s ∈ d.sec.set i.toNat y, s.length = 64 := fun y hy s hs => by
        rcases List.mem_or_eq_of_mem_set hs with h' | rfl
        · exact h.all s h'
        · exact hy
      split
      · exact ⟨by simp only [List.length_set]; exact h.len1, by simp only [List.length_set]; exact h.len2, hset _ (by rw [over_len (by rw [List.length_take, hpl]; omega), hpl]), .inl rfl, by simp, by simp⟩
      · refine ⟨by simp only [List.length_set]; exact h.len1, by simp only [List.length_set]; exact h.len2, hset _ (by rw [over_len (by omega), hpl]), ?_, h.torn0, h.torn1⟩
        have := h.fuse
        simp only
        split <;> omega
    · exact h
theorem ok_up {d : Dsk} (h : OKd d) : OKd { d with down := false } := ⟨h.len1, h.len2, h.all, h.fuse, h.torn0, h.torn1⟩
end Go.Proofs.Ytjmnepfdhkabfaa

namespace Go.Proofs.Ytjmnepfdhkabfaa
set_option maxRecDepth 100000
set_option maxHeartbeats 4000000
set_option linter.unusedSimpArgs false
set_option linter.unusedVariables false
open Go Go.Zv
theorem c49 (s : List UInt8) : pc E 49 [bv s] = some (.bool ((s.length : Int) != 64)) := by
  rw [pc_eq]; simp +contextual -implicitDefEqProofs (maxSteps := 2000000) only [go_sem, ↓reduceIte, Nat.reduceAdd, Nat.reduceMul, Nat.reduceSub, Nat.reduceEqDiff, Nat.reduceLeDiff, Nat.reduceDiv, Nat.reduceMod, Nat.reduceBEq, Nat.reduceBNe, reduceCtorEq, Int.reduceLE, Int.reduceLT, Int.reduceToNat, Int.reduceNeg, Nat.reduceLT, Int.reduceEq, Int.reduceSub, Int.reduceAdd, Int.reduceMul, Nat.reducePow, Int.reduceBEq, Int.reduceBNe, Int.reduceMod, E_49, A49, List.length_map]
theorem idx_good (l : List (List UInt8)) (hl : l.length ≤ 64) (h : ∀ s ∈ l, s.length = 64) : ∀ (j k : Nat), k + j = l.length →
    (K E A79_L0 ⟨[(0, sv l), (1, .fn (.func 49) [] []), (7, .int .i64 l.length), (8, .int .i64 k)], [], [], 0⟩).bind (blockR 0 (some []) [4, 5, 16]) = some (.ex .nrm ⟨[], [], [], 0⟩)
  | 0, k, hk => by
    have e : l.length = k := by omega
    rw [A79_L0_eq, e]
    simp +contextual -implicitDefEqProofs (maxSteps := 2000000) only [go_sem, ↓reduceIte, Nat.reduceAdd, Nat.reduceMul, Nat.reduceSub, Nat.reduceEqDiff, Nat.reduceLeDiff, Nat.reduceDiv, Nat.reduceMod, Nat.reduceBEq, Nat.reduceBNe, reduceCtorEq, Int.reduceLE, Int.reduceLT, Int.reduceToNat, Int.reduceNeg, Nat.reduceLT, Int.reduceEq, Int.reduceSub, Int.reduceAdd, Int.reduceMul, Nat.reducePow, Int.reduceBEq, Int.reduceBNe, Int.reduceMod, A79_L0b, Int.lt_irrefl]
  | j + 1, k, hk => by
    have h1 : (k : Int) < l.length := by omega
    have hget : l[k]? = some (l[k]'(by omega)) := List.getElem?_eq_getElem _
    have h2 := h _ (List.getElem_mem (l := l) (n := k) (by omega))
    generalize l[k]'(by omega) = p at hget h2
    have hg := get_s1 hget
    have hw := wr_succ (n := k) (by omega)
    have h0 : (0 : Int) ≤ (k : Int) := by omega
    have ih := idx_good l hl h j (k + 1) (by omega)
    have h3 : ((p.length : Int) != 64) = false := by simp [h2]
    rw [A79_L0_eq]
    simp +contextual -implicitDefEqProofs (maxSteps := 2000000) only [go_sem, ↓reduceIte, Nat.reduceAdd, Nat.reduceMul, Nat.reduceSub, Nat.reduceEqDiff, Nat.reduceLeDiff, Nat.reduceDiv, Nat.reduceMod, Nat.reduceBEq, Nat.reduceBNe, reduceCtorEq, Int.reduceLE, Int.reduceLT, Int.reduceToNat, Int.reduceNeg, Nat.reduceLT, Int.reduceEq, Int.reduceSub, Int.reduceAdd, Int.reduceMul, Nat.reducePow, Int.reduceBEq, Int.reduceBNe, Int.reduceMod, A79_L0b, h1, h0, hg, hw, c49, h3, ih, List.length_map]
theorem idx_bad (l : List (List UInt8)) (hl : l.length ≤ 1000000000) : ∀ (j k : Nat), k + j = l.length → (∃ s ∈ l.drop k, s.length ≠ 64) →
    ∃ i : Nat, (K E A79_L0 ⟨[(0, sv l), (1, .fn (.func 49) [] []), (7, .int .i64 l.length), (8, .int .i64 k)], [], [], 0⟩).bind (blockR 0 (some []) [4, 5, 16]) = some (.ex .ret ⟨[(4, .int .i64 i)], [], [], 0⟩)
  | 0, k, hk, ⟨s, hs, _⟩ => by
    rw [List.drop_of_length_le (by omega)] at hs; cases hs
  | j + 1, k, hk, hb => by
    have h1 : (k : Int) < l.length := by omega
    have hget : l[k]? = some (l[k]'(by omega)) := List.getElem?_eq_getElem _
    have hd : l.drop k = (l[k]'(by omega)) :: l.drop (k + 1) := List.drop_eq_getElem_cons (by omega)
    generalize l[k]'(by omega) = p at hget hd
    have hg := get_s1 hget
    have hw := wr_succ (n := k) (by omega)
    have h0 : (0 : Int) ≤ (k : Int) := by omega
    by_cases h2 : p.length = 64
    · have h3 : ((p.length : Int) != 64) = false := by simp [h2]
      obtain ⟨s, hs, hn⟩ := hb
      rw [hd, List.mem_cons] at hs
      obtain ⟨i, ih⟩ := idx_bad l hl j (k + 1) (by omega) ⟨s, hs.resolve_left (fun e => by subst e; exact hn h2), hn⟩
      refine ⟨i, ?_⟩
      rw [A79_L0_eq]
      simp +contextual -implicitDefEqProofs (maxSteps := 2000000) only [go_sem, ↓reduceIte, Nat.reduceAdd, Nat.reduceMul, Nat.reduceSub, Nat.reduceEqDiff, Nat.reduceLeDiff, Nat.reduceDiv, Nat.reduceMod, Nat.reduceBEq, Nat.reduceBNe, reduceCtorEq, Int.reduceLE, Int.reduceLT, Int.reduceToNat, Int.reduceNeg, Nat.reduceLT, Int.reduceEq, Int.reduceSub, Int.reduceAdd, Int.reduceMul, Nat.reducePow, Int.reduceBEq, Int.reduceBNe, Int.reduceMod, A79_L0b, h1, h0, hg, hw, c49, h3, ih, List.length_map]
    · have h3 : ((p.length : Int) != 64) = true := by simp; omega
      refine ⟨k, ?_⟩
      rw [A79_L0_eq]
      simp +contextual -implicitDefEqProofs (maxSteps := 2000000) only [go_sem, ↓reduceIte, Nat.reduceAdd, Nat.reduceMul, Nat.reduceSub, Nat.reduceEqDiff, Nat.reduceLeDiff, Nat.reduceDiv, Nat.reduceMod, Nat.reduceBEq, Nat.reduceBNe, reduceCtorEq, Int.reduceLE, Int.reduceLT, Int.reduceToNat, Int.reduceNeg, Nat.reduceLT, Int.reduceEq, Int.reduceSub, Int.reduceAdd, Int.reduceMul, Nat.reducePow, Int.reduceBEq, Int.reduceBNe, Int.reduceMod, A79_L0b, h1, h0, hg, hw, c49, h3, List.length_map]
end Go.Proofs.Ytjmnepfdhkabfaa

namespace Go.Proofs.Ytjmnepfdhkabfaa
set_option maxRecDepth 100000
set_option maxHeartbeats 4000000
set_option linter.unusedSimpArgs false
set_option linter.unusedVariables false
open Go Go.Zv
def all64 (l : List (List UInt8)) : Bool := l.all fun s => s.length == 64
theorem c48 (l : List (List UInt8)) (hl : l.length ≤ 64) : pc E 48 [sv l, .fn (.func 49) [] []] = some (.bool (!all64 l)) := by
  cases h : all64 l with
  | true =>
    have hg := idx_good l hl (fun s hs => by simpa using List.all_eq_true.1 h s hs) l.length 0 (by omega)
    simp only [Int.natCast_zero, Int.ofNat_zero] at hg
    have h79 : pc E 79 [sv l, .fn (.func 49) [] []] = some (.int .i64 (-1)) := by
      rw [pc_eq]; simp +contextual -implicitDefEqProofs (maxSteps := 2000000) only [go_sem, ↓reduceIte, Nat.reduceAdd, Nat.reduceMul, Nat.reduceSub, Nat.reduceEqDiff, Nat.reduceLeDiff, Nat.reduceDiv, Nat.reduceMod, Nat.reduceBEq, Nat.reduceBNe, reduceCtorEq, Int.reduceLE, Int.reduceLT, Int.reduceToNat, Int.reduceNeg, Nat.reduceLT, Int.reduceEq, Int.reduceSub, Int.reduceAdd, Int.reduceMul, Nat.reducePow, Int.reduceBEq, Int.reduceBNe, Int.reduceMod, E_79, A79, List.length_map, hg]
    rw [pc_eq]; simp +contextual -implicitDefEqProofs (maxSteps := 2000000) only [go_sem, ↓reduceIte, Nat.reduceAdd, Nat.reduceMul, Nat.reduceSub, Nat.reduceEqDiff, Nat.reduceLeDiff, Nat.reduceDiv, Nat.reduceMod, Nat.reduceBEq, Nat.reduceBNe, reduceCtorEq, Int.reduceLE, Int.reduceLT, Int.reduceToNat, Int.reduceNeg, Nat.reduceLT, Int.reduceEq, Int.reduceSub, Int.reduceAdd, Int.reduceMul, Nat.reducePow, Int.reduceBEq, Int.reduceBNe, Int.reduceMod, E_48, A48, h79]
  | false =>
    have hb : ∃ s ∈ l.drop 0, s.length ≠ 64 := by
      rw [List.drop_zero]
      have := List.all_eq_false.1 h
      obtain ⟨s, hs, hn⟩ := this
      exact ⟨s, hs, by simpa using hn⟩
    obtain ⟨i, hg⟩ := idx_bad l (by omega) l.length 0 (by omega) hb
    simp only [Int.natCast_zero, Int.ofNat_zero] at hg
    have h79 : pc E 79 [sv l, .fn (.func 49) [] []] = some (.int .i64 i) := by
      rw [pc_eq]; simp +contextual -implicitDefEqProofs (maxSteps := 2000000) only [go_sem, ↓reduceIte, Nat.reduceAdd, Nat.reduceMul, Nat.reduceSub, Nat.reduceEqDiff, Nat.reduceLeDiff, Nat.reduceDiv, Nat.reduceMod, Nat.reduceBEq, Nat.reduceBNe, reduceCtorEq, Int.reduceLE, Int.reduceLT, Int.reduceToNat, Int.reduceNeg, Nat.reduceLT, Int.reduceEq, Int.reduceSub, Int.reduceAdd, Int.reduceMul, Nat.reducePow, Int.reduceBEq, Int.reduceBNe, Int.reduceMod, E_79, A79, List.length_map, hg]
    have h0 : (0 : Int) ≤ (i : Int) := by omega
    rw [pc_eq]; simp +contextual -implicitDefEqProofs (maxSteps := 2000000) only [go_sem, ↓reduceIte, Nat.reduceAdd, Nat.reduceMul, Nat.reduceSub, Nat.reduceEqDiff, Nat.reduceLeDiff, Nat.reduceDiv, Nat.reduceMod, Nat.reduceBEq, Nat.reduceBNe, reduceCtorEq, Int.reduceLE, Int.reduceLT, Int.reduceToNat, Int.reduceNeg, Nat.reduceLT, Int.reduceEq, Int.reduceSub, Int.reduceAdd, Int.reduceMul, Nat.reducePow, Int.reduceBEq, Int.reduceBNe, Int.reduceMod, E_48, A48, h79, h0]
def vd (s : List (List UInt8)) (f t : Int) : Bool := decide (1 ≤ s.length ∧ s.length ≤ 64 ∧ (f = -1 ∨ (1 ≤ f ∧ f ≤ 1099511627776)) ∧ 0 ≤ t ∧ t ≤ 64) && all64 s
theorem c20 (s : List (List UInt8)) (f t : Int) (w : Bool) : pc E 20 [.agg [sv s, .int .i64 f, .int .i64 t, .bool w]] = some (.bool (vd s f t)) := by
  by_cases h : 1 ≤ s.length ∧ s.length ≤ 64 ∧ (f = -1 ∨ (1 ≤ f ∧ f ≤ 1099511627776)) ∧ 0 ≤ t ∧ t ≤ 64
  · have h48 := c48 s h.2.1
    have e1 : ((s.length : Int) == 0) = false := by simp; intro hh; subst hh; simp at h
    have e2 : ¬ ((64 : Int) < s.length) := by omega
    have e3 : ¬ (t < 0) := by omega
    have e4 : ¬ (64 < t) := by omega
    have e5 : ¬ (f < -1) := by omega
    have e6 : (f == 0) = false := by simp; omega
    have e7 : ¬ (1099511627776 < f) := by omega
    have e8 : ¬ (f = 0) := by omega
    have e9 : ¬ ((s.length : Int) = 0) := by omega
    rw [pc_eq]; simp +contextual -implicitDefEqProofs (maxSteps := 2000000) only [go_sem, ↓reduceIte, Nat.reduceAdd, Nat.reduceMul, Nat.reduceSub, Nat.reduceEqDiff, Nat.reduceLeDiff, Nat.reduceDiv, Nat.reduceMod, Nat.reduceBEq, Nat.reduceBNe, reduceCtorEq, Int.reduceLE, Int.reduceLT, Int.reduceToNat, Int.reduceNeg, Nat.reduceLT, Int.reduceEq, Int.reduceSub, Int.reduceAdd, Int.reduceMul, Nat.reducePow, Int.reduceBEq, Int.reduceBNe, Int.reduceMod, E_20, A20, List.length_map, e1, e2, e3, e4, e5, e6, e7, e8, e9, h48, Bool.not_not]
    simp [vd, h]
  · have hv : vd s f t = false := by unfold vd; rw [decide_eq_false h, Bool.false_and]
    rw [hv]
    by_cases e1 : (s.length : Int) = 0
    · rw [pc_eq]; simp +contextual -implicitDefEqProofs (maxSteps := 2000000) only [go_sem, ↓reduceIte, Nat.reduceAdd, Nat.reduceMul, Nat.reduceSub, Nat.reduceEqDiff, Nat.reduceLeDiff, Nat.reduceDiv, Nat.reduceMod, Nat.reduceBEq, Nat.reduceBNe, reduceCtorEq, Int.reduceLE, Int.reduceLT, Int.reduceToNat, Int.reduceNeg, Nat.reduceLT, Int.reduceEq, Int.reduceSub, Int.reduceAdd, Int.reduceMul, Nat.reducePow, Int.reduceBEq, Int.reduceBNe, Int.reduceMod, E_20, A20, List.length_map, e1]
    have e1' := beq_eq_false_iff_ne.2 e1
    by_cases e2 : (64 : Int) < s.length
    · rw [pc_eq]; simp +contextual -implicitDefEqProofs (maxSteps := 2000000) only [go_sem, ↓reduceIte, Nat.reduceAdd, Nat.reduceMul, Nat.reduceSub, Nat.reduceEqDiff, Nat.reduceLeDiff, Nat.reduceDiv, Nat.reduceMod, Nat.reduceBEq, Nat.reduceBNe, reduceCtorEq, Int.reduceLE, Int.reduceLT, Int.reduceToNat, Int.reduceNeg, Nat.reduceLT, Int.reduceEq, Int.reduceSub, Int.reduceAdd, Int.reduceMul, Nat.reducePow, Int.reduceBEq, Int.reduceBNe, Int.reduceMod, E_20, A20, List.length_map, e1, e1', e2]
    by_cases e3 : t < 0
    · rw [pc_eq]; simp +contextual -implicitDefEqProofs (maxSteps := 2000000) only [go_sem, ↓reduceIte, Nat.reduceAdd, Nat.reduceMul, Nat.reduceSub, Nat.reduceEqDiff, Nat.reduceLeDiff, Nat.reduceDiv, Nat.reduceMod, Nat.reduceBEq, Nat.reduceBNe, reduceCtorEq, Int.reduceLE, Int.reduceLT, Int.reduceToNat, Int.reduceNeg, Nat.reduceLT, Int.reduceEq, Int.reduceSub, Int.reduceAdd, Int.reduceMul, Nat.reducePow, Int.reduceBEq, Int.reduceBNe, Int.reduceMod, E_20, A20, List.length_map, e1, e1', e2, e3]
    by_cases e4 : 64 < t
    · rw [pc_eq]; simp +contextual -implicitDefEqProofs (maxSteps := 2000000) only [go_sem, ↓reduceIte, Nat.reduceAdd, Nat.reduceMul, Nat.reduceSub, Nat.reduceEqDiff, Nat.reduceLeDiff, Nat.reduceDiv, Nat.reduceMod, Nat.reduceBEq, Nat.reduceBNe, reduceCtorEq, Int.reduceLE, Int.reduceLT, Int.reduceToNat, Int.reduceNeg, Nat.reduceLT, Int.reduceEq, Int.reduceSub, Int.reduceAdd, Int.reduceMul, Nat.reducePow, Int.reduceBEq, Int.reduceBNe, Int.reduceMod, E_20, A20, List.length_map, e1, e1', e2, e3, e4]
    by_cases e5 : f < -1
    · rw [pc_eq]; simp +contextual -implicitDefEqProofs (maxSteps := 2000000) only [go_sem, ↓reduceIte, Nat.reduceAdd, Nat.reduceMul, Nat.reduceSub, Nat.reduceEqDiff, Nat.reduceLeDiff, Nat.reduceDiv, Nat.reduceMod, Nat.reduceBEq, Nat.reduceBNe, reduceCtorEq, Int.reduceLE, Int.reduceLT, Int.reduceToNat, Int.reduceNeg, Nat.reduceLT, Int.reduceEq, Int.reduceSub, Int.reduceAdd, Int.reduceMul, Nat.reducePow, Int.reduceBEq, Int.reduceBNe, Int.reduceMod, E_20, A20, List.length_map, e1, e1', e2, e3, e4, e5]
    by_cases e6 : f = 0
    · rw [pc_eq]; simp +contextual -implicitDefEqProofs (maxSteps := 2000000) only [go_sem, ↓reduceIte, Nat.reduceAdd, Nat.reduceMul, Nat.reduceSub, Nat.reduceEqDiff, Nat.reduceLeDiff, Nat.reduceDiv, Nat.reduceMod, Nat.reduceBEq, Nat.reduceBNe, reduceCtorEq, Int.reduceLE, Int.reduceLT, Int.reduceToNat, Int.reduceNeg, Nat.reduceLT, Int.reduceEq, Int.reduceSub, Int.reduceAdd, Int.reduceMul, Nat.reducePow, Int.reduceBEq, Int.reduceBNe, Int.reduceMod, E_20, A20, List.length_map, e1, e1', e2, e3, e4, e5, e6]
    have e6' := beq_eq_false_iff_ne.2 e6
    have e7 : 1099511627776 < f := by omega
    rw [pc_eq]; simp +contextual -implicitDefEqProofs (maxSteps := 2000000) only [go_sem, ↓reduceIte, Nat.reduceAdd, Nat.reduceMul, Nat.reduceSub, Nat.reduceEqDiff, Nat.reduceLeDiff, Nat.reduceDiv, Nat.reduceMod, Nat.reduceBEq, Nat.reduceBNe, reduceCtorEq, Int.reduceLE, Int.reduceLT, Int.reduceToNat, Int.reduceNeg, Nat.reduceLT, Int.reduceEq, Int.reduceSub, Int.reduceAdd, Int.reduceMul, Nat.reducePow, Int.reduceBEq, Int.reduceBNe, Int.reduceMod, E_20, A20, List.length_map, e1, e1', e2, e3, e4, e5, e6, e6', e7]
end Go.Proofs.Ytjmnepfdhkabfaa

namespace Go.Proofs.Ytjmnepfdhkabfaa
set_option maxRecDepth 100000
set_option maxHeartbeats 4000000
set_option linter.unusedSimpArgs false
set_option linter.unusedVariables false
open Go Go.Zv
/-- an act -/
structure Act where
  k : Int
  at_ : Int
  n : Int
  torn : Int
  data : List UInt8
abbrev av (a : Act) : LV := .agg [.int .u8 a.k, .int .i64 a.at_, .int .u8 a.n, .int .u8 a.torn, bv a.data]
structure OKa (a : Act) : Prop where
  k0 : 0 ≤ a.k
  n0 : 0 ≤ a.n
  n1 : a.n ≤ 255
  t0 : 0 ≤ a.torn
  t1 : a.torn ≤ 255
  len : a.data.length ≤ 1000000000
def ac (d : Dsk) (a : Act) : Dsk × Int :=
  if a.k.tmod 6 = 0 then ({ d with down := false }, 0) else if a.k.tmod 6 = 1 then (fu d a.n a.torn, 0) else wr d a.at_ a.data
theorem ok_ac {d : Dsk} (h : OKd d) {a : Act} (ha : OKa a) : OKd (ac d a).1 := by
  unfold ac
  split
  · exact ok_up h
  · split
    · exact ok_fu h ha.n0 ha.t0
    · exact ok_wr h _ _
theorem c23 (d : Dsk) (h : OKd d) (a : Act) (ha : OKa a) : pc E 23 [dv d, av a] = some (.tup [dv (ac d a).1, .int .i64 (ac d a).2]) := by
  have h29 := c29 d h a.at_ a.data ha.len
  have h50 := c50 d a.k a.at_ a.n a.torn a.data ha.n0 ha.n1 ha.t0 ha.t1
  have h30 := c30 d.sec d.fuse d.torn d.down
  obtain ⟨k, i, n, t, x⟩ := a
  by_cases e0 : k.tmod 6 = 0
  · simp only [ac, e0, if_true]
    rw [pc_eq]; simp +contextual -implicitDefEqProofs (maxSteps := 2000000) only [go_sem, ↓reduceIte, Nat.reduceAdd, Nat.reduceMul, Nat.reduceSub, Nat.reduceEqDiff, Nat.reduceLeDiff, Nat.reduceDiv, Nat.reduceMod, Nat.reduceBEq, Nat.reduceBNe, reduceCtorEq, Int.reduceLE, Int.reduceLT, Int.reduceToNat, Int.reduceNeg, Nat.reduceLT, Int.reduceEq, Int.reduceSub, Int.reduceAdd, Int.reduceMul, Nat.reducePow, Int.reduceBEq, Int.reduceBNe, Int.reduceMod, E_23, A23, e0, h30]
  · have e0' := beq_eq_false_iff_ne.2 e0
    by_cases e1 : k.tmod 6 = 1
    · simp only [ac, e0, e1, if_true, if_false]
      generalize fu d n t = u at *
      obtain ⟨s1, f1, t1, w1⟩ := u
      rw [pc_eq]; simp +contextual -implicitDefEqProofs (maxSteps := 2000000) only [go_sem, ↓reduceIte, Nat.reduceAdd, Nat.reduceMul, Nat.reduceSub, Nat.reduceEqDiff, Nat.reduceLeDiff, Nat.reduceDiv, Nat.reduceMod, Nat.reduceBEq, Nat.reduceBNe, reduceCtorEq, Int.reduceLE, Int.reduceLT, Int.reduceToNat, Int.reduceNeg, Nat.reduceLT, Int.reduceEq, Int.reduceSub, Int.reduceAdd, Int.reduceMul, Nat.reducePow, Int.reduceBEq, Int.reduceBNe, Int.reduceMod, E_23, A23, e0, e1, e0', h50]
    · have e1' := beq_eq_false_iff_ne.2 e1
      simp only [ac, e0, e1, if_false]
      generalize wr d i x = u at *
      obtain ⟨⟨s1, f1, t1, w1⟩, c⟩ := u
      rw [pc_eq]; simp +contextual -implicitDefEqProofs (maxSteps := 2000000) only [go_sem, ↓reduceIte, Nat.reduceAdd, Nat.reduceMul, Nat.reduceSub, Nat.reduceEqDiff, Nat.reduceLeDiff, Nat.reduceDiv, Nat.reduceMod, Nat.reduceBEq, Nat.reduceBNe, reduceCtorEq, Int.reduceLE, Int.reduceLT, Int.reduceToNat, Int.reduceNeg, Nat.reduceLT, Int.reduceEq, Int.reduceSub, Int.reduceAdd, Int.reduceMul, Nat.reducePow, Int.reduceBEq, Int.reduceBNe, Int.reduceMod, E_23, A23, e0, e1, e0', e1', h29]
theorem c24 (d : Dsk) (h : OKd d) (a : Act) (ha : OKa a) : pc E 24 [dv d, av a] = some (.tup [dv (ac d a).1, .int .i64 (ac d a).2]) := by
  have h52 := c52 d h a.at_ a.data ha.len
  have h50 := c50 d a.k a.at_ a.n a.torn a.data ha.n0 ha.n1 ha.t0 ha.t1
  have h51 := c51 d.sec d.fuse d.torn d.down
  obtain ⟨k, i, n, t, x⟩ := a
  by_cases e0 : k.tmod 6 = 0
  · simp only [ac, e0, if_true]
    rw [pc_eq]; simp +contextual -implicitDefEqProofs (maxSteps := 2000000) only [go_sem, ↓reduceIte, Nat.reduceAdd, Nat.reduceMul, Nat.reduceSub, Nat.reduceEqDiff, Nat.reduceLeDiff, Nat.reduceDiv, Nat.reduceMod, Nat.reduceBEq, Nat.reduceBNe, reduceCtorEq, Int.reduceLE, Int.reduceLT, Int.reduceToNat, Int.reduceNeg, Nat.reduceLT, Int.reduceEq, Int.reduceSub, Int.reduceAdd, Int.reduceMul, Nat.reducePow, Int.reduceBEq, Int.reduceBNe, Int.reduceMod, E_24, A24, e0, h51]
  · have e0' := beq_eq_false_iff_ne.2 e0
    by_cases e1 : k.tmod 6 = 1
    · simp only [ac, e0, e1, if_true, if_false]
      generalize fu d n t = u at *
      obtain ⟨s1, f1, t1, w1⟩ := u
      rw [pc_eq]; simp +contextual -implicitDefEqProofs (maxSteps := 2000000) only [go_sem, ↓reduceIte, Nat.reduceAdd, Nat.reduceMul, Nat.reduceSub, Nat.reduceEqDiff, Nat.reduceLeDiff, Nat.reduceDiv, Nat.reduceMod, Nat.reduceBEq, Nat.reduceBNe, reduceCtorEq, Int.reduceLE, Int.reduceLT, Int.reduceToNat, Int.reduceNeg, Nat.reduceLT, Int.reduceEq, Int.reduceSub, Int.reduceAdd, Int.reduceMul, Nat.reducePow, Int.reduceBEq, Int.reduceBNe, Int.reduceMod, E_24, A24, e0, e1, e0', h50]
    · have e1' := beq_eq_false_iff_ne.2 e1
      simp only [ac, e0, e1, if_false]
      generalize wr d i x = u at *
      obtain ⟨⟨s1, f1, t1, w1⟩, c⟩ := u
      rw [pc_eq]; simp +contextual -implicitDefEqProofs (maxSteps := 2000000) only [go_sem, ↓reduceIte, Nat.reduceAdd, Nat.reduceMul, Nat.reduceSub, Nat.reduceEqDiff, Nat.reduceLeDiff, Nat.reduceDiv, Nat.reduceMod, Nat.reduceBEq, Nat.reduceBNe, reduceCtorEq, Int.reduceLE, Int.reduceLT, Int.reduceToNat, Int.reduceNeg, Nat.reduceLT, Int.reduceEq, Int.reduceSub, Int.reduceAdd, Int.reduceMul, Nat.reducePow, Int.reduceBEq, Int.reduceBNe, Int.reduceMod, E_24, A24, e0, e1, e0', e1', h52]
end Go.Proofs.Ytjmnepfdhkabfaa

namespace Go.Proofs.Ytjmnepfdhkabfaa
set_option maxRecDepth 100000
set_option maxHeartbeats 4000000
set_option linter.unusedSimpArgs false
set_option linter.unusedVariables false
open Go Go.Zv
def a5 (a : Act) : List LV := [.int .u8 a.k, .int .i64 a.at_, .int .u8 a.n, .int .u8 a.torn, bv a.data]
theorem get_a5 {l : List Act} {i : Nat} {p : Act} (h : l[i]? = some p) : (l.map a5)[i]? = some [.int .u8 p.k, .int .i64 p.at_, .int .u8 p.n, .int .u8 p.torn, bv p.data] := by
  rw [List.getElem?_map, h]; rfl
def acs (d : Dsk) (l : List Act) : Dsk := l.foldl (fun d a => (ac d a).1) d
theorem made_loop (l : List Act) (hl : l.length ≤ 1000000000) (ha : ∀ a ∈ l, OKa a) : ∀ (j k : Nat) (d : Dsk), OKd d → k + j = l.length →
    (K E A28_L0 ⟨[(1, .vs (l.map a5)), (4, .ptr 1024 0), (5, .ptr 1280 0), (6, .int .i64 k)], [],
      [(1280, .box [sv d.sec, .int .i64 d.fuse, .int .i64 d.torn, .bool d.down]), (1281, .row 1 []), (1024, .box [.bs 1025 0 0, .int .i64 0, .int .i64 0, .bool false]), (1025, .row 1 [])], 0⟩).bind (blockR 0 (some [4, 5]) [6, 7, 8, 23]) =
    some (.ex .nrm ⟨[(4, .ptr 1024 0), (5, .ptr 1280 0)], [],
      [(1280, .box [sv (acs d (l.drop k)).sec, .int .i64 (acs d (l.drop k)).fuse, .int .i64 (acs d (l.drop k)).torn, .bool (acs d (l.drop k)).down]), (1281, .row 1 []), (1024, .box [.bs 1025 0 0, .int .i64 0, .int .i64 0, .bool false]), (1025, .row 1 [])], 0⟩)
  | 0, k, d, hd, h => by
    have e : l.length = k := by omega
    have he : l.drop k = [] := List.drop_of_length_le (by omega)
    rw [A28_L0_eq, he]
    simp +contextual -implicitDefEqProofs (maxSteps := 2000000) only [go_sem, ↓reduceIte, Nat.reduceAdd, Nat.reduceMul, Nat.reduceSub, Nat.reduceEqDiff, Nat.reduceLeDiff, Nat.reduceDiv, Nat.reduceMod, Nat.reduceBEq, Nat.reduceBNe, reduceCtorEq, Int.reduceLE, Int.reduceLT, Int.reduceToNat, Int.reduceNeg, Nat.reduceLT, Int.reduceEq, Int.reduceSub, Int.reduceAdd, Int.reduceMul, Nat.reducePow, Int.reduceBEq, Int.reduceBNe, Int.reduceMod, A28_L0b, e, Int.lt_irrefl, List.length_map, acs, List.foldl_nil]
  | j + 1, k, d, hd, h => by
    have h1 : (k : Int) < l.length := by omega
    have hget : l[k]? = some (l[k]'(by omega)) := List.getElem?_eq_getElem _
    have he : l.drop k = (l[k]'(by omega)) :: l.drop (k + 1) := List.drop_eq_getElem_cons (by omega)
    have hp := ha _ (List.getElem_mem (l := l) (n := k) (by omega))
    generalize l[k]'(by omega) = p at hget he hp
    have hg := get_a5 hget
    have hw := wr_succ (n := k) (by omega)
    have h0 : (0 : Int) ≤ (k : Int) := by omega
    have h24 := c24 d hd p hp
    have ih := made_loop l hl ha j (k + 1) (ac d p).1 (ok_ac hd hp) (by omega)
    have ea : acs d (p :: l.drop (k + 1)) = acs (ac d p).1 (l.drop (k + 1)) := rfl
    rw [A28_L0_eq, he, ea]
    simp +contextual -implicitDefEqProofs (maxSteps := 2000000) only [go_sem, ↓reduceIte, Nat.reduceAdd, Nat.reduceMul, Nat.reduceSub, Nat.reduceEqDiff, Nat.reduceLeDiff, Nat.reduceDiv, Nat.reduceMod, Nat.reduceBEq, Nat.reduceBNe, reduceCtorEq, Int.reduceLE, Int.reduceLT, Int.reduceToNat, Int.reduceNeg, Nat.reduceLT, Int.reduceEq, Int.reduceSub, Int.reduceAdd, Int.reduceMul, Nat.reducePow, Int.reduceBEq, Int.reduceBNe, Int.reduceMod, A28_L0b, h1, hg, hw, h0, h24, ih, List.length_map]
theorem ok_acs {l : List Act} (ha : ∀ a ∈ l, OKa a) : ∀ {d : Dsk}, OKd d → OKd (acs d l) := by
  induction l with
  | nil => exact fun h => h
  | cons a l ih => exact fun h => ih (fun b hb => ha b (by simp [hb])) (ok_ac h (ha a (by simp)))
/-- the disk that Made hands back -/
def made (n : Nat) (l : List Act) : Dsk := acs (mk (1 + n % 6)) l
theorem ok_made (n : Nat) (l : List Act) (ha : ∀ a ∈ l, OKa a) : OKd (made n l) := ok_acs ha (ok_mk _ (by omega) (by omega))
theorem c28 (n : Nat) (hn : n ≤ 255) (l : List Act) (hl : l.length ≤ 1000000000) (ha : ∀ a ∈ l, OKa a) : pc E 28 [.int .u8 n, .vs (l.map a5)] = some (dv (made n l)) := by
  have h22 := c22 n hn
  have hk := ok_mk (1 + n % 6) (by omega) (by omega)
  have ml := made_loop l hl ha l.length 0 (mk (1 + n % 6)) hk (by omega)
  simp only [Int.natCast_zero, Int.ofNat_zero, List.drop_zero] at ml
  unfold made
  generalize mk (1 + n % 6) = d at *
  obtain ⟨s, f, t, w⟩ := d
  generalize acs ⟨s, f, t, w⟩ l = u at *
  obtain ⟨s1, f1, t1, w1⟩ := u
  rw [pc_eq]; simp +contextual -implicitDefEqProofs (maxSteps := 2000000) only [go_sem, ↓reduceIte, Nat.reduceAdd, Nat.reduceMul, Nat.reduceSub, Nat.reduceEqDiff, Nat.reduceLeDiff, Nat.reduceDiv, Nat.reduceMod, Nat.reduceBEq, Nat.reduceBNe, reduceCtorEq, Int.reduceLE, Int.reduceLT, Int.reduceToNat, Int.reduceNeg, Nat.reduceLT, Int.reduceEq, Int.reduceSub, Int.reduceAdd, Int.reduceMul, Nat.reducePow, Int.reduceBEq, Int.reduceBNe, Int.reduceMod, E_28, A28, List.length_map, h22, ml]
end Go.Proofs.Ytjmnepfdhkabfaa

namespace Go.Proofs.Ytjmnepfdhkabfaa
set_option maxRecDepth 100000
set_option maxHeartbeats 4000000
set_option linter.unusedSimpArgs false
set_option linter.unusedVariables false
open Go Go.Zv
theorem same_good (s r : List (List UInt8)) (f t f' t' : Int) (w w' : Bool) (hl : s.length ≤ 1000000000) (hr : r = s) : ∀ (j k : Nat), k + j = s.length →
    (K E A19_L0 ⟨[(2, .ptr 512 0), (3, .ptr 768 0), (5, .int .i64 k)], [], [(768, .box [sv r, .int .i64 f', .int .i64 t', .bool w']), (512, .box [sv s, .int .i64 f, .int .i64 t, .bool w])], 0⟩).bind (blockR 0 (some []) [4, 5, 51]) =
    some (.ex .nrm ⟨[], [], [(768, .box [sv r, .int .i64 f', .int .i64 t', .bool w']), (512, .box [sv s, .int .i64 f, .int .i64 t, .bool w])], 0⟩)
  | 0, k, h => by
    have e : s.length = k := by omega
    rw [A19_L0_eq]
    simp +contextual -implicitDefEqProofs (maxSteps := 2000000) only [go_sem, ↓reduceIte, Nat.reduceAdd, Nat.reduceMul, Nat.reduceSub, Nat.reduceEqDiff, Nat.reduceLeDiff, Nat.reduceDiv, Nat.reduceMod, Nat.reduceBEq, Nat.reduceBNe, reduceCtorEq, Int.reduceLE, Int.reduceLT, Int.reduceToNat, Int.reduceNeg, Nat.reduceLT, Int.reduceEq, Int.reduceSub, Int.reduceAdd, Int.reduceMul, Nat.reducePow, Int.reduceBEq, Int.reduceBNe, Int.reduceMod, A19_L0b, e, Int.lt_irrefl, List.length_map]
  | j + 1, k, h => by
    subst hr
    have h1 : (k : Int) < r.length := by omega
    have hget : r[k]? = some (r[k]'(by omega)) := List.getElem?_eq_getElem _
    generalize r[k]'(by omega) = p at hget
    have hg := get_s1 hget
    have hw := wr_succ (n := k) (by omega)
    have h0 : (0 : Int) ≤ (k : Int) := by omega
    have ih := same_good r r f t f' t' w w' hl rfl j (k + 1) (by omega)
    have hc := c27 p p
    rw [beq_self_eq_true] at hc
    rw [A19_L0_eq]
    simp +contextual -implicitDefEqProofs (maxSteps := 2000000) only [go_sem, ↓reduceIte, Nat.reduceAdd, Nat.reduceMul, Nat.reduceSub, Nat.reduceEqDiff, Nat.reduceLeDiff, Nat.reduceDiv, Nat.reduceMod, Nat.reduceBEq, Nat.reduceBNe, reduceCtorEq, Int.reduceLE, Int.reduceLT, Int.reduceToNat, Int.reduceNeg, Nat.reduceLT, Int.reduceEq, Int.reduceSub, Int.reduceAdd, Int.reduceMul, Nat.reducePow, Int.reduceBEq, Int.reduceBNe, Int.reduceMod, A19_L0b, h1, hg, hw, h0, hc, ih, List.length_map]
theorem same_bad (s r : List (List UInt8)) (f t f' t' : Int) (w w' : Bool) (hl : s.length ≤ 1000000000) (hr : r.length = s.length) : ∀ (j k : Nat), k + j = s.length → s.drop k ≠ r.drop k →
    (K E A19_L0 ⟨[(2, .ptr 512 0), (3, .ptr 768 0), (5, .int .i64 k)], [], [(768, .box [sv r, .int .i64 f', .int .i64 t', .bool w']), (512, .box [sv s, .int .i64 f, .int .i64 t, .bool w])], 0⟩).bind (blockR 0 (some []) [4, 5, 51]) =
    some (.ex .ret ⟨[(4, .bool false)], [], [(768, .box [sv r, .int .i64 f', .int .i64 t', .bool w']), (512, .box [sv s, .int .i64 f, .int .i64 t, .bool w])], 0⟩)
  | 0, k, h, hb => by
    rw [List.drop_of_length_le (by omega), List.drop_of_length_le (by omega)] at hb; exact absurd rfl hb
  | j + 1, k, h, hb => by
    have h1 : (k : Int) < s.length := by omega
    have h1' : (k : Int) < r.length := by omega
    have hget : s[k]? = some (s[k]'(by omega)) := List.getElem?_eq_getElem _
    have hget' : r[k]? = some (r[k]'(by omega)) := List.getElem?_eq_getElem _
    have hd : s.drop k = (s[k]'(by omega)) :: s.drop (k + 1) := List.drop_eq_getElem_cons (by omega)
    have hd' : r.drop k = (r[k]'(by omega)) :: r.drop (k + 1) := List.drop_eq_getElem_cons (by omega)
    generalize s[k]'(by omega) = p at hget hd
    generalize r[k]'(by omega) = q at hget' hd'
    have hg := get_s1 hget
    have hg' := get_s1 hget'
    have hw := wr_succ (n := k) (by omega)
    have h0 : (0 : Int) ≤ (k : Int) := by omega
    have hc := c27 p q
    rw [hd, hd'] at hb
    by_cases e : p = q
    · subst e
      have ih := same_bad s r f t f' t' w w' hl hr j (k + 1) (by omega) (fun e => hb (by rw [e]))
      rw [beq_self_eq_true] at hc
      rw [A19_L0_eq]
      simp +contextual -implicitDefEqProofs (maxSteps := 2000000) only [go_sem, ↓reduceIte, Nat.reduceAdd, Nat.reduceMul, Nat.reduceSub, Nat.reduceEqDiff, Nat.reduceLeDiff, Nat.reduceDiv, Nat.reduceMod, Nat.reduceBEq, Nat.reduceBNe, reduceCtorEq, Int.reduceLE, Int.reduceLT, Int.reduceToNat, Int.reduceNeg, Nat.reduceLT, Int.reduceEq, Int.reduceSub, Int.reduceAdd, Int.reduceMul, Nat.reducePow, Int.reduceBEq, Int.reduceBNe, Int.reduceMod, A19_L0b, h1, h1', hg, hg', hw, h0, hc, ih, List.length_map]
    · rw [beq_eq_false_iff_ne.2 e] at hc
      rw [A19_L0_eq]
      simp +contextual -implicitDefEqProofs (maxSteps := 2000000) only [go_sem, ↓reduceIte, Nat.reduceAdd, Nat.reduceMul, Nat.reduceSub, Nat.reduceEqDiff, Nat.reduceLeDiff, Nat.reduceDiv, Nat.reduceMod, Nat.reduceBEq, Nat.reduceBNe, reduceCtorEq, Int.reduceLE, Int.reduceLT, Int.reduceToNat, Int.reduceNeg, Nat.reduceLT, Int.reduceEq, Int.reduceSub, Int.reduceAdd, Int.reduceMul, Nat.reducePow, Int.reduceBEq, Int.reduceBNe, Int.reduceMod, A19_L0b, h1, h1', hg, hg', hw, h0, hc, List.length_map]
def sameB (a b : Dsk) : Bool := decide (a.sec = b.sec ∧ a.fuse = b.fuse ∧ a.torn = b.torn ∧ a.down = b.down)
theorem c19 (a b : Dsk) (hl : a.sec.length ≤ 1000000000) : pc E 19 [dv a, dv b] = some (.bool (sameB a b)) := by
  obtain ⟨s, f, t, w⟩ := a
  obtain ⟨r, f', t', w'⟩ := b
  simp only at hl
  by_cases h1 : r.length = s.length
  · have e1 : ((s.length : Int) != r.length) = false := by simp [h1]
    by_cases h2 : f = f'
    · by_cases h3 : t = t'
      · by_cases h4 : w = w'
        · subst h2; subst h3; subst h4
          by_cases h5 : r = s
          · have g := same_good s r f t f t w w hl h5 s.length 0 (by omega)
            simp only [Int.natCast_zero, Int.ofNat_zero] at g
            have hv : sameB ⟨s, f, t, w⟩ ⟨r, f, t, w⟩ = true := by simp [sameB, h5]
            rw [hv, pc_eq]; simp +contextual -implicitDefEqProofs (maxSteps := 2000000) only [go_sem, ↓reduceIte, Nat.reduceAdd, Nat.reduceMul, Nat.reduceSub, Nat.reduceEqDiff, Nat.reduceLeDiff, Nat.reduceDiv, Nat.reduceMod, Nat.reduceBEq, Nat.reduceBNe, reduceCtorEq, Int.reduceLE, Int.reduceLT, Int.reduceToNat, Int.reduceNeg, Nat.reduceLT, Int.reduceEq, Int.reduceSub, Int.reduceAdd, Int.reduceMul, Nat.reducePow, Int.reduceBEq, Int.reduceBNe, Int.reduceMod, E_19, A19, List.length_map, e1, g, bne_self_eq_false]
          · have g := same_bad s r f t f t w w hl h1 s.length 0 (by omega) (by simpa using fun e => h5 e.symm)
            simp only [Int.natCast_zero, Int.ofNat_zero] at g
            have hv : sameB ⟨s, f, t, w⟩ ⟨r, f, t, w⟩ = false := by simp [sameB]; intro e; exact absurd e.symm h5
            rw [hv, pc_eq]; simp +contextual -implicitDefEqProofs (maxSteps := 2000000) only [go_sem, ↓reduceIte, Nat.reduceAdd, Nat.reduceMul, Nat.reduceSub, Nat.reduceEqDiff, Nat.reduceLeDiff, Nat.reduceDiv, Nat.reduceMod, Nat.reduceBEq, Nat.reduceBNe, reduceCtorEq, Int.reduceLE, Int.reduceLT, Int.reduceToNat, Int.reduceNeg, Nat.reduceLT, Int.reduceEq, Int.reduceSub, Int.reduceAdd, Int.reduceMul, Nat.reducePow, Int.reduceBEq, Int.reduceBNe, Int.reduceMod, E_19, A19, List.length_map, e1, g, bne_self_eq_false]
        · have hv : sameB ⟨s, f, t, w⟩ ⟨r, f', t', w'⟩ = false := by simp [sameB, h4]
          have e2 : (f != f') = false := by simp [h2]
          have e3 : (t != t') = false := by simp [h3]
          rw [hv, pc_eq]; simp +contextual -implicitDefEqProofs (maxSteps := 2000000) only [go_sem, ↓reduceIte, Nat.reduceAdd, Nat.reduceMul, Nat.reduceSub, Nat.reduceEqDiff, Nat.reduceLeDiff, Nat.reduceDiv, Nat.reduceMod, Nat.reduceBEq, Nat.reduceBNe, reduceCtorEq, Int.reduceLE, Int.reduceLT, Int.reduceToNat, Int.reduceNeg, Nat.reduceLT, Int.reduceEq, Int.reduceSub, Int.reduceAdd, Int.reduceMul, Nat.reducePow, Int.reduceBEq, Int.reduceBNe, Int.reduceMod, E_19, A19, List.length_map, e1, e2, e3, h4]
      · have hv : sameB ⟨s, f, t, w⟩ ⟨r, f', t', w'⟩ = false := by simp [sameB, h3]
        have e2 : (f != f') = false := by simp [h2]
        have e3 : (t != t') = true := by simp [h3]
        rw [hv, pc_eq]; simp +contextual -implicitDefEqProofs (maxSteps := 2000000) only [go_sem, ↓reduceIte, Nat.reduceAdd, Nat.reduceMul, Nat.reduceSub, Nat.reduceEqDiff, Nat.reduceLeDiff, Nat.reduceDiv, Nat.reduceMod, Nat.reduceBEq, Nat.reduceBNe, reduceCtorEq, Int.reduceLE, Int.reduceLT, Int.reduceToNat, Int.reduceNeg, Nat.reduceLT, Int.reduceEq, Int.reduceSub, Int.reduceAdd, Int.reduceMul, Nat.reducePow, Int.reduceBEq, Int.reduceBNe, Int.reduceMod, E_19, A19, List.length_map, e1, e2, e3, h3]
    · have hv : sameB ⟨s, f, t, w⟩ ⟨r, f', t', w'⟩ = false := by simp [sameB, h2]
      have e2 : (f != f') = true := by simp [h2]
      rw [hv, pc_eq]; simp +contextual -implicitDefEqProofs (maxSteps := 2000000) only [go_sem, ↓reduceIte, Nat.reduceAdd, Nat.reduceMul, Nat.reduceSub, Nat.reduceEqDiff, Nat.reduceLeDiff, Nat.reduceDiv, Nat.reduceMod, Nat.reduceBEq, Nat.reduceBNe, reduceCtorEq, Int.reduceLE, Int.reduceLT, Int.reduceToNat, Int.reduceNeg, Nat.reduceLT, Int.reduceEq, Int.reduceSub, Int.reduceAdd, Int.reduceMul, Nat.reducePow, Int.reduceBEq, Int.reduceBNe, Int.reduceMod, E_19, A19, List.length_map, e1, e2, h2]
  · have e1 : ((s.length : Int) != r.length) = true := by simp; omega
    have e1' : ¬ ((s.length : Int) = r.length) := by omega
    have hv : sameB ⟨s, f, t, w⟩ ⟨r, f', t', w'⟩ = false := by
      simp only [sameB, decide_eq_false_iff_not]; rintro ⟨rfl, _⟩; exact h1 rfl
    rw [hv, pc_eq]; simp +contextual -implicitDefEqProofs (maxSteps := 2000000) only [go_sem, ↓reduceIte, Nat.reduceAdd, Nat.reduceMul, Nat.reduceSub, Nat.reduceEqDiff, Nat.reduceLeDiff, Nat.reduceDiv, Nat.reduceMod, Nat.reduceBEq, Nat.reduceBNe, reduceCtorEq, Int.reduceLE, Int.reduceLT, Int.reduceToNat, Int.reduceNeg, Nat.reduceLT, Int.reduceEq, Int.reduceSub, Int.reduceAdd, Int.reduceMul, Nat.reducePow, Int.reduceBEq, Int.reduceBNe, Int.reduceMod, E_19, A19, List.length_map, e1, e1']
end Go.Proofs.Ytjmnepfdhkabfaa

namespace Go.Proofs.Ytjmnepfdhkabfaa
set_option maxRecDepth 100000
set_option maxHeartbeats 4000000
set_option linter.unusedSimpArgs false
set_option linter.unusedVariables false
open Go Go.Zv
theorem great_good (l : List Act) (hl : l.length ≤ 1000000000) (ha : ∀ a ∈ l, a.data.length ≤ 100) : ∀ (j k : Nat), k + j = l.length →
    (K E A16_L0 ⟨[(0, .vs (l.map a5)), (3, .int .i64 k)], [], [], 0⟩).bind (blockR 0 (some []) [2, 3]) = some (.ex .nrm ⟨[], [], [], 0⟩)
  | 0, k, h => by
    have e : l.length = k := by omega
    rw [A16_L0_eq]
    simp +contextual -implicitDefEqProofs (maxSteps := 2000000) only [go_sem, ↓reduceIte, Nat.reduceAdd, Nat.reduceMul, Nat.reduceSub, Nat.reduceEqDiff, Nat.reduceLeDiff, Nat.reduceDiv, Nat.reduceMod, Nat.reduceBEq, Nat.reduceBNe, reduceCtorEq, Int.reduceLE, Int.reduceLT, Int.reduceToNat, Int.reduceNeg, Nat.reduceLT, Int.reduceEq, Int.reduceSub, Int.reduceAdd, Int.reduceMul, Nat.reducePow, Int.reduceBEq, Int.reduceBNe, Int.reduceMod, A16_L0b, e, Int.lt_irrefl, List.length_map]
  | j + 1, k, h => by
    have h1 : (k : Int) < l.length := by omega
    have hget : l[k]? = some (l[k]'(by omega)) := List.getElem?_eq_getElem _
    have hp := ha _ (List.getElem_mem (l := l) (n := k) (by omega))
    generalize l[k]'(by omega) = p at hget hp
    have hg := get_a5 hget
    have hw := wr_succ (n := k) (by omega)
    have h0 : (0 : Int) ≤ (k : Int) := by omega
    have h2 : ¬ ((100 : Int) < p.data.length) := by omega
    have ih := great_good l hl ha j (k + 1) (by omega)
    rw [A16_L0_eq]
    simp +contextual -implicitDefEqProofs (maxSteps := 2000000) only [go_sem, ↓reduceIte, Nat.reduceAdd, Nat.reduceMul, Nat.reduceSub, Nat.reduceEqDiff, Nat.reduceLeDiff, Nat.reduceDiv, Nat.reduceMod, Nat.reduceBEq, Nat.reduceBNe, reduceCtorEq, Int.reduceLE, Int.reduceLT, Int.reduceToNat, Int.reduceNeg, Nat.reduceLT, Int.reduceEq, Int.reduceSub, Int.reduceAdd, Int.reduceMul, Nat.reducePow, Int.reduceBEq, Int.reduceBNe, Int.reduceMod, A16_L0b, h1, hg, hw, h0, h2, ih, List.length_map]
theorem great_bad (l : List Act) (hl : l.length ≤ 1000000000) : ∀ (j k : Nat), k + j = l.length → (∃ a ∈ l.drop k, ¬ a.data.length ≤ 100) →
    (K E A16_L0 ⟨[(0, .vs (l.map a5)), (3, .int .i64 k)], [], [], 0⟩).bind (blockR 0 (some []) [2, 3]) = some (.ex .ret ⟨[(2, .bool true)], [], [], 0⟩)
  | 0, k, h, ⟨a, ha, _⟩ => by
    rw [List.drop_of_length_le (by omega)] at ha; cases ha
  | j + 1, k, h, hb => by
    have h1 : (k : Int) < l.length := by omega
    have hget : l[k]? = some (l[k]'(by omega)) := List.getElem?_eq_getElem _
    have hd : l.drop k = (l[k]'(by omega)) :: l.drop (k + 1) := List.drop_eq_getElem_cons (by omega)
    generalize l[k]'(by omega) = p at hget hd
    have hg := get_a5 hget
    have hw := wr_succ (n := k) (by omega)
    have h0 : (0 : Int) ≤ (k : Int) := by omega
    by_cases hp : p.data.length ≤ 100
    · have h2 : ¬ ((100 : Int) < p.data.length) := by omega
      obtain ⟨a, ha, hn⟩ := hb
      rw [hd, List.mem_cons] at ha
      have ih := great_bad l hl j (k + 1) (by omega) ⟨a, ha.resolve_left (fun e => by subst e; exact hn hp), hn⟩
      rw [A16_L0_eq]
      simp +contextual -implicitDefEqProofs (maxSteps := 2000000) only [go_sem, ↓reduceIte, Nat.reduceAdd, Nat.reduceMul, Nat.reduceSub, Nat.reduceEqDiff, Nat.reduceLeDiff, Nat.reduceDiv, Nat.reduceMod, Nat.reduceBEq, Nat.reduceBNe, reduceCtorEq, Int.reduceLE, Int.reduceLT, Int.reduceToNat, Int.reduceNeg, Nat.reduceLT, Int.reduceEq, Int.reduceSub, Int.reduceAdd, Int.reduceMul, Nat.reducePow, Int.reduceBEq, Int.reduceBNe, Int.reduceMod, A16_L0b, h1, hg, hw, h0, h2, ih, List.length_map]
    · have h2 : ((100 : Int) < p.data.length) := by omega
      rw [A16_L0_eq]
      simp +contextual -implicitDefEqProofs (maxSteps := 2000000) only [go_sem, ↓reduceIte, Nat.reduceAdd, Nat.reduceMul, Nat.reduceSub, Nat.reduceEqDiff, Nat.reduceLeDiff, Nat.reduceDiv, Nat.reduceMod, Nat.reduceBEq, Nat.reduceBNe, reduceCtorEq, Int.reduceLE, Int.reduceLT, Int.reduceToNat, Int.reduceNeg, Nat.reduceLT, Int.reduceEq, Int.reduceSub, Int.reduceAdd, Int.reduceMul, Nat.reducePow, Int.reduceBEq, Int.reduceBNe, Int.reduceMod, A16_L0b, h1, hg, hw, h0, h2, List.length_map]
def gr (l : List Act) : Bool := decide (60 < l.length) || l.any fun a => decide (100 < a.data.length)
theorem c16 (l : List Act) (hl : l.length ≤ 9223372036854775807) : pc E 16 [.vs (l.map a5)] = some (.bool (gr l)) := by
  by_cases h1 : 60 < l.length
  · have h1' : (60 : Int) < l.length := by omega
    have hv : gr l = true := by simp [gr, h1]
    rw [hv, pc_eq]; simp +contextual -implicitDefEqProofs (maxSteps := 2000000) only [go_sem, ↓reduceIte, Nat.reduceAdd, Nat.reduceMul, Nat.reduceSub, Nat.reduceEqDiff, Nat.reduceLeDiff, Nat.reduceDiv, Nat.reduceMod, Nat.reduceBEq, Nat.reduceBNe, reduceCtorEq, Int.reduceLE, Int.reduceLT, Int.reduceToNat, Int.reduceNeg, Nat.reduceLT, Int.reduceEq, Int.reduceSub, Int.reduceAdd, Int.reduceMul, Nat.reducePow, Int.reduceBEq, Int.reduceBNe, Int.reduceMod, E_16, A16, List.length_map, h1']
  · have h1' : ¬ ((60 : Int) < l.length) := by omega
    cases h2 : l.any fun a => decide (100 < a.data.length) with
    | true =>
      have hv : gr l = true := by simp only [gr, h2, Bool.or_true]
      obtain ⟨a, ha, hh⟩ := List.any_eq_true.1 h2
      have g := great_bad l (by omega) l.length 0 (by omega) ⟨a, by simpa using ha, by simpa using hh⟩
      simp only [Int.natCast_zero, Int.ofNat_zero] at g
      rw [hv, pc_eq]; simp +contextual -implicitDefEqProofs (maxSteps := 2000000) only [go_sem, ↓reduceIte, Nat.reduceAdd, Nat.reduceMul, Nat.reduceSub, Nat.reduceEqDiff, Nat.reduceLeDiff, Nat.reduceDiv, Nat.reduceMod, Nat.reduceBEq, Nat.reduceBNe, reduceCtorEq, Int.reduceLE, Int.reduceLT, Int.reduceToNat, Int.reduceNeg, Nat.reduceLT, Int.reduceEq, Int.reduceSub, Int.reduceAdd, Int.reduceMul, Nat.reducePow, Int.reduceBEq, Int.reduceBNe, Int.reduceMod, E_16, A16, List.length_map, h1', g]
    | false =>
      have hv : gr l = false := by simp only [gr, h2, Bool.or_false, decide_eq_false h1]
      have g := great_good l (by omega) (fun a ha => by have := List.any_eq_false.1 h2 a ha; simpa using this) l.length 0 (by omega)
      simp only [Int.natCast_zero, Int.ofNat_zero] at g
      rw [hv, pc_eq]; simp +contextual -implicitDefEqProofs (maxSteps := 2000000) only [go_sem, ↓reduceIte, Nat.reduceAdd, Nat.reduceMul, Nat.reduceSub, Nat.reduceEqDiff, Nat.reduceLeDiff, Nat.reduceDiv, Nat.reduceMod, Nat.reduceBEq, Nat.reduceBNe, reduceCtorEq, Int.reduceLE, Int.reduceLT, Int.reduceToNat, Int.reduceNeg, Nat.reduceLT, Int.reduceEq, Int.reduceSub, Int.reduceAdd, Int.reduceMul, Nat.reducePow, Int.reduceBEq, Int.reduceBNe, Int.reduceMod, E_16, A16, List.length_map, h1', g]
end Go.Proofs.Ytjmnepfdhkabfaa

namespace Go.Proofs.Ytjmnepfdhkabfaa
set_option maxRecDepth 100000
set_option maxHeartbeats 4000000
set_option linter.unusedSimpArgs false
set_option linter.unusedVariables false
open Go Go.Zv
theorem right_good (s : List (List UInt8)) (f t : Int) (w : Bool) (hl : s.length ≤ 64) (h : ∀ x ∈ s, x.length = 64) : ∀ (j k : Nat), k + j = s.length →
    (K E A21_L0 ⟨[(1, .ptr 256 0), (3, .int .i64 k)], [], [(256, .box [sv s, .int .i64 f, .int .i64 t, .bool w])], 0⟩).bind (blockR 0 (some []) [2, 3]) = some (.ex .nrm ⟨[], [], [(256, .box [sv s, .int .i64 f, .int .i64 t, .bool w])], 0⟩)
  | 0, k, hk => by
    have e : s.length = k := by omega
    rw [A21_L0_eq]
    simp +contextual -implicitDefEqProofs (maxSteps := 2000000) only [go_sem, ↓reduceIte, Nat.reduceAdd, Nat.reduceMul, Nat.reduceSub, Nat.reduceEqDiff, Nat.reduceLeDiff, Nat.reduceDiv, Nat.reduceMod, Nat.reduceBEq, Nat.reduceBNe, reduceCtorEq, Int.reduceLE, Int.reduceLT, Int.reduceToNat, Int.reduceNeg, Nat.reduceLT, Int.reduceEq, Int.reduceSub, Int.reduceAdd, Int.reduceMul, Nat.reducePow, Int.reduceBEq, Int.reduceBNe, Int.reduceMod, A21_L0b, e, Int.lt_irrefl, List.length_map]
  | j + 1, k, hk => by
    have h1 : (k : Int) < s.length := by omega
    have hget : s[k]? = some (s[k]'(by omega)) := List.getElem?_eq_getElem _
    have hp := h _ (List.getElem_mem (l := s) (n := k) (by omega))
    generalize s[k]'(by omega) = p at hget hp
    have hg := get_s1 hget
    have hw := wr_succ (n := k) (by omega)
    have h0 : (0 : Int) ≤ (k : Int) := by omega
    have h2 : ((p.length : Int) != 64) = false := by simp [hp]
    have ih := right_good s f t w hl h j (k + 1) (by omega)
    rw [A21_L0_eq]
    simp +contextual -implicitDefEqProofs (maxSteps := 2000000) only [go_sem, ↓reduceIte, Nat.reduceAdd, Nat.reduceMul, Nat.reduceSub, Nat.reduceEqDiff, Nat.reduceLeDiff, Nat.reduceDiv, Nat.reduceMod, Nat.reduceBEq, Nat.reduceBNe, reduceCtorEq, Int.reduceLE, Int.reduceLT, Int.reduceToNat, Int.reduceNeg, Nat.reduceLT, Int.reduceEq, Int.reduceSub, Int.reduceAdd, Int.reduceMul, Nat.reducePow, Int.reduceBEq, Int.reduceBNe, Int.reduceMod, A21_L0b, h1, hg, hw, h0, h2, ih, List.length_map]
theorem right_bad (s : List (List UInt8)) (f t : Int) (w : Bool) (hl : s.length ≤ 64) : ∀ (j k : Nat), k + j = s.length → (∃ x ∈ s.drop k, x.length ≠ 64) →
    (K E A21_L0 ⟨[(1, .ptr 256 0), (3, .int .i64 k)], [], [(256, .box [sv s, .int .i64 f, .int .i64 t, .bool w])], 0⟩).bind (blockR 0 (some []) [2, 3]) = some (.ex .ret ⟨[(2, .bool false)], [], [(256, .box [sv s, .int .i64 f, .int .i64 t, .bool w])], 0⟩)
  | 0, k, hk, ⟨a, ha, _⟩ => by
    rw [List.drop_of_length_le (by omega)] at ha; cases ha
  | j + 1, k, hk, hb => by
    have h1 : (k : Int) < s.length := by omega
    have hget : s[k]? = some (s[k]'(by omega)) := List.getElem?_eq_getElem _
    have hd : s.drop k = (s[k]'(by omega)) :: s.drop (k + 1) := List.drop_eq_getElem_cons (by omega)
    generalize s[k]'(by omega) = p at hget hd
    have hg := get_s1 hget
    have hw := wr_succ (n := k) (by omega)
    have h0 : (0 : Int) ≤ (k : Int) := by omega
    by_cases hp : p.length = 64
    · have h2 : ((p.length : Int) != 64) = false := by simp [hp]
      obtain ⟨a, ha, hn⟩ := hb
      rw [hd, List.mem_cons] at ha
      have ih := right_bad s f t w hl j (k + 1) (by omega) ⟨a, ha.resolve_left (fun e => by subst e; exact hn hp), hn⟩
      rw [A21_L0_eq]
      simp +contextual -implicitDefEqProofs (maxSteps := 2000000) only [go_sem, ↓reduceIte, Nat.reduceAdd, Nat.reduceMul, Nat.reduceSub, Nat.reduceEqDiff, Nat.reduceLeDiff, Nat.reduceDiv, Nat.reduceMod, Nat.reduceBEq, Nat.reduceBNe, reduceCtorEq, Int.reduceLE, Int.reduceLT, Int.reduceToNat, Int.reduceNeg, Nat.reduceLT, Int.reduceEq, Int.reduceSub, Int.reduceAdd, Int.reduceMul, Nat.reducePow, Int.reduceBEq, Int.reduceBNe, Int.reduceMod, A21_L0b, h1, hg, hw, h0, h2, ih, List.length_map]
    · have h2 : ((p.length : Int) != 64) = true := by simp; omega
      rw [A21_L0_eq]
      simp +contextual -implicitDefEqProofs (maxSteps := 2000000) only [go_sem, ↓reduceIte, Nat.reduceAdd, Nat.reduceMul, Nat.reduceSub, Nat.reduceEqDiff, Nat.reduceLeDiff, Nat.reduceDiv, Nat.reduceMod, Nat.reduceBEq, Nat.reduceBNe, reduceCtorEq, Int.reduceLE, Int.reduceLT, Int.reduceToNat, Int.reduceNeg, Nat.reduceLT, Int.reduceEq, Int.reduceSub, Int.reduceAdd, Int.reduceMul, Nat.reducePow, Int.reduceBEq, Int.reduceBNe, Int.reduceMod, A21_L0b, h1, hg, hw, h0, h2, List.length_map]
theorem c21 (s : List (List UInt8)) (f t : Int) (w : Bool) : pc E 21 [.agg [sv s, .int .i64 f, .int .i64 t, .bool w]] = some (.bool (vd s f t)) := by
  by_cases h : 1 ≤ s.length ∧ s.length ≤ 64 ∧ (f = -1 ∨ (1 ≤ f ∧ f ≤ 1099511627776)) ∧ 0 ≤ t ∧ t ≤ 64
  · have e1 : ¬ ((s.length : Int) < 1) := by omega
    have e2 : ¬ ((64 : Int) < s.length) := by omega
    have e3 : ¬ (t < 0) := by omega
    have e4 : ¬ (64 < t) := by omega
    have hv : vd s f t = all64 s := by unfold vd; rw [decide_eq_true h, Bool.true_and]
    rw [hv]
    have key : ∃ o, (K E A21_L0 ⟨[(1, .ptr 256 0), (3, .int .i64 0)], [], [(256, .box [sv s, .int .i64 f, .int .i64 t, .bool w])], 0⟩).bind (blockR 0 (some []) [2, 3]) = some o ∧
        o = if all64 s = true then .ex .nrm ⟨[], [], [(256, .box [sv s, .int .i64 f, .int .i64 t, .bool w])], 0⟩ else .ex .ret ⟨[(2, .bool false)], [], [(256, .box [sv s, .int .i64 f, .int .i64 t, .bool w])], 0⟩ := by
      cases h5 : all64 s with
      | true => exact ⟨_, right_good s f t w h.2.1 (fun x hx => by simpa using List.all_eq_true.1 h5 x hx) s.length 0 (by omega), by rw [if_pos rfl]⟩
      | false =>
        obtain ⟨x, hx, hn⟩ := List.all_eq_false.1 h5
        exact ⟨_, right_bad s f t w h.2.1 s.length 0 (by omega) ⟨x, by simpa using hx, by simpa using hn⟩, by rw [if_neg (by simp)]⟩
    obtain ⟨o, hk, rfl⟩ := key
    by_cases e5 : f = -1
    · subst e5
      cases h5 : all64 s <;> rw [h5] at hk <;> simp only [if_true, if_false, Bool.false_eq_true] at hk
      · rw [pc_eq]; simp +contextual -implicitDefEqProofs (maxSteps := 2000000) only [go_sem, ↓reduceIte, Nat.reduceAdd, Nat.reduceMul, Nat.reduceSub, Nat.reduceEqDiff, Nat.reduceLeDiff, Nat.reduceDiv, Nat.reduceMod, Nat.reduceBEq, Nat.reduceBNe, reduceCtorEq, Int.reduceLE, Int.reduceLT, Int.reduceToNat, Int.reduceNeg, Nat.reduceLT, Int.reduceEq, Int.reduceSub, Int.reduceAdd, Int.reduceMul, Nat.reducePow, Int.reduceBEq, Int.reduceBNe, Int.reduceMod, E_21, A21, List.length_map, e1, e2, e3, e4, hk, bne_self_eq_false]
      · rw [pc_eq]; simp +contextual -implicitDefEqProofs (maxSteps := 2000000) only [go_sem, ↓reduceIte, Nat.reduceAdd, Nat.reduceMul, Nat.reduceSub, Nat.reduceEqDiff, Nat.reduceLeDiff, Nat.reduceDiv, Nat.reduceMod, Nat.reduceBEq, Nat.reduceBNe, reduceCtorEq, Int.reduceLE, Int.reduceLT, Int.reduceToNat, Int.reduceNeg, Nat.reduceLT, Int.reduceEq, Int.reduceSub, Int.reduceAdd, Int.reduceMul, Nat.reducePow, Int.reduceBEq, Int.reduceBNe, Int.reduceMod, E_21, A21, List.length_map, e1, e2, e3, e4, hk, bne_self_eq_false]
    · have e5' : (f != -1) = true := by simp [e5]
      have e6 : ¬ (f < 1) := by omega
      have e7 : ¬ (1099511627776 < f) := by omega
      cases h5 : all64 s <;> rw [h5] at hk <;> simp only [if_true, if_false, Bool.false_eq_true] at hk
      · rw [pc_eq]; simp +contextual -implicitDefEqProofs (maxSteps := 2000000) only [go_sem, ↓reduceIte, Nat.reduceAdd, Nat.reduceMul, Nat.reduceSub, Nat.reduceEqDiff, Nat.reduceLeDiff, Nat.reduceDiv, Nat.reduceMod, Nat.reduceBEq, Nat.reduceBNe, reduceCtorEq, Int.reduceLE, Int.reduceLT, Int.reduceToNat, Int.reduceNeg, Nat.reduceLT, Int.reduceEq, Int.reduceSub, Int.reduceAdd, Int.reduceMul, Nat.reducePow, Int.reduceBEq, Int.reduceBNe, Int.reduceMod, E_21, A21, List.length_map, e1, e2, e3, e4, e5, e5', e6, e7, hk]
      · rw [pc_eq]; simp +contextual -implicitDefEqProofs (maxSteps := 2000000) only [go_sem, ↓reduceIte, Nat.reduceAdd, Nat.reduceMul, Nat.reduceSub, Nat.reduceEqDiff, Nat.reduceLeDiff, Nat.reduceDiv, Nat.reduceMod, Nat.reduceBEq, Nat.reduceBNe, reduceCtorEq, Int.reduceLE, Int.reduceLT, Int.reduceToNat, Int.reduceNeg, Nat.reduceLT, Int.reduceEq, Int.reduceSub, Int.reduceAdd, Int.reduceMul, Nat.reducePow, Int.reduceBEq, Int.reduceBNe, Int.reduceMod, E_21, A21, List.length_map, e1, e2, e3, e4, e5, e5', e6, e7, hk]
  · have hv : vd s f t = false := by unfold vd; rw [decide_eq_false h, Bool.false_and]
    rw [hv]
    by_cases e1 : (s.length : Int) < 1
    · rw [pc_eq]; simp +contextual -implicitDefEqProofs (maxSteps := 2000000) only [go_sem, ↓reduceIte, Nat.reduceAdd, Nat.reduceMul, Nat.reduceSub, Nat.reduceEqDiff, Nat.reduceLeDiff, Nat.reduceDiv, Nat.reduceMod, Nat.reduceBEq, Nat.reduceBNe, reduceCtorEq, Int.reduceLE, Int.reduceLT, Int.reduceToNat, Int.reduceNeg, Nat.reduceLT, Int.reduceEq, Int.reduceSub, Int.reduceAdd, Int.reduceMul, Nat.reducePow, Int.reduceBEq, Int.reduceBNe, Int.reduceMod, E_21, A21, List.length_map, e1]
    by_cases e2 : (64 : Int) < s.length
    · rw [pc_eq]; simp +contextual -implicitDefEqProofs (maxSteps := 2000000) only [go_sem, ↓reduceIte, Nat.reduceAdd, Nat.reduceMul, Nat.reduceSub, Nat.reduceEqDiff, Nat.reduceLeDiff, Nat.reduceDiv, Nat.reduceMod, Nat.reduceBEq, Nat.reduceBNe, reduceCtorEq, Int.reduceLE, Int.reduceLT, Int.reduceToNat, Int.reduceNeg, Nat.reduceLT, Int.reduceEq, Int.reduceSub, Int.reduceAdd, Int.reduceMul, Nat.reducePow, Int.reduceBEq, Int.reduceBNe, Int.reduceMod, E_21, A21, List.length_map, e1, e2]
    by_cases e5 : f = -1
    · have e5' : (f != -1) = false := by simp [e5]
      by_cases e3 : t < 0
      · rw [pc_eq]; simp +contextual -implicitDefEqProofs (maxSteps := 2000000) only [go_sem, ↓reduceIte, Nat.reduceAdd, Nat.reduceMul, Nat.reduceSub, Nat.reduceEqDiff, Nat.reduceLeDiff, Nat.reduceDiv, Nat.reduceMod, Nat.reduceBEq, Nat.reduceBNe, reduceCtorEq, Int.reduceLE, Int.reduceLT, Int.reduceToNat, Int.reduceNeg, Nat.reduceLT, Int.reduceEq, Int.reduceSub, Int.reduceAdd, Int.reduceMul, Nat.reducePow, Int.reduceBEq, Int.reduceBNe, Int.reduceMod, E_21, A21, List.length_map, e1, e2, e5, e5', e3]
      · have e4 : 64 < t := by omega
        rw [pc_eq]; simp +contextual -implicitDefEqProofs (maxSteps := 2000000) only [go_sem, ↓reduceIte, Nat.reduceAdd, Nat.reduceMul, Nat.reduceSub, Nat.reduceEqDiff, Nat.reduceLeDiff, Nat.reduceDiv, Nat.reduceMod, Nat.reduceBEq, Nat.reduceBNe, reduceCtorEq, Int.reduceLE, Int.reduceLT, Int.reduceToNat, Int.reduceNeg, Nat.reduceLT, Int.reduceEq, Int.reduceSub, Int.reduceAdd, Int.reduceMul, Nat.reducePow, Int.reduceBEq, Int.reduceBNe, Int.reduceMod, E_21, A21, List.length_map, e1, e2, e5, e5', e3, e4]
    have e5' : (f != -1) = true := by simp [e5]
    by_cases e6 : f < 1
    · rw [pc_eq]; simp +contextual -implicitDefEqProofs (maxSteps := 2000000) only [go_sem, ↓reduceIte, Nat.reduceAdd, Nat.reduceMul, Nat.reduceSub, Nat.reduceEqDiff, Nat.reduceLeDiff, Nat.reduceDiv, Nat.reduceMod, Nat.reduceBEq, Nat.reduceBNe, reduceCtorEq, Int.reduceLE, Int.reduceLT, Int.reduceToNat, Int.reduceNeg, Nat.reduceLT, Int.reduceEq, Int.reduceSub, Int.reduceAdd, Int.reduceMul, Nat.reducePow, Int.reduceBEq, Int.reduceBNe, Int.reduceMod, E_21, A21, List.length_map, e1, e2, e5, e5', e6]
    by_cases e7 : 1099511627776 < f
    · rw [pc_eq]; simp +contextual -implicitDefEqProofs (maxSteps := 2000000) only [go_sem, ↓reduceIte, Nat.reduceAdd, Nat.reduceMul, Nat.reduceSub, Nat.reduceEqDiff, Nat.reduceLeDiff, Nat.reduceDiv, Nat.reduceMod, Nat.reduceBEq, Nat.reduceBNe, reduceCtorEq, Int.reduceLE, Int.reduceLT, Int.reduceToNat, Int.reduceNeg, Nat.reduceLT, Int.reduceEq, Int.reduceSub, Int.reduceAdd, Int.reduceMul, Nat.reducePow, Int.reduceBEq, Int.reduceBNe, Int.reduceMod, E_21, A21, List.length_map, e1, e2, e5, e5', e6, e7]
    by_cases e3 : t < 0
    · rw [pc_eq]; simp +contextual -implicitDefEqProofs (maxSteps := 2000000) only [go_sem, ↓reduceIte, Nat.reduceAdd, Nat.reduceMul, Nat.reduceSub, Nat.reduceEqDiff, Nat.reduceLeDiff, Nat.reduceDiv, Nat.reduceMod, Nat.reduceBEq, Nat.reduceBNe, reduceCtorEq, Int.reduceLE, Int.reduceLT, Int.reduceToNat, Int.reduceNeg, Nat.reduceLT, Int.reduceEq, Int.reduceSub, Int.reduceAdd, Int.reduceMul, Nat.reducePow, Int.reduceBEq, Int.reduceBNe, Int.reduceMod, E_21, A21, List.length_map, e1, e2, e5, e5', e6, e7, e3]
    · have e4 : 64 < t := by omega
      rw [pc_eq]; simp +contextual -implicitDefEqProofs (maxSteps := 2000000) only [go_sem, ↓reduceIte, Nat.reduceAdd, Nat.reduceMul, Nat.reduceSub, Nat.reduceEqDiff, Nat.reduceLeDiff, Nat.reduceDiv, Nat.reduceMod, Nat.reduceBEq, Nat.reduceBNe, reduceCtorEq, Int.reduceLE, Int.reduceLT, Int.reduceToNat, Int.reduceNeg, Nat.reduceLT, Int.reduceEq, Int.reduceSub, Int.reduceAdd, Int.reduceMul, Nat.reducePow, Int.reduceBEq, Int.reduceBNe, Int.reduceMod, E_21, A21, List.length_map, e1, e2, e5, e5', e6, e7, e3, e4]
end Go.Proofs.Ytjmnepfdhkabfaa

namespace Go.Proofs.Ytjmnepfdhkabfaa
set_option maxRecDepth 100000
set_option maxHeartbeats 4000000
set_option linter.unusedSimpArgs false
set_option linter.unusedVariables false
open Go Go.Zv
theorem c15 : pc E 15 [] = some (.bool true) := by
  have h : pc E 17 [.int .i64 2] = some (.tup [.agg [sv [zs, zs], .int .i64 (-1), .int .i64 0, .bool false], .int .i64 0]) := c17 2 (by omega) (by omega)
  have h2 : pc E 17 [.int .i64 65] = some (.tup [.agg [.vs [], .int .i64 0, .int .i64 0, .bool false], .int .i64 1]) := c17b 65 (by omega)
  have h3 : pc E 29 [.agg [sv [zs, zs], .int .i64 1, .int .i64 1, .bool false], .int .i64 0, .vs [[.int .u8 7], [.int .u8 8]]] = some (.tup [.agg [sv [over [7] zs, zs], .int .i64 (-1), .int .i64 0, .bool true], .int .i64 300]) :=
    c29f [zs, zs] 1 0 [7, 8] zs rfl zs_len (by simp) (by simp) (by omega)
  have l1 : (over [7] zs).length = 64 := by simp [over, zs]
  have h4 : pc E 25 [.agg [sv [over [7] zs, zs], .int .i64 (-1), .int .i64 0, .bool true], .int .i64 0] = some (.tup [.os 1 [], .int .i64 300]) := by rw [c25]; rfl
  have h5 : pc E 25 [.agg [sv [over [7] zs, zs], .int .i64 (-1), .int .i64 0, .bool false], .int .i64 0] = some (.tup [bv (over [7] zs), .int .i64 0]) := by rw [c25]; rfl
  have h6 := c30 [over [7] zs, zs] (-1) 0 true
  have h7 : pc E 29 [.agg [sv [over [7] zs, zs], .int .i64 (-1), .int .i64 0, .bool false], .int .i64 2, .nul] = some (.tup [.agg [sv [over [7] zs, zs], .int .i64 (-1), .int .i64 0, .bool false], .int .i64 1]) := by
    have h0 := c53 [over [7] zs, zs] (-1) 0 false 2
    rw [show decide ((0 : Int) ≤ 2 ∧ (2 : Int) < ([over [7] zs, zs] : List (List UInt8)).length) = false from by simp] at h0
    generalize [over [7] zs, zs] = ss at *
    rw [pc_eq]; simp +contextual -implicitDefEqProofs (maxSteps := 2000000) only [go_sem, ↓reduceIte, Nat.reduceAdd, Nat.reduceMul, Nat.reduceSub, Nat.reduceEqDiff, Nat.reduceLeDiff, Nat.reduceDiv, Nat.reduceMod, Nat.reduceBEq, Nat.reduceBNe, reduceCtorEq, Int.reduceLE, Int.reduceLT, Int.reduceToNat, Int.reduceNeg, Nat.reduceLT, Int.reduceEq, Int.reduceSub, Int.reduceAdd, Int.reduceMul, Nat.reducePow, Int.reduceBEq, Int.reduceBNe, Int.reduceMod, E_29, A29, E_56, A56, A56_L0_eq, A56_L0b, E_54, A54, E_55, A55, h0]
  have h8 : pc E 20 [.agg [sv [over [7] zs, zs], .int .i64 (-1), .int .i64 0, .bool true]] = some (.bool true) := by rw [c20]; simp [vd, all64, l1, zs_len]
  have h9 : pc E 20 [.agg [.vs [], .int .i64 0, .int .i64 0, .bool false]] = some (.bool false) := by
    have := c20 [] 0 0 false; rw [show vd [] 0 0 = false from by simp [vd]] at this; exact this
  have e0 : (over [7] zs)[0]? = some 7 := rfl
  have e1 : (over [7] zs)[1]? = some 0 := by simp [over, zs]
  have g0 : ((over [7] zs).map b1)[0]? = some [.int .u8 7] := by rw [List.getElem?_map, e0]; rfl
  have g1 : ((over [7] zs).map b1)[1]? = some [.int .u8 0] := by rw [List.getElem?_map, e1]; rfl
  have n1 : ([zs, zs] : List (List UInt8)).length = 2 := rfl
  generalize [zs, zs] = s0 at *
  generalize [over [7] zs, zs] = s2 at *
  generalize over [7] zs = p at *
  rw [pc_eq]; simp +contextual -implicitDefEqProofs (maxSteps := 2000000) only [go_sem, ↓reduceIte, Nat.reduceAdd, Nat.reduceMul, Nat.reduceSub, Nat.reduceEqDiff, Nat.reduceLeDiff, Nat.reduceDiv, Nat.reduceMod, Nat.reduceBEq, Nat.reduceBNe, reduceCtorEq, Int.reduceLE, Int.reduceLT, Int.reduceToNat, Int.reduceNeg, Nat.reduceLT, Int.reduceEq, Int.reduceSub, Int.reduceAdd, Int.reduceMul, Nat.reducePow, Int.reduceBEq, Int.reduceBNe, Int.reduceMod, E_15, A15, h, h2, h3, h4, h5, h6, h7, h8, h9, g0, g1, n1, l1, List.length_map, ite_self]
end Go.Proofs.Ytjmnepfdhkabfaa

namespace Go.Proofs.Ytjmnepfdhkabfaa
set_option maxRecDepth 100000
set_option maxHeartbeats 4000000
set_option linter.unusedSimpArgs false
set_option linter.unusedVariables false
open Go Go.Zv
theorem vd_ok {d : Dsk} (h : OKd d) : vd d.sec d.fuse d.torn = true := by
  have h2 : all64 d.sec = true := List.all_eq_true.2 fun s hs => by simpa using h.all s hs
  have := h.len1; have := h.len2; have := h.fuse; have := h.torn0; have := h.torn1
  unfold vd
  rw [h2, Bool.and_true, decide_eq_true_eq]
  exact ⟨by omega, by omega, h.fuse, h.torn0, h.torn1⟩
theorem sameB_self (d : Dsk) : sameB d d = true := by simp [sameB]
theorem wr_cases (d : Dsk) (i : Int) (x : List UInt8) :
    (d.down = true ∧ wr d i x = (d, 300)) ∨ (d.down = false ∧ ¬ (0 ≤ i ∧ i < d.sec.length ∧ x.length ≤ 64) ∧ wr d i x = (d, 1)) ∨
    (d.down = false ∧ (0 ≤ i ∧ i < d.sec.length ∧ x.length ≤ 64) ∧ d.fuse = 1 ∧ wr d i x = (⟨d.sec.set i.toNat (over (x.take d.torn.toNat) (d.sec[i.toNat]?.getD [])), -1, 0, true⟩, 300)) ∨
    (d.down = false ∧ (0 ≤ i ∧ i < d.sec.length ∧ x.length ≤ 64) ∧ d.fuse ≠ 1 ∧ wr d i x = (⟨d.sec.set i.toNat (over x (d.sec[i.toNat]?.getD [])), if d.fuse > 1 then d.fuse - 1 else d.fuse, d.torn, false⟩, 0)) := by
  unfold wr
  cases h : d.down with
  | true => simp
  | false =>
    simp only [Bool.false_eq_true, if_false, false_and, true_and, false_or]
    by_cases h1 : 0 ≤ i ∧ i < d.sec.length ∧ x.length ≤ 64
    · by_cases h2 : d.fuse = 1
      · right; left; rw [if_pos h1, if_pos h2]; exact ⟨h1, h2, rfl⟩
      · right; right; rw [if_pos h1, if_neg h2]; exact ⟨h1, h2, rfl⟩
    · left; rw [if_neg h1]; exact ⟨h1, rfl⟩
theorem wr_len (d : Dsk) (i : Int) (x : List UInt8) : (wr d i x).1.sec.length = d.sec.length := by
  rcases wr_cases d i x with ⟨_, h⟩ | ⟨_, _, h⟩ | ⟨_, _, _, h⟩ | ⟨_, _, _, h⟩ <;> rw [h] <;> simp
theorem ac_len (d : Dsk) (a : Act) : (ac d a).1.sec.length = d.sec.length := by
  unfold ac
  split
  · rfl
  · split
    · unfold fu; split <;> rfl
    · exact wr_len ..
theorem ac_cases (d : Dsk) (a : Act) : (ac d a).2 = 0 ∨ ((ac d a).2 = 1 ∧ (ac d a).1 = d) ∨ ((ac d a).2 = 300 ∧ d.down = true ∧ (ac d a).1 = d) ∨ ((ac d a).2 = 300 ∧ d.down = false ∧ (ac d a).1.down = true) := by
  unfold ac
  split
  · exact .inl rfl
  · split
    · exact .inl rfl
    · rcases wr_cases d a.at_ a.data with ⟨h1, h⟩ | ⟨_, _, h⟩ | ⟨h1, _, _, h⟩ | ⟨_, _, _, h⟩ <;> rw [h] <;> simp [*]
end Go.Proofs.Ytjmnepfdhkabfaa

namespace Go.Proofs.Ytjmnepfdhkabfaa
set_option maxRecDepth 100000
set_option maxHeartbeats 4000000
set_option linter.unusedSimpArgs false
set_option linter.unusedVariables false
open Go Go.Zv
def c1 (n : Int) : List LV := [.int .i64 n]
structure Rec where
  seq : Int
  step : Int
  q0 : Int
  q1 : Int
  q2 : Int
  q3 : Int
  q4 : Int
  q5 : Int
  h0 : Int
  h1 : Int
  wh : List Int
  mode : Int
deriving DecidableEq
abbrev rv (r : Rec) : LV := .agg [.int .i64 r.seq, .int .i64 r.step, .int .i64 r.q0, .int .i64 r.q1, .int .i64 r.q2, .int .i64 r.q3, .int .i64 r.q4, .int .i64 r.q5, .int .i64 r.h0, .int .i64 r.h1, .vs (r.wh.map c1), .int .i64 r.mode]
def inI (n a b : Int) : Bool := decide (a ≤ n ∧ n ≤ b)
def whB (l : List Int) : Bool := l.all fun n => inI n (-1) 15
def mayB (r : Rec) : Bool := inI r.q0 (-17) 18 && (inI r.q1 (-17) 18 && (inI r.q2 (-17) 18 && (inI r.h0 (-1) 7 && (inI r.q3 (-17) 18 && (inI r.q4 (-17) 18 && (inI r.q5 (-17) 18 && (inI r.h1 (-1) 7 && (whB r.wh && (inI r.seq 1 1073741824 && (inI r.step 0 300 && (decide (r.wh.length ≤ 8) && inI r.mode 1 5)))))))))))
structure OKr (r : Rec) : Prop where
  q0 : -17 ≤ r.q0 ∧ r.q0 ≤ 18
  q1 : -17 ≤ r.q1 ∧ r.q1 ≤ 18
  q2 : -17 ≤ r.q2 ∧ r.q2 ≤ 18
  q3 : -17 ≤ r.q3 ∧ r.q3 ≤ 18
  q4 : -17 ≤ r.q4 ∧ r.q4 ≤ 18
  q5 : -17 ≤ r.q5 ∧ r.q5 ≤ 18
  h0 : -1 ≤ r.h0 ∧ r.h0 ≤ 7
  h1 : -1 ≤ r.h1 ∧ r.h1 ≤ 7
  wh : ∀ n ∈ r.wh, -1 ≤ n ∧ n ≤ 15
  seq : 1 ≤ r.seq ∧ r.seq ≤ 1073741824
  step : 0 ≤ r.step ∧ r.step ≤ 300
  len : r.wh.length ≤ 8
  mode : 1 ≤ r.mode ∧ r.mode ≤ 5
theorem may_iff (r : Rec) : mayB r = true ↔ OKr r := by
  simp only [mayB, whB, inI, Bool.and_eq_true, List.all_eq_true, decide_eq_true_eq]
  constructor
  · rintro ⟨a0, a1, a2, b0, a3, a4, a5, b1, w, s, t, l, m⟩; exact ⟨a0, a1, a2, a3, a4, a5, b0, b1, w, s, t, l, m⟩
  · rintro ⟨a0, a1, a2, a3, a4, a5, b0, b1, w, s, t, l, m⟩; exact ⟨a0, a1, a2, b0, a3, a4, a5, b1, w, s, t, l, m⟩
def by8 (n : Int) : UInt8 := UInt8.ofNat (n % 256).toNat
theorem by8_nat (n : Int) : ((by8 n).toNat : Int) = n % 256 := by
  have h1 : 0 ≤ n % 256 := Int.emod_nonneg _ (by omega)
  have h2 : n % 256 < 256 := Int.emod_lt_of_pos _ (by omega)
  simp only [by8, UInt8.toNat_ofNat']
  omega
theorem by8_small {n : Int} (h1 : 0 ≤ n) (h2 : n < 256) : ((by8 n).toNat : Int) = n := by rw [by8_nat]; omega
theorem by8_eq {a b : Int} (h : by8 a = by8 b) : a % 256 = b % 256 := by rw [← by8_nat, ← by8_nat, h]
theorem by8_back (x : UInt8) : by8 (x.toNat : Int) = x := by
  apply UInt8.toNat_inj.1
  have h := by8_nat (x.toNat : Int)
  have h2 : x.toNat < 256 := x.toNat_lt
  omega
def be2 (n : Int) : List UInt8 := [by8 (n / 256), by8 n]
def be4 (n : Int) : List UInt8 := [by8 (n / 16777216), by8 (n / 65536), by8 (n / 256), by8 n]
theorem be2_inj {a b : Int} (h1 : 0 ≤ a) (h2 : a < 65536) (h3 : 0 ≤ b) (h4 : b < 65536) (h : be2 a = be2 b) : a = b := by
  simp only [be2, List.cons.injEq, and_true] at h
  have e1 := by8_eq h.1
  have e2 := by8_eq h.2
  omega
def n2 (a b : UInt8) : Int := a.toNat * 256 + b.toNat
def n4 (a b c d : UInt8) : Int := ((a.toNat * 256 + b.toNat) * 256 + c.toNat) * 256 + d.toNat
theorem n2_be (n : Int) (h1 : 0 ≤ n) (h2 : n < 65536) : n2 (by8 (n / 256)) (by8 n) = n := by
  simp only [n2, by8_nat]; omega
theorem n4_be (n : Int) (h1 : 0 ≤ n) (h2 : n < 4294967296) : n4 (by8 (n / 16777216)) (by8 (n / 65536)) (by8 (n / 256)) (by8 n) = n := by
  simp only [n4, by8_nat]; omega
/-- the checksum, from the i-th byte on -/
def sm : List UInt8 → Nat → Nat
  | [], _ => 0
  | c :: l, i => (i + 1) * c.toNat + sm l (i + 1)
def sumB (l : List UInt8) : Int := ((sm l 0 % 65521 : Nat) : Int)
theorem sumB_lt (l) : 0 ≤ sumB l ∧ sumB l < 65521 := by unfold sumB; omega
theorem sm_set : ∀ (l : List UInt8) (i k : Nat) (x y : UInt8), l[k]? = some x → (sm (l.set k y) i : Int) = sm l i + (i + k + 1) * (y.toNat - x.toNat)
  | [], i, k, x, y, h => by simp at h
  | c :: l, i, 0, x, y, h => by
    simp only [List.getElem?_cons_zero, Option.some.injEq] at h; subst h
    simp only [List.set_cons_zero, sm, Int.natCast_add, Int.natCast_mul]
    simp only [Int.mul_sub]
    have e : (((i : Nat) : Int) + ((0 : Nat) : Int) + 1) = (i : Int) + ((1 : Nat) : Int) := by omega
    rw [e]; omega
  | c :: l, i, k + 1, x, y, h => by
    have ih := sm_set l (i + 1) k x y (by simpa using h)
    simp only [List.set_cons_succ, sm, Int.natCast_add, Int.natCast_mul, ih]
    have e : ((i : Int) + (1 : Int) + (k : Int) + 1) = ((i : Int) + (((k : Int) + 1)) + 1) := by omega
    simp only [Int.natCast_one] at *
    rw [e]; omega
def hd (r : Rec) : List UInt8 := 74 :: (be4 r.seq ++ (be2 r.step ++ (by8 (r.q0 + 17) :: by8 (r.q1 + 17) :: by8 (r.q2 + 17) :: by8 (r.q3 + 17) :: by8 (r.q4 + 17) :: by8 (r.q5 + 17) :: by8 (r.h0 + 1) :: by8 (r.h1 + 1) :: by8 r.wh.length :: (r.wh.map (fun n => by8 (n + 1)) ++ [by8 r.mode]))))
theorem hd_len (r : Rec) : (hd r).length = 17 + r.wh.length := by simp [hd, be4, be2]; omega
def pad (r : Rec) : List UInt8 := hd r ++ List.replicate (58 - (hd r).length) 0
theorem pad_len {r : Rec} (h : OKr r) : (pad r).length = 58 := by
  have := h.len; have := hd_len r
  simp [pad]; omega
def enc (r : Rec) : List UInt8 := pad r ++ (be2 (sumB (pad r)) ++ be4 r.seq)
theorem enc_len {r : Rec} (h : OKr r) : (enc r).length = 64 := by simp [enc, pad_len h, be2, be4]
def raw (b : List UInt8) : Rec :=
  let g := fun i => (b[i]?.getD 0)
  let m := (g 15).toNat
  ⟨n4 (g 1) (g 2) (g 3) (g 4), n2 (g 5) (g 6), (g 7).toNat - 17, (g 8).toNat - 17, (g 9).toNat - 17, (g 10).toNat - 17, (g 11).toNat - 17, (g 12).toNat - 17, (g 13).toNat - 1, (g 14).toNat - 1,
   ((b.drop 16).take m).map (fun x => ((x.toNat : Int) - 1)), (g (16 + m)).toNat⟩
def dec (b : List UInt8) : Option Rec := if b.length = 64 ∧ (b[15]?.getD 0).toNat ≤ 8 ∧ mayB (raw b) = true ∧ enc (raw b) = b then some (raw b) else none
theorem dec_some {b r} (h : dec b = some r) : OKr r ∧ enc r = b := by
  unfold dec at h
  split at h
  · rename_i hc
    cases h
    exact ⟨(may_iff _).1 hc.2.2.1, hc.2.2.2⟩
  · cases h
theorem raw_enc {r : Rec} (h : OKr r) : raw (enc r) = r ∧ ((enc r)[15]?.getD 0).toNat ≤ 8 := by
  obtain ⟨sq, st, a0, a1, a2, a3, a4, a5, b0, b1, l, m⟩ := r
  obtain ⟨q0, q1, q2, q3, q4, q5, h0, h1, w, s, t, ln, mo⟩ := h
  simp only at *
  have e : ∃ tl, enc ⟨sq, st, a0, a1, a2, a3, a4, a5, b0, b1, l, m⟩ = 74 :: by8 (sq / 16777216) :: by8 (sq / 65536) :: by8 (sq / 256) :: by8 sq :: by8 (st / 256) :: by8 st :: by8 (a0 + 17) :: by8 (a1 + 17) :: by8 (a2 + 17) :: by8 (a3 + 17) :: by8 (a4 + 17) :: by8 (a5 + 17) :: by8 (b0 + 1) :: by8 (b1 + 1) :: by8 l.length :: (l.map (fun n => by8 (n + 1)) ++ by8 m :: tl) := by
    refine ⟨List.replicate (58 - (hd ⟨sq, st, a0, a1, a2, a3, a4, a5, b0, b1, l, m⟩).length) 0 ++ (be2 (sumB (pad ⟨sq, st, a0, a1, a2, a3, a4, a5, b0, b1, l, m⟩)) ++ be4 sq), ?_⟩
    simp only [enc, pad, hd, be4, be2, List.cons_append, List.nil_append, List.append_assoc]
  obtain ⟨tl, e⟩ := e
  rw [e]
  have hm : (by8 (l.length : Int)).toNat = l.length := by have := by8_small (n := l.length) (by omega) (by omega); omega
  have hw : (l.map (fun n => by8 (n + 1))).map (fun x => ((x.toNat : Int) - 1)) = l := by
    rw [List.map_map]
    conv => rhs; rw [← List.map_id l]
    apply List.map_congr_left
    intro n hn
    have := w n hn
    simp only [Function.comp, id]
    rw [by8_small (by omega) (by omega)]; omega
  constructor
  · unfold raw
    simp only [List.getElem?_cons_succ, List.getElem?_cons_zero, Option.getD_some, List.drop_succ_cons, List.drop_zero, hm]
    rw [n4_be _ (by omega) (by omega), n2_be _ (by omega) (by omega), by8_small (by omega) (by omega), by8_small (by omega) (by omega), by8_small (by omega) (by omega), by8_small (by omega) (by omega), by8_small (by omega) (by omega), by8_small (by omega) (by omega), by8_small (by omega) (by omega), by8_small (by omega) (by omega)]
    have e1 : List.take l.length (l.map (fun n => by8 (n + 1)) ++ by8 m :: tl) = l.map (fun n => by8 (n + 1)) := by
      rw [List.take_append_of_le_length (by simp)]; exact List.take_of_length_le (by simp)
    rw [e1, hw]
    have e2 : (74 :: by8 (sq / 16777216) :: by8 (sq / 65536) :: by8 (sq / 256) :: by8 sq :: by8 (st / 256) :: by8 st :: by8 (a0 + 17) :: by8 (a1 + 17) :: by8 (a2 + 17) :: by8 (a3 + 17) :: by8 (a4 + 17) :: by8 (a5 + 17) :: by8 (b0 + 1) :: by8 (b1 + 1) :: by8 l.length :: (l.map (fun n => by8 (n + 1)) ++ by8 m :: tl))[16 + l.length]? = some (by8 m) := by
      rw [Nat.add_comm]
      simp only [List.getElem?_cons_succ]
      rw [List.getElem?_append_right (by simp)]
      simp
    rw [e2, Option.getD_some, by8_small (by omega) (by omega)]
    congr 1 <;> omega
  · simp only [List.getElem?_cons_succ, List.getElem?_cons_zero, Option.getD_some, hm]; omega
theorem dec_enc {r : Rec} (h : OKr r) : dec (enc r) = some r := by
  obtain ⟨h1, h2⟩ := raw_enc h
  unfold dec
  rw [if_pos ⟨enc_len h, h2, by rw [h1]; exact (may_iff r).2 h, by rw [h1]⟩, h1]
theorem enc_inj {r s : Rec} (hr : OKr r) (hs : OKr s) (h : enc r = enc s) : r = s := by
  have := dec_enc hr
  rw [h, dec_enc hs] at this
  cases this; rfl
end Go.Proofs.Ytjmnepfdhkabfaa

namespace Go.Proofs.Ytjmnepfdhkabfaa
set_option maxRecDepth 100000
set_option maxHeartbeats 4000000
set_option linter.unusedSimpArgs false
set_option linter.unusedVariables false
open Go Go.Zv
theorem c82 (n a b : Int) : pc E 82 [.int .i64 n, .int .i64 a, .int .i64 b] = some (.bool (inI n a b)) := by
  rw [pc_eq]; simp +contextual -implicitDefEqProofs (maxSteps := 2000000) only [go_sem, ↓reduceIte, Nat.reduceAdd, Nat.reduceMul, Nat.reduceSub, Nat.reduceEqDiff, Nat.reduceLeDiff, Nat.reduceDiv, Nat.reduceMod, Nat.reduceBEq, Nat.reduceBNe, reduceCtorEq, Int.reduceLE, Int.reduceLT, Int.reduceToNat, Int.reduceNeg, Nat.reduceLT, Int.reduceEq, Int.reduceSub, Int.reduceAdd, Int.reduceMul, Nat.reducePow, Int.reduceBEq, Int.reduceBNe, Int.reduceMod, E_82, A82]
  by_cases h : a ≤ n <;> simp [h, inI]
theorem c67 (n a b : Int) : pc E 67 [.int .i64 n, .int .i64 a, .int .i64 b] = some (.bool (inI n a b)) := by
  rw [pc_eq]; simp +contextual -implicitDefEqProofs (maxSteps := 2000000) only [go_sem, ↓reduceIte, Nat.reduceAdd, Nat.reduceMul, Nat.reduceSub, Nat.reduceEqDiff, Nat.reduceLeDiff, Nat.reduceDiv, Nat.reduceMod, Nat.reduceBEq, Nat.reduceBNe, reduceCtorEq, Int.reduceLE, Int.reduceLT, Int.reduceToNat, Int.reduceNeg, Nat.reduceLT, Int.reduceEq, Int.reduceSub, Int.reduceAdd, Int.reduceMul, Nat.reducePow, Int.reduceBEq, Int.reduceBNe, Int.reduceMod, E_67, A67]
  by_cases h : a ≤ n <;> simp [h, inI]
theorem get_c1 {l : List Int} {i : Nat} {p : Int} (h : l[i]? = some p) : (l.map c1)[i]? = some [.int .i64 p] := by
  rw [List.getElem?_map, h]; rfl
abbrev bx12 (sq st a0 a1 a2 a3 a4 a5 b0 b1 : Int) (l : List Int) (m : Int) : Zv.Obj := .box [.int .i64 sq, .int .i64 st, .int .i64 a0, .int .i64 a1, .int .i64 a2, .int .i64 a3, .int .i64 a4, .int .i64 a5, .int .i64 b0, .int .i64 b1, .vs (l.map c1), .int .i64 m]
theorem loop61 (sq st a0 a1 a2 a3 a4 a5 b0 b1 m : Int) (l : List Int) (hl : l.length ≤ 1000000000) :
    (K E A61_L0 ⟨[(1, .ptr 256 0), (34, .vs (l.map c1)), (35, .int .i64 l.length), (36, .int .i64 0)], [], [(256, bx12 sq st a0 a1 a2 a3 a4 a5 b0 b1 l m)], 0⟩).bind (blockR 4 (some [1]) [2, 8, 41]) =
    if (l.any fun n => !inI n (-1) 15) = true then some (.ex .ret ⟨[(2, .bool false)], [], [(256, bx12 sq st a0 a1 a2 a3 a4 a5 b0 b1 l m)], 0⟩)
    else some (.ex .nrm ⟨[(1, .ptr 256 0)], [], [(256, bx12 sq st a0 a1 a2 a3 a4 a5 b0 b1 l m)], 0⟩) := by
  refine loop_any (fun S => (K E A61_L0 S).bind (blockR 4 (some [1]) [2, 8, 41])) (fun k => ⟨[(1, .ptr 256 0), (34, .vs (l.map c1)), (35, .int .i64 l.length), (36, .int .i64 k)], [], [(256, bx12 sq st a0 a1 a2 a3 a4 a5 b0 b1 l m)], 0⟩) l (fun n => !inI n (-1) 15) _ _ ?_ fun k p hk hg => ?_
  · show (K E A61_L0 _).bind _ = _
    rw [A61_L0_eq]
    simp +contextual -implicitDefEqProofs (maxSteps := 2000000) only [go_sem, ↓reduceIte, Nat.reduceAdd, Nat.reduceMul, Nat.reduceSub, Nat.reduceEqDiff, Nat.reduceLeDiff, Nat.reduceDiv, Nat.reduceMod, Nat.reduceBEq, Nat.reduceBNe, reduceCtorEq, Int.reduceLE, Int.reduceLT, Int.reduceToNat, Int.reduceNeg, Nat.reduceLT, Int.reduceEq, Int.reduceSub, Int.reduceAdd, Int.reduceMul, Nat.reducePow, Int.reduceBEq, Int.reduceBNe, Int.reduceMod, A61_L0b, List.length_map, Int.lt_irrefl]
  · show (K E A61_L0 _).bind _ = if _ then _ else (K E A61_L0 _).bind _
    have h1 : (k : Int) < l.length := by omega
    have h0 : (0 : Int) ≤ k := by omega
    have hw := wr_succ (n := k) (by omega)
    have hg := get_c1 hg
    conv => lhs; rw [A61_L0_eq]
    cases hp : inI p (-1) 15 <;> simp +contextual -implicitDefEqProofs (maxSteps := 2000000) only [go_sem, ↓reduceIte, Nat.reduceAdd, Nat.reduceMul, Nat.reduceSub, Nat.reduceEqDiff, Nat.reduceLeDiff, Nat.reduceDiv, Nat.reduceMod, Nat.reduceBEq, Nat.reduceBNe, reduceCtorEq, Int.reduceLE, Int.reduceLT, Int.reduceToNat, Int.reduceNeg, Nat.reduceLT, Int.reduceEq, Int.reduceSub, Int.reduceAdd, Int.reduceMul, Nat.reducePow, Int.reduceBEq, Int.reduceBNe, Int.reduceMod, A61_L0b, List.length_map, h0, h1, hw, hg, hp, c82]
theorem whB_any (l : List Int) : (l.any fun n => !inI n (-1) 15) = !whB l := by
  induction l with
  | nil => rfl
  | cons n l ih => simp only [List.any_cons, whB, List.all_cons, Bool.not_and] at *; rw [ih]
theorem c61 (r : Rec) (hl : r.wh.length ≤ 1000000000) : pc E 61 [rv r] = some (.bool (mayB r)) := by
  obtain ⟨sq, st, a0, a1, a2, a3, a4, a5, b0, b1, l, m⟩ := r
  have lp := loop61 sq st a0 a1 a2 a3 a4 a5 b0 b1 m l hl
  rw [whB_any] at lp
  cases g0 : inI a0 (-17) 18 with
  | false =>
    rw [pc_eq]; simp +contextual -implicitDefEqProofs (maxSteps := 2000000) only [go_sem, ↓reduceIte, Nat.reduceAdd, Nat.reduceMul, Nat.reduceSub, Nat.reduceEqDiff, Nat.reduceLeDiff, Nat.reduceDiv, Nat.reduceMod, Nat.reduceBEq, Nat.reduceBNe, reduceCtorEq, Int.reduceLE, Int.reduceLT, Int.reduceToNat, Int.reduceNeg, Nat.reduceLT, Int.reduceEq, Int.reduceSub, Int.reduceAdd, Int.reduceMul, Nat.reducePow, Int.reduceBEq, Int.reduceBNe, Int.reduceMod, lp, E_61, A61, A61_L2_eq, A61_L2b, A61_L1_eq, A61_L1b, c82, List.length_map, g0]
    (try simp [mayB, g0]); try (first | (intro hh; exfalso; simp at g11; omega) | (simp at g11; omega))
  | true =>
    cases g1 : inI a1 (-17) 18 with
    | false =>
      rw [pc_eq]; simp +contextual -implicitDefEqProofs (maxSteps := 2000000) only [go_sem, ↓reduceIte, Nat.reduceAdd, Nat.reduceMul, Nat.reduceSub, Nat.reduceEqDiff, Nat.reduceLeDiff, Nat.reduceDiv, Nat.reduceMod, Nat.reduceBEq, Nat.reduceBNe, reduceCtorEq, Int.reduceLE, Int.reduceLT, Int.reduceToNat, Int.reduceNeg, Nat.reduceLT, Int.reduceEq, Int.reduceSub, Int.reduceAdd, Int.reduceMul, Nat.reducePow, Int.reduceBEq, Int.reduceBNe, Int.reduceMod, lp, E_61, A61, A61_L2_eq, A61_L2b, A61_L1_eq, A61_L1b, c82, List.length_map, g0, g1]
      (try simp [mayB, g0, g1]); try (first | (intro hh; exfalso; simp at g11; omega) | (simp at g11; omega))
    | true =>
      cases g2 : inI a2 (-17) 18 with
      | false =>
        rw [pc_eq]; simp +contextual -implicitDefEqProofs (maxSteps := 2000000) only [go_sem, ↓reduceIte, Nat.reduceAdd, Nat.reduceMul, Nat.reduceSub, Nat.reduceEqDiff, Nat.reduceLeDiff, Nat.reduceDiv, Nat.reduceMod, Nat.reduceBEq, Nat.reduceBNe, reduceCtorEq, Int.reduceLE, Int.reduceLT, Int.reduceToNat, Int.reduceNeg, Nat.reduceLT, Int.reduceEq, Int.reduceSub, Int.reduceAdd, Int.reduceMul, Nat.reducePow, Int.reduceBEq, Int.reduceBNe, Int.reduceMod, lp, E_61, A61, A61_L2_eq, A61_L2b, A61_L1_eq, A61_L1b, c82, List.length_map, g0, g1, g2]
        (try simp [mayB, g0, g1, g2]); try (first | (intro hh; exfalso; simp at g11; omega) | (simp at g11; omega))
      | true =>
        cases g3 : inI b0 (-1) 7 with
        | false =>
          rw [pc_eq]; simp +contextual -implicitDefEqProofs (maxSteps := 2000000) only [go_sem, ↓reduceIte, Nat.reduceAdd, Nat.reduceMul, Nat.reduceSub, Nat.reduceEqDiff, Nat.reduceLeDiff, Nat.reduceDiv, Nat.reduceMod, Nat.reduceBEq, Nat.reduceBNe, reduceCtorEq, Int.reduceLE, Int.reduceLT, Int.reduceToNat, Int.reduceNeg, Nat.reduceLT, Int.reduceEq, Int.reduceSub, Int.reduceAdd, Int.reduceMul, Nat.reducePow, Int.reduceBEq, Int.reduceBNe, Int.reduceMod, lp, E_61, A61, A61_L2_eq, A61_L2b, A61_L1_eq, A61_L1b, c82, List.length_map, g0, g1, g2, g3]
          (try simp [mayB, g0, g1, g2, g3]); try (first | (intro hh; exfalso; simp at g11; omega) | (simp at g11; omega))
        | true =>
          cases g4 : inI a3 (-17) 18 with
          | false =>
            rw [pc_eq]; simp +contextual -implicitDefEqProofs (maxSteps := 2000000) only [go_sem, ↓reduceIte, Nat.reduceAdd, Nat.reduceMul, Nat.reduceSub, Nat.reduceEqDiff, Nat.reduceLeDiff, Nat.reduceDiv, Nat.reduceMod, Nat.reduceBEq, Nat.reduceBNe, reduceCtorEq, Int.reduceLE, Int.reduceLT, Int.reduceToNat, Int.reduceNeg, Nat.reduceLT, Int.reduceEq, Int.reduceSub, Int.reduceAdd, Int.reduceMul, Nat.reducePow, Int.reduceBEq, Int.reduceBNe, Int.reduceMod, lp, E_61, A61, A61_L2_eq, A61_L2b, A61_L1_eq, A61_L1b, c82, List.length_map, g0, g1, g2, g3, g4]
            (try simp [mayB, g0, g1, g2, g3, g4]); try (first | (intro hh; exfalso; simp at g11; omega) | (simp at g11; omega))
          | true =>
            cases g5 : inI a4 (-17) 18 with
            | false =>
              rw [pc_eq]; simp +contextual -implicitDefEqProofs (maxSteps := 2000000) only [go_sem, ↓reduceIte, Nat.reduceAdd, Nat.reduceMul, Nat.reduceSub, Nat.reduceEqDiff, Nat.reduceLeDiff, Nat.reduceDiv, Nat.reduceMod, Nat.reduceBEq, Nat.reduceBNe, reduceCtorEq, Int.reduceLE, Int.reduceLT, Int.reduceToNat, Int.reduceNeg, Nat.reduceLT, Int.reduceEq, Int.reduceSub, Int.reduceAdd, Int.reduceMul, Nat.reducePow, Int.reduceBEq, Int.reduceBNe, Int.reduceMod, lp, E_61, A61, A61_L2_eq, A61_L2b, A61_L1_eq, A61_L1b, c82, List.length_map, g0, g1, g2, g3, g4, g5]
              (try simp [mayB, g0, g1, g2, g3, g4, g5]); try (first | (intro hh; exfalso; simp at g11; omega) | (simp at g11; omega))
            | true =>
              cases g6 : inI a5 (-17) 18 with
              | false =>
                rw [pc_eq]; simp +contextual -implicitDefEqProofs (maxSteps := 2000000) only [go_sem, ↓reduceIte, Nat.reduceAdd, Nat.reduceMul, Nat.reduceSub, Nat.reduceEqDiff, Nat.reduceLeDiff, Nat.reduceDiv, Nat.reduceMod, Nat.reduceBEq, Nat.reduceBNe, reduceCtorEq, Int.reduceLE, Int.reduceLT, Int.reduceToNat, Int.reduceNeg, Nat.reduceLT, Int.reduceEq, Int.reduceSub, Int.reduceAdd, Int.reduceMul, Nat.reducePow, Int.reduceBEq, Int.reduceBNe, Int.reduceMod, lp, E_61, A61, A61_L2_eq, A61_L2b, A61_L1_eq, A61_L1b, c82, List.length_map, g0, g1, g2, g3, g4, g5, g6]
                (try simp [mayB, g0, g1, g2, g3, g4, g5, g6]); try (first | (intro hh; exfalso; simp at g11; omega) | (simp at g11; omega))
              | true =>
                cases g7 : inI b1 (-1) 7 with
                | false =>
                  rw [pc_eq]; simp +contextual -implicitDefEqProofs (maxSteps := 2000000) only [go_sem, ↓reduceIte, Nat.reduceAdd, Nat.reduceMul, Nat.reduceSub, Nat.reduceEqDiff, Nat.reduceLeDiff, Nat.reduceDiv, Nat.reduceMod, Nat.reduceBEq, Nat.reduceBNe, reduceCtorEq, Int.reduceLE, Int.reduceLT, Int.reduceToNat, Int.reduceNeg, Nat.reduceLT, Int.reduceEq, Int.reduceSub, Int.reduceAdd, Int.reduceMul, Nat.reducePow, Int.reduceBEq, Int.reduceBNe, Int.reduceMod, lp, E_61, A61, A61_L2_eq, A61_L2b, A61_L1_eq, A61_L1b, c82, List.length_map, g0, g1, g2, g3, g4, g5, g6, g7]
                  (try simp [mayB, g0, g1, g2, g3, g4, g5, g6, g7]); try (first | (intro hh; exfalso; simp at g11; omega) | (simp at g11; omega))
                | true =>
                  cases g8 : whB l with
                  | false =>
                    rw [pc_eq]; simp +contextual -implicitDefEqProofs (maxSteps := 2000000) only [go_sem, ↓reduceIte, Nat.reduceAdd, Nat.reduceMul, Nat.reduceSub, Nat.reduceEqDiff, Nat.reduceLeDiff, Nat.reduceDiv, Nat.reduceMod, Nat.reduceBEq, Nat.reduceBNe, reduceCtorEq, Int.reduceLE, Int.reduceLT, Int.reduceToNat, Int.reduceNeg, Nat.reduceLT, Int.reduceEq, Int.reduceSub, Int.reduceAdd, Int.reduceMul, Nat.reducePow, Int.reduceBEq, Int.reduceBNe, Int.reduceMod, lp, E_61, A61, A61_L2_eq, A61_L2b, A61_L1_eq, A61_L1b, c82, List.length_map, g0, g1, g2, g3, g4, g5, g6, g7, g8]
                    (try simp [mayB, g0, g1, g2, g3, g4, g5, g6, g7, g8]); try (first | (intro hh; exfalso; simp at g11; omega) | (simp at g11; omega))
                  | true =>
                    cases g9 : inI sq 1 1073741824 with
                    | false =>
                      rw [pc_eq]; simp +contextual -implicitDefEqProofs (maxSteps := 2000000) only [go_sem, ↓reduceIte, Nat.reduceAdd, Nat.reduceMul, Nat.reduceSub, Nat.reduceEqDiff, Nat.reduceLeDiff, Nat.reduceDiv, Nat.reduceMod, Nat.reduceBEq, Nat.reduceBNe, reduceCtorEq, Int.reduceLE, Int.reduceLT, Int.reduceToNat, Int.reduceNeg, Nat.reduceLT, Int.reduceEq, Int.reduceSub, Int.reduceAdd, Int.reduceMul, Nat.reducePow, Int.reduceBEq, Int.reduceBNe, Int.reduceMod, lp, E_61, A61, A61_L2_eq, A61_L2b, A61_L1_eq, A61_L1b, c82, List.length_map, g0, g1, g2, g3, g4, g5, g6, g7, g8, g9]
                      (try simp [mayB, g0, g1, g2, g3, g4, g5, g6, g7, g8, g9]); try (first | (intro hh; exfalso; simp at g11; omega) | (simp at g11; omega))
                    | true =>
                      cases g10 : inI st 0 300 with
                      | false =>
                        rw [pc_eq]; simp +contextual -implicitDefEqProofs (maxSteps := 2000000) only [go_sem, ↓reduceIte, Nat.reduceAdd, Nat.reduceMul, Nat.reduceSub, Nat.reduceEqDiff, Nat.reduceLeDiff, Nat.reduceDiv, Nat.reduceMod, Nat.reduceBEq, Nat.reduceBNe, reduceCtorEq, Int.reduceLE, Int.reduceLT, Int.reduceToNat, Int.reduceNeg, Nat.reduceLT, Int.reduceEq, Int.reduceSub, Int.reduceAdd, Int.reduceMul, Nat.reducePow, Int.reduceBEq, Int.reduceBNe, Int.reduceMod, lp, E_61, A61, A61_L2_eq, A61_L2b, A61_L1_eq, A61_L1b, c82, List.length_map, g0, g1, g2, g3, g4, g5, g6, g7, g8, g9, g10]
                        (try simp [mayB, g0, g1, g2, g3, g4, g5, g6, g7, g8, g9, g10]); try (first | (intro hh; exfalso; simp at g11; omega) | (simp at g11; omega))
                      | true =>
                        cases g11 : decide ((l.length : Int) ≤ 8) with
                        | false =>
                          rw [pc_eq]; simp +contextual -implicitDefEqProofs (maxSteps := 2000000) only [go_sem, ↓reduceIte, Nat.reduceAdd, Nat.reduceMul, Nat.reduceSub, Nat.reduceEqDiff, Nat.reduceLeDiff, Nat.reduceDiv, Nat.reduceMod, Nat.reduceBEq, Nat.reduceBNe, reduceCtorEq, Int.reduceLE, Int.reduceLT, Int.reduceToNat, Int.reduceNeg, Nat.reduceLT, Int.reduceEq, Int.reduceSub, Int.reduceAdd, Int.reduceMul, Nat.reducePow, Int.reduceBEq, Int.reduceBNe, Int.reduceMod, lp, E_61, A61, A61_L2_eq, A61_L2b, A61_L1_eq, A61_L1b, c82, List.length_map, g0, g1, g2, g3, g4, g5, g6, g7, g8, g9, g10, g11]
                          (try simp [mayB, g0, g1, g2, g3, g4, g5, g6, g7, g8, g9, g10, g11]); try (first | (intro hh; exfalso; simp at g11; omega) | (simp at g11; omega))
                        | true =>
                          cases g12 : inI m 1 5 with
                          | false =>
                            rw [pc_eq]; simp +contextual -implicitDefEqProofs (maxSteps := 2000000) only [go_sem, ↓reduceIte, Nat.reduceAdd, Nat.reduceMul, Nat.reduceSub, Nat.reduceEqDiff, Nat.reduceLeDiff, Nat.reduceDiv, Nat.reduceMod, Nat.reduceBEq, Nat.reduceBNe, reduceCtorEq, Int.reduceLE, Int.reduceLT, Int.reduceToNat, Int.reduceNeg, Nat.reduceLT, Int.reduceEq, Int.reduceSub, Int.reduceAdd, Int.reduceMul, Nat.reducePow, Int.reduceBEq, Int.reduceBNe, Int.reduceMod, lp, E_61, A61, A61_L2_eq, A61_L2b, A61_L1_eq, A61_L1b, c82, List.length_map, g0, g1, g2, g3, g4, g5, g6, g7, g8, g9, g10, g11, g12]
                            (try simp [mayB, g0, g1, g2, g3, g4, g5, g6, g7, g8, g9, g10, g11, g12]); try (first | (intro hh; exfalso; simp at g11; omega) | (simp at g11; omega))
                          | true =>
                            rw [pc_eq]; simp +contextual -implicitDefEqProofs (maxSteps := 2000000) only [go_sem, ↓reduceIte, Nat.reduceAdd, Nat.reduceMul, Nat.reduceSub, Nat.reduceEqDiff, Nat.reduceLeDiff, Nat.reduceDiv, Nat.reduceMod, Nat.reduceBEq, Nat.reduceBNe, reduceCtorEq, Int.reduceLE, Int.reduceLT, Int.reduceToNat, Int.reduceNeg, Nat.reduceLT, Int.reduceEq, Int.reduceSub, Int.reduceAdd, Int.reduceMul, Nat.reducePow, Int.reduceBEq, Int.reduceBNe, Int.reduceMod, lp, E_61, A61, A61_L2_eq, A61_L2b, A61_L1_eq, A61_L1b, c82, List.length_map, g0, g1, g2, g3, g4, g5, g6, g7, g8, g9, g10, g11, g12]
                            (try simp [mayB, g0, g1, g2, g3, g4, g5, g6, g7, g8, g9, g10, g11, g12]); try (first | (intro hh; exfalso; simp at g11; omega) | (simp at g11; omega))
end Go.Proofs.Ytjmnepfdhkabfaa

namespace Go.Proofs.Ytjmnepfdhkabfaa
set_option maxRecDepth 100000
set_option maxHeartbeats 4000000
set_option linter.unusedSimpArgs false
set_option linter.unusedVariables false
open Go Go.Zv
theorem wr_u8 (n : Int) : IntKind.u8.wrap n = n % 256 := by simp [IntKind.wrap, IntKind.signed, IntKind.bits]
theorem b1_by8 (n : Int) : b1 (by8 n) = [.int .u8 (n % 256)] := by unfold b1; rw [by8_nat]
def rowk (y : Int) (l : List Int) (k : Nat) : List (List LV) := ((l.take k).map fun n => by8 (n + y)).map b1
theorem rowk_len (y l) (k : Nat) (h : k ≤ l.length) : (rowk y l k).length = k := by simp [rowk]; omega
theorem rowk_succ (y : Int) {l : List Int} {k : Nat} {p : Int} (h : l[k]? = some p) : rowk y l k ++ [[.int .u8 ((p + y) % 256)]] = rowk y l (k + 1) := by
  unfold rowk
  rw [List.take_add_one, h]
  simp [b1_by8]
theorem c64 (y : Int) (l : List Int) (hl : l.length ≤ 1000000) (hy : -1000 ≤ y ∧ y ≤ 1000) (hb : ∀ n ∈ l, -1000000 ≤ n ∧ n ≤ 1000000) : pc E 64 [.int .i64 y, .vs (l.map c1)] = some (.os 1 ((l.map fun n => by8 (n + y)).map b1)) := by
  have lp := loop_to (fun S => (K E A64_L0 S).bind (blockR 0 (some [5]) [7, 19])) (fun k => ⟨[(0, .int .i64 y), (5, .bs 1280 0 k), (8, .vs (l.map c1)), (9, .int .i64 l.length), (10, .int .i64 k)], [], [(1280, .row 1 (rowk y l k)), (1024, .row 1 [])], 0⟩) l.length (fun k hk => by
    show (K E A64_L0 _).bind _ = (K E A64_L0 _).bind _
    have hget : l[k]? = some (l[k]'hk) := List.getElem?_eq_getElem _
    have hp := hb _ (List.getElem_mem hk)
    generalize l[k]'hk = p at *
    have h1 : (k : Int) < l.length := by omega
    have h0 : (0 : Int) ≤ k := by omega
    have hw := wr_succ (n := k) (by omega)
    have hg := get_c1 hget
    have w1 : IntKind.i64.wrap (p + y) = p + y := wrap_small (by omega) (by omega)
    have e := rowk_succ y hget
    have rl := rowk_len y l k (by omega)
    have tk : (rowk y l k).take k = rowk y l k := List.take_of_length_le (by omega)
    have hb : k + 1 ≤ 1000000000 := by omega
    conv => lhs; rw [A64_L0_eq]
    simp +contextual -implicitDefEqProofs (maxSteps := 2000000) only [go_sem, ↓reduceIte, Nat.reduceAdd, Nat.reduceMul, Nat.reduceSub, Nat.reduceEqDiff, Nat.reduceLeDiff, Nat.reduceDiv, Nat.reduceMod, Nat.reduceBEq, Nat.reduceBNe, reduceCtorEq, Int.reduceLE, Int.reduceLT, Int.reduceToNat, Int.reduceNeg, Nat.reduceLT, Int.reduceEq, Int.reduceSub, Int.reduceAdd, Int.reduceMul, Nat.reducePow, Int.reduceBEq, Int.reduceBNe, Int.reduceMod, A64_L0b, List.length_map, h0, h1, hw, hg, w1, wr_u8, e, rl, tk, hb])
  have e0 : rowk y l 0 = [] := by simp [rowk]
  have el : rowk y l l.length = (l.map fun n => by8 (n + y)).map b1 := by simp [rowk]
  have lp2 : (K E A64_L0 ⟨[(0, .int .i64 y), (5, .bs 1280 0 l.length), (8, .vs (l.map c1)), (9, .int .i64 l.length), (10, .int .i64 l.length)], [], [(1280, .row 1 (rowk y l l.length)), (1024, .row 1 [])], 0⟩).bind (blockR 0 (some [5]) [7, 19]) = some (.ex .nrm ⟨[(5, .bs 1280 0 l.length)], [], [(1280, .row 1 (rowk y l l.length)), (1024, .row 1 [])], 0⟩) := by
    rw [A64_L0_eq]; simp +contextual -implicitDefEqProofs (maxSteps := 2000000) only [go_sem, ↓reduceIte, Nat.reduceAdd, Nat.reduceMul, Nat.reduceSub, Nat.reduceEqDiff, Nat.reduceLeDiff, Nat.reduceDiv, Nat.reduceMod, Nat.reduceBEq, Nat.reduceBNe, reduceCtorEq, Int.reduceLE, Int.reduceLT, Int.reduceToNat, Int.reduceNeg, Nat.reduceLT, Int.reduceEq, Int.reduceSub, Int.reduceAdd, Int.reduceMul, Nat.reducePow, Int.reduceBEq, Int.reduceBNe, Int.reduceMod, A64_L0b, Int.lt_irrefl]
  have lp3 := lp.trans lp2
  simp only [e0, el, Int.natCast_zero, Int.ofNat_zero] at lp3
  have tk : ((l.map fun n => by8 (n + y)).map b1).take l.length = (l.map fun n => by8 (n + y)).map b1 := List.take_of_length_le (by simp)
  rw [pc_eq]; simp +contextual -implicitDefEqProofs (maxSteps := 2000000) only [go_sem, ↓reduceIte, Nat.reduceAdd, Nat.reduceMul, Nat.reduceSub, Nat.reduceEqDiff, Nat.reduceLeDiff, Nat.reduceDiv, Nat.reduceMod, Nat.reduceBEq, Nat.reduceBNe, reduceCtorEq, Int.reduceLE, Int.reduceLT, Int.reduceToNat, Int.reduceNeg, Nat.reduceLT, Int.reduceEq, Int.reduceSub, Int.reduceAdd, Int.reduceMul, Nat.reducePow, Int.reduceBEq, Int.reduceBNe, Int.reduceMod, E_64, A64, List.length_map, lp3, tk]
theorem c62 (a b : List UInt8) (hl : a.length ≤ 1000000) : pc E 62 [bv a, bv b] = some (.bool (decide (a = b))) := by
  by_cases h : a.length = b.length
  · have lp := loop_eq (fun S => (K E A62_L0 S).bind (blockR 0 (some []) [4, 5])) (fun k => ⟨[(0, bv a), (1, bv b), (12, .int .i64 a.length), (13, .int .i64 k)], [], [], 0⟩) a b h (some (.ex .ret ⟨[(4, .bool false)], [], [], 0⟩)) (some (.ex .nrm ⟨[], [], [], 0⟩))
      (by
        show (K E A62_L0 _).bind _ = _
        rw [A62_L0_eq]; simp +contextual -implicitDefEqProofs (maxSteps := 2000000) only [go_sem, ↓reduceIte, Nat.reduceAdd, Nat.reduceMul, Nat.reduceSub, Nat.reduceEqDiff, Nat.reduceLeDiff, Nat.reduceDiv, Nat.reduceMod, Nat.reduceBEq, Nat.reduceBNe, reduceCtorEq, Int.reduceLE, Int.reduceLT, Int.reduceToNat, Int.reduceNeg, Nat.reduceLT, Int.reduceEq, Int.reduceSub, Int.reduceAdd, Int.reduceMul, Nat.reducePow, Int.reduceBEq, Int.reduceBNe, Int.reduceMod, A62_L0b, Int.lt_irrefl])
      (fun k p q hk hp hq => by
        show (K E A62_L0 _).bind _ = if _ then (K E A62_L0 _).bind _ else _
        have h1 : (k : Int) < a.length := by omega
        have h0 : (0 : Int) ≤ k := by omega
        have hw := wr_succ (n := k) (by omega)
        have g1 : (a.map b1)[k]? = some [.int .u8 p.toNat] := by rw [List.getElem?_map, hp]; rfl
        have g2 : (b.map b1)[k]? = some [.int .u8 q.toNat] := by rw [List.getElem?_map, hq]; rfl
        conv => lhs; rw [A62_L0_eq]
        by_cases e : p = q
        · subst e
          simp +contextual -implicitDefEqProofs (maxSteps := 2000000) only [go_sem, ↓reduceIte, Nat.reduceAdd, Nat.reduceMul, Nat.reduceSub, Nat.reduceEqDiff, Nat.reduceLeDiff, Nat.reduceDiv, Nat.reduceMod, Nat.reduceBEq, Nat.reduceBNe, reduceCtorEq, Int.reduceLE, Int.reduceLT, Int.reduceToNat, Int.reduceNeg, Nat.reduceLT, Int.reduceEq, Int.reduceSub, Int.reduceAdd, Int.reduceMul, Nat.reducePow, Int.reduceBEq, Int.reduceBNe, Int.reduceMod, A62_L0b, List.length_map, h0, h1, hw, g1, g2, bne_self_eq_false]
        · have e' : ((p.toNat : Int) != q.toNat) = true := by simp; intro h; exact e (UInt8.toNat_inj.1 (by omega))
          have e2 : ¬ ((p.toNat : Int) = q.toNat) := by simpa using e'
          simp +contextual -implicitDefEqProofs (maxSteps := 2000000) only [go_sem, ↓reduceIte, Nat.reduceAdd, Nat.reduceMul, Nat.reduceSub, Nat.reduceEqDiff, Nat.reduceLeDiff, Nat.reduceDiv, Nat.reduceMod, Nat.reduceBEq, Nat.reduceBNe, reduceCtorEq, Int.reduceLE, Int.reduceLT, Int.reduceToNat, Int.reduceNeg, Nat.reduceLT, Int.reduceEq, Int.reduceSub, Int.reduceAdd, Int.reduceMul, Nat.reducePow, Int.reduceBEq, Int.reduceBNe, Int.reduceMod, A62_L0b, List.length_map, h0, h1, hw, g1, g2, e, e', e2])
    simp only [Int.natCast_zero, Int.ofNat_zero] at lp
    have h' : ((a.length : Int) != b.length) = false := by simp [h]
    by_cases e : a = b
    · subst e
      rw [if_pos rfl] at lp
      rw [pc_eq]; simp +contextual -implicitDefEqProofs (maxSteps := 2000000) only [go_sem, ↓reduceIte, Nat.reduceAdd, Nat.reduceMul, Nat.reduceSub, Nat.reduceEqDiff, Nat.reduceLeDiff, Nat.reduceDiv, Nat.reduceMod, Nat.reduceBEq, Nat.reduceBNe, reduceCtorEq, Int.reduceLE, Int.reduceLT, Int.reduceToNat, Int.reduceNeg, Nat.reduceLT, Int.reduceEq, Int.reduceSub, Int.reduceAdd, Int.reduceMul, Nat.reducePow, Int.reduceBEq, Int.reduceBNe, Int.reduceMod, E_62, A62, List.length_map, h', lp, bne_self_eq_false]
    · rw [if_neg e] at lp
      rw [pc_eq]; simp +contextual -implicitDefEqProofs (maxSteps := 2000000) only [go_sem, ↓reduceIte, Nat.reduceAdd, Nat.reduceMul, Nat.reduceSub, Nat.reduceEqDiff, Nat.reduceLeDiff, Nat.reduceDiv, Nat.reduceMod, Nat.reduceBEq, Nat.reduceBNe, reduceCtorEq, Int.reduceLE, Int.reduceLT, Int.reduceToNat, Int.reduceNeg, Nat.reduceLT, Int.reduceEq, Int.reduceSub, Int.reduceAdd, Int.reduceMul, Nat.reducePow, Int.reduceBEq, Int.reduceBNe, Int.reduceMod, E_62, A62, List.length_map, h', lp, e]
  · have h' : ((a.length : Int) != b.length) = true := by simp; omega
    have h2 : ¬ ((a.length : Int) = b.length) := by omega
    have e : ¬ a = b := fun e => h (by rw [e])
    rw [pc_eq]; simp +contextual -implicitDefEqProofs (maxSteps := 2000000) only [go_sem, ↓reduceIte, Nat.reduceAdd, Nat.reduceMul, Nat.reduceSub, Nat.reduceEqDiff, Nat.reduceLeDiff, Nat.reduceDiv, Nat.reduceMod, Nat.reduceBEq, Nat.reduceBNe, reduceCtorEq, Int.reduceLE, Int.reduceLT, Int.reduceToNat, Int.reduceNeg, Nat.reduceLT, Int.reduceEq, Int.reduceSub, Int.reduceAdd, Int.reduceMul, Nat.reducePow, Int.reduceBEq, Int.reduceBNe, Int.reduceMod, E_62, A62, List.length_map, h', h2, e]
theorem sm_snoc : ∀ (a : List UInt8) (i : Nat) (c : UInt8), sm (a ++ [c]) i = sm a i + (i + a.length + 1) * c.toNat
  | [], i, c => by simp [sm]
  | d :: a, i, c => by
    have := sm_snoc a (i + 1) c
    simp only [List.cons_append, sm, this, List.length_cons]
    rw [show i + 1 + a.length + 1 = i + (a.length + 1) + 1 by omega]; omega
theorem sm_take {l : List UInt8} {k : Nat} {p : UInt8} (h : l[k]? = some p) : sm (l.take (k + 1)) 0 = sm (l.take k) 0 + (k + 1) * p.toNat := by
  have hk := (List.getElem?_eq_some_iff.1 h).1
  rw [List.take_add_one, h, Option.toList_some, sm_snoc, List.length_take, Nat.min_eq_left (by omega), Nat.zero_add]
theorem sm_bd : ∀ (l : List UInt8) (i : Nat), sm l i ≤ l.length * ((i + l.length) * 255)
  | [], i => by simp [sm]
  | c :: l, i => by
    have ih := sm_bd l (i + 1)
    have hc : c.toNat < 256 := c.toNat_lt
    have h1 : (i + 1) * c.toNat ≤ (i + 1) * 255 := Nat.mul_le_mul_left _ (by omega)
    have h2 : (i + 1) * 255 ≤ (i + (l.length + 1)) * 255 := Nat.mul_le_mul_right _ (by omega)
    simp only [sm, List.length_cons]
    rw [Nat.add_mul l.length 1]
    rw [show i + 1 + l.length = i + (l.length + 1) by omega] at ih
    omega
theorem c66 (l : List UInt8) (hl : l.length ≤ 64) : pc E 66 [bv l] = some (.int .i64 (sumB l)) := by
  have lp := loop_to (fun S => (K E A66_L0 S).bind (blockR 0 (some [3]) [4, 5])) (fun k => ⟨[(3, .int .i64 (sm (l.take k) 0)), (6, bv l), (7, .int .i64 l.length), (8, .int .i64 k)], [], [], 0⟩) l.length (fun k hk => by
    show (K E A66_L0 _).bind _ = (K E A66_L0 _).bind _
    have hget : l[k]? = some (l[k]'hk) := List.getElem?_eq_getElem _
    generalize l[k]'hk = p at *
    have h1 : (k : Int) < l.length := by omega
    have h0 : (0 : Int) ≤ k := by omega
    have hw := wr_succ (n := k) (by omega)
    have g1 : (l.map b1)[k]? = some [.int .u8 p.toNat] := by rw [List.getElem?_map, hget]; rfl
    have e := sm_take hget
    have bd := sm_bd (l.take (k + 1)) 0
    have bl : (l.take (k + 1)).length ≤ 64 := by rw [List.length_take]; omega
    have bd2 : (l.take (k + 1)).length * ((0 + (l.take (k + 1)).length) * 255) ≤ 64 * (64 * 255) := Nat.mul_le_mul bl (Nat.mul_le_mul_right _ (by omega))
    have hp : p.toNat < 256 := p.toNat_lt
    have pk : (k + 1) * p.toNat ≤ 64 * 255 := Nat.mul_le_mul (by omega) (by omega)
    have w1 : IntKind.i64.wrap (p.toNat : Int) = p.toNat := wrap_small (by omega) (by omega)
    have ek : ((k : Int) + 1) * p.toNat = (((k + 1) * p.toNat : Nat) : Int) := by rw [Int.natCast_mul]; rfl
    have w2 : IntKind.i64.wrap (((k + 1 : Nat) : Int) * p.toNat) = (((k + 1) * p.toNat : Nat) : Int) := by
      rw [← Int.natCast_mul]; exact wrap_small (by omega) (by omega)
    have w3 : IntKind.i64.wrap ((sm (l.take k) 0 : Int) + (((k + 1) * p.toNat : Nat) : Int)) = (sm (l.take (k + 1)) 0 : Int) := by
      rw [← Int.natCast_add, ← e]; exact wrap_small (by omega) (by omega)
    conv => lhs; rw [A66_L0_eq]
    simp +contextual -implicitDefEqProofs (maxSteps := 2000000) only [go_sem, ↓reduceIte, Nat.reduceAdd, Nat.reduceMul, Nat.reduceSub, Nat.reduceEqDiff, Nat.reduceLeDiff, Nat.reduceDiv, Nat.reduceMod, Nat.reduceBEq, Nat.reduceBNe, reduceCtorEq, Int.reduceLE, Int.reduceLT, Int.reduceToNat, Int.reduceNeg, Nat.reduceLT, Int.reduceEq, Int.reduceSub, Int.reduceAdd, Int.reduceMul, Nat.reducePow, Int.reduceBEq, Int.reduceBNe, Int.reduceMod, A66_L0b, List.length_map, h0, h1, hw, g1, w1, w2, w3])
  have lp2 : (K E A66_L0 ⟨[(3, .int .i64 (sm (l.take l.length) 0)), (6, bv l), (7, .int .i64 l.length), (8, .int .i64 l.length)], [], [], 0⟩).bind (blockR 0 (some [3]) [4, 5]) = some (.ex .nrm ⟨[(3, .int .i64 (sm (l.take l.length) 0))], [], [], 0⟩) := by
    rw [A66_L0_eq]; simp +contextual -implicitDefEqProofs (maxSteps := 2000000) only [go_sem, ↓reduceIte, Nat.reduceAdd, Nat.reduceMul, Nat.reduceSub, Nat.reduceEqDiff, Nat.reduceLeDiff, Nat.reduceDiv, Nat.reduceMod, Nat.reduceBEq, Nat.reduceBNe, reduceCtorEq, Int.reduceLE, Int.reduceLT, Int.reduceToNat, Int.reduceNeg, Nat.reduceLT, Int.reduceEq, Int.reduceSub, Int.reduceAdd, Int.reduceMul, Nat.reducePow, Int.reduceBEq, Int.reduceBNe, Int.reduceMod, A66_L0b, Int.lt_irrefl]
  have lp3 := lp.trans lp2
  simp only [List.take_zero, sm, List.take_length, Int.natCast_zero, Int.ofNat_zero] at lp3
  have tm : (sm l 0 : Int).tmod 65521 = sumB l := by rw [Int.tmod_eq_emod_of_nonneg (by omega)]; rfl
  rw [pc_eq]; simp +contextual -implicitDefEqProofs (maxSteps := 2000000) only [go_sem, ↓reduceIte, Nat.reduceAdd, Nat.reduceMul, Nat.reduceSub, Nat.reduceEqDiff, Nat.reduceLeDiff, Nat.reduceDiv, Nat.reduceMod, Nat.reduceBEq, Nat.reduceBNe, reduceCtorEq, Int.reduceLE, Int.reduceLT, Int.reduceToNat, Int.reduceNeg, Nat.reduceLT, Int.reduceEq, Int.reduceSub, Int.reduceAdd, Int.reduceMul, Nat.reducePow, Int.reduceBEq, Int.reduceBNe, Int.reduceMod, E_66, A66, List.length_map, lp3, tm]
end Go.Proofs.Ytjmnepfdhkabfaa

namespace Go.Proofs.Ytjmnepfdhkabfaa
set_option maxRecDepth 100000
set_option maxHeartbeats 4000000
set_option linter.unusedSimpArgs false
set_option linter.unusedVariables false
open Go Go.Zv
theorem shr8 (n : Int) : shf .shr .i64 n 8 = some (.int .i64 (n / 256)) := by
  simp [shf, IntKind.bits, Int.fdiv_eq_ediv_of_nonneg]
theorem shl8 (n : Int) : shf .shl .i64 n 8 = some (.int .i64 (IntKind.i64.wrap (n * 256))) := by
  simp [shf, IntKind.bits]
theorem or8 {x y : Int} (h1 : 0 ≤ x) (h2 : x < 1099511627776) (h3 : 0 ≤ y) (h4 : y < 256) : IntKind.i64.wrap (((bits .i64 (x * 256) ||| bits .i64 y).toNat : Nat) : Int) = x * 256 + y := by
  obtain ⟨a, rfl⟩ : ∃ a : Nat, x = a := ⟨x.toNat, by omega⟩
  obtain ⟨b, rfl⟩ : ∃ b : Nat, y = b := ⟨y.toNat, by omega⟩
  have e1 : (bits .i64 ((a : Int) * 256)).toNat = a * 256 := by
    simp only [bits, IntKind.bits, BitVec.toNat_ofInt]; omega
  have e2 : (bits .i64 (b : Int)).toNat = b := by
    simp only [bits, IntKind.bits, BitVec.toNat_ofInt]; omega
  have e3 : (a * 256) ||| b = a * 256 + b := by
    have := Nat.shiftLeft_add_eq_or_of_lt (i := 8) (b := b) (by omega) a
    rw [Nat.shiftLeft_eq] at this
    exact this.symm
  rw [BitVec.toNat_or, e1, e2, e3]
  rw [wrap_small (by omega) (by omega)]; omega
theorem c65_4 (n : Int) : pc E 65 [.int .i64 n, .int .i64 4] = some (.os 1 ((be4 n).map b1)) := by
  have e1 : n / 256 / 256 = n / 65536 := by omega
  have e2 : n / 65536 / 256 = n / 16777216 := by omega
  rw [pc_eq]; simp +contextual -implicitDefEqProofs (maxSteps := 2000000) only [go_sem, ↓reduceIte, Nat.reduceAdd, Nat.reduceMul, Nat.reduceSub, Nat.reduceEqDiff, Nat.reduceLeDiff, Nat.reduceDiv, Nat.reduceMod, Nat.reduceBEq, Nat.reduceBNe, reduceCtorEq, Int.reduceLE, Int.reduceLT, Int.reduceToNat, Int.reduceNeg, Nat.reduceLT, Int.reduceEq, Int.reduceSub, Int.reduceAdd, Int.reduceMul, Nat.reducePow, Int.reduceBEq, Int.reduceBNe, Int.reduceMod, E_65, A65, A65_L0_eq, A65_L0b, shr8, wr_u8, e1, e2, be4, b1_by8]
theorem c65_2 (n : Int) : pc E 65 [.int .i64 n, .int .i64 2] = some (.os 1 ((be2 n).map b1)) := by
  rw [pc_eq]; simp +contextual -implicitDefEqProofs (maxSteps := 2000000) only [go_sem, ↓reduceIte, Nat.reduceAdd, Nat.reduceMul, Nat.reduceSub, Nat.reduceEqDiff, Nat.reduceLeDiff, Nat.reduceDiv, Nat.reduceMod, Nat.reduceBEq, Nat.reduceBNe, reduceCtorEq, Int.reduceLE, Int.reduceLT, Int.reduceToNat, Int.reduceNeg, Nat.reduceLT, Int.reduceEq, Int.reduceSub, Int.reduceAdd, Int.reduceMul, Nat.reducePow, Int.reduceBEq, Int.reduceBNe, Int.reduceMod, E_65, A65, A65_L0_eq, A65_L0b, shr8, wr_u8, be2, b1_by8]
theorem c83 (n : Nat) (h : n ≠ 0) (hn : n ≤ 1000000) : pc E 83 [.nul, .int .i64 n] = some (.os 1 []) := by
  have h0 : ¬ ((n : Int) < 0) := by omega
  have w1 : IntKind.i64.wrap (n : Int) = n := wrap_small (by omega) (by omega)
  · have h1 : (0 : Int) < n := by omega
    have hb : (n : Int) ≤ 1000000000 := by omega
    have h2 : (0 : Int) ≤ n := by omega
    have h3 : n ≤ 1000000000 := by omega
    rw [pc_eq]; simp +contextual -implicitDefEqProofs (maxSteps := 2000000) only [go_sem, ↓reduceIte, Nat.reduceAdd, Nat.reduceMul, Nat.reduceSub, Nat.reduceEqDiff, Nat.reduceLeDiff, Nat.reduceDiv, Nat.reduceMod, Nat.reduceBEq, Nat.reduceBNe, reduceCtorEq, Int.reduceLE, Int.reduceLT, Int.reduceToNat, Int.reduceNeg, Nat.reduceLT, Int.reduceEq, Int.reduceSub, Int.reduceAdd, Int.reduceMul, Nat.reducePow, Int.reduceBEq, Int.reduceBNe, Int.reduceMod, E_83, A83, h0, h1, h2, h3, hb, Int.sub_zero, w1, List.length_replicate]
theorem flat_take {l : List (List UInt8)} {k : Nat} {p : List UInt8} (h : l[k]? = some p) : (l.take (k + 1)).flatten = (l.take k).flatten ++ p := by
  rw [List.take_add_one, h, Option.toList_some, List.flatten_append, List.flatten_cons, List.flatten_nil, List.append_nil]
theorem flat_bd : ∀ (l : List (List UInt8)), (∀ b ∈ l, b.length ≤ 1000) → l.flatten.length ≤ l.length * 1000
  | [], _ => by simp
  | b :: l, h => by
    have := flat_bd l (fun c hc => h c (by simp [hc]))
    have := h b (by simp)
    simp only [List.flatten_cons, List.length_append, List.length_cons]; omega
theorem flat_bd2 (l : List (List UInt8)) (hl : l.length ≤ 1000) (hs : ∀ b ∈ l, b.length ≤ 1000) (k : Nat) : (l.take k).flatten.length ≤ 1000000 := by
  have h1 := flat_bd (l.take k) (fun b hb => hs b (List.mem_of_mem_take hb))
  have h2 : (l.take k).length ≤ 1000 := by rw [List.length_take]; omega
  omega
theorem loop63a (l : List (List UInt8)) (hl : l.length ≤ 1000) (hs : ∀ b ∈ l, b.length ≤ 1000) :
    (K E A63_L1 ⟨[(0, sv l), (3, .int .i64 0), (9, sv l), (10, .int .i64 l.length), (11, .int .i64 0)], [], [(512, .row 1 [])], 0⟩).bind (blockR 0 (some [0, 3]) [5]) =
    some (.ex .nrm ⟨[(0, sv l), (3, .int .i64 l.flatten.length)], [], [(512, .row 1 [])], 0⟩) := by
  have h := loop_to (fun S => (K E A63_L1 S).bind (blockR 0 (some [0, 3]) [5])) (fun k => ⟨[(0, sv l), (3, .int .i64 (l.take k).flatten.length), (9, sv l), (10, .int .i64 l.length), (11, .int .i64 k)], [], [(512, .row 1 [])], 0⟩) l.length (fun k hk => by
    have hget : l[k]? = some (l[k]'hk) := List.getElem?_eq_getElem _
    have hp := hs _ (List.getElem_mem hk)
    generalize l[k]'hk = p at *
    have h1 : (k : Int) < l.length := by omega
    have h0 : (0 : Int) ≤ k := by omega
    have hw := wr_succ (n := k) (by omega)
    have hg := get_s1 hget
    have bd := flat_bd2 l hl hs k
    have e := flat_take hget
    have w1 : IntKind.i64.wrap (((l.take k).flatten.length : Int) + p.length) = ((l.take (k + 1)).flatten.length : Int) := by rw [e, List.length_append, wrap_small (by omega) (by omega)]; omega
    have n1 : ¬ (((l.take (k + 1)).flatten.length : Int) < 0) := by omega
    show (K E A63_L1 _).bind _ = (K E A63_L1 _).bind _
    conv => lhs; rw [A63_L1_eq]
    generalize (l.take (k + 1)).flatten.length = z2 at *
    generalize (l.take k).flatten.length = z1 at *
    simp +contextual -implicitDefEqProofs (maxSteps := 2000000) only [go_sem, ↓reduceIte, Nat.reduceAdd, Nat.reduceMul, Nat.reduceSub, Nat.reduceEqDiff, Nat.reduceLeDiff, Nat.reduceDiv, Nat.reduceMod, Nat.reduceBEq, Nat.reduceBNe, reduceCtorEq, Int.reduceLE, Int.reduceLT, Int.reduceToNat, Int.reduceNeg, Nat.reduceLT, Int.reduceEq, Int.reduceSub, Int.reduceAdd, Int.reduceMul, Nat.reducePow, Int.reduceBEq, Int.reduceBNe, Int.reduceMod, A63_L1b, List.length_map, h0, h1, hw, hg, w1, n1])
  simp only [List.take_zero, List.flatten_nil, List.length_nil, List.take_length] at h
  refine h.trans ?_
  show (K E A63_L1 _).bind _ = _
  generalize l.flatten.length = z
  rw [A63_L1_eq]; simp +contextual -implicitDefEqProofs (maxSteps := 2000000) only [go_sem, ↓reduceIte, Nat.reduceAdd, Nat.reduceMul, Nat.reduceSub, Nat.reduceEqDiff, Nat.reduceLeDiff, Nat.reduceDiv, Nat.reduceMod, Nat.reduceBEq, Nat.reduceBNe, reduceCtorEq, Int.reduceLE, Int.reduceLT, Int.reduceToNat, Int.reduceNeg, Nat.reduceLT, Int.reduceEq, Int.reduceSub, Int.reduceAdd, Int.reduceMul, Nat.reducePow, Int.reduceBEq, Int.reduceBNe, Int.reduceMod, A63_L1b, Int.lt_irrefl]
theorem loop63b (l : List (List UInt8)) (hl : l.length ≤ 1000) (hs : ∀ b ∈ l, b.length ≤ 1000) :
    (K E A63_L0 ⟨[(6, .bs 6144 0 0), (25, sv l), (26, .int .i64 l.length), (27, .int .i64 0)], [], [(6144, .row 1 []), (512, .row 1 [])], 0⟩).bind (blockR 2 (some [6]) [8]) =
    some (.ex .nrm ⟨[(6, .bs 6144 0 l.flatten.length)], [], [(6144, .row 1 (l.flatten.map b1)), (512, .row 1 [])], 0⟩) := by
  have h := loop_to (fun S => (K E A63_L0 S).bind (blockR 2 (some [6]) [8])) (fun k => ⟨[(6, .bs 6144 0 (l.take k).flatten.length), (25, sv l), (26, .int .i64 l.length), (27, .int .i64 k)], [], [(6144, .row 1 ((l.take k).flatten.map b1)), (512, .row 1 [])], 0⟩) l.length (fun k hk => by
    have hget : l[k]? = some (l[k]'hk) := List.getElem?_eq_getElem _
    have hp := hs _ (List.getElem_mem hk)
    generalize l[k]'hk = p at *
    have h1 : (k : Int) < l.length := by omega
    have h0 : (0 : Int) ≤ k := by omega
    have hw := wr_succ (n := k) (by omega)
    have hg := get_s1 hget
    have bd := flat_bd2 l hl hs k
    have e := flat_take hget
    have n1 : (l.take k).flatten.length + p.length ≤ 1000000000 := by omega
    have tk := take_b1 (l.take k).flatten
    have e2 : ((l.take k).flatten.map b1) ++ (p.map b1) = (l.take (k + 1)).flatten.map b1 := by rw [e, List.map_append]
    have e3 : (l.take k).flatten.length + p.length = (l.take (k + 1)).flatten.length := by rw [e, List.length_append]
    have n1' := n1
    rw [e3] at n1'
    show (K E A63_L0 _).bind _ = (K E A63_L0 _).bind _
    conv => lhs; rw [A63_L0_eq]
    simp +contextual -implicitDefEqProofs (maxSteps := 2000000) only [go_sem, ↓reduceIte, Nat.reduceAdd, Nat.reduceMul, Nat.reduceSub, Nat.reduceEqDiff, Nat.reduceLeDiff, Nat.reduceDiv, Nat.reduceMod, Nat.reduceBEq, Nat.reduceBNe, reduceCtorEq, Int.reduceLE, Int.reduceLT, Int.reduceToNat, Int.reduceNeg, Nat.reduceLT, Int.reduceEq, Int.reduceSub, Int.reduceAdd, Int.reduceMul, Nat.reducePow, Int.reduceBEq, Int.reduceBNe, Int.reduceMod, A63_L0b, List.length_map, h0, h1, hw, hg, all_b1, n1, n1', tk, e2, e3, Nat.le_refl])
  simp only [List.take_zero, List.flatten_nil, List.length_nil, List.take_length, List.map_nil] at h
  refine h.trans ?_
  show (K E A63_L0 _).bind _ = _
  rw [A63_L0_eq]; simp +contextual -implicitDefEqProofs (maxSteps := 2000000) only [go_sem, ↓reduceIte, Nat.reduceAdd, Nat.reduceMul, Nat.reduceSub, Nat.reduceEqDiff, Nat.reduceLeDiff, Nat.reduceDiv, Nat.reduceMod, Nat.reduceBEq, Nat.reduceBNe, reduceCtorEq, Int.reduceLE, Int.reduceLT, Int.reduceToNat, Int.reduceNeg, Nat.reduceLT, Int.reduceEq, Int.reduceSub, Int.reduceAdd, Int.reduceMul, Nat.reducePow, Int.reduceBEq, Int.reduceBNe, Int.reduceMod, A63_L0b, Int.lt_irrefl]
theorem c63 (l : List (List UInt8)) (hl : l.length ≤ 1000) (hs : ∀ b ∈ l, b.length ≤ 1000) (h0 : l.flatten.length ≠ 0) : pc E 63 [sv l] = some (.os 1 (l.flatten.map b1)) := by
  have lp := loop63a l hl hs
  have lb := loop63b l hl hs
  have bd := flat_bd2 l hl hs l.length
  rw [List.take_length] at bd
  have h83 := c83 _ h0 bd
  have tk := take_b1 l.flatten
  have ln : (l.flatten.map b1).length = l.flatten.length := by rw [List.length_map]
  generalize l.flatten.map b1 = xs at *
  generalize l.flatten.length = z at *
  rw [pc_eq]; simp +contextual -implicitDefEqProofs (maxSteps := 2000000) only [go_sem, ↓reduceIte, Nat.reduceAdd, Nat.reduceMul, Nat.reduceSub, Nat.reduceEqDiff, Nat.reduceLeDiff, Nat.reduceDiv, Nat.reduceMod, Nat.reduceBEq, Nat.reduceBNe, reduceCtorEq, Int.reduceLE, Int.reduceLT, Int.reduceToNat, Int.reduceNeg, Nat.reduceLT, Int.reduceEq, Int.reduceSub, Int.reduceAdd, Int.reduceMul, Nat.reducePow, Int.reduceBEq, Int.reduceBNe, Int.reduceMod, E_63, A63, List.length_map, lp, lb, h83, tk, ln, Nat.le_refl]
end Go.Proofs.Ytjmnepfdhkabfaa

namespace Go.Proofs.Ytjmnepfdhkabfaa
set_option maxRecDepth 100000
set_option maxHeartbeats 4000000
set_option linter.unusedSimpArgs false
set_option linter.unusedVariables false
open Go Go.Zv
theorem c64' (y : Int) (l : List Int) (hl : l.length ≤ 1000000) (hy : -1000 ≤ y ∧ y ≤ 1000) (hb : ∀ n ∈ l, -1000000 ≤ n ∧ n ≤ 1000000) (xs : List (List LV)) (hx : l.map c1 = xs) (ys : List UInt8) (hys : (l.map fun n => by8 (n + y)) = ys) : pc E 64 [.int .i64 y, .vs xs] = some (.os 1 (ys.map b1)) := by
  subst hx; subst hys; exact c64 y l hl hy hb
theorem scal_b1 (l : List UInt8) : ((l.map b1).all fun x => x.all LV.scal) = true := by simp [b1, LV.scal]
theorem scal1 (x : UInt8) : (b1 x).all LV.scal = true := by simp [b1, LV.scal]
theorem c35 (r : Rec) (h : OKr r) : pc E 35 [rv r] = some (.os 1 ((enc r).map b1)) := by
  have hp := pad_len h
  have hh := hd_len r
  have hhl : (hd r).length ≤ 25 := by have := h.len; omega
  obtain ⟨sq, st, a0, a1, a2, a3, a4, a5, b0, b1', l, m⟩ := r
  obtain ⟨q0, q1, q2, q3, q4, q5, h0, h1, w, s, t, ln, mo⟩ := h
  simp only at *
  have g1 := c64' 0 [74] (by simp) (by omega) (by simp) [[.int .i64 74]] rfl [74] rfl
  have g2 := c65_4 sq
  have g3 := c65_2 st
  have g4 := c64' 17 [a0, a1, a2] (by simp) (by omega) (by simp; omega) [[.int .i64 a0], [.int .i64 a1], [.int .i64 a2]] rfl _ rfl
  have g5 := c64' 17 [a3, a4, a5] (by simp) (by omega) (by simp; omega) [[.int .i64 a3], [.int .i64 a4], [.int .i64 a5]] rfl _ rfl
  have g6 := c64' 1 [b0, b1'] (by simp) (by omega) (by simp; omega) [[.int .i64 b0], [.int .i64 b1']] rfl _ rfl
  have g7 := c64' 0 [(l.length : Int)] (by simp) (by omega) (by simp; omega) [[.int .i64 l.length]] rfl _ rfl
  have g8 := c64' 1 l (by omega) (by omega) (fun n hn => by have := w n hn; omega) _ rfl _ rfl
  have g9 := c64' 0 [m] (by simp) (by omega) (by simp; omega) [[.int .i64 m]] rfl _ rfl
  have e : List.flatten [[74], be4 sq, be2 st, [a0, a1, a2].map (fun n => by8 (n + 17)), [a3, a4, a5].map (fun n => by8 (n + 17)), [b0, b1'].map (fun n => by8 (n + 1)), [(l.length : Int)].map (fun n => by8 (n + 0)), l.map (fun n => by8 (n + 1)), [m].map (fun n => by8 (n + 0))] = hd ⟨sq, st, a0, a1, a2, a3, a4, a5, b0, b1', l, m⟩ := by
    simp only [hd, List.flatten_cons, List.flatten_nil, List.map_cons, List.map_nil, List.cons_append, List.nil_append, Int.add_zero, List.append_nil]
  have g10 := c63 [[74], be4 sq, be2 st, [a0, a1, a2].map (fun n => by8 (n + 17)), [a3, a4, a5].map (fun n => by8 (n + 17)), [b0, b1'].map (fun n => by8 (n + 1)), [(l.length : Int)].map (fun n => by8 (n + 0)), l.map (fun n => by8 (n + 1)), [m].map (fun n => by8 (n + 0))] (by simp) (by simp [be4, be2]; omega) (by rw [e, hh]; omega)
  rw [e] at g10
  simp only [sv, List.map_cons, List.map_nil, s1, bv] at g10
  simp only [List.map_cons, List.map_nil, bv] at g1 g4 g5 g6 g7 g9
  have tkw : (List.map b1 (List.map (fun n => by8 (n + 1)) l)).take l.length = List.map b1 (List.map (fun n => by8 (n + 1)) l) := List.take_of_length_le (by simp)
  have hpe : (hd ⟨sq, st, a0, a1, a2, a3, a4, a5, b0, b1', l, m⟩).map b1 ++ List.replicate (58 - (hd ⟨sq, st, a0, a1, a2, a3, a4, a5, b0, b1', l, m⟩).length) [LV.int .u8 0] = (pad ⟨sq, st, a0, a1, a2, a3, a4, a5, b0, b1', l, m⟩).map b1 := by simp [pad, b1]
  have gs := c66 (pad ⟨sq, st, a0, a1, a2, a3, a4, a5, b0, b1', l, m⟩) (by omega)
  have ge : enc ⟨sq, st, a0, a1, a2, a3, a4, a5, b0, b1', l, m⟩ = List.flatten [pad ⟨sq, st, a0, a1, a2, a3, a4, a5, b0, b1', l, m⟩, be2 (sumB (pad ⟨sq, st, a0, a1, a2, a3, a4, a5, b0, b1', l, m⟩)), be4 sq] := by simp [enc]
  rw [ge]
  generalize hd ⟨sq, st, a0, a1, a2, a3, a4, a5, b0, b1', l, m⟩ = H at *
  generalize pad ⟨sq, st, a0, a1, a2, a3, a4, a5, b0, b1', l, m⟩ = Q at *
  have hhl2 : H.length ≤ 25 := hhl
  have w1 : IntKind.i64.wrap (58 - (H.length : Int)) = ((58 - H.length : Nat) : Int) := (wrap_small (n := 58 - (H.length : Int)) (by omega) (by omega)).trans (by omega)
  have w2 : (0 : Int) ≤ ((58 - H.length : Nat) : Int) := by omega
  have w3 : ((58 - H.length : Nat) : Int) ≤ 1000000000 := by omega
  have w4 : H.length + (58 - H.length) = 58 := by omega
  have tkh := take_b1 H
  have tkp : (Q.map b1).take 58 = Q.map b1 := List.take_of_length_le (by simp; omega)
  have g11 := c65_2 (sumB Q)
  have hq : Q.length = 58 := hp
  have g12 := c63 [Q, be2 (sumB Q), be4 sq] (by simp) (by simp [be4, be2, hq]) (by simp [be4, be2, hq])
  have tkf : ((List.flatten [Q, be2 (sumB Q), be4 sq]).map b1).take (List.flatten [Q, be2 (sumB Q), be4 sq]).length = (List.flatten [Q, be2 (sumB Q), be4 sq]).map b1 := take_b1 _
  simp only [sv, List.map_cons, List.map_nil, s1, bv] at g12
  generalize List.flatten [Q, be2 (sumB Q), be4 sq] = R at *
  generalize sumB Q = z at *
  rw [pc_eq]; simp +contextual -implicitDefEqProofs (maxSteps := 2000000) only [go_sem, ↓reduceIte, Nat.reduceAdd, Nat.reduceMul, Nat.reduceSub, Nat.reduceEqDiff, Nat.reduceLeDiff, Nat.reduceDiv, Nat.reduceMod, Nat.reduceBEq, Nat.reduceBNe, reduceCtorEq, Int.reduceLE, Int.reduceLT, Int.reduceToNat, Int.reduceNeg, Nat.reduceLT, Int.reduceEq, Int.reduceSub, Int.reduceAdd, Int.reduceMul, Nat.reducePow, Int.reduceBEq, Int.reduceBNe, Int.reduceMod, E_35, A35, List.length_map, g1, g2, g3, g4, g5, g6, g7, g8, g9, g10, all_b1, scal_b1, List.isEmpty_cons, take_b1, scal1, tkw, w1, w2, w3, w4, tkh, hpe, gs, g11, g12, tkp, hp, tkf, List.length_replicate]
end Go.Proofs.Ytjmnepfdhkabfaa
