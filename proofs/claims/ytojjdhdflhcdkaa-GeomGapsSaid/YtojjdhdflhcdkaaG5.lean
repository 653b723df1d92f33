/- Part of the proof: what functions of the program compute, over the evaluation that the engine's texts tie to the machine. -/
import Derived.Test.YtojjdhdflhcdkaaG4
namespace Go.Proofs.Ytojjdhdflhcdkaa
set_option maxRecDepth 100000
set_option maxHeartbeats 4000000
set_option linter.unusedSimpArgs false
set_option linter.unusedVariables false
open Go Go.Zv
theorem fits_len (l : List (Int × Int)) : (fits l).length ≤ 30 := by simp only [fits, List.length_map, List.length_take]; omega
theorem law3 (a b c d e f g h : Int) (s : Bool) (l m : List (Int × Int)) (hl : l.length < 9223372036854775808) (hm : m.length < 9223372036854775808) :
    pc E 3 [.agg [.int .i64 a, .int .i64 b, .int .i64 c, .int .i64 d, .int .i64 e, .int .i64 f, .int .i64 g, .int .i64 h], .bool s, .vs (l.map c2), .vs (m.map c2)] = some (.bool true) := by
  have f1 := fits_len l
  have f2 := fits_len m
  have e1 := c12 l hl
  have e2 := c12 m hm
  have b1 := c13 (fits l) (by omega)
  have b2 := c14 (fits l) (by omega)
  have b3 := c25 (fits l) (fits m) (by omega) (by omega)
  have b4 := c26 (fits l) (fits m) (by omega) (by omega)
  rw [pc_eq]; simp +contextual -implicitDefEqProofs (maxSteps := 2000000) only [go_sem, ↓reduceIte, Nat.reduceAdd, Nat.reduceMul, Nat.reduceSub, Nat.reduceEqDiff, Nat.reduceLeDiff, Nat.reduceDiv, Nat.reduceMod, Nat.reduceBEq, reduceCtorEq, Int.reduceLE, Int.reduceLT, Int.reduceToNat, Int.reduceNeg, Nat.reduceLT, Int.reduceEq, Int.reduceSub, Int.reduceAdd, Int.reduceMul, Nat.reducePow, E_3, A3, c10, c11, e1, e2, b1, b2, b3, b4, c15, c16, c17, c18, c19, c20, c21, c22, c23, c24, cut_eq_B]
end Go.Proofs.Ytojjdhdflhcdkaa
