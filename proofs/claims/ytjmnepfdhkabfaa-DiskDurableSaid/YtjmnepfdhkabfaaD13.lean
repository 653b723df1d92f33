/- Part of the proof: what functions of the program compute, over the evaluation that the engine's texts tie to the machine. -/
import Derived.Test.YtjmnepfdhkabfaaD12
namespace Go.Proofs.Ytjmnepfdhkabfaa
set_option maxRecDepth 100000
set_option maxHeartbeats 4000000
set_option linter.unusedSimpArgs false
set_option linter.unusedVariables false
open Go Go.Zv
theorem c15 : pc E 15 [] = some (.bool true) := by
  have h : pc E 17 [.int .i64 2] = some (.tup [.agg [sv [zs, zs], .int .i64 (-1), .int .i64 0, .bool false], .int .i64 0]) := c17 2 (by omega) (by omega)
  have h2 : pc E 17 [.int .i64 65] = some (.tup [.agg [.vs [], .int .i64 0, .int .i64 0, .bool false], .int .i64 1]) := c17b 65 (by omega)
  have h3 : pc E 29 [.agg [sv [zs, zs], .int .i64 1, .int .i64 1, .bool false], .int .i64 0, .vs [[.int .u8 7], [.int .u8 8]]] = some (.tup [.agg [sv [over [7] zs, zs], .int .i64 (-1), .int .i64 0, .bool true], .int .i64 300]) :=
    c29f [zs, zs] 1 0 [7, 8] zs rfl zs_len (by simp) (by simp) (by omega)
  have l1 : (over [7] zs).length = 64 := by simp [over, zs]
  have h4 : pc E 25 [.agg [sv [over [7] zs, zs], .int .i64 (-1), .int .i64 0, .bool true], .int .i64 0] = some (.tup [.os 1 [], .int .i64 300]) := by rw [c25]; rfl
  have h5 : pc E 25 [.agg [sv [over [7] zs, zs], .int .i64 (-1), .int .i64 0, .bool false], .int .i64 0] = some (.tup [bv (over [7] zs), .int .i64 0]) := by rw [c25]; rfl
  have h6 := c30 [over [7] zs, zs] (-1) 0 true
  have h7 : pc E 29 [.agg [sv [over [7] zs, zs], .int .i64 (-1), .int .i64 0, .bool false], .int .i64 2, .vs []] = some (.tup [.agg [sv [over [7] zs, zs], .int .i64 (-1), .int .i64 0, .bool false], .int .i64 1]) :=
    c29b [over [7] zs, zs] (-1) 0 2 [] (by simp)
  have h8 : pc E 20 [.agg [sv [over [7] zs, zs], .int .i64 (-1), .int .i64 0, .bool true]] = some (.bool true) := by rw [c20]; simp [vd, all64, l1, zs_len]
  have h9 : pc E 20 [.agg [.vs [], .int .i64 0, .int .i64 0, .bool false]] = some (.bool false) := by
    have := c20 [] 0 0 false; rw [show vd [] 0 0 = false from by simp [vd]] at this; exact this
  have e0 : (over [7] zs)[0]? = some 7 := rfl
  have e1 : (over [7] zs)[1]? = some 0 := by simp [over, zs]
  have g0 : ((over [7] zs).map b1)[0]? = some [.int .u8 7] := by rw [List.getElem?_map, e0]; rfl
  have g1 : ((over [7] zs).map b1)[1]? = some [.int .u8 0] := by rw [List.getElem?_map, e1]; rfl
  have n1 : ([zs, zs] : List (List UInt8)).length = 2 := rfl
  generalize [zs, zs] = s0 at *
  generalize [over [7] zs, zs] = s2 at *
  generalize over [7] zs = p at *
  rw [pc_eq]; simp +contextual -implicitDefEqProofs (maxSteps := 2000000) only [go_sem, ↓reduceIte, Nat.reduceAdd, Nat.reduceMul, Nat.reduceSub, Nat.reduceEqDiff, Nat.reduceLeDiff, Nat.reduceDiv, Nat.reduceMod, Nat.reduceBEq, Nat.reduceBNe, reduceCtorEq, Int.reduceLE, Int.reduceLT, Int.reduceToNat, Int.reduceNeg, Nat.reduceLT, Int.reduceEq, Int.reduceSub, Int.reduceAdd, Int.reduceMul, Nat.reducePow, E_15, A15, h, h2, h3, h4, h5, h6, h7, h8, h9, g0, g1, n1, l1, List.length_map, ite_self]
end Go.Proofs.Ytjmnepfdhkabfaa
