/- Part of the proof: what functions of the program compute, over the evaluation that the engine's texts tie to the machine. -/
import Derived.Test.YtojjdhdflhcdkaaG3
namespace Go.Proofs.Ytojjdhdflhcdkaa
set_option maxRecDepth 100000
set_option maxHeartbeats 4000000
set_option linter.unusedSimpArgs false
set_option linter.unusedVariables false
open Go Go.Zv
theorem c12 (l : List (Int × Int)) (hl : l.length < 9223372036854775808) : pc E 12 [.vs (l.map c2)] = some (.os 2 ((fits l).map c2)) := by
  have := fits_loop l hl 30 0 [] (by omega) rfl (by omega)
  simp only [Int.ofNat_zero, Int.natCast_zero, List.drop_zero, List.map_nil, List.nil_append] at this
  rw [pc_eq]; simp +contextual -implicitDefEqProofs (maxSteps := 2000000) only [go_sem, ↓reduceIte, Nat.reduceAdd, Nat.reduceMul, Nat.reduceSub, Nat.reduceEqDiff, Nat.reduceLeDiff, Nat.reduceDiv, Nat.reduceMod, Nat.reduceBEq, reduceCtorEq, Int.reduceLE, Int.reduceLT, Int.reduceToNat, Int.reduceNeg, Nat.reduceLT, Int.reduceEq, Int.reduceSub, Int.reduceAdd, Int.reduceMul, Nat.reducePow, E_12, A12, this, List.length_map, fits]
  rw [List.take_of_length_le (by simp)]
def pk (s : Bool) (x : Int) : Int := if s = true then nearI x else fitI x
theorem c11 (a b c d e f g h : Int) (s : Bool) : pc E 11 [.agg [.int .i64 a, .int .i64 b, .int .i64 c, .int .i64 d, .int .i64 e, .int .i64 f, .int .i64 g, .int .i64 h], .bool s] =
    some (.agg [.int .i64 (pk s a), .int .i64 (pk s b), .int .i64 (pk s c), .int .i64 (pk s d), .int .i64 (pk s e), .int .i64 (pk s f), .int .i64 (pk s g), .int .i64 (pk s h)]) := by
  cases s
  · rw [pc_eq]; simp +contextual -implicitDefEqProofs (maxSteps := 2000000) only [go_sem, ↓reduceIte, Nat.reduceAdd, Nat.reduceMul, Nat.reduceSub, Nat.reduceEqDiff, Nat.reduceLeDiff, Nat.reduceDiv, Nat.reduceMod, Nat.reduceBEq, reduceCtorEq, Int.reduceLE, Int.reduceLT, Int.reduceToNat, Int.reduceNeg, Nat.reduceLT, Int.reduceEq, Int.reduceSub, Int.reduceAdd, Int.reduceMul, Nat.reducePow, E_11, A11, A11_L0_eq, A11_L0b, c31', c32', pk]
  · rw [pc_eq]; simp +contextual -implicitDefEqProofs (maxSteps := 2000000) only [go_sem, ↓reduceIte, Nat.reduceAdd, Nat.reduceMul, Nat.reduceSub, Nat.reduceEqDiff, Nat.reduceLeDiff, Nat.reduceDiv, Nat.reduceMod, Nat.reduceBEq, reduceCtorEq, Int.reduceLE, Int.reduceLT, Int.reduceToNat, Int.reduceNeg, Nat.reduceLT, Int.reduceEq, Int.reduceSub, Int.reduceAdd, Int.reduceMul, Nat.reducePow, E_11, A11, A11_L0_eq, A11_L0b, c31', c32', pk]

def sharedB (W S T : Int) : Bool := if W < 0 then decide (0 ≤ -S) && (decide (-S ≤ -W) && (decide (0 ≤ -T) && decide (-T ≤ -W))) else decide (0 ≤ S) && (decide (S ≤ W) && (decide (0 ≤ T) && decide (T ≤ W)))
theorem c30 (ax ay bx by_ cx cy dx dy W S T : Int) (hW : IntKind.i64.wrap (IntKind.i64.wrap (IntKind.i64.wrap (bx - ax) * IntKind.i64.wrap (dy - cy)) - IntKind.i64.wrap (IntKind.i64.wrap (by_ - ay) * IntKind.i64.wrap (dx - cx))) = W)
    (hS : IntKind.i64.wrap (IntKind.i64.wrap (IntKind.i64.wrap (cx - ax) * IntKind.i64.wrap (dy - cy)) - IntKind.i64.wrap (IntKind.i64.wrap (cy - ay) * IntKind.i64.wrap (dx - cx))) = S)
    (hT : IntKind.i64.wrap (IntKind.i64.wrap (IntKind.i64.wrap (cx - ax) * IntKind.i64.wrap (by_ - ay)) - IntKind.i64.wrap (IntKind.i64.wrap (cy - ay) * IntKind.i64.wrap (bx - ax))) = T)
    (nW : IntKind.i64.wrap (0 - W) = -W) (nS : IntKind.i64.wrap (0 - S) = -S) (nT : IntKind.i64.wrap (0 - T) = -T) :
    pc E 30 [.agg [.int .i64 ax, .int .i64 ay], .agg [.int .i64 bx, .int .i64 by_], .agg [.int .i64 cx, .int .i64 cy], .agg [.int .i64 dx, .int .i64 dy]] = some (.bool (sharedB W S T)) := by
  by_cases hw : W < 0
  · rw [pc_eq]; simp +contextual -implicitDefEqProofs (maxSteps := 2000000) only [go_sem, ↓reduceIte, Nat.reduceAdd, Nat.reduceMul, Nat.reduceSub, Nat.reduceEqDiff, Nat.reduceLeDiff, Nat.reduceDiv, Nat.reduceMod, Nat.reduceBEq, reduceCtorEq, Int.reduceLE, Int.reduceLT, Int.reduceToNat, Int.reduceNeg, Nat.reduceLT, Int.reduceEq, Int.reduceSub, Int.reduceAdd, Int.reduceMul, Nat.reducePow, E_30, A30, hW, hS, hT, nW, nS, nT, hw]
    simp only [sharedB, if_pos hw]
    repeat' split
    all_goals (try simp_all)
    all_goals (try (intros; omega))
    all_goals (try rfl)
    all_goals (try (intro hh; exact absurd (of_decide_eq_true hh) (by omega)))
  · rw [pc_eq]; simp +contextual -implicitDefEqProofs (maxSteps := 2000000) only [go_sem, ↓reduceIte, Nat.reduceAdd, Nat.reduceMul, Nat.reduceSub, Nat.reduceEqDiff, Nat.reduceLeDiff, Nat.reduceDiv, Nat.reduceMod, Nat.reduceBEq, reduceCtorEq, Int.reduceLE, Int.reduceLT, Int.reduceToNat, Int.reduceNeg, Nat.reduceLT, Int.reduceEq, Int.reduceSub, Int.reduceAdd, Int.reduceMul, Nat.reducePow, E_30, A30, hW, hS, hT, nW, nS, nT, hw]
    simp only [sharedB, if_neg hw]
    repeat' split
    all_goals (try simp_all)
    all_goals (try (intros; omega))
    all_goals (try rfl)
    all_goals (try (intro hh; exact absurd (of_decide_eq_true hh) (by omega)))
theorem c10 : pc E 10 [] = some (.bool true) := by
  have h1 := c13 [] (by simp)
  have h2 := c25 [(0, 0), (2, 1)] [(5, 5)] (by simp) (by simp)
  simp only [List.map_cons, List.map_nil, c2] at h1 h2
  have e1 : sgn (crW 0 0 2 0 1 1) = 1 := by decide
  have e2 : sgn (crW 0 0 2 0 1 (-1)) = -1 := by decide
  have e3 : onB 0 0 4 2 2 1 = true := by decide
  have e4 : onB 0 0 4 2 6 3 = false := by decide
  have e5 : cutB 0 0 4 4 0 4 4 0 = true := by decide
  have e6 : cutB 0 0 1 1 0 4 4 0 = false := by decide
  have e7 : gapI [(0, 0), (2, 1)] [(5, 5)] = 4 := by decide
  have e8 : bbL [(0, 0), (2, 1)] = (0, 0) := by decide
  have e9 : bbH [(0, 0), (2, 1)] = (2, 1) := by decide
  have e10 : bbL [] = (0, 0) := rfl
  have e11 : bbH [] = (0, 0) := rfl
  rw [pc_eq]; simp +contextual -implicitDefEqProofs (maxSteps := 2000000) only [go_sem, ↓reduceIte, Nat.reduceAdd, Nat.reduceMul, Nat.reduceSub, Nat.reduceEqDiff, Nat.reduceLeDiff, Nat.reduceDiv, Nat.reduceMod, Nat.reduceBEq, reduceCtorEq, Int.reduceLE, Int.reduceLT, Int.reduceToNat, Int.reduceNeg, Nat.reduceLT, Int.reduceEq, Int.reduceSub, Int.reduceAdd, Int.reduceMul, Nat.reducePow, E_10, A10, c27, c13_2, h1, h2, c19, c21, c23, c15, c17, e1, e2, e3, e4, e5, e6, e7, e8, e9, e10, e11]
end Go.Proofs.Ytojjdhdflhcdkaa
