/- Part of the proof: what functions of the program compute, over the evaluation that the engine's texts tie to the machine. -/
import Derived.Test.YtojjdhdflhcdkaaGN
namespace Go.Proofs.Ytojjdhdflhcdkaa
set_option maxRecDepth 100000
set_option maxHeartbeats 4000000
set_option linter.unusedSimpArgs false
set_option linter.unusedVariables false
open Go Go.Zv
theorem law6 (a b c d e f g h : Int) (s : Bool) :
    pc E 6 [.agg [.int .i64 a, .int .i64 b, .int .i64 c, .int .i64 d, .int .i64 e, .int .i64 f, .int .i64 g, .int .i64 h], .bool s] = some (.bool true) := by
  have hp := c11 a b c d e f g h s
  have k1 := pk_bd s a
  have k2 := pk_bd s b
  have k3 := pk_bd s c
  have k4 := pk_bd s d
  have k5 := pk_bd s e
  have k6 := pk_bd s f
  have k7 := pk_bd s g
  have k8 := pk_bd s h
  generalize pk s a = a0 at *
  generalize pk s b = a1 at *
  generalize pk s c = b0 at *
  generalize pk s d = b1 at *
  generalize pk s e = c0 at *
  generalize pk s f = c1 at *
  generalize pk s g = d0 at *
  generalize pk s h = d1 at *
  have hB : B8 a0 a1 b0 b1 c0 c1 d0 d1 := ⟨⟨by omega, by omega⟩, ⟨by omega, by omega⟩, ⟨by omega, by omega⟩, ⟨by omega, by omega⟩, ⟨by omega, by omega⟩, ⟨by omega, by omega⟩, ⟨by omega, by omega⟩, ⟨by omega, by omega⟩⟩
  obtain ⟨hW, lW1, lW2⟩ := wprod (x := b0 - a0) (y := d1 - c1) (z := b1 - a1) (w := d0 - c0) (by omega) (by omega) (by omega) (by omega) (by omega) (by omega) (by omega) (by omega)
  obtain ⟨hS, lS1, lS2⟩ := wprod (x := c0 - a0) (y := d1 - c1) (z := c1 - a1) (w := d0 - c0) (by omega) (by omega) (by omega) (by omega) (by omega) (by omega) (by omega) (by omega)
  obtain ⟨hT, lT1, lT2⟩ := wprod (x := c0 - a0) (y := b1 - a1) (z := c1 - a1) (w := b0 - a0) (by omega) (by omega) (by omega) (by omega) (by omega) (by omega) (by omega) (by omega)
  have nW : IntKind.i64.wrap (0 - ((b0 - a0) * (d1 - c1) - (b1 - a1) * (d0 - c0))) = - ((b0 - a0) * (d1 - c1) - (b1 - a1) * (d0 - c0)) := by rw [wrap_small (by omega) (by omega)]; omega
  have nS : IntKind.i64.wrap (0 - ((c0 - a0) * (d1 - c1) - (c1 - a1) * (d0 - c0))) = - ((c0 - a0) * (d1 - c1) - (c1 - a1) * (d0 - c0)) := by rw [wrap_small (by omega) (by omega)]; omega
  have nT : IntKind.i64.wrap (0 - ((c0 - a0) * (b1 - a1) - (c1 - a1) * (b0 - a0))) = - ((c0 - a0) * (b1 - a1) - (c1 - a1) * (b0 - a0)) := by rw [wrap_small (by omega) (by omega)]; omega
  have hsh := c30 a0 a1 b0 b1 c0 c1 d0 d1 _ _ _ hW hS hT nW nS nT
  by_cases hz : wW a0 a1 b0 b1 c0 c1 d0 d1 = 0
  · have hcut := cut_par hB hz
    have hz' : (b0 - a0) * (d1 - c1) - (b1 - a1) * (d0 - c0) = 0 := hz
    rw [pc_eq]
    cases h1 : onB a0 a1 b0 b1 c0 c1 with
    | true => simp +contextual -implicitDefEqProofs (maxSteps := 2000000) only [go_sem, ↓reduceIte, Nat.reduceAdd, Nat.reduceMul, Nat.reduceSub, Nat.reduceEqDiff, Nat.reduceLeDiff, Nat.reduceDiv, Nat.reduceMod, Nat.reduceBEq, reduceCtorEq, Int.reduceLE, Int.reduceLT, Int.reduceToNat, Int.reduceNeg, Nat.reduceLT, Int.reduceEq, Int.reduceSub, Int.reduceAdd, Int.reduceMul, Nat.reducePow, E_6, A6, c10, hp, hW, hz', c21, c23, hcut, h1]
    | false =>
      cases h2 : onB a0 a1 b0 b1 d0 d1 with
      | true => simp +contextual -implicitDefEqProofs (maxSteps := 2000000) only [go_sem, ↓reduceIte, Nat.reduceAdd, Nat.reduceMul, Nat.reduceSub, Nat.reduceEqDiff, Nat.reduceLeDiff, Nat.reduceDiv, Nat.reduceMod, Nat.reduceBEq, reduceCtorEq, Int.reduceLE, Int.reduceLT, Int.reduceToNat, Int.reduceNeg, Nat.reduceLT, Int.reduceEq, Int.reduceSub, Int.reduceAdd, Int.reduceMul, Nat.reducePow, E_6, A6, c10, hp, hW, hz', c21, c23, hcut, h1, h2]
      | false =>
        cases h3 : onB c0 c1 d0 d1 a0 a1 with
        | true => simp +contextual -implicitDefEqProofs (maxSteps := 2000000) only [go_sem, ↓reduceIte, Nat.reduceAdd, Nat.reduceMul, Nat.reduceSub, Nat.reduceEqDiff, Nat.reduceLeDiff, Nat.reduceDiv, Nat.reduceMod, Nat.reduceBEq, reduceCtorEq, Int.reduceLE, Int.reduceLT, Int.reduceToNat, Int.reduceNeg, Nat.reduceLT, Int.reduceEq, Int.reduceSub, Int.reduceAdd, Int.reduceMul, Nat.reducePow, E_6, A6, c10, hp, hW, hz', c21, c23, hcut, h1, h2, h3]
        | false =>
          cases h4 : onB c0 c1 d0 d1 b0 b1 with
          | true => simp +contextual -implicitDefEqProofs (maxSteps := 2000000) only [go_sem, ↓reduceIte, Nat.reduceAdd, Nat.reduceMul, Nat.reduceSub, Nat.reduceEqDiff, Nat.reduceLeDiff, Nat.reduceDiv, Nat.reduceMod, Nat.reduceBEq, reduceCtorEq, Int.reduceLE, Int.reduceLT, Int.reduceToNat, Int.reduceNeg, Nat.reduceLT, Int.reduceEq, Int.reduceSub, Int.reduceAdd, Int.reduceMul, Nat.reducePow, E_6, A6, c10, hp, hW, hz', c21, c23, hcut, h1, h2, h3, h4]
          | false => simp +contextual -implicitDefEqProofs (maxSteps := 2000000) only [go_sem, ↓reduceIte, Nat.reduceAdd, Nat.reduceMul, Nat.reduceSub, Nat.reduceEqDiff, Nat.reduceLeDiff, Nat.reduceDiv, Nat.reduceMod, Nat.reduceBEq, reduceCtorEq, Int.reduceLE, Int.reduceLT, Int.reduceToNat, Int.reduceNeg, Nat.reduceLT, Int.reduceEq, Int.reduceSub, Int.reduceAdd, Int.reduceMul, Nat.reducePow, E_6, A6, c10, hp, hW, hz', c21, c23, hcut, h1, h2, h3, h4]
  · have hcut := cut_cross hB hz
    have hz' : ¬ ((b0 - a0) * (d1 - c1) - (b1 - a1) * (d0 - c0) = 0) := hz
    unfold wW sS tT at hcut
    rw [pc_eq]
    simp +contextual -implicitDefEqProofs (maxSteps := 2000000) only [go_sem, ↓reduceIte, Nat.reduceAdd, Nat.reduceMul, Nat.reduceSub, Nat.reduceEqDiff, Nat.reduceLeDiff, Nat.reduceDiv, Nat.reduceMod, Nat.reduceBEq, reduceCtorEq, Int.reduceLE, Int.reduceLT, Int.reduceToNat, Int.reduceNeg, Nat.reduceLT, Int.reduceEq, Int.reduceSub, Int.reduceAdd, Int.reduceMul, Nat.reducePow, E_6, A6, c10, hp, hW, hz', hsh, c23, hcut]
end Go.Proofs.Ytojjdhdflhcdkaa
