/- Part of the proof: what functions of the program compute, over the evaluation that the engine's texts tie to the machine. -/
import Derived.Test.YtojjdhdflhcdkaaGM
namespace Go.Proofs.Ytojjdhdflhcdkaa
set_option maxRecDepth 100000
set_option maxHeartbeats 4000000
set_option linter.unusedSimpArgs false
set_option linter.unusedVariables false
open Go Go.Zv
theorem law4 (a b c d e f g h : Int) (s : Bool) :
    pc E 4 [.agg [.int .i64 a, .int .i64 b, .int .i64 c, .int .i64 d, .int .i64 e, .int .i64 f, .int .i64 g, .int .i64 h], .bool s] = some (.bool true) := by
  have hp := c11 a b c d e f g h s
  have k1 := tdiv2_bd (A := 219700000) (x := pk s a) (by have := pk_bd s a; omega) (by have := pk_bd s a; omega)
  have k2 := tdiv2_bd (A := 219700000) (x := pk s b) (by have := pk_bd s b; omega) (by have := pk_bd s b; omega)
  have k3 := tdiv2_bd (A := 219700000) (x := pk s c) (by have := pk_bd s c; omega) (by have := pk_bd s c; omega)
  have k4 := tdiv2_bd (A := 219700000) (x := pk s d) (by have := pk_bd s d; omega) (by have := pk_bd s d; omega)
  have k5 := tdiv2_bd (A := 219700000) (x := pk s e) (by have := pk_bd s e; omega) (by have := pk_bd s e; omega)
  have k6 := tdiv2_bd (A := 219700000) (x := pk s f) (by have := pk_bd s f; omega) (by have := pk_bd s f; omega)
  have k7 := tmod_bd g (n := 1000) (by omega)
  have k8 := tmod_bd h (n := 1000) (by omega)
  generalize pk s a = p0 at *
  generalize pk s b = p1 at *
  generalize pk s c = p2 at *
  generalize pk s d = p3 at *
  generalize pk s e = p4 at *
  generalize pk s f = p5 at *
  generalize q0 : p0.tdiv 2 = a0 at *
  generalize q1 : p1.tdiv 2 = a1 at *
  generalize q2 : p2.tdiv 2 = b0 at *
  generalize q3 : p3.tdiv 2 = b1 at *
  generalize q4 : p4.tdiv 2 = c0 at *
  generalize q5 : p5.tdiv 2 = c1 at *
  generalize q6 : g.tmod 1000 = u at *
  generalize q7 : h.tmod 1000 = v at *
  have s0 : S a0 := ⟨by omega, by omega⟩
  have s1 : S a1 := ⟨by omega, by omega⟩
  have s2 : S b0 := ⟨by omega, by omega⟩
  have s3 : S b1 := ⟨by omega, by omega⟩
  have s4 : S c0 := ⟨by omega, by omega⟩
  have s5 : S c1 := ⟨by omega, by omega⟩
  have s6 : T3 u := ⟨by omega, by omega⟩
  have s7 : T3 v := ⟨by omega, by omega⟩
  have e1 := cr_swap a0 a1 b0 b1 c0 c1
  have e2 := cr_swap2 a0 a1 b0 b1 c0 c1
  have e3 := cr_rot a0 a1 b0 b1 c0 c1
  have e4 := cr_rot2 a0 a1 b0 b1 c0 c1
  have e5 := cr_add a0 a1 b0 b1 c0 c1 u v
  have e6 := cr_sub a0 a1 b0 b1 c0 c1 u v
  have e7 := cr_quarter a0 a1 b0 b1 c0 c1
  have hs := sgn_cases (cr a0 a1 b0 b1 c0 c1)
  rw [pc_eq]
  rcases hs with hs | hs | hs
  all_goals
    simp +contextual -implicitDefEqProofs (maxSteps := 2000000) only [go_sem, ↓reduceIte, Nat.reduceAdd, Nat.reduceMul, Nat.reduceSub, Nat.reduceEqDiff, Nat.reduceLeDiff, Nat.reduceDiv, Nat.reduceMod, Nat.reduceBEq, reduceCtorEq, Int.reduceLE, Int.reduceLT, Int.reduceToNat, Int.reduceNeg, Nat.reduceLT, Int.reduceEq, Int.reduceSub, Int.reduceAdd, Int.reduceMul, Nat.reducePow, E_4, A4, c10, hp, c27, c19, c15, c17, c28, q0, q1, q2, q3, q4, q5, q6, q7, crW_B, wB, s0, s1, s2, s3, s4, s5, s6, s7, S.B, S.add, S.sub, S.neg, e1, e2, e3, e4, e5, e6, e7, cr_aac, cr_abb, hs, sgn_neg, Int.neg_neg, sgn_zero]
end Go.Proofs.Ytojjdhdflhcdkaa
