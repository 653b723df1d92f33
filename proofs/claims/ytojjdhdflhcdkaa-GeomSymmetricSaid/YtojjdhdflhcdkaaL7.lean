/- Part of the proof: what functions of the program compute, over the evaluation that the engine's texts tie to the machine. -/
import Derived.Test.YtojjdhdflhcdkaaGP
namespace Go.Proofs.Ytojjdhdflhcdkaa
set_option maxRecDepth 100000
set_option maxHeartbeats 4000000
set_option linter.unusedSimpArgs false
set_option linter.unusedVariables false
open Go Go.Zv
theorem law7 (a b c d e f g h : Int) (s : Bool) (x y : Int) :
    pc E 7 [.agg [.int .i64 a, .int .i64 b, .int .i64 c, .int .i64 d, .int .i64 e, .int .i64 f, .int .i64 g, .int .i64 h], .bool s, .agg [.int .i64 x, .int .i64 y]] = some (.bool true) := by
  have hp := c11 a b c d e f g h s
  have k1 := pk_bd s a
  have k2 := pk_bd s b
  have k3 := pk_bd s c
  have k4 := pk_bd s d
  have k5 := pk_bd s e
  have k6 := pk_bd s f
  have k7 := pk_bd s g
  have k8 := pk_bd s h
  generalize pk s a = a0 at *
  generalize pk s b = a1 at *
  generalize pk s c = b0 at *
  generalize pk s d = b1 at *
  generalize pk s e = c0 at *
  generalize pk s f = c1 at *
  generalize pk s g = d0 at *
  generalize pk s h = d1 at *
  have hB : B8 a0 a1 b0 b1 c0 c1 d0 d1 := ⟨⟨by omega, by omega⟩, ⟨by omega, by omega⟩, ⟨by omega, by omega⟩, ⟨by omega, by omega⟩, ⟨by omega, by omega⟩, ⟨by omega, by omega⟩, ⟨by omega, by omega⟩, ⟨by omega, by omega⟩⟩
  have i1 := cut_s1 hB
  have i2 := cut_s3 hB
  have i3 := cut_s2 hB
  have i4 : cutB a0 a1 b0 b1 a0 a1 d0 d1 = true := cut_end ⟨hB.a0, hB.a1, hB.b0, hB.b1, hB.a0, hB.a1, hB.d0, hB.d1⟩
  have i5 : cutB a0 a1 b0 b1 a0 a1 b0 b1 = true := cut_end ⟨hB.a0, hB.a1, hB.b0, hB.b1, hB.a0, hB.a1, hB.b0, hB.b1⟩
  have hr := c31' x y
  have rB : -9 < nearI x ∧ nearI x < 9 ∧ -9 < nearI y ∧ nearI y < 9 := by
    have h1 := tmod_bd x (n := 9) (by omega)
    have h2 := tmod_bd y (n := 9) (by omega)
    unfold nearI; omega
  generalize nearI x = rx at *
  generalize nearI y = ry at *
  have R1 : B rx := ⟨by omega, by omega⟩
  have R2 : B ry := ⟨by omega, by omega⟩
  have hcm : onB a0 a1 b0 b1 rx ry = true → onB c0 c1 d0 d1 rx ry = true → cutB a0 a1 b0 b1 c0 c1 d0 d1 = true := fun u v => by
    unfold onB at u v
    rw [crW_B hB.a0 hB.a1 hB.b0 hB.b1 R1 R2, Bool.and_eq_true, decide_eq_true_eq, sgn_eq0] at u
    rw [crW_B hB.c0 hB.c1 hB.d0 hB.d1 R1 R2, Bool.and_eq_true, decide_eq_true_eq, sgn_eq0] at v
    exact common hB u.1 u.2 v.1 v.2
  have hbox := c25 [(a0, a1), (b0, b1)] [(c0, c1), (d0, d1)] (by simp) (by simp)
  simp only [List.map_cons, List.map_nil, Proofs.Ytojjdhdflhcdkaa.c2] at hbox
  cases hcut : cutB a0 a1 b0 b1 c0 c1 d0 d1 with
  | true =>
    rw [gap0 hB hcut] at hbox
    rw [hcut] at i1 i2 i3
    cases h1 : onB a0 a1 b0 b1 rx ry with
    | true => rw [pc_eq]; simp +contextual -implicitDefEqProofs (maxSteps := 2000000) only [go_sem, ↓reduceIte, Nat.reduceAdd, Nat.reduceMul, Nat.reduceSub, Nat.reduceEqDiff, Nat.reduceLeDiff, Nat.reduceDiv, Nat.reduceMod, Nat.reduceBEq, reduceCtorEq, Int.reduceLE, Int.reduceLT, Int.reduceToNat, Int.reduceNeg, Nat.reduceLT, Int.reduceEq, Int.reduceSub, Int.reduceAdd, Int.reduceMul, Nat.reducePow, E_7, A7, c10, hp, hr, c21, c23, hcut, h1, hbox, bne_self_eq_false, i1, i2, i3, i4, i5, ite_self]
    | false => rw [pc_eq]; simp +contextual -implicitDefEqProofs (maxSteps := 2000000) only [go_sem, ↓reduceIte, Nat.reduceAdd, Nat.reduceMul, Nat.reduceSub, Nat.reduceEqDiff, Nat.reduceLeDiff, Nat.reduceDiv, Nat.reduceMod, Nat.reduceBEq, reduceCtorEq, Int.reduceLE, Int.reduceLT, Int.reduceToNat, Int.reduceNeg, Nat.reduceLT, Int.reduceEq, Int.reduceSub, Int.reduceAdd, Int.reduceMul, Nat.reducePow, E_7, A7, c10, hp, hr, c21, c23, hcut, h1, hbox, bne_self_eq_false, i1, i2, i3, i4, i5]
  | false =>
    rw [hcut] at i1 i2 i3
    cases h1 : onB a0 a1 b0 b1 rx ry with
    | true =>
      have h2 : onB c0 c1 d0 d1 rx ry = false := by
        cases h2 : onB c0 c1 d0 d1 rx ry with
        | false => rfl
        | true => exact absurd (hcm h1 h2) (by rw [hcut]; decide)
      rw [pc_eq]; simp +contextual -implicitDefEqProofs (maxSteps := 2000000) only [go_sem, ↓reduceIte, Nat.reduceAdd, Nat.reduceMul, Nat.reduceSub, Nat.reduceEqDiff, Nat.reduceLeDiff, Nat.reduceDiv, Nat.reduceMod, Nat.reduceBEq, reduceCtorEq, Int.reduceLE, Int.reduceLT, Int.reduceToNat, Int.reduceNeg, Nat.reduceLT, Int.reduceEq, Int.reduceSub, Int.reduceAdd, Int.reduceMul, Nat.reducePow, E_7, A7, c10, hp, hr, c21, c23, hcut, h1, h2, hbox, bne_self_eq_false, i1, i2, i3, i4, i5]
    | false => rw [pc_eq]; simp +contextual -implicitDefEqProofs (maxSteps := 2000000) only [go_sem, ↓reduceIte, Nat.reduceAdd, Nat.reduceMul, Nat.reduceSub, Nat.reduceEqDiff, Nat.reduceLeDiff, Nat.reduceDiv, Nat.reduceMod, Nat.reduceBEq, reduceCtorEq, Int.reduceLE, Int.reduceLT, Int.reduceToNat, Int.reduceNeg, Nat.reduceLT, Int.reduceEq, Int.reduceSub, Int.reduceAdd, Int.reduceMul, Nat.reducePow, E_7, A7, c10, hp, hr, c21, c23, hcut, h1, hbox, bne_self_eq_false, i1, i2, i3, i4, i5]
end Go.Proofs.Ytojjdhdflhcdkaa
