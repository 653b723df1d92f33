/- Part of the proof: what functions of the program compute, over the evaluation that the engine's texts tie to the machine. -/
import Derived.Test.YtjmnepfdhkabfaaD7
namespace Go.Proofs.Ytjmnepfdhkabfaa
set_option maxRecDepth 100000
set_option maxHeartbeats 4000000
set_option linter.unusedSimpArgs false
set_option linter.unusedVariables false
open Go Go.Zv
/-- an act -/
structure Act where
  k : Int
  at_ : Int
  n : Int
  torn : Int
  data : List UInt8
abbrev av (a : Act) : LV := .agg [.int .u8 a.k, .int .i64 a.at_, .int .u8 a.n, .int .u8 a.torn, bv a.data]
structure OKa (a : Act) : Prop where
  k0 : 0 ≤ a.k
  n0 : 0 ≤ a.n
  n1 : a.n ≤ 255
  t0 : 0 ≤ a.torn
  t1 : a.torn ≤ 255
  len : a.data.length ≤ 1000000000
def ac (d : Dsk) (a : Act) : Dsk × Int :=
  if a.k.tmod 6 = 0 then ({ d with down := false }, 0) else if a.k.tmod 6 = 1 then (fu d a.n a.torn, 0) else wr d a.at_ a.data
theorem ok_ac {d : Dsk} (h : OKd d) {a : Act} (ha : OKa a) : OKd (ac d a).1 := by
  unfold ac
  split
  · exact ok_up h
  · split
    · exact ok_fu h ha.n0 ha.t0
    · exact ok_wr h _ _
theorem c23 (d : Dsk) (h : OKd d) (a : Act) (ha : OKa a) : pc E 23 [dv d, av a] = some (.tup [dv (ac d a).1, .int .i64 (ac d a).2]) := by
  have h29 := c29 d h a.at_ a.data ha.len
  have h50 := c50 d a.k a.at_ a.n a.torn a.data ha.n0 ha.n1 ha.t0 ha.t1
  have h30 := c30 d.sec d.fuse d.torn d.down
  obtain ⟨k, i, n, t, x⟩ := a
  by_cases e0 : k.tmod 6 = 0
  · simp only [ac, e0, if_true]
    rw [pc_eq]; simp +contextual -implicitDefEqProofs (maxSteps := 2000000) only [go_sem, ↓reduceIte, Nat.reduceAdd, Nat.reduceMul, Nat.reduceSub, Nat.reduceEqDiff, Nat.reduceLeDiff, Nat.reduceDiv, Nat.reduceMod, Nat.reduceBEq, Nat.reduceBNe, reduceCtorEq, Int.reduceLE, Int.reduceLT, Int.reduceToNat, Int.reduceNeg, Nat.reduceLT, Int.reduceEq, Int.reduceSub, Int.reduceAdd, Int.reduceMul, Nat.reducePow, E_23, A23, e0, h30]
  · have e0' := beq_eq_false_iff_ne.2 e0
    by_cases e1 : k.tmod 6 = 1
    · simp only [ac, e0, e1, if_true, if_false]
      generalize fu d n t = u at *
      obtain ⟨s1, f1, t1, w1⟩ := u
      rw [pc_eq]; simp +contextual -implicitDefEqProofs (maxSteps := 2000000) only [go_sem, ↓reduceIte, Nat.reduceAdd, Nat.reduceMul, Nat.reduceSub, Nat.reduceEqDiff, Nat.reduceLeDiff, Nat.reduceDiv, Nat.reduceMod, Nat.reduceBEq, Nat.reduceBNe, reduceCtorEq, Int.reduceLE, Int.reduceLT, Int.reduceToNat, Int.reduceNeg, Nat.reduceLT, Int.reduceEq, Int.reduceSub, Int.reduceAdd, Int.reduceMul, Nat.reducePow, E_23, A23, e0, e1, e0', h50]
    · have e1' := beq_eq_false_iff_ne.2 e1
      simp only [ac, e0, e1, if_false]
      generalize wr d i x = u at *
      obtain ⟨⟨s1, f1, t1, w1⟩, c⟩ := u
      rw [pc_eq]; simp +contextual -implicitDefEqProofs (maxSteps := 2000000) only [go_sem, ↓reduceIte, Nat.reduceAdd, Nat.reduceMul, Nat.reduceSub, Nat.reduceEqDiff, Nat.reduceLeDiff, Nat.reduceDiv, Nat.reduceMod, Nat.reduceBEq, Nat.reduceBNe, reduceCtorEq, Int.reduceLE, Int.reduceLT, Int.reduceToNat, Int.reduceNeg, Nat.reduceLT, Int.reduceEq, Int.reduceSub, Int.reduceAdd, Int.reduceMul, Nat.reducePow, E_23, A23, e0, e1, e0', e1', h29]
theorem c24 (d : Dsk) (h : OKd d) (a : Act) (ha : OKa a) : pc E 24 [dv d, av a] = some (.tup [dv (ac d a).1, .int .i64 (ac d a).2]) := by
  have h52 := c52 d h a.at_ a.data ha.len
  have h50 := c50 d a.k a.at_ a.n a.torn a.data ha.n0 ha.n1 ha.t0 ha.t1
  have h51 := c51 d.sec d.fuse d.torn d.down
  obtain ⟨k, i, n, t, x⟩ := a
  by_cases e0 : k.tmod 6 = 0
  · simp only [ac, e0, if_true]
    rw [pc_eq]; simp +contextual -implicitDefEqProofs (maxSteps := 2000000) only [go_sem, ↓reduceIte, Nat.reduceAdd, Nat.reduceMul, Nat.reduceSub, Nat.reduceEqDiff, Nat.reduceLeDiff, Nat.reduceDiv, Nat.reduceMod, Nat.reduceBEq, Nat.reduceBNe, reduceCtorEq, Int.reduceLE, Int.reduceLT, Int.reduceToNat, Int.reduceNeg, Nat.reduceLT, Int.reduceEq, Int.reduceSub, Int.reduceAdd, Int.reduceMul, Nat.reducePow, E_24, A24, e0, h51]
  · have e0' := beq_eq_false_iff_ne.2 e0
    by_cases e1 : k.tmod 6 = 1
    · simp only [ac, e0, e1, if_true, if_false]
      generalize fu d n t = u at *
      obtain ⟨s1, f1, t1, w1⟩ := u
      rw [pc_eq]; simp +contextual -implicitDefEqProofs (maxSteps := 2000000) only [go_sem, ↓reduceIte, Nat.reduceAdd, Nat.reduceMul, Nat.reduceSub, Nat.reduceEqDiff, Nat.reduceLeDiff, Nat.reduceDiv, Nat.reduceMod, Nat.reduceBEq, Nat.reduceBNe, reduceCtorEq, Int.reduceLE, Int.reduceLT, Int.reduceToNat, Int.reduceNeg, Nat.reduceLT, Int.reduceEq, Int.reduceSub, Int.reduceAdd, Int.reduceMul, Nat.reducePow, E_24, A24, e0, e1, e0', h50]
    · have e1' := beq_eq_false_iff_ne.2 e1
      simp only [ac, e0, e1, if_false]
      generalize wr d i x = u at *
      obtain ⟨⟨s1, f1, t1, w1⟩, c⟩ := u
      rw [pc_eq]; simp +contextual -implicitDefEqProofs (maxSteps := 2000000) only [go_sem, ↓reduceIte, Nat.reduceAdd, Nat.reduceMul, Nat.reduceSub, Nat.reduceEqDiff, Nat.reduceLeDiff, Nat.reduceDiv, Nat.reduceMod, Nat.reduceBEq, Nat.reduceBNe, reduceCtorEq, Int.reduceLE, Int.reduceLT, Int.reduceToNat, Int.reduceNeg, Nat.reduceLT, Int.reduceEq, Int.reduceSub, Int.reduceAdd, Int.reduceMul, Nat.reducePow, E_24, A24, e0, e1, e0', e1', h52]
end Go.Proofs.Ytjmnepfdhkabfaa
