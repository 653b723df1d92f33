/- Part of the proof: what functions of the program compute, over the evaluation that the engine's texts tie to the machine. -/
import Derived.Test.YtjmnepfdhkabfaaDM
namespace Go.Proofs.Ytjmnepfdhkabfaa
set_option maxRecDepth 100000
set_option maxHeartbeats 4000000
set_option linter.unusedSimpArgs false
set_option linter.unusedVariables false
open Go Go.Zv
theorem law4 (n : Nat) (hn : n ≤ 255) (l : List Act) (hl : l.length ≤ 1000000000) (ha : ∀ a ∈ l, OKa a) (x : Act) (hx : OKa x) :
    pc E 4 [.int .u8 n, .vs (l.map a5), av x] = some (.bool true) := by
  have h1 := c16 l (by omega)
  have h2 : pc E 16 [.vs [[.int .u8 x.k, .int .i64 x.at_, .int .u8 x.n, .int .u8 x.torn, bv x.data]]] = some (.bool (gr [x])) := c16 [x] (by simp)
  have h3 := c28 n hn l hl ha
  have hd := ok_made n l ha
  generalize made n l = d at *
  have h4 := c23 d hd x hx
  have hu := ok_ac hd hx
  have h5 := c20 d.sec d.fuse d.torn d.down
  have h6 := c20 (ac d x).1.sec (ac d x).1.fuse (ac d x).1.torn (ac d x).1.down
  have h7 := c19 d d (by have := hd.len2; omega)
  rw [vd_ok hd] at h5
  rw [vd_ok hu] at h6
  rw [sameB_self d] at h7
  have hlen := ac_len d x
  have hc := ac_cases d x
  cases g1 : gr l with
  | true => rw [g1] at h1; rw [pc_eq]; simp +contextual -implicitDefEqProofs (maxSteps := 2000000) only [go_sem, ↓reduceIte, Nat.reduceAdd, Nat.reduceMul, Nat.reduceSub, Nat.reduceEqDiff, Nat.reduceLeDiff, Nat.reduceDiv, Nat.reduceMod, Nat.reduceBEq, Nat.reduceBNe, reduceCtorEq, Int.reduceLE, Int.reduceLT, Int.reduceToNat, Int.reduceNeg, Nat.reduceLT, Int.reduceEq, Int.reduceSub, Int.reduceAdd, Int.reduceMul, Nat.reducePow, Int.reduceBEq, Int.reduceBNe, Int.reduceMod, E_4, A4, c15, h1]
  | false =>
    rw [g1] at h1
    cases g2 : gr [x] with
    | true => rw [g2] at h2; rw [pc_eq]; simp +contextual -implicitDefEqProofs (maxSteps := 2000000) only [go_sem, ↓reduceIte, Nat.reduceAdd, Nat.reduceMul, Nat.reduceSub, Nat.reduceEqDiff, Nat.reduceLeDiff, Nat.reduceDiv, Nat.reduceMod, Nat.reduceBEq, Nat.reduceBNe, reduceCtorEq, Int.reduceLE, Int.reduceLT, Int.reduceToNat, Int.reduceNeg, Nat.reduceLT, Int.reduceEq, Int.reduceSub, Int.reduceAdd, Int.reduceMul, Nat.reducePow, Int.reduceBEq, Int.reduceBNe, Int.reduceMod, E_4, A4, c15, h1, h2]
    | false =>
      rw [g2] at h2
      rcases hc with hh | ⟨e, hh⟩ | ⟨e, hw, hh⟩ | ⟨e, hw, hh⟩
      · rw [pc_eq]; simp +contextual -implicitDefEqProofs (maxSteps := 2000000) only [go_sem, ↓reduceIte, Nat.reduceAdd, Nat.reduceMul, Nat.reduceSub, Nat.reduceEqDiff, Nat.reduceLeDiff, Nat.reduceDiv, Nat.reduceMod, Nat.reduceBEq, Nat.reduceBNe, reduceCtorEq, Int.reduceLE, Int.reduceLT, Int.reduceToNat, Int.reduceNeg, Nat.reduceLT, Int.reduceEq, Int.reduceSub, Int.reduceAdd, Int.reduceMul, Nat.reducePow, Int.reduceBEq, Int.reduceBNe, Int.reduceMod, E_4, A4, c15, h1, h2, h3, h4, h5, h6, List.length_map, hlen, bne_self_eq_false, hh, ite_self]
      · rw [e, hh] at h4; rw [pc_eq]; simp +contextual -implicitDefEqProofs (maxSteps := 2000000) only [go_sem, ↓reduceIte, Nat.reduceAdd, Nat.reduceMul, Nat.reduceSub, Nat.reduceEqDiff, Nat.reduceLeDiff, Nat.reduceDiv, Nat.reduceMod, Nat.reduceBEq, Nat.reduceBNe, reduceCtorEq, Int.reduceLE, Int.reduceLT, Int.reduceToNat, Int.reduceNeg, Nat.reduceLT, Int.reduceEq, Int.reduceSub, Int.reduceAdd, Int.reduceMul, Nat.reducePow, Int.reduceBEq, Int.reduceBNe, Int.reduceMod, E_4, A4, c15, h1, h2, h3, h4, h5, h6, h7, List.length_map, bne_self_eq_false]
      · rw [e, hh] at h4; simp only [dv, hw] at h3 h4 h5 h7; rw [pc_eq]; simp +contextual -implicitDefEqProofs (maxSteps := 2000000) only [go_sem, ↓reduceIte, Nat.reduceAdd, Nat.reduceMul, Nat.reduceSub, Nat.reduceEqDiff, Nat.reduceLeDiff, Nat.reduceDiv, Nat.reduceMod, Nat.reduceBEq, Nat.reduceBNe, reduceCtorEq, Int.reduceLE, Int.reduceLT, Int.reduceToNat, Int.reduceNeg, Nat.reduceLT, Int.reduceEq, Int.reduceSub, Int.reduceAdd, Int.reduceMul, Nat.reducePow, Int.reduceBEq, Int.reduceBNe, Int.reduceMod, E_4, A4, c15, h1, h2, h3, h4, h5, h6, h7, List.length_map, bne_self_eq_false, hw]
      · simp only [dv, hw, hh, e] at h3 h4 h5 h6; rw [pc_eq]; simp +contextual -implicitDefEqProofs (maxSteps := 2000000) only [go_sem, ↓reduceIte, Nat.reduceAdd, Nat.reduceMul, Nat.reduceSub, Nat.reduceEqDiff, Nat.reduceLeDiff, Nat.reduceDiv, Nat.reduceMod, Nat.reduceBEq, Nat.reduceBNe, reduceCtorEq, Int.reduceLE, Int.reduceLT, Int.reduceToNat, Int.reduceNeg, Nat.reduceLT, Int.reduceEq, Int.reduceSub, Int.reduceAdd, Int.reduceMul, Nat.reducePow, Int.reduceBEq, Int.reduceBNe, Int.reduceMod, E_4, A4, c15, h1, h2, h3, h4, h5, h6, List.length_map, hlen, bne_self_eq_false]
end Go.Proofs.Ytjmnepfdhkabfaa
