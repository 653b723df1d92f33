/- Part of the proof: the evaluation of the program's code and its tie to the machine, or what functions of the program compute over it. -/
import Derived.Test.YtnecdcaaknhgpaaPart1
import Derived.Test.YtnecdcaaknhgpaaEng6
namespace Go.Proofs.Ytnecdcaaknhgpaa
set_option maxRecDepth 100000
set_option maxHeartbeats 4000000
set_option linter.unusedSimpArgs false
set_option linter.unusedVariables false
open Go Go.Zv
theorem sq_nn (x : Int) : 0 ≤ x * x := by
  rcases Int.lt_or_le x 0 with h | h
  · have := Int.mul_nonneg (show 0 ≤ -x by omega) (show 0 ≤ -x by omega); rwa [Int.neg_mul_neg] at this
  · exact Int.mul_nonneg h h
theorem sq_lt {r x : Int} (hr : 0 ≤ r) (h : r < x) : r * r < x * x := by
  have h1 : r * r ≤ r * x := Int.mul_le_mul_of_nonneg_left (by omega) hr
  have h2 : r * x < x * x := Int.mul_lt_mul_of_pos_right h (by omega)
  omega
theorem abs_of_sq {x r : Int} (hr : 0 ≤ r) (h : x * x ≤ r * r) : -r ≤ x ∧ x ≤ r := by
  constructor
  · refine Int.not_lt.1 fun hx => ?_
    have h1 : r * r < (-x) * (-x) := sq_lt hr (by omega)
    rw [Int.neg_mul_neg] at h1; omega
  · refine Int.not_lt.1 fun hx => ?_
    have h1 : r * r < x * x := sq_lt hr hx
    omega
/-- a valid direction -/
structure VD (x y r : Int) : Prop where
  r0 : 0 ≤ r
  eq : x * x + y * y = r * r
theorem VD.x {x y r : Int} (h : VD x y r) : -r ≤ x ∧ x ≤ r := abs_of_sq h.r0 (by have := sq_nn y; have := h.eq; omega)
theorem VD.y {x y r : Int} (h : VD x y r) : -r ≤ y ∧ y ≤ r := abs_of_sq h.r0 (by have := sq_nn x; have := h.eq; omega)
theorem cs_norm (k : Nat) : (cs k).1 * (cs k).1 + (cs k).2 * (cs k).2 = 65 * 65 := by
  unfold cs; split <;> rfl
theorem csI_norm (q : Int) : (csI q).1 * (csI q).1 + (csI q).2 * (csI q).2 = 65 * 65 := cs_norm _
theorem csV (q : Int) : VD (csI q).1 (csI q).2 65 := ⟨by omega, csI_norm q⟩
theorem VD.mul {x y r c s t : Int} (h : VD x y r) (k : VD c s t) : VD (x * c - y * s) (x * s + y * c) (r * t) := by
  refine ⟨Int.mul_nonneg h.r0 k.r0, ?_⟩
  have e : (x * c - y * s) * (x * c - y * s) + (x * s + y * c) * (x * s + y * c) = (x * x + y * y) * (c * c + s * s) := by grind
  rw [e, h.eq, k.eq]; grind
theorem c81_0 : pc E 81 [.int .i64 0] = some (.int .i64 1) := by rw [pc_eq]; simp +contextual -implicitDefEqProofs (maxSteps := 2000000) only [go_sem, ↓reduceIte, Nat.reduceAdd, Nat.reduceMul, Nat.reduceSub, Nat.reduceEqDiff, Nat.reduceLeDiff, Nat.reduceDiv, Nat.reduceMod, Nat.reduceBEq, Nat.reduceBNe, reduceCtorEq, Int.reduceLE, Int.reduceLT, Int.reduceToNat, Int.reduceNeg, Nat.reduceLT, Int.reduceEq, Int.reduceSub, Int.reduceAdd, Int.reduceMul, Nat.reducePow, Int.reduceBEq, Int.reduceBNe, Int.reduceMod, E_81, A81, A81_L0_eq, A81_L0b]
theorem c81_1 : pc E 81 [.int .i64 1] = some (.int .i64 65) := by rw [pc_eq]; simp +contextual -implicitDefEqProofs (maxSteps := 2000000) only [go_sem, ↓reduceIte, Nat.reduceAdd, Nat.reduceMul, Nat.reduceSub, Nat.reduceEqDiff, Nat.reduceLeDiff, Nat.reduceDiv, Nat.reduceMod, Nat.reduceBEq, Nat.reduceBNe, reduceCtorEq, Int.reduceLE, Int.reduceLT, Int.reduceToNat, Int.reduceNeg, Nat.reduceLT, Int.reduceEq, Int.reduceSub, Int.reduceAdd, Int.reduceMul, Nat.reducePow, Int.reduceBEq, Int.reduceBNe, Int.reduceMod, E_81, A81, A81_L0_eq, A81_L0b]
theorem c81_2 : pc E 81 [.int .i64 2] = some (.int .i64 4225) := by rw [pc_eq]; simp +contextual -implicitDefEqProofs (maxSteps := 2000000) only [go_sem, ↓reduceIte, Nat.reduceAdd, Nat.reduceMul, Nat.reduceSub, Nat.reduceEqDiff, Nat.reduceLeDiff, Nat.reduceDiv, Nat.reduceMod, Nat.reduceBEq, Nat.reduceBNe, reduceCtorEq, Int.reduceLE, Int.reduceLT, Int.reduceToNat, Int.reduceNeg, Nat.reduceLT, Int.reduceEq, Int.reduceSub, Int.reduceAdd, Int.reduceMul, Nat.reducePow, Int.reduceBEq, Int.reduceBNe, Int.reduceMod, E_81, A81, A81_L0_eq, A81_L0b]
theorem c81_3 : pc E 81 [.int .i64 3] = some (.int .i64 274625) := by rw [pc_eq]; simp +contextual -implicitDefEqProofs (maxSteps := 2000000) only [go_sem, ↓reduceIte, Nat.reduceAdd, Nat.reduceMul, Nat.reduceSub, Nat.reduceEqDiff, Nat.reduceLeDiff, Nat.reduceDiv, Nat.reduceMod, Nat.reduceBEq, Nat.reduceBNe, reduceCtorEq, Int.reduceLE, Int.reduceLT, Int.reduceToNat, Int.reduceNeg, Nat.reduceLT, Int.reduceEq, Int.reduceSub, Int.reduceAdd, Int.reduceMul, Nat.reducePow, Int.reduceBEq, Int.reduceBNe, Int.reduceMod, E_81, A81, A81_L0_eq, A81_L0b]
theorem c86_0 : pc E 86 [.int .i64 0] = some (.int .i64 1) := by rw [pc_eq]; simp +contextual -implicitDefEqProofs (maxSteps := 2000000) only [go_sem, ↓reduceIte, Nat.reduceAdd, Nat.reduceMul, Nat.reduceSub, Nat.reduceEqDiff, Nat.reduceLeDiff, Nat.reduceDiv, Nat.reduceMod, Nat.reduceBEq, Nat.reduceBNe, reduceCtorEq, Int.reduceLE, Int.reduceLT, Int.reduceToNat, Int.reduceNeg, Nat.reduceLT, Int.reduceEq, Int.reduceSub, Int.reduceAdd, Int.reduceMul, Nat.reducePow, Int.reduceBEq, Int.reduceBNe, Int.reduceMod, E_86, A86, A86_L0_eq, A86_L0b]
theorem c86_1 : pc E 86 [.int .i64 1] = some (.int .i64 65) := by rw [pc_eq]; simp +contextual -implicitDefEqProofs (maxSteps := 2000000) only [go_sem, ↓reduceIte, Nat.reduceAdd, Nat.reduceMul, Nat.reduceSub, Nat.reduceEqDiff, Nat.reduceLeDiff, Nat.reduceDiv, Nat.reduceMod, Nat.reduceBEq, Nat.reduceBNe, reduceCtorEq, Int.reduceLE, Int.reduceLT, Int.reduceToNat, Int.reduceNeg, Nat.reduceLT, Int.reduceEq, Int.reduceSub, Int.reduceAdd, Int.reduceMul, Nat.reducePow, Int.reduceBEq, Int.reduceBNe, Int.reduceMod, E_86, A86, A86_L0_eq, A86_L0b]
theorem c86_2 : pc E 86 [.int .i64 2] = some (.int .i64 4225) := by rw [pc_eq]; simp +contextual -implicitDefEqProofs (maxSteps := 2000000) only [go_sem, ↓reduceIte, Nat.reduceAdd, Nat.reduceMul, Nat.reduceSub, Nat.reduceEqDiff, Nat.reduceLeDiff, Nat.reduceDiv, Nat.reduceMod, Nat.reduceBEq, Nat.reduceBNe, reduceCtorEq, Int.reduceLE, Int.reduceLT, Int.reduceToNat, Int.reduceNeg, Nat.reduceLT, Int.reduceEq, Int.reduceSub, Int.reduceAdd, Int.reduceMul, Nat.reducePow, Int.reduceBEq, Int.reduceBNe, Int.reduceMod, E_86, A86, A86_L0_eq, A86_L0b]
theorem c86_3 : pc E 86 [.int .i64 3] = some (.int .i64 274625) := by rw [pc_eq]; simp +contextual -implicitDefEqProofs (maxSteps := 2000000) only [go_sem, ↓reduceIte, Nat.reduceAdd, Nat.reduceMul, Nat.reduceSub, Nat.reduceEqDiff, Nat.reduceLeDiff, Nat.reduceDiv, Nat.reduceMod, Nat.reduceBEq, Nat.reduceBNe, reduceCtorEq, Int.reduceLE, Int.reduceLT, Int.reduceToNat, Int.reduceNeg, Nat.reduceLT, Int.reduceEq, Int.reduceSub, Int.reduceAdd, Int.reduceMul, Nat.reducePow, Int.reduceBEq, Int.reduceBNe, Int.reduceMod, E_86, A86, A86_L0_eq, A86_L0b]
/-- 65 to the power n -/
def p65 : Nat → Int
  | 0 => 1 | 1 => 65 | 2 => 4225 | _ => 274625
theorem c81 (n : Nat) (h : n ≤ 3) : pc E 81 [.int .i64 n] = some (.int .i64 (p65 n)) := by
  rcases (show n = 0 ∨ n = 1 ∨ n = 2 ∨ n = 3 by omega) with rfl | rfl | rfl | rfl
  · exact c81_0
  · exact c81_1
  · exact c81_2
  · exact c81_3
theorem c86 (n : Nat) (h : n ≤ 3) : pc E 86 [.int .i64 n] = some (.int .i64 (p65 n)) := by
  rcases (show n = 0 ∨ n = 1 ∨ n = 2 ∨ n = 3 by omega) with rfl | rfl | rfl | rfl
  · exact c86_0
  · exact c86_1
  · exact c86_2
  · exact c86_3
theorem p65_bd (n : Nat) : 1 ≤ p65 n ∧ p65 n ≤ 274625 := by unfold p65; split <;> omega
theorem p65_succ {n : Nat} (h : n ≤ 2) : p65 n * 65 = p65 (n + 1) := by
  rcases (show n = 0 ∨ n = 1 ∨ n = 2 by omega) with rfl | rfl | rfl <;> rfl
theorem mul_bd {x y A C : Int} (h1 : -A ≤ x) (h2 : x ≤ A) (h3 : -C ≤ y) (h4 : y ≤ C) : -(A * C) ≤ x * y ∧ x * y ≤ A * C := by
  have a1 : 0 ≤ A := by omega
  have b1 : 0 ≤ C := by omega
  have e1 := Int.mul_nonneg (show 0 ≤ A - x by omega) (show 0 ≤ C + y by omega)
  have e2 := Int.mul_nonneg (show 0 ≤ A + x by omega) (show 0 ≤ C - y by omega)
  have e3 := Int.mul_nonneg (show 0 ≤ A - x by omega) (show 0 ≤ C - y by omega)
  have e4 := Int.mul_nonneg (show 0 ≤ A + x by omega) (show 0 ≤ C + y by omega)
  constructor <;> grind
theorem c83 (x y q : Int) (hx : -274625 ≤ x ∧ x ≤ 274625) (hy : -274625 ≤ y ∧ y ≤ 274625) : pc E 83 [.agg [.int .i64 x, .int .i64 y], .int .i64 q] = some (.agg [.int .i64 (x * (csI q).1 - y * (csI q).2), .int .i64 (x * (csI q).2 + y * (csI q).1)]) := by
  have h := c109 q
  have v := csV q
  have b1 := v.x
  have b2 := v.y
  generalize (csI q).1 = c at *
  generalize (csI q).2 = s at *
  have m1 := mul_bd hx.1 hx.2 b1.1 b1.2
  have m2 := mul_bd hx.1 hx.2 b2.1 b2.2
  have m3 := mul_bd hy.1 hy.2 b1.1 b1.2
  have m4 := mul_bd hy.1 hy.2 b2.1 b2.2
  have w1 : IntKind.i64.wrap (x * c) = x * c := wrap_small (by omega) (by omega)
  have w2 : IntKind.i64.wrap (x * s) = x * s := wrap_small (by omega) (by omega)
  have w3 : IntKind.i64.wrap (y * c) = y * c := wrap_small (by omega) (by omega)
  have w4 : IntKind.i64.wrap (y * s) = y * s := wrap_small (by omega) (by omega)
  have w5 : IntKind.i64.wrap (x * c - y * s) = x * c - y * s := wrap_small (by omega) (by omega)
  have w6 : IntKind.i64.wrap (x * s + y * c) = x * s + y * c := wrap_small (by omega) (by omega)
  rw [pc_eq]; simp +contextual -implicitDefEqProofs (maxSteps := 2000000) only [go_sem, ↓reduceIte, Nat.reduceAdd, Nat.reduceMul, Nat.reduceSub, Nat.reduceEqDiff, Nat.reduceLeDiff, Nat.reduceDiv, Nat.reduceMod, Nat.reduceBEq, Nat.reduceBNe, reduceCtorEq, Int.reduceLE, Int.reduceLT, Int.reduceToNat, Int.reduceNeg, Nat.reduceLT, Int.reduceEq, Int.reduceSub, Int.reduceAdd, Int.reduceMul, Nat.reducePow, Int.reduceBEq, Int.reduceBNe, Int.reduceMod, E_83, A83, h, w1, w2, w3, w4, w5, w6]
end Go.Proofs.Ytnecdcaaknhgpaa

namespace Go.Proofs.Ytnecdcaaknhgpaa
set_option maxRecDepth 100000
set_option maxHeartbeats 4000000
set_option linter.unusedSimpArgs false
set_option linter.unusedVariables false
open Go Go.Zv
theorem c82 (x y : Int) (n : Nat) (h3 : n ≤ 3) (hv : VD x y (p65 n)) : pc E 82 [.agg [.int .i64 x, .int .i64 y, .int .i64 n]] = some (.bool true) := by
  have h := c86 n h3
  have hx := hv.x
  have hy := hv.y
  have he := hv.eq
  have pb := p65_bd n
  have h0 : ¬ ((n : Int) < 0) := by omega
  have h2 : ¬ ((3 : Int) < n) := by omega
  generalize p65 n = r at *
  have m1 := mul_bd (A := 274625) (C := 274625) (x := x) (y := x) (by omega) (by omega) (by omega) (by omega)
  have m2 := mul_bd (A := 274625) (C := 274625) (x := y) (y := y) (by omega) (by omega) (by omega) (by omega)
  have m3 := mul_bd (A := 274625) (C := 274625) (x := r) (y := r) (by omega) (by omega) (by omega) (by omega)
  have w1 : IntKind.i64.wrap (x * x) = x * x := wrap_small (by omega) (by omega)
  have w2 : IntKind.i64.wrap (y * y) = y * y := wrap_small (by omega) (by omega)
  have w3 : IntKind.i64.wrap (r * r) = r * r := wrap_small (by omega) (by omega)
  have w4 : IntKind.i64.wrap (x * x + y * y) = r * r := by rw [he]; exact w3
  have w5 : IntKind.i64.wrap (0 - r) = -r := by rw [wrap_small (by omega) (by omega)]; omega
  rw [pc_eq]; simp +contextual -implicitDefEqProofs (maxSteps := 2000000) only [go_sem, ↓reduceIte, Nat.reduceAdd, Nat.reduceMul, Nat.reduceSub, Nat.reduceEqDiff, Nat.reduceLeDiff, Nat.reduceDiv, Nat.reduceMod, Nat.reduceBEq, Nat.reduceBNe, reduceCtorEq, Int.reduceLE, Int.reduceLT, Int.reduceToNat, Int.reduceNeg, Nat.reduceLT, Int.reduceEq, Int.reduceSub, Int.reduceAdd, Int.reduceMul, Nat.reducePow, Int.reduceBEq, Int.reduceBNe, Int.reduceMod, E_82, A82, E_108, A108, h, h0, h2, hx.1, hx.2, hy.1, hy.2, w1, w2, w3, w4, w5]
theorem c84 (x y : Int) (n : Nat) (h3 : n ≤ 3) (hv : VD x y (p65 n)) : pc E 84 [.agg [.int .i64 x, .int .i64 y, .int .i64 n]] = some (.bool true) := by
  have h := c81 n h3
  have hx := hv.x
  have hy := hv.y
  have he := hv.eq
  have pb := p65_bd n
  have h0 : ¬ ((n : Int) < 0) := by omega
  have h2 : ¬ ((3 : Int) < n) := by omega
  generalize p65 n = r at *
  have m1 := mul_bd (A := 274625) (C := 274625) (x := x) (y := x) (by omega) (by omega) (by omega) (by omega)
  have m2 := mul_bd (A := 274625) (C := 274625) (x := y) (y := y) (by omega) (by omega) (by omega) (by omega)
  have m3 := mul_bd (A := 274625) (C := 274625) (x := r) (y := r) (by omega) (by omega) (by omega) (by omega)
  have w1 : IntKind.i64.wrap (x * x) = x * x := wrap_small (by omega) (by omega)
  have w2 : IntKind.i64.wrap (y * y) = y * y := wrap_small (by omega) (by omega)
  have w3 : IntKind.i64.wrap (r * r) = r * r := wrap_small (by omega) (by omega)
  have w4 : IntKind.i64.wrap (x * x + y * y) = r * r := by rw [he]; exact w3
  have w5 : IntKind.i64.wrap (0 - r) = -r := by rw [wrap_small (by omega) (by omega)]; omega
  rw [pc_eq]; simp +contextual -implicitDefEqProofs (maxSteps := 2000000) only [go_sem, ↓reduceIte, Nat.reduceAdd, Nat.reduceMul, Nat.reduceSub, Nat.reduceEqDiff, Nat.reduceLeDiff, Nat.reduceDiv, Nat.reduceMod, Nat.reduceBEq, Nat.reduceBNe, reduceCtorEq, Int.reduceLE, Int.reduceLT, Int.reduceToNat, Int.reduceNeg, Nat.reduceLT, Int.reduceEq, Int.reduceSub, Int.reduceAdd, Int.reduceMul, Nat.reducePow, Int.reduceBEq, Int.reduceBNe, Int.reduceMod, E_84, A84, h, h0, h2, hx.1, hx.2, hy.1, hy.2, w1, w2, w3, w4, w5]
def cx (x y q : Int) : Int := x * (csI q).1 - y * (csI q).2
def cy (x y q : Int) : Int := x * (csI q).2 + y * (csI q).1
theorem cV {x y : Int} {n : Nat} (hn : n ≤ 2) (h : VD x y (p65 n)) (q : Int) : VD (cx x y q) (cy x y q) (p65 (n + 1)) := by
  have := h.mul (csV q)
  rwa [p65_succ hn] at this
theorem VD.bd {x y : Int} {n : Nat} (h : VD x y (p65 n)) : (-274625 ≤ x ∧ x ≤ 274625) ∧ (-274625 ≤ y ∧ y ≤ 274625) := by
  have := h.x; have := h.y; have := p65_bd n; omega
theorem c51 (x y q : Int) (n : Nat) (hn : n ≤ 2) (hv : VD x y (p65 n)) : pc E 51 [.agg [.int .i64 x, .int .i64 y, .int .i64 n], .int .i64 q] = some (.agg [.int .i64 (cx x y q), .int .i64 (cy x y q), .int .i64 (n + 1 : Nat)]) := by
  have h := c82 x y n (by omega) hv
  have h2 := c83 x y q hv.bd.1 hv.bd.2
  have h3 : ((n : Int) == 3) = false := by simp; omega
  have w := wr_succ (n := n) (by omega)
  rw [← cx, ← cy] at h2
  rw [pc_eq]; simp +contextual -implicitDefEqProofs (maxSteps := 2000000) only [go_sem, ↓reduceIte, Nat.reduceAdd, Nat.reduceMul, Nat.reduceSub, Nat.reduceEqDiff, Nat.reduceLeDiff, Nat.reduceDiv, Nat.reduceMod, Nat.reduceBEq, Nat.reduceBNe, reduceCtorEq, Int.reduceLE, Int.reduceLT, Int.reduceToNat, Int.reduceNeg, Nat.reduceLT, Int.reduceEq, Int.reduceSub, Int.reduceAdd, Int.reduceMul, Nat.reducePow, Int.reduceBEq, Int.reduceBNe, Int.reduceMod, E_51, A51, h, h2, h3, w]
theorem c52 (x y q : Int) (n : Nat) (hn : n ≤ 2) (hv : VD x y (p65 n)) : pc E 52 [.agg [.int .i64 x, .int .i64 y, .int .i64 n], .int .i64 q] = some (.agg [.int .i64 (cx x y q), .int .i64 (cy x y q), .int .i64 (n + 1 : Nat)]) := by
  have h := c84 x y n (by omega) hv
  have h2 := c85 q
  have h3 : ((n : Int) == 3) = false := by simp; omega
  have w := wr_succ (n := n) (by omega)
  have v := csV q
  have b1 := v.x
  have b2 := v.y
  have hx := hv.bd.1
  have hy := hv.bd.2
  unfold cx cy
  generalize (csI q).1 = c at *
  generalize (csI q).2 = s at *
  have m1 := mul_bd hx.1 hx.2 b1.1 b1.2
  have m2 := mul_bd hx.1 hx.2 b2.1 b2.2
  have m3 := mul_bd hy.1 hy.2 b1.1 b1.2
  have m4 := mul_bd hy.1 hy.2 b2.1 b2.2
  have w1 : IntKind.i64.wrap (x * c) = x * c := wrap_small (by omega) (by omega)
  have w2 : IntKind.i64.wrap (x * s) = x * s := wrap_small (by omega) (by omega)
  have w3 : IntKind.i64.wrap (y * c) = y * c := wrap_small (by omega) (by omega)
  have w4 : IntKind.i64.wrap (y * s) = y * s := wrap_small (by omega) (by omega)
  have w5 : IntKind.i64.wrap (x * c - y * s) = x * c - y * s := wrap_small (by omega) (by omega)
  have w6 : IntKind.i64.wrap (x * s + y * c) = x * s + y * c := wrap_small (by omega) (by omega)
  rw [pc_eq]; simp +contextual -implicitDefEqProofs (maxSteps := 2000000) only [go_sem, ↓reduceIte, Nat.reduceAdd, Nat.reduceMul, Nat.reduceSub, Nat.reduceEqDiff, Nat.reduceLeDiff, Nat.reduceDiv, Nat.reduceMod, Nat.reduceBEq, Nat.reduceBNe, reduceCtorEq, Int.reduceLE, Int.reduceLT, Int.reduceToNat, Int.reduceNeg, Nat.reduceLT, Int.reduceEq, Int.reduceSub, Int.reduceAdd, Int.reduceMul, Nat.reducePow, Int.reduceBEq, Int.reduceBNe, Int.reduceMod, E_52, A52, h, h2, h3, w, w1, w2, w3, w4, w5, w6]
/-- Unit over 65 to the power n -/
def u65 : Nat → Int
  | 0 => 4394000 | 1 => 67600 | 2 => 1040 | _ => 16
theorem tdiv_u : ∀ n : Nat, (4394000 : Int).tdiv (p65 n) = u65 n
  | 0 => rfl | 1 => rfl | 2 => rfl | _ + 3 => rfl
theorem u65_p : ∀ n : Nat, u65 n * p65 n = 4394000
  | 0 => rfl | 1 => rfl | 2 => rfl | _ + 3 => rfl
theorem u65_bd (n : Nat) : 16 ≤ u65 n ∧ u65 n ≤ 4394000 := by unfold u65; split <;> omega
theorem ux_bd {x y : Int} {n : Nat} (hv : VD x y (p65 n)) (m : Int) (hm : 0 ≤ m ∧ m ≤ 40) : (-175760000 ≤ m * u65 n * x ∧ m * u65 n * x ≤ 175760000) ∧ (-175760000 ≤ m * u65 n * y ∧ m * u65 n * y ≤ 175760000) := by
  have hx := hv.x
  have hy := hv.y
  have e := u65_p n
  have pb := p65_bd n
  have ub := u65_bd n
  generalize p65 n = r at *
  generalize u65 n = u at *
  have mu : 0 ≤ m * u := Int.mul_nonneg hm.1 (by omega)
  have k1 : m * u * r ≤ 175760000 := by
    have : m * u * r = m * 4394000 := by rw [Int.mul_assoc, e]
    omega
  have a1 := Int.mul_le_mul_of_nonneg_left hx.1 mu
  have a2 := Int.mul_le_mul_of_nonneg_left hx.2 mu
  have a3 := Int.mul_le_mul_of_nonneg_left hy.1 mu
  have a4 := Int.mul_le_mul_of_nonneg_left hy.2 mu
  rw [Int.mul_neg] at a1 a3
  omega
theorem mu_bd (n : Nat) (m : Int) (hm : 0 ≤ m ∧ m ≤ 40) : 0 ≤ m * u65 n ∧ m * u65 n ≤ 175760000 := by
  have ub := u65_bd n
  have := mul_bd (A := 40) (C := 4394000) (x := m) (y := u65 n) (by omega) (by omega) (by omega) (by omega)
  exact ⟨Int.mul_nonneg hm.1 (by omega), by omega⟩
theorem c55 (x y : Int) (n : Nat) (hn : n ≤ 3) (hv : VD x y (p65 n)) (m : Int) (hm : 0 ≤ m ∧ m ≤ 40) : pc E 55 [.agg [.int .i64 x, .int .i64 y, .int .i64 n], .int .i64 m] = some (.agg [.int .i64 (m * u65 n * x), .int .i64 (m * u65 n * y)]) := by
  have h := c86 n hn
  have t := tdiv_u n
  have b := ux_bd hv m hm
  have mb := mu_bd n m hm
  have ub := u65_bd n
  have pb := p65_bd n
  have nz : ¬ (p65 n = 0) := by omega
  generalize p65 n = r at *
  generalize u65 n = u at *
  have w0 : IntKind.i64.wrap u = u := wrap_small (by omega) (by omega)
  have w1 : IntKind.i64.wrap (m * u) = m * u := wrap_small (by omega) (by omega)
  have w2 : IntKind.i64.wrap (m * u * x) = m * u * x := wrap_small (by omega) (by omega)
  have w3 : IntKind.i64.wrap (m * u * y) = m * u * y := wrap_small (by omega) (by omega)
  rw [pc_eq]; simp +contextual -implicitDefEqProofs (maxSteps := 2000000) only [go_sem, ↓reduceIte, Nat.reduceAdd, Nat.reduceMul, Nat.reduceSub, Nat.reduceEqDiff, Nat.reduceLeDiff, Nat.reduceDiv, Nat.reduceMod, Nat.reduceBEq, Nat.reduceBNe, reduceCtorEq, Int.reduceLE, Int.reduceLT, Int.reduceToNat, Int.reduceNeg, Nat.reduceLT, Int.reduceEq, Int.reduceSub, Int.reduceAdd, Int.reduceMul, Nat.reducePow, Int.reduceBEq, Int.reduceBNe, Int.reduceMod, E_55, A55, h, t, w0, w1, w2, w3, nz]
theorem c49 (x y : Int) (n : Nat) (hn : n ≤ 3) (hv : VD x y (p65 n)) (m : Int) (hm : 0 ≤ m ∧ m ≤ 40) : pc E 49 [.agg [.int .i64 x, .int .i64 y, .int .i64 n], .int .i64 m] = some (.agg [.int .i64 (m * u65 n * x), .int .i64 (m * u65 n * y)]) := by
  have h := c81 n hn
  have t := tdiv_u n
  have b := ux_bd hv m hm
  have mb := mu_bd n m hm
  have ub := u65_bd n
  have pb := p65_bd n
  have nz : ¬ (p65 n = 0) := by omega
  generalize p65 n = r at *
  generalize u65 n = u at *
  have w0 : IntKind.i64.wrap u = u := wrap_small (by omega) (by omega)
  have w1 : IntKind.i64.wrap (m * u) = m * u := wrap_small (by omega) (by omega)
  have w2 : IntKind.i64.wrap (m * u * x) = m * u * x := wrap_small (by omega) (by omega)
  have w3 : IntKind.i64.wrap (m * u * y) = m * u * y := wrap_small (by omega) (by omega)
  rw [pc_eq]; simp +contextual -implicitDefEqProofs (maxSteps := 2000000) only [go_sem, ↓reduceIte, Nat.reduceAdd, Nat.reduceMul, Nat.reduceSub, Nat.reduceEqDiff, Nat.reduceLeDiff, Nat.reduceDiv, Nat.reduceMod, Nat.reduceBEq, Nat.reduceBNe, reduceCtorEq, Int.reduceLE, Int.reduceLT, Int.reduceToNat, Int.reduceNeg, Nat.reduceLT, Int.reduceEq, Int.reduceSub, Int.reduceAdd, Int.reduceMul, Nat.reducePow, Int.reduceBEq, Int.reduceBNe, Int.reduceMod, E_49, A49, h, t, w0, w1, w2, w3, nz]
end Go.Proofs.Ytnecdcaaknhgpaa

namespace Go.Proofs.Ytnecdcaaknhgpaa
set_option maxRecDepth 100000
set_option maxHeartbeats 4000000
set_option linter.unusedSimpArgs false
set_option linter.unusedVariables false
open Go Go.Zv
structure Arm where
  bx : Int
  by_ : Int
  l0 : Int
  l1 : Int
  l2 : Int
  w : Int
  lo0 : Int
  lo1 : Int
  lo2 : Int
  hi0 : Int
  hi1 : Int
  hi2 : Int
abbrev avc (a : Arm) : List LV := [.int .i64 a.bx, .int .i64 a.by_, .int .i64 a.l0, .int .i64 a.l1, .int .i64 a.l2, .int .i64 a.w, .int .i64 a.lo0, .int .i64 a.lo1, .int .i64 a.lo2, .int .i64 a.hi0, .int .i64 a.hi1, .int .i64 a.hi2]
abbrev av (a : Arm) : LV := .agg (avc a)
abbrev jv (q0 q1 q2 : Int) : LV := .agg [.int .i64 q0, .int .i64 q1, .int .i64 q2]
/-- a valid arm -/
structure OKa (a : Arm) : Prop where
  l0 : 1 ≤ a.l0 ∧ a.l0 ≤ 40
  l1 : 1 ≤ a.l1 ∧ a.l1 ≤ 40
  l2 : 1 ≤ a.l2 ∧ a.l2 ≤ 40
  w : 1 ≤ a.w ∧ a.w ≤ 4
  j0 : -17 ≤ a.lo0 ∧ a.lo0 ≤ a.hi0 ∧ a.hi0 ≤ 18
  j1 : -17 ≤ a.lo1 ∧ a.lo1 ≤ a.hi1 ∧ a.hi1 ≤ 18
  j2 : -17 ≤ a.lo2 ∧ a.lo2 ≤ a.hi2 ∧ a.hi2 ≤ 18
  bx : -((100 - (a.w + a.l0 + a.l1 + a.l2)) * 4394000) ≤ a.bx ∧ a.bx ≤ (100 - (a.w + a.l0 + a.l1 + a.l2)) * 4394000
  by_ : -((100 - (a.w + a.l0 + a.l1 + a.l2)) * 4394000) ≤ a.by_ ∧ a.by_ ≤ (100 - (a.w + a.l0 + a.l1 + a.l2)) * 4394000
  mx : a.bx.tmod 16 = 0
  my : a.by_.tmod 16 = 0
theorem VD0 : VD 1 0 (p65 0) := ⟨by simp [p65], by simp [p65]⟩
abbrev dirs (q0 q1 q2 : Int) : List LV := [.int .i64 (cx 1 0 q0), .int .i64 (cy 1 0 q0), .int .i64 1, .int .i64 (cx (cx 1 0 q0) (cy 1 0 q0) q1), .int .i64 (cy (cx 1 0 q0) (cy 1 0 q0) q1), .int .i64 2,
  .int .i64 (cx (cx (cx 1 0 q0) (cy 1 0 q0) q1) (cy (cx 1 0 q0) (cy 1 0 q0) q1) q2), .int .i64 (cy (cx (cx 1 0 q0) (cy 1 0 q0) q1) (cy (cx 1 0 q0) (cy 1 0 q0) q1) q2), .int .i64 3]
theorem c25 (a : Arm) (q0 q1 q2 : Int) : pc E 25 [av a, jv q0 q1 q2] = some (.agg (dirs q0 q1 q2)) := by
  have v1 := cV (n := 0) (by omega) VD0 q0
  have v2 := cV (n := 1) (by omega) v1 q1
  have h1 := c51 1 0 q0 0 (by omega) VD0
  have h2 := c51 _ _ q1 1 (by omega) v1
  have h3 := c51 _ _ q2 2 (by omega) v2
  simp only [Int.natCast_zero, Int.ofNat_zero, Int.natCast_one, Nat.zero_add, Nat.reduceAdd, Int.cast_ofNat_Int] at h1 h2 h3
  unfold dirs
  generalize cx 1 0 q0 = x1 at *
  generalize cy 1 0 q0 = y1 at *
  generalize cx x1 y1 q1 = x2 at *
  generalize cy x1 y1 q1 = y2 at *
  rw [pc_eq]; simp +contextual -implicitDefEqProofs (maxSteps := 2000000) only [go_sem, ↓reduceIte, Nat.reduceAdd, Nat.reduceMul, Nat.reduceSub, Nat.reduceEqDiff, Nat.reduceLeDiff, Nat.reduceDiv, Nat.reduceMod, Nat.reduceBEq, Nat.reduceBNe, reduceCtorEq, Int.reduceLE, Int.reduceLT, Int.reduceToNat, Int.reduceNeg, Nat.reduceLT, Int.reduceEq, Int.reduceSub, Int.reduceAdd, Int.reduceMul, Nat.reducePow, Int.reduceBEq, Int.reduceBNe, Int.reduceMod, E_25, A25, A25_L0_eq, A25_L0b, h1, h2, h3]
theorem c26 (a : Arm) (q0 q1 q2 : Int) : pc E 26 [av a, jv q0 q1 q2] = some (.agg (dirs q0 q1 q2)) := by
  have v1 := cV (n := 0) (by omega) VD0 q0
  have v2 := cV (n := 1) (by omega) v1 q1
  have h1 := c52 1 0 q0 0 (by omega) VD0
  have h2 := c52 _ _ q1 1 (by omega) v1
  have h3 := c52 _ _ q2 2 (by omega) v2
  simp only [Int.natCast_zero, Int.ofNat_zero, Int.natCast_one, Nat.zero_add, Nat.reduceAdd, Int.cast_ofNat_Int] at h1 h2 h3
  unfold dirs
  generalize cx 1 0 q0 = x1 at *
  generalize cy 1 0 q0 = y1 at *
  generalize cx x1 y1 q1 = x2 at *
  generalize cy x1 y1 q1 = y2 at *
  rw [pc_eq]; simp +contextual -implicitDefEqProofs (maxSteps := 2000000) only [go_sem, ↓reduceIte, Nat.reduceAdd, Nat.reduceMul, Nat.reduceSub, Nat.reduceEqDiff, Nat.reduceLeDiff, Nat.reduceDiv, Nat.reduceMod, Nat.reduceBEq, Nat.reduceBNe, reduceCtorEq, Int.reduceLE, Int.reduceLT, Int.reduceToNat, Int.reduceNeg, Nat.reduceLT, Int.reduceEq, Int.reduceSub, Int.reduceAdd, Int.reduceMul, Nat.reducePow, Int.reduceBEq, Int.reduceBNe, Int.reduceMod, E_26, A26, h1, h2, h3]
end Go.Proofs.Ytnecdcaaknhgpaa

namespace Go.Proofs.Ytnecdcaaknhgpaa
set_option maxRecDepth 100000
set_option maxHeartbeats 4000000
set_option linter.unusedSimpArgs false
set_option linter.unusedVariables false
open Go Go.Zv
theorem c54 (ax ay bx by_ : Int) : pc E 54 [.agg [.int .i64 ax, .int .i64 ay], .agg [.int .i64 bx, .int .i64 by_]] = some (.agg [.int .i64 (IntKind.i64.wrap (ax + bx)), .int .i64 (IntKind.i64.wrap (ay + by_))]) := by
  rw [pc_eq]; simp +contextual -implicitDefEqProofs (maxSteps := 2000000) only [go_sem, ↓reduceIte, Nat.reduceAdd, Nat.reduceMul, Nat.reduceSub, Nat.reduceEqDiff, Nat.reduceLeDiff, Nat.reduceDiv, Nat.reduceMod, Nat.reduceBEq, Nat.reduceBNe, reduceCtorEq, Int.reduceLE, Int.reduceLT, Int.reduceToNat, Int.reduceNeg, Nat.reduceLT, Int.reduceEq, Int.reduceSub, Int.reduceAdd, Int.reduceMul, Nat.reducePow, Int.reduceBEq, Int.reduceBNe, Int.reduceMod, E_54, A54]
theorem c50 (ax ay bx by_ : Int) : pc E 50 [.agg [.int .i64 ax, .int .i64 ay], .agg [.int .i64 bx, .int .i64 by_]] = some (.agg [.int .i64 (IntKind.i64.wrap (ax + bx)), .int .i64 (IntKind.i64.wrap (ay + by_))]) := by
  rw [pc_eq]; simp +contextual -implicitDefEqProofs (maxSteps := 2000000) only [go_sem, ↓reduceIte, Nat.reduceAdd, Nat.reduceMul, Nat.reduceSub, Nat.reduceEqDiff, Nat.reduceLeDiff, Nat.reduceDiv, Nat.reduceMod, Nat.reduceBEq, Nat.reduceBNe, reduceCtorEq, Int.reduceLE, Int.reduceLT, Int.reduceToNat, Int.reduceNeg, Nat.reduceLT, Int.reduceEq, Int.reduceSub, Int.reduceAdd, Int.reduceMul, Nat.reducePow, Int.reduceBEq, Int.reduceBNe, Int.reduceMod, E_50, A50]
theorem c67 (ax ay bx by_ : Int) : pc E 67 [.agg [.int .i64 ax, .int .i64 ay], .agg [.int .i64 bx, .int .i64 by_]] = some (.agg [.int .i64 (IntKind.i64.wrap (ax - bx)), .int .i64 (IntKind.i64.wrap (ay - by_))]) := by
  rw [pc_eq]; simp +contextual -implicitDefEqProofs (maxSteps := 2000000) only [go_sem, ↓reduceIte, Nat.reduceAdd, Nat.reduceMul, Nat.reduceSub, Nat.reduceEqDiff, Nat.reduceLeDiff, Nat.reduceDiv, Nat.reduceMod, Nat.reduceBEq, Nat.reduceBNe, reduceCtorEq, Int.reduceLE, Int.reduceLT, Int.reduceToNat, Int.reduceNeg, Nat.reduceLT, Int.reduceEq, Int.reduceSub, Int.reduceAdd, Int.reduceMul, Nat.reducePow, Int.reduceBEq, Int.reduceBNe, Int.reduceMod, E_67, A67]
structure Pts where
  x1 : Int
  y1 : Int
  x2 : Int
  y2 : Int
  x3 : Int
  y3 : Int
/-- the directions of the links -/
def dd (q0 q1 q2 : Int) : Pts := ⟨cx 1 0 q0, cy 1 0 q0, cx (cx 1 0 q0) (cy 1 0 q0) q1, cy (cx 1 0 q0) (cy 1 0 q0) q1, cx (cx (cx 1 0 q0) (cy 1 0 q0) q1) (cy (cx 1 0 q0) (cy 1 0 q0) q1) q2, cy (cx (cx 1 0 q0) (cy 1 0 q0) q1) (cy (cx 1 0 q0) (cy 1 0 q0) q1) q2⟩
structure DV (d : Pts) : Prop where
  v1 : VD d.x1 d.y1 (p65 1)
  v2 : VD d.x2 d.y2 (p65 2)
  v3 : VD d.x3 d.y3 (p65 3)
theorem ddV (q0 q1 q2 : Int) : DV (dd q0 q1 q2) := ⟨cV (n := 0) (by omega) VD0 q0, cV (n := 1) (by omega) (cV (n := 0) (by omega) VD0 q0) q1, cV (n := 2) (by omega) (cV (n := 1) (by omega) (cV (n := 0) (by omega) VD0 q0) q1) q2⟩
abbrev ddv (d : Pts) : List LV := [.int .i64 d.x1, .int .i64 d.y1, .int .i64 1, .int .i64 d.x2, .int .i64 d.y2, .int .i64 2, .int .i64 d.x3, .int .i64 d.y3, .int .i64 3]
theorem c25' (a : Arm) (q0 q1 q2 : Int) : pc E 25 [av a, jv q0 q1 q2] = some (.agg (ddv (dd q0 q1 q2))) := c25 a q0 q1 q2
theorem c26' (a : Arm) (q0 q1 q2 : Int) : pc E 26 [av a, jv q0 q1 q2] = some (.agg (ddv (dd q0 q1 q2))) := c26 a q0 q1 q2
/-- the ends of the links -/
def pp (a : Arm) (d : Pts) : Pts := ⟨a.bx + a.l0 * 67600 * d.x1, a.by_ + a.l0 * 67600 * d.y1, a.bx + a.l0 * 67600 * d.x1 + a.l1 * 1040 * d.x2, a.by_ + a.l0 * 67600 * d.y1 + a.l1 * 1040 * d.y2,
  a.bx + a.l0 * 67600 * d.x1 + a.l1 * 1040 * d.x2 + a.l2 * 16 * d.x3, a.by_ + a.l0 * 67600 * d.y1 + a.l1 * 1040 * d.y2 + a.l2 * 16 * d.y3⟩
abbrev ppv (a : Arm) (p : Pts) : List LV := [.int .i64 a.bx, .int .i64 a.by_, .int .i64 p.x1, .int .i64 p.y1, .int .i64 p.x2, .int .i64 p.y2, .int .i64 p.x3, .int .i64 p.y3]
structure Bds (a : Arm) (d : Pts) : Prop where
  o0x : -175760000 ≤ a.l0 * 67600 * d.x1 ∧ a.l0 * 67600 * d.x1 ≤ 175760000
  o0y : -175760000 ≤ a.l0 * 67600 * d.y1 ∧ a.l0 * 67600 * d.y1 ≤ 175760000
  o1x : -175760000 ≤ a.l1 * 1040 * d.x2 ∧ a.l1 * 1040 * d.x2 ≤ 175760000
  o1y : -175760000 ≤ a.l1 * 1040 * d.y2 ∧ a.l1 * 1040 * d.y2 ≤ 175760000
  o2x : -175760000 ≤ a.l2 * 16 * d.x3 ∧ a.l2 * 16 * d.x3 ≤ 175760000
  o2y : -175760000 ≤ a.l2 * 16 * d.y3 ∧ a.l2 * 16 * d.y3 ≤ 175760000
  bx : -439400000 ≤ a.bx ∧ a.bx ≤ 439400000
  by_ : -439400000 ≤ a.by_ ∧ a.by_ ≤ 439400000
theorem bds {a : Arm} (h : OKa a) {d : Pts} (v : DV d) : Bds a d := by
  have a1 := ux_bd v.v1 a.l0 (by have := h.l0; omega)
  have a2 := ux_bd v.v2 a.l1 (by have := h.l1; omega)
  have a3 := ux_bd v.v3 a.l2 (by have := h.l2; omega)
  exact ⟨a1.1, a1.2, a2.1, a2.2, a3.1, a3.2, by have := h.bx; have := h.w; have := h.l0; have := h.l1; have := h.l2; omega, by have := h.by_; have := h.w; have := h.l0; have := h.l1; have := h.l2; omega⟩
theorem c27 (a : Arm) (h : OKa a) (q0 q1 q2 : Int) : pc E 27 [av a, jv q0 q1 q2] = some (.agg (ppv a (pp a (dd q0 q1 q2)))) := by
  have hd := c25' a q0 q1 q2
  have v := ddV q0 q1 q2
  have b := bds h v
  have k1 := c55 _ _ 1 (by omega) v.v1 a.l0 (by have := h.l0; omega)
  have k2 := c55 _ _ 2 (by omega) v.v2 a.l1 (by have := h.l1; omega)
  have k3 := c55 _ _ 3 (by omega) v.v3 a.l2 (by have := h.l2; omega)
  simp only [u65, Int.natCast_one, Int.cast_ofNat_Int] at k1 k2 k3
  generalize dd q0 q1 q2 = d at *
  obtain ⟨o0x, o0y, o1x, o1y, o2x, o2y, bx, by_⟩ := b
  unfold pp
  have g1 := c54 a.bx a.by_ (a.l0 * 67600 * d.x1) (a.l0 * 67600 * d.y1)
  rw [wrap_small (by omega) (by omega), wrap_small (by omega) (by omega)] at g1
  have g2 := c54 (a.bx + a.l0 * 67600 * d.x1) (a.by_ + a.l0 * 67600 * d.y1) (a.l1 * 1040 * d.x2) (a.l1 * 1040 * d.y2)
  rw [wrap_small (by omega) (by omega), wrap_small (by omega) (by omega)] at g2
  have g3 := c54 (a.bx + a.l0 * 67600 * d.x1 + a.l1 * 1040 * d.x2) (a.by_ + a.l0 * 67600 * d.y1 + a.l1 * 1040 * d.y2) (a.l2 * 16 * d.x3) (a.l2 * 16 * d.y3)
  rw [wrap_small (by omega) (by omega), wrap_small (by omega) (by omega)] at g3
  generalize a.l0 * 67600 * d.x1 = e1 at *
  generalize a.l0 * 67600 * d.y1 = e2 at *
  generalize a.l1 * 1040 * d.x2 = e3 at *
  generalize a.l1 * 1040 * d.y2 = e4 at *
  generalize a.l2 * 16 * d.x3 = e5 at *
  generalize a.l2 * 16 * d.y3 = e6 at *
  rw [pc_eq]; simp +contextual -implicitDefEqProofs (maxSteps := 2000000) only [go_sem, ↓reduceIte, Nat.reduceAdd, Nat.reduceMul, Nat.reduceSub, Nat.reduceEqDiff, Nat.reduceLeDiff, Nat.reduceDiv, Nat.reduceMod, Nat.reduceBEq, Nat.reduceBNe, reduceCtorEq, Int.reduceLE, Int.reduceLT, Int.reduceToNat, Int.reduceNeg, Nat.reduceLT, Int.reduceEq, Int.reduceSub, Int.reduceAdd, Int.reduceMul, Nat.reducePow, Int.reduceBEq, Int.reduceBNe, Int.reduceMod, E_27, A27, A27_L0_eq, A27_L0b, hd, k1, k2, k3, E_53, A53, g1, g2, g3]
theorem c28 (a : Arm) (h : OKa a) (q0 q1 q2 : Int) : pc E 28 [av a, jv q0 q1 q2] = some (.agg (ppv a (pp a (dd q0 q1 q2)))) := by
  have hd := c26' a q0 q1 q2
  have v := ddV q0 q1 q2
  have b := bds h v
  have k1 := c49 _ _ 1 (by omega) v.v1 a.l0 (by have := h.l0; omega)
  have k2 := c49 _ _ 2 (by omega) v.v2 a.l1 (by have := h.l1; omega)
  have k3 := c49 _ _ 3 (by omega) v.v3 a.l2 (by have := h.l2; omega)
  simp only [u65, Int.natCast_one, Int.cast_ofNat_Int] at k1 k2 k3
  generalize dd q0 q1 q2 = d at *
  obtain ⟨o0x, o0y, o1x, o1y, o2x, o2y, bx, by_⟩ := b
  unfold pp
  have g1 := c50 a.bx a.by_ (a.l0 * 67600 * d.x1) (a.l0 * 67600 * d.y1)
  rw [wrap_small (by omega) (by omega), wrap_small (by omega) (by omega)] at g1
  have g2 := c50 (a.bx + a.l0 * 67600 * d.x1) (a.by_ + a.l0 * 67600 * d.y1) (a.l1 * 1040 * d.x2) (a.l1 * 1040 * d.y2)
  rw [wrap_small (by omega) (by omega), wrap_small (by omega) (by omega)] at g2
  have g3 := c50 (a.bx + a.l0 * 67600 * d.x1 + a.l1 * 1040 * d.x2) (a.by_ + a.l0 * 67600 * d.y1 + a.l1 * 1040 * d.y2) (a.l2 * 16 * d.x3) (a.l2 * 16 * d.y3)
  rw [wrap_small (by omega) (by omega), wrap_small (by omega) (by omega)] at g3
  generalize a.l0 * 67600 * d.x1 = e1 at *
  generalize a.l0 * 67600 * d.y1 = e2 at *
  generalize a.l1 * 1040 * d.x2 = e3 at *
  generalize a.l1 * 1040 * d.y2 = e4 at *
  generalize a.l2 * 16 * d.x3 = e5 at *
  generalize a.l2 * 16 * d.y3 = e6 at *
  rw [pc_eq]; simp +contextual -implicitDefEqProofs (maxSteps := 2000000) only [go_sem, ↓reduceIte, Nat.reduceAdd, Nat.reduceMul, Nat.reduceSub, Nat.reduceEqDiff, Nat.reduceLeDiff, Nat.reduceDiv, Nat.reduceMod, Nat.reduceBEq, Nat.reduceBNe, reduceCtorEq, Int.reduceLE, Int.reduceLT, Int.reduceToNat, Int.reduceNeg, Nat.reduceLT, Int.reduceEq, Int.reduceSub, Int.reduceAdd, Int.reduceMul, Nat.reducePow, Int.reduceBEq, Int.reduceBNe, Int.reduceMod, E_28, A28, A28_L0_eq, A28_L0b, hd, k1, k2, k3, g1, g2, g3]
end Go.Proofs.Ytnecdcaaknhgpaa

namespace Go.Proofs.Ytnecdcaaknhgpaa
set_option maxRecDepth 100000
set_option maxHeartbeats 4000000
set_option linter.unusedSimpArgs false
set_option linter.unusedVariables false
open Go Go.Zv
theorem c64 (x y : Int) (h : -1000000000 ≤ y ∧ y ≤ 1000000000) : pc E 64 [.agg [.int .i64 x, .int .i64 y]] = some (.agg [.int .i64 (-y), .int .i64 x]) := by
  have h1 := c91 x y (by omega) (by omega)
  rw [pc_eq]; simp +contextual -implicitDefEqProofs (maxSteps := 2000000) only [go_sem, ↓reduceIte, Nat.reduceAdd, Nat.reduceMul, Nat.reduceSub, Nat.reduceEqDiff, Nat.reduceLeDiff, Nat.reduceDiv, Nat.reduceMod, Nat.reduceBEq, Nat.reduceBNe, reduceCtorEq, Int.reduceLE, Int.reduceLT, Int.reduceToNat, Int.reduceNeg, Nat.reduceLT, Int.reduceEq, Int.reduceSub, Int.reduceAdd, Int.reduceMul, Nat.reducePow, Int.reduceBEq, Int.reduceBNe, Int.reduceMod, E_64, A64, h1]
def lkc (fx fy tx ty ox oy : Int) : List (Int × Int) := [(fx + oy, fy - ox), (tx + oy, ty - ox), (tx - oy, ty + ox), (fx - oy, fy + ox)]
abbrev pt (p : Int × Int) : LV := .agg [.int .i64 p.1, .int .i64 p.2]
def c2 (p : Int × Int) : List LV := [.int .i64 p.1, .int .i64 p.2]
theorem c48 (a : Arm) (hw : 0 ≤ a.w ∧ a.w ≤ 40) (q0 q1 q2 x y : Int) (n : Nat) (hn : n ≤ 3) (hv : VD x y (p65 n)) (fx fy tx ty : Int) (h1 : -1000000000 ≤ fx ∧ fx ≤ 1000000000) (h2 : -1000000000 ≤ fy ∧ fy ≤ 1000000000) (h3 : -1000000000 ≤ tx ∧ tx ≤ 1000000000) (h4 : -1000000000 ≤ ty ∧ ty ≤ 1000000000) :
    pc E 48 [.agg [.int .i64 a.bx, .int .i64 a.by_, .int .i64 a.l0, .int .i64 a.l1, .int .i64 a.l2, .int .i64 a.w, .int .i64 a.lo0, .int .i64 a.lo1, .int .i64 a.lo2, .int .i64 a.hi0, .int .i64 a.hi1, .int .i64 a.hi2, .int .i64 q0, .int .i64 q1, .int .i64 q2], .agg [.int .i64 x, .int .i64 y, .int .i64 n], .agg [.int .i64 fx, .int .i64 fy], .agg [.int .i64 tx, .int .i64 ty]] =
    some (.os 2 ((lkc fx fy tx ty (a.w * u65 n * x) (a.w * u65 n * y)).map c2)) := by
  have k := c55 x y n hn hv a.w hw
  have b := ux_bd hv a.w hw
  generalize a.w * u65 n * x = ox at *
  generalize a.w * u65 n * y = oy at *
  have r := c64 ox oy (by omega)
  have s1 := c67 fx fy (-oy) ox
  rw [wrap_small (by omega) (by omega), wrap_small (by omega) (by omega), show fx - -oy = fx + oy by omega] at s1
  have s2 := c67 tx ty (-oy) ox
  rw [wrap_small (by omega) (by omega), wrap_small (by omega) (by omega), show tx - -oy = tx + oy by omega] at s2
  have s3 := c54 tx ty (-oy) ox
  rw [wrap_small (by omega) (by omega), wrap_small (by omega) (by omega), show tx + -oy = tx - oy by omega] at s3
  have s4 := c54 fx fy (-oy) ox
  rw [wrap_small (by omega) (by omega), wrap_small (by omega) (by omega), show fx + -oy = fx - oy by omega] at s4
  rw [pc_eq]; simp +contextual -implicitDefEqProofs (maxSteps := 2000000) only [go_sem, ↓reduceIte, Nat.reduceAdd, Nat.reduceMul, Nat.reduceSub, Nat.reduceEqDiff, Nat.reduceLeDiff, Nat.reduceDiv, Nat.reduceMod, Nat.reduceBEq, Nat.reduceBNe, reduceCtorEq, Int.reduceLE, Int.reduceLT, Int.reduceToNat, Int.reduceNeg, Nat.reduceLT, Int.reduceEq, Int.reduceSub, Int.reduceAdd, Int.reduceMul, Nat.reducePow, Int.reduceBEq, Int.reduceBNe, Int.reduceMod, E_48, A48, k, r, s1, s2, s3, s4, lkc, c2, List.map_cons, List.map_nil]
end Go.Proofs.Ytnecdcaaknhgpaa

namespace Go.Proofs.Ytnecdcaaknhgpaa
set_option maxRecDepth 100000
set_option maxHeartbeats 4000000
set_option linter.unusedSimpArgs false
set_option linter.unusedVariables false
open Go Go.Zv
/-- the bodies of the links -/
def lks (a : Arm) (d : Pts) : List (List (Int × Int)) :=
  [lkc a.bx a.by_ (pp a d).x1 (pp a d).y1 (a.w * 67600 * d.x1) (a.w * 67600 * d.y1),
   lkc (pp a d).x1 (pp a d).y1 (pp a d).x2 (pp a d).y2 (a.w * 1040 * d.x2) (a.w * 1040 * d.y2),
   lkc (pp a d).x2 (pp a d).y2 (pp a d).x3 (pp a d).y3 (a.w * 16 * d.x3) (a.w * 16 * d.y3)]
abbrev lkv (l : List (Int × Int)) : LV := .vs (l.map c2)
theorem lkc_len (a b c d e f : Int) : (lkc a b c d e f).length = 4 := rfl
theorem c20 (a : Arm) (h : OKa a) (q0 q1 q2 : Int) : pc E 20 [av a, jv q0 q1 q2] = some (.agg ((lks a (dd q0 q1 q2)).map lkv)) := by
  have h1 := c25' a q0 q1 q2
  have h2 := c27 a h q0 q1 q2
  have v := ddV q0 q1 q2
  have b := bds h v
  obtain ⟨o0x, o0y, o1x, o1y, o2x, o2y, bx, by_⟩ := b
  have hw : 0 ≤ a.w ∧ a.w ≤ 40 := by have := h.w; omega
  generalize dd q0 q1 q2 = d at *
  have k1 := c48 a hw q0 q1 q2 _ _ 1 (by omega) v.v1 a.bx a.by_ (pp a d).x1 (pp a d).y1 (by omega) (by omega) (by simp only [pp]; omega) (by simp only [pp]; omega)
  have k2 := c48 a hw q0 q1 q2 _ _ 2 (by omega) v.v2 (pp a d).x1 (pp a d).y1 (pp a d).x2 (pp a d).y2 (by simp only [pp]; omega) (by simp only [pp]; omega) (by simp only [pp]; omega) (by simp only [pp]; omega)
  have k3 := c48 a hw q0 q1 q2 _ _ 3 (by omega) v.v3 (pp a d).x2 (pp a d).y2 (pp a d).x3 (pp a d).y3 (by simp only [pp]; omega) (by simp only [pp]; omega) (by simp only [pp]; omega) (by simp only [pp]; omega)
  simp only [u65, Int.natCast_one, Int.cast_ofNat_Int] at k1 k2 k3
  unfold lks
  have t : ∀ l : List (Int × Int), l.length = 4 → (l.map c2).take 4 = l.map c2 := fun l hl => List.take_of_length_le (by simp [hl])
  have t1 := t _ (lkc_len a.bx a.by_ (pp a d).x1 (pp a d).y1 (a.w * 67600 * d.x1) (a.w * 67600 * d.y1))
  have t2 := t _ (lkc_len (pp a d).x1 (pp a d).y1 (pp a d).x2 (pp a d).y2 (a.w * 1040 * d.x2) (a.w * 1040 * d.y2))
  have t3 := t _ (lkc_len (pp a d).x2 (pp a d).y2 (pp a d).x3 (pp a d).y3 (a.w * 16 * d.x3) (a.w * 16 * d.y3))
  have n1 := lkc_len a.bx a.by_ (pp a d).x1 (pp a d).y1 (a.w * 67600 * d.x1) (a.w * 67600 * d.y1)
  have n2 := lkc_len (pp a d).x1 (pp a d).y1 (pp a d).x2 (pp a d).y2 (a.w * 1040 * d.x2) (a.w * 1040 * d.y2)
  have n3 := lkc_len (pp a d).x2 (pp a d).y2 (pp a d).x3 (pp a d).y3 (a.w * 16 * d.x3) (a.w * 16 * d.y3)
  generalize lkc a.bx a.by_ (pp a d).x1 (pp a d).y1 (a.w * 67600 * d.x1) (a.w * 67600 * d.y1) = L1 at *
  generalize lkc (pp a d).x1 (pp a d).y1 (pp a d).x2 (pp a d).y2 (a.w * 1040 * d.x2) (a.w * 1040 * d.y2) = L2 at *
  generalize lkc (pp a d).x2 (pp a d).y2 (pp a d).x3 (pp a d).y3 (a.w * 16 * d.x3) (a.w * 16 * d.y3) = L3 at *
  rw [pc_eq]; simp +contextual -implicitDefEqProofs (maxSteps := 2000000) only [go_sem, ↓reduceIte, Nat.reduceAdd, Nat.reduceMul, Nat.reduceSub, Nat.reduceEqDiff, Nat.reduceLeDiff, Nat.reduceDiv, Nat.reduceMod, Nat.reduceBEq, Nat.reduceBNe, reduceCtorEq, Int.reduceLE, Int.reduceLT, Int.reduceToNat, Int.reduceNeg, Nat.reduceLT, Int.reduceEq, Int.reduceSub, Int.reduceAdd, Int.reduceMul, Nat.reducePow, Int.reduceBEq, Int.reduceBNe, Int.reduceMod, E_20, A20, A20_L0_eq, A20_L0b, h1, h2, k1, k2, k3, List.length_map, t1, t2, t3, n1, n2, n3, List.map_cons, List.map_nil]
end Go.Proofs.Ytnecdcaaknhgpaa

namespace Go.Proofs.Ytnecdcaaknhgpaa
set_option maxRecDepth 100000
set_option maxHeartbeats 4000000
set_option linter.unusedSimpArgs false
set_option linter.unusedVariables false
open Go Go.Zv
def fr (a : Arm) : Int := (100 - (a.w + a.l0 + a.l1 + a.l2)) * 4394000
open Classical in
noncomputable def okB (a : Arm) : Bool := decide (OKa a)
open Classical in
theorem okF {a : Arm} (h : OKa a → False) : okB a = false := by unfold okB; exact decide_eq_false h
open Classical in
theorem okT {a : Arm} (h : OKa a) : okB a = true := by unfold okB; exact decide_eq_true h
open Classical in
theorem okB_iff {a : Arm} : okB a = true ↔ OKa a := by unfold okB; exact decide_eq_true_iff
structure Pre (a : Arm) : Prop where
  l0 : 1 ≤ a.l0 ∧ a.l0 ≤ 40
  l1 : 1 ≤ a.l1 ∧ a.l1 ≤ 40
  l2 : 1 ≤ a.l2 ∧ a.l2 ≤ 40
  w : 1 ≤ a.w ∧ a.w ≤ 4
  j0 : -17 ≤ a.lo0 ∧ a.lo0 ≤ a.hi0 ∧ a.hi0 ≤ 18
  j1 : -17 ≤ a.lo1 ∧ a.lo1 ≤ a.hi1 ∧ a.hi1 ≤ 18
  j2 : -17 ≤ a.lo2 ∧ a.lo2 ≤ a.hi2 ∧ a.hi2 ≤ 18
theorem mn_iff (a b x : Int) : x ≤ mnI a b ↔ x ≤ a ∧ x ≤ b := by unfold mnI; split <;> omega
theorem mx_iff (a b x : Int) : mxI a b ≤ x ↔ a ≤ x ∧ b ≤ x := by unfold mxI; split <;> omega
theorem ok_of {a : Arm} (h : Pre a) (mx : a.bx.tmod 16 = 0) (my : a.by_.tmod 16 = 0) (h1 : -(fr a) ≤ mnI a.bx a.by_) (h2 : mxI a.bx a.by_ ≤ fr a) : OKa a := by
  rw [mn_iff] at h1; rw [mx_iff] at h2
  unfold fr at h1 h2
  exact ⟨h.l0, h.l1, h.l2, h.w, h.j0, h.j1, h.j2, ⟨h1.1, h2.1⟩, ⟨h1.2, h2.2⟩, mx, my⟩
theorem ok_inv {a : Arm} (h : OKa a) : (a.bx.tmod 16 = 0 ∧ a.by_.tmod 16 = 0) ∧ -(fr a) ≤ mnI a.bx a.by_ ∧ mxI a.bx a.by_ ≤ fr a := by
  rw [mn_iff, mx_iff]
  exact ⟨⟨h.mx, h.my⟩, ⟨h.bx.1, h.by_.1⟩, ⟨h.bx.2, h.by_.2⟩⟩
theorem c15p (a : Arm) (h : Pre a) : pc E 15 [av a] = some (.bool (okB a)) := by
  obtain ⟨l0, l1, l2, w, j0, j1, j2⟩ := h
  have p : Pre a := ⟨l0, l1, l2, w, j0, j1, j2⟩
  have g0 : ¬ a.l0 < 1 := by omega
  have g1 : ¬ 40 < a.l0 := by omega
  have g2 : ¬ a.lo0 < -17 := by omega
  have g3 : ¬ 18 < a.hi0 := by omega
  have g4 : ¬ a.hi0 < a.lo0 := by omega
  have g5 : ¬ a.l1 < 1 := by omega
  have g6 : ¬ 40 < a.l1 := by omega
  have g7 : ¬ a.lo1 < -17 := by omega
  have g8 : ¬ 18 < a.hi1 := by omega
  have g9 : ¬ a.hi1 < a.lo1 := by omega
  have g10 : ¬ a.l2 < 1 := by omega
  have g11 : ¬ 40 < a.l2 := by omega
  have g12 : ¬ a.lo2 < -17 := by omega
  have g13 : ¬ 18 < a.hi2 := by omega
  have g14 : ¬ a.hi2 < a.lo2 := by omega
  have g15 : ¬ a.w < 1 := by omega
  have g16 : ¬ 4 < a.w := by omega
  have w1 : IntKind.i64.wrap (a.w + a.l0) = a.w + a.l0 := wrap_small (by omega) (by omega)
  have w2 : IntKind.i64.wrap (a.w + a.l0 + a.l1) = a.w + a.l0 + a.l1 := wrap_small (by omega) (by omega)
  have w3 : IntKind.i64.wrap (a.w + a.l0 + a.l1 + a.l2) = a.w + a.l0 + a.l1 + a.l2 := wrap_small (by omega) (by omega)
  have w4 : IntKind.i64.wrap (100 - (a.w + a.l0 + a.l1 + a.l2)) = 100 - (a.w + a.l0 + a.l1 + a.l2) := wrap_small (by omega) (by omega)
  have w5 : IntKind.i64.wrap ((100 - (a.w + a.l0 + a.l1 + a.l2)) * 4394000) = fr a := by rw [wrap_small (by omega) (by omega)]; rfl
  have w6 : IntKind.i64.wrap (0 - fr a) = -(fr a) := by unfold fr; rw [wrap_small (by omega) (by omega)]; omega
  by_cases mx : a.bx.tmod 16 = 0
  · by_cases my : a.by_.tmod 16 = 0
    · by_cases h1 : -(fr a) ≤ mnI a.bx a.by_
      · by_cases h2 : mxI a.bx a.by_ ≤ fr a
        · have hv := okT (ok_of p mx my h1 h2)
          rw [pc_eq]; simp +contextual -implicitDefEqProofs (maxSteps := 2000000) only [go_sem, ↓reduceIte, Nat.reduceAdd, Nat.reduceMul, Nat.reduceSub, Nat.reduceEqDiff, Nat.reduceLeDiff, Nat.reduceDiv, Nat.reduceMod, Nat.reduceBEq, Nat.reduceBNe, reduceCtorEq, Int.reduceLE, Int.reduceLT, Int.reduceToNat, Int.reduceNeg, Nat.reduceLT, Int.reduceEq, Int.reduceSub, Int.reduceAdd, Int.reduceMul, Nat.reducePow, Int.reduceBEq, Int.reduceBNe, Int.reduceMod, E_15, A15, A15_L0_eq, A15_L0b, hv, g0, g1, g2, g3, g4, g5, g6, g7, g8, g9, g10, g11, g12, g13, g14, g15, g16, w1, w2, w3, w4, w5, w6, mx, my, h1, h2, bne_self_eq_false]
        · have hv := okF (fun h => h2 (ok_inv h).2.2)
          rw [pc_eq]; simp +contextual -implicitDefEqProofs (maxSteps := 2000000) only [go_sem, ↓reduceIte, Nat.reduceAdd, Nat.reduceMul, Nat.reduceSub, Nat.reduceEqDiff, Nat.reduceLeDiff, Nat.reduceDiv, Nat.reduceMod, Nat.reduceBEq, Nat.reduceBNe, reduceCtorEq, Int.reduceLE, Int.reduceLT, Int.reduceToNat, Int.reduceNeg, Nat.reduceLT, Int.reduceEq, Int.reduceSub, Int.reduceAdd, Int.reduceMul, Nat.reducePow, Int.reduceBEq, Int.reduceBNe, Int.reduceMod, E_15, A15, A15_L0_eq, A15_L0b, hv, g0, g1, g2, g3, g4, g5, g6, g7, g8, g9, g10, g11, g12, g13, g14, g15, g16, w1, w2, w3, w4, w5, w6, mx, my, h1, h2, bne_self_eq_false]
      · have hv := okF (fun h => h1 (ok_inv h).2.1)
        rw [pc_eq]; simp +contextual -implicitDefEqProofs (maxSteps := 2000000) only [go_sem, ↓reduceIte, Nat.reduceAdd, Nat.reduceMul, Nat.reduceSub, Nat.reduceEqDiff, Nat.reduceLeDiff, Nat.reduceDiv, Nat.reduceMod, Nat.reduceBEq, Nat.reduceBNe, reduceCtorEq, Int.reduceLE, Int.reduceLT, Int.reduceToNat, Int.reduceNeg, Nat.reduceLT, Int.reduceEq, Int.reduceSub, Int.reduceAdd, Int.reduceMul, Nat.reducePow, Int.reduceBEq, Int.reduceBNe, Int.reduceMod, E_15, A15, A15_L0_eq, A15_L0b, hv, g0, g1, g2, g3, g4, g5, g6, g7, g8, g9, g10, g11, g12, g13, g14, g15, g16, w1, w2, w3, w4, w5, w6, mx, my, h1, bne_self_eq_false]
    · have hv := okF (fun h => my (ok_inv h).1.2)
      have my' : (a.by_.tmod 16 != 0) = true := by simpa using my
      rw [pc_eq]; simp +contextual -implicitDefEqProofs (maxSteps := 2000000) only [go_sem, ↓reduceIte, Nat.reduceAdd, Nat.reduceMul, Nat.reduceSub, Nat.reduceEqDiff, Nat.reduceLeDiff, Nat.reduceDiv, Nat.reduceMod, Nat.reduceBEq, Nat.reduceBNe, reduceCtorEq, Int.reduceLE, Int.reduceLT, Int.reduceToNat, Int.reduceNeg, Nat.reduceLT, Int.reduceEq, Int.reduceSub, Int.reduceAdd, Int.reduceMul, Nat.reducePow, Int.reduceBEq, Int.reduceBNe, Int.reduceMod, E_15, A15, A15_L0_eq, A15_L0b, hv, g0, g1, g2, g3, g4, g5, g6, g7, g8, g9, g10, g11, g12, g13, g14, g15, g16, w1, w2, w3, w4, w5, w6, mx, my, my', bne_self_eq_false]
  · have hv := okF (fun h => mx (ok_inv h).1.1)
    have mx' : (a.bx.tmod 16 != 0) = true := by simpa using mx
    rw [pc_eq]; simp +contextual -implicitDefEqProofs (maxSteps := 2000000) only [go_sem, ↓reduceIte, Nat.reduceAdd, Nat.reduceMul, Nat.reduceSub, Nat.reduceEqDiff, Nat.reduceLeDiff, Nat.reduceDiv, Nat.reduceMod, Nat.reduceBEq, Nat.reduceBNe, reduceCtorEq, Int.reduceLE, Int.reduceLT, Int.reduceToNat, Int.reduceNeg, Nat.reduceLT, Int.reduceEq, Int.reduceSub, Int.reduceAdd, Int.reduceMul, Nat.reducePow, Int.reduceBEq, Int.reduceBNe, Int.reduceMod, E_15, A15, A15_L0_eq, A15_L0b, hv, g0, g1, g2, g3, g4, g5, g6, g7, g8, g9, g10, g11, g12, g13, g14, g15, g16, w1, w2, w3, w4, w5, w6, mx, mx', bne_self_eq_false]
theorem c15 (a : Arm) : pc E 15 [av a] = some (.bool (okB a)) := by
  by_cases hp : Pre a
  · exact c15p a hp
  have hp2 : ∀ (P : Prop), (Pre a → P) → True := fun _ _ => trivial
  have hv : okB a = false := okF (fun h => hp ⟨h.l0, h.l1, h.l2, h.w, h.j0, h.j1, h.j2⟩)
  by_cases g0 : a.l0 < 1
  · rw [pc_eq]; simp +contextual -implicitDefEqProofs (maxSteps := 2000000) only [go_sem, ↓reduceIte, Nat.reduceAdd, Nat.reduceMul, Nat.reduceSub, Nat.reduceEqDiff, Nat.reduceLeDiff, Nat.reduceDiv, Nat.reduceMod, Nat.reduceBEq, Nat.reduceBNe, reduceCtorEq, Int.reduceLE, Int.reduceLT, Int.reduceToNat, Int.reduceNeg, Nat.reduceLT, Int.reduceEq, Int.reduceSub, Int.reduceAdd, Int.reduceMul, Nat.reducePow, Int.reduceBEq, Int.reduceBNe, Int.reduceMod, E_15, A15, A15_L0_eq, A15_L0b, hv, g0]
  · by_cases g1 : 40 < a.l0
    · rw [pc_eq]; simp +contextual -implicitDefEqProofs (maxSteps := 2000000) only [go_sem, ↓reduceIte, Nat.reduceAdd, Nat.reduceMul, Nat.reduceSub, Nat.reduceEqDiff, Nat.reduceLeDiff, Nat.reduceDiv, Nat.reduceMod, Nat.reduceBEq, Nat.reduceBNe, reduceCtorEq, Int.reduceLE, Int.reduceLT, Int.reduceToNat, Int.reduceNeg, Nat.reduceLT, Int.reduceEq, Int.reduceSub, Int.reduceAdd, Int.reduceMul, Nat.reducePow, Int.reduceBEq, Int.reduceBNe, Int.reduceMod, E_15, A15, A15_L0_eq, A15_L0b, hv, g0, g1]
    · by_cases g2 : a.lo0 < -17
      · rw [pc_eq]; simp +contextual -implicitDefEqProofs (maxSteps := 2000000) only [go_sem, ↓reduceIte, Nat.reduceAdd, Nat.reduceMul, Nat.reduceSub, Nat.reduceEqDiff, Nat.reduceLeDiff, Nat.reduceDiv, Nat.reduceMod, Nat.reduceBEq, Nat.reduceBNe, reduceCtorEq, Int.reduceLE, Int.reduceLT, Int.reduceToNat, Int.reduceNeg, Nat.reduceLT, Int.reduceEq, Int.reduceSub, Int.reduceAdd, Int.reduceMul, Nat.reducePow, Int.reduceBEq, Int.reduceBNe, Int.reduceMod, E_15, A15, A15_L0_eq, A15_L0b, hv, g0, g1, g2]
      · by_cases g3 : 18 < a.hi0
        · rw [pc_eq]; simp +contextual -implicitDefEqProofs (maxSteps := 2000000) only [go_sem, ↓reduceIte, Nat.reduceAdd, Nat.reduceMul, Nat.reduceSub, Nat.reduceEqDiff, Nat.reduceLeDiff, Nat.reduceDiv, Nat.reduceMod, Nat.reduceBEq, Nat.reduceBNe, reduceCtorEq, Int.reduceLE, Int.reduceLT, Int.reduceToNat, Int.reduceNeg, Nat.reduceLT, Int.reduceEq, Int.reduceSub, Int.reduceAdd, Int.reduceMul, Nat.reducePow, Int.reduceBEq, Int.reduceBNe, Int.reduceMod, E_15, A15, A15_L0_eq, A15_L0b, hv, g0, g1, g2, g3]
        · by_cases g4 : a.hi0 < a.lo0
          · rw [pc_eq]; simp +contextual -implicitDefEqProofs (maxSteps := 2000000) only [go_sem, ↓reduceIte, Nat.reduceAdd, Nat.reduceMul, Nat.reduceSub, Nat.reduceEqDiff, Nat.reduceLeDiff, Nat.reduceDiv, Nat.reduceMod, Nat.reduceBEq, Nat.reduceBNe, reduceCtorEq, Int.reduceLE, Int.reduceLT, Int.reduceToNat, Int.reduceNeg, Nat.reduceLT, Int.reduceEq, Int.reduceSub, Int.reduceAdd, Int.reduceMul, Nat.reducePow, Int.reduceBEq, Int.reduceBNe, Int.reduceMod, E_15, A15, A15_L0_eq, A15_L0b, hv, g0, g1, g2, g3, g4]
          · by_cases g5 : a.l1 < 1
            · rw [pc_eq]; simp +contextual -implicitDefEqProofs (maxSteps := 2000000) only [go_sem, ↓reduceIte, Nat.reduceAdd, Nat.reduceMul, Nat.reduceSub, Nat.reduceEqDiff, Nat.reduceLeDiff, Nat.reduceDiv, Nat.reduceMod, Nat.reduceBEq, Nat.reduceBNe, reduceCtorEq, Int.reduceLE, Int.reduceLT, Int.reduceToNat, Int.reduceNeg, Nat.reduceLT, Int.reduceEq, Int.reduceSub, Int.reduceAdd, Int.reduceMul, Nat.reducePow, Int.reduceBEq, Int.reduceBNe, Int.reduceMod, E_15, A15, A15_L0_eq, A15_L0b, hv, g0, g1, g2, g3, g4, g5]
            · by_cases g6 : 40 < a.l1
              · rw [pc_eq]; simp +contextual -implicitDefEqProofs (maxSteps := 2000000) only [go_sem, ↓reduceIte, Nat.reduceAdd, Nat.reduceMul, Nat.reduceSub, Nat.reduceEqDiff, Nat.reduceLeDiff, Nat.reduceDiv, Nat.reduceMod, Nat.reduceBEq, Nat.reduceBNe, reduceCtorEq, Int.reduceLE, Int.reduceLT, Int.reduceToNat, Int.reduceNeg, Nat.reduceLT, Int.reduceEq, Int.reduceSub, Int.reduceAdd, Int.reduceMul, Nat.reducePow, Int.reduceBEq, Int.reduceBNe, Int.reduceMod, E_15, A15, A15_L0_eq, A15_L0b, hv, g0, g1, g2, g3, g4, g5, g6]
              · by_cases g7 : a.lo1 < -17
                · rw [pc_eq]; simp +contextual -implicitDefEqProofs (maxSteps := 2000000) only [go_sem, ↓reduceIte, Nat.reduceAdd, Nat.reduceMul, Nat.reduceSub, Nat.reduceEqDiff, Nat.reduceLeDiff, Nat.reduceDiv, Nat.reduceMod, Nat.reduceBEq, Nat.reduceBNe, reduceCtorEq, Int.reduceLE, Int.reduceLT, Int.reduceToNat, Int.reduceNeg, Nat.reduceLT, Int.reduceEq, Int.reduceSub, Int.reduceAdd, Int.reduceMul, Nat.reducePow, Int.reduceBEq, Int.reduceBNe, Int.reduceMod, E_15, A15, A15_L0_eq, A15_L0b, hv, g0, g1, g2, g3, g4, g5, g6, g7]
                · by_cases g8 : 18 < a.hi1
                  · rw [pc_eq]; simp +contextual -implicitDefEqProofs (maxSteps := 2000000) only [go_sem, ↓reduceIte, Nat.reduceAdd, Nat.reduceMul, Nat.reduceSub, Nat.reduceEqDiff, Nat.reduceLeDiff, Nat.reduceDiv, Nat.reduceMod, Nat.reduceBEq, Nat.reduceBNe, reduceCtorEq, Int.reduceLE, Int.reduceLT, Int.reduceToNat, Int.reduceNeg, Nat.reduceLT, Int.reduceEq, Int.reduceSub, Int.reduceAdd, Int.reduceMul, Nat.reducePow, Int.reduceBEq, Int.reduceBNe, Int.reduceMod, E_15, A15, A15_L0_eq, A15_L0b, hv, g0, g1, g2, g3, g4, g5, g6, g7, g8]
                  · by_cases g9 : a.hi1 < a.lo1
                    · rw [pc_eq]; simp +contextual -implicitDefEqProofs (maxSteps := 2000000) only [go_sem, ↓reduceIte, Nat.reduceAdd, Nat.reduceMul, Nat.reduceSub, Nat.reduceEqDiff, Nat.reduceLeDiff, Nat.reduceDiv, Nat.reduceMod, Nat.reduceBEq, Nat.reduceBNe, reduceCtorEq, Int.reduceLE, Int.reduceLT, Int.reduceToNat, Int.reduceNeg, Nat.reduceLT, Int.reduceEq, Int.reduceSub, Int.reduceAdd, Int.reduceMul, Nat.reducePow, Int.reduceBEq, Int.reduceBNe, Int.reduceMod, E_15, A15, A15_L0_eq, A15_L0b, hv, g0, g1, g2, g3, g4, g5, g6, g7, g8, g9]
                    · by_cases g10 : a.l2 < 1
                      · rw [pc_eq]; simp +contextual -implicitDefEqProofs (maxSteps := 2000000) only [go_sem, ↓reduceIte, Nat.reduceAdd, Nat.reduceMul, Nat.reduceSub, Nat.reduceEqDiff, Nat.reduceLeDiff, Nat.reduceDiv, Nat.reduceMod, Nat.reduceBEq, Nat.reduceBNe, reduceCtorEq, Int.reduceLE, Int.reduceLT, Int.reduceToNat, Int.reduceNeg, Nat.reduceLT, Int.reduceEq, Int.reduceSub, Int.reduceAdd, Int.reduceMul, Nat.reducePow, Int.reduceBEq, Int.reduceBNe, Int.reduceMod, E_15, A15, A15_L0_eq, A15_L0b, hv, g0, g1, g2, g3, g4, g5, g6, g7, g8, g9, g10]
                      · by_cases g11 : 40 < a.l2
                        · rw [pc_eq]; simp +contextual -implicitDefEqProofs (maxSteps := 2000000) only [go_sem, ↓reduceIte, Nat.reduceAdd, Nat.reduceMul, Nat.reduceSub, Nat.reduceEqDiff, Nat.reduceLeDiff, Nat.reduceDiv, Nat.reduceMod, Nat.reduceBEq, Nat.reduceBNe, reduceCtorEq, Int.reduceLE, Int.reduceLT, Int.reduceToNat, Int.reduceNeg, Nat.reduceLT, Int.reduceEq, Int.reduceSub, Int.reduceAdd, Int.reduceMul, Nat.reducePow, Int.reduceBEq, Int.reduceBNe, Int.reduceMod, E_15, A15, A15_L0_eq, A15_L0b, hv, g0, g1, g2, g3, g4, g5, g6, g7, g8, g9, g10, g11]
                        · by_cases g12 : a.lo2 < -17
                          · rw [pc_eq]; simp +contextual -implicitDefEqProofs (maxSteps := 2000000) only [go_sem, ↓reduceIte, Nat.reduceAdd, Nat.reduceMul, Nat.reduceSub, Nat.reduceEqDiff, Nat.reduceLeDiff, Nat.reduceDiv, Nat.reduceMod, Nat.reduceBEq, Nat.reduceBNe, reduceCtorEq, Int.reduceLE, Int.reduceLT, Int.reduceToNat, Int.reduceNeg, Nat.reduceLT, Int.reduceEq, Int.reduceSub, Int.reduceAdd, Int.reduceMul, Nat.reducePow, Int.reduceBEq, Int.reduceBNe, Int.reduceMod, E_15, A15, A15_L0_eq, A15_L0b, hv, g0, g1, g2, g3, g4, g5, g6, g7, g8, g9, g10, g11, g12]
                          · by_cases g13 : 18 < a.hi2
                            · rw [pc_eq]; simp +contextual -implicitDefEqProofs (maxSteps := 2000000) only [go_sem, ↓reduceIte, Nat.reduceAdd, Nat.reduceMul, Nat.reduceSub, Nat.reduceEqDiff, Nat.reduceLeDiff, Nat.reduceDiv, Nat.reduceMod, Nat.reduceBEq, Nat.reduceBNe, reduceCtorEq, Int.reduceLE, Int.reduceLT, Int.reduceToNat, Int.reduceNeg, Nat.reduceLT, Int.reduceEq, Int.reduceSub, Int.reduceAdd, Int.reduceMul, Nat.reducePow, Int.reduceBEq, Int.reduceBNe, Int.reduceMod, E_15, A15, A15_L0_eq, A15_L0b, hv, g0, g1, g2, g3, g4, g5, g6, g7, g8, g9, g10, g11, g12, g13]
                            · by_cases g14 : a.hi2 < a.lo2
                              · rw [pc_eq]; simp +contextual -implicitDefEqProofs (maxSteps := 2000000) only [go_sem, ↓reduceIte, Nat.reduceAdd, Nat.reduceMul, Nat.reduceSub, Nat.reduceEqDiff, Nat.reduceLeDiff, Nat.reduceDiv, Nat.reduceMod, Nat.reduceBEq, Nat.reduceBNe, reduceCtorEq, Int.reduceLE, Int.reduceLT, Int.reduceToNat, Int.reduceNeg, Nat.reduceLT, Int.reduceEq, Int.reduceSub, Int.reduceAdd, Int.reduceMul, Nat.reducePow, Int.reduceBEq, Int.reduceBNe, Int.reduceMod, E_15, A15, A15_L0_eq, A15_L0b, hv, g0, g1, g2, g3, g4, g5, g6, g7, g8, g9, g10, g11, g12, g13, g14]
                              · by_cases g15 : a.w < 1
                                · rw [pc_eq]; simp +contextual -implicitDefEqProofs (maxSteps := 2000000) only [go_sem, ↓reduceIte, Nat.reduceAdd, Nat.reduceMul, Nat.reduceSub, Nat.reduceEqDiff, Nat.reduceLeDiff, Nat.reduceDiv, Nat.reduceMod, Nat.reduceBEq, Nat.reduceBNe, reduceCtorEq, Int.reduceLE, Int.reduceLT, Int.reduceToNat, Int.reduceNeg, Nat.reduceLT, Int.reduceEq, Int.reduceSub, Int.reduceAdd, Int.reduceMul, Nat.reducePow, Int.reduceBEq, Int.reduceBNe, Int.reduceMod, E_15, A15, A15_L0_eq, A15_L0b, hv, g0, g1, g2, g3, g4, g5, g6, g7, g8, g9, g10, g11, g12, g13, g14, g15]
                                · by_cases g16 : 4 < a.w
                                  · rw [pc_eq]; simp +contextual -implicitDefEqProofs (maxSteps := 2000000) only [go_sem, ↓reduceIte, Nat.reduceAdd, Nat.reduceMul, Nat.reduceSub, Nat.reduceEqDiff, Nat.reduceLeDiff, Nat.reduceDiv, Nat.reduceMod, Nat.reduceBEq, Nat.reduceBNe, reduceCtorEq, Int.reduceLE, Int.reduceLT, Int.reduceToNat, Int.reduceNeg, Nat.reduceLT, Int.reduceEq, Int.reduceSub, Int.reduceAdd, Int.reduceMul, Nat.reducePow, Int.reduceBEq, Int.reduceBNe, Int.reduceMod, E_15, A15, A15_L0_eq, A15_L0b, hv, g0, g1, g2, g3, g4, g5, g6, g7, g8, g9, g10, g11, g12, g13, g14, g15, g16]
                                  · exfalso; exact hp ⟨by omega, by omega, by omega, by omega, by omega, by omega, by omega⟩
end Go.Proofs.Ytnecdcaaknhgpaa

namespace Go.Proofs.Ytnecdcaaknhgpaa
set_option maxRecDepth 100000
set_option maxHeartbeats 4000000
set_option linter.unusedSimpArgs false
set_option linter.unusedVariables false
open Go Go.Zv
def farB (a : Arm) : Bool := decide (1000000000 < a.bx) || (decide (a.bx < -1000000000) || (decide (1000000000 < a.by_) || decide (a.by_ < -1000000000)))
theorem c46 (a : Arm) : pc E 46 [av a] = some (.bool (farB a)) := by
  unfold farB
  by_cases g0 : 1000000000 < a.bx
  · rw [pc_eq]; simp +contextual -implicitDefEqProofs (maxSteps := 2000000) only [go_sem, ↓reduceIte, Nat.reduceAdd, Nat.reduceMul, Nat.reduceSub, Nat.reduceEqDiff, Nat.reduceLeDiff, Nat.reduceDiv, Nat.reduceMod, Nat.reduceBEq, Nat.reduceBNe, reduceCtorEq, Int.reduceLE, Int.reduceLT, Int.reduceToNat, Int.reduceNeg, Nat.reduceLT, Int.reduceEq, Int.reduceSub, Int.reduceAdd, Int.reduceMul, Nat.reducePow, Int.reduceBEq, Int.reduceBNe, Int.reduceMod, E_46, A46, g0]
  · by_cases g1 : a.bx < -1000000000
    · rw [pc_eq]; simp +contextual -implicitDefEqProofs (maxSteps := 2000000) only [go_sem, ↓reduceIte, Nat.reduceAdd, Nat.reduceMul, Nat.reduceSub, Nat.reduceEqDiff, Nat.reduceLeDiff, Nat.reduceDiv, Nat.reduceMod, Nat.reduceBEq, Nat.reduceBNe, reduceCtorEq, Int.reduceLE, Int.reduceLT, Int.reduceToNat, Int.reduceNeg, Nat.reduceLT, Int.reduceEq, Int.reduceSub, Int.reduceAdd, Int.reduceMul, Nat.reducePow, Int.reduceBEq, Int.reduceBNe, Int.reduceMod, E_46, A46, g0, g1]
    · by_cases g2 : 1000000000 < a.by_
      · rw [pc_eq]; simp +contextual -implicitDefEqProofs (maxSteps := 2000000) only [go_sem, ↓reduceIte, Nat.reduceAdd, Nat.reduceMul, Nat.reduceSub, Nat.reduceEqDiff, Nat.reduceLeDiff, Nat.reduceDiv, Nat.reduceMod, Nat.reduceBEq, Nat.reduceBNe, reduceCtorEq, Int.reduceLE, Int.reduceLT, Int.reduceToNat, Int.reduceNeg, Nat.reduceLT, Int.reduceEq, Int.reduceSub, Int.reduceAdd, Int.reduceMul, Nat.reducePow, Int.reduceBEq, Int.reduceBNe, Int.reduceMod, E_46, A46, g0, g1, g2]
      · rw [pc_eq]; simp +contextual -implicitDefEqProofs (maxSteps := 2000000) only [go_sem, ↓reduceIte, Nat.reduceAdd, Nat.reduceMul, Nat.reduceSub, Nat.reduceEqDiff, Nat.reduceLeDiff, Nat.reduceDiv, Nat.reduceMod, Nat.reduceBEq, Nat.reduceBNe, reduceCtorEq, Int.reduceLE, Int.reduceLT, Int.reduceToNat, Int.reduceNeg, Nat.reduceLT, Int.reduceEq, Int.reduceSub, Int.reduceAdd, Int.reduceMul, Nat.reducePow, Int.reduceBEq, Int.reduceBNe, Int.reduceMod, E_46, A46, g0, g1, g2]
def ab (n : Int) : Int := if n < 0 then -n else n
theorem c47 (n : Int) (h : -2000000000 ≤ n ∧ n ≤ 2000000000) : pc E 47 [.int .i64 n] = some (.int .i64 (ab n)) := by
  have w : IntKind.i64.wrap (0 - n) = -n := by rw [wrap_small (by omega) (by omega)]; omega
  unfold ab
  by_cases h : n < 0
  · rw [pc_eq]; simp +contextual -implicitDefEqProofs (maxSteps := 2000000) only [go_sem, ↓reduceIte, Nat.reduceAdd, Nat.reduceMul, Nat.reduceSub, Nat.reduceEqDiff, Nat.reduceLeDiff, Nat.reduceDiv, Nat.reduceMod, Nat.reduceBEq, Nat.reduceBNe, reduceCtorEq, Int.reduceLE, Int.reduceLT, Int.reduceToNat, Int.reduceNeg, Nat.reduceLT, Int.reduceEq, Int.reduceSub, Int.reduceAdd, Int.reduceMul, Nat.reducePow, Int.reduceBEq, Int.reduceBNe, Int.reduceMod, E_47, A47, h, w]
  · rw [pc_eq]; simp +contextual -implicitDefEqProofs (maxSteps := 2000000) only [go_sem, ↓reduceIte, Nat.reduceAdd, Nat.reduceMul, Nat.reduceSub, Nat.reduceEqDiff, Nat.reduceLeDiff, Nat.reduceDiv, Nat.reduceMod, Nat.reduceBEq, Nat.reduceBNe, reduceCtorEq, Int.reduceLE, Int.reduceLT, Int.reduceToNat, Int.reduceNeg, Nat.reduceLT, Int.reduceEq, Int.reduceSub, Int.reduceAdd, Int.reduceMul, Nat.reducePow, Int.reduceBEq, Int.reduceBNe, Int.reduceMod, E_47, A47, h]
theorem ok_inv2 {a : Arm} (h : OKa a) : farB a = false ∧ ab a.bx + (a.w + a.l0 + a.l1 + a.l2) * 4394000 ≤ 439400000 ∧ ab a.by_ + (a.w + a.l0 + a.l1 + a.l2) * 4394000 ≤ 439400000 := by
  obtain ⟨k1, k2, k3, k4, k5, k6, k7, k8, k9, _, _⟩ := h
  refine ⟨?_, ?_, ?_⟩
  · unfold farB; simp only [Bool.or_eq_false_iff, decide_eq_false_iff_not]; omega
  · unfold ab; split <;> omega
  · unfold ab; split <;> omega
theorem ok_of2 {a : Arm} (h : Pre a) (mx : a.bx.tmod 16 = 0) (my : a.by_.tmod 16 = 0) (h1 : ab a.bx + (a.w + a.l0 + a.l1 + a.l2) * 4394000 ≤ 439400000) (h2 : ab a.by_ + (a.w + a.l0 + a.l1 + a.l2) * 4394000 ≤ 439400000) : OKa a := by
  unfold ab at h1 h2
  exact ⟨h.l0, h.l1, h.l2, h.w, h.j0, h.j1, h.j2, by split at h1 <;> omega, by split at h2 <;> omega, mx, my⟩
theorem c16p (a : Arm) (h : Pre a) (hf : farB a = false) (mx : a.bx.tmod 16 = 0) (my : a.by_.tmod 16 = 0) : pc E 16 [av a] = some (.bool (okB a)) := by
  have hf2 := hf
  unfold farB at hf2
  simp only [Bool.or_eq_false_iff, decide_eq_false_iff_not] at hf2
  have h46 := c46 a
  rw [hf] at h46
  have hx := c47 a.bx (by omega)
  have hy := c47 a.by_ (by omega)
  have bx : 0 ≤ ab a.bx ∧ ab a.bx ≤ 1000000000 := by unfold ab; split <;> omega
  have by_ : 0 ≤ ab a.by_ ∧ ab a.by_ ≤ 1000000000 := by unfold ab; split <;> omega
  obtain ⟨l0, l1, l2, w, j0, j1, j2⟩ := h
  have p : Pre a := ⟨l0, l1, l2, w, j0, j1, j2⟩
  have g0 : ¬ a.l0 < 1 := by omega
  have g1 : ¬ 40 < a.l0 := by omega
  have g2 : ¬ a.lo0 < -17 := by omega
  have g2' : ¬ 18 < a.lo0 := by omega
  have g3 : ¬ 18 < a.hi0 := by omega
  have g3' : ¬ a.hi0 < -17 := by omega
  have g4 : ¬ a.hi0 < a.lo0 := by omega
  have g5 : ¬ a.l1 < 1 := by omega
  have g6 : ¬ 40 < a.l1 := by omega
  have g7 : ¬ a.lo1 < -17 := by omega
  have g7' : ¬ 18 < a.lo1 := by omega
  have g8 : ¬ 18 < a.hi1 := by omega
  have g8' : ¬ a.hi1 < -17 := by omega
  have g9 : ¬ a.hi1 < a.lo1 := by omega
  have g10 : ¬ a.l2 < 1 := by omega
  have g11 : ¬ 40 < a.l2 := by omega
  have g12 : ¬ a.lo2 < -17 := by omega
  have g12' : ¬ 18 < a.lo2 := by omega
  have g13 : ¬ 18 < a.hi2 := by omega
  have g13' : ¬ a.hi2 < -17 := by omega
  have g14 : ¬ a.hi2 < a.lo2 := by omega
  have g15 : ¬ a.w < 1 := by omega
  have g16 : ¬ 4 < a.w := by omega
  have w1 : IntKind.i64.wrap (a.w + a.l0) = a.w + a.l0 := wrap_small (by omega) (by omega)
  have w2 : IntKind.i64.wrap (a.w + a.l0 + a.l1) = a.w + a.l0 + a.l1 := wrap_small (by omega) (by omega)
  have w3 : IntKind.i64.wrap (a.w + a.l0 + a.l1 + a.l2) = a.w + a.l0 + a.l1 + a.l2 := wrap_small (by omega) (by omega)
  have w4 : IntKind.i64.wrap ((a.w + a.l0 + a.l1 + a.l2) * 4394000) = (a.w + a.l0 + a.l1 + a.l2) * 4394000 := wrap_small (by omega) (by omega)
  have w5 : IntKind.i64.wrap (ab a.bx + (a.w + a.l0 + a.l1 + a.l2) * 4394000) = ab a.bx + (a.w + a.l0 + a.l1 + a.l2) * 4394000 := wrap_small (by omega) (by omega)
  have w6 : IntKind.i64.wrap (ab a.by_ + (a.w + a.l0 + a.l1 + a.l2) * 4394000) = ab a.by_ + (a.w + a.l0 + a.l1 + a.l2) * 4394000 := wrap_small (by omega) (by omega)
  by_cases h1 : ab a.bx + (a.w + a.l0 + a.l1 + a.l2) * 4394000 ≤ 439400000
  · by_cases h2 : ab a.by_ + (a.w + a.l0 + a.l1 + a.l2) * 4394000 ≤ 439400000
    · have hv := okT (ok_of2 p mx my h1 h2)
      rw [pc_eq]; simp +contextual -implicitDefEqProofs (maxSteps := 2000000) only [go_sem, ↓reduceIte, Nat.reduceAdd, Nat.reduceMul, Nat.reduceSub, Nat.reduceEqDiff, Nat.reduceLeDiff, Nat.reduceDiv, Nat.reduceMod, Nat.reduceBEq, Nat.reduceBNe, reduceCtorEq, Int.reduceLE, Int.reduceLT, Int.reduceToNat, Int.reduceNeg, Nat.reduceLT, Int.reduceEq, Int.reduceSub, Int.reduceAdd, Int.reduceMul, Nat.reducePow, Int.reduceBEq, Int.reduceBNe, Int.reduceMod, E_16, A16, A16_L0_eq, A16_L0b, hv, h46, hx, hy, g0, g1, g2, g2', g3, g3', g4, g5, g6, g7, g7', g8, g8', g9, g10, g11, g12, g12', g13, g13', g14, g15, g16, w1, w2, w3, w4, w5, w6, mx, my, h1, h2, bne_self_eq_false]
    · have hv := okF (fun h => h2 (ok_inv2 h).2.2)
      rw [pc_eq]; simp +contextual -implicitDefEqProofs (maxSteps := 2000000) only [go_sem, ↓reduceIte, Nat.reduceAdd, Nat.reduceMul, Nat.reduceSub, Nat.reduceEqDiff, Nat.reduceLeDiff, Nat.reduceDiv, Nat.reduceMod, Nat.reduceBEq, Nat.reduceBNe, reduceCtorEq, Int.reduceLE, Int.reduceLT, Int.reduceToNat, Int.reduceNeg, Nat.reduceLT, Int.reduceEq, Int.reduceSub, Int.reduceAdd, Int.reduceMul, Nat.reducePow, Int.reduceBEq, Int.reduceBNe, Int.reduceMod, E_16, A16, A16_L0_eq, A16_L0b, hv, h46, hx, hy, g0, g1, g2, g2', g3, g3', g4, g5, g6, g7, g7', g8, g8', g9, g10, g11, g12, g12', g13, g13', g14, g15, g16, w1, w2, w3, w4, w5, w6, mx, my, h1, h2, bne_self_eq_false]
  · have hv := okF (fun h => h1 (ok_inv2 h).2.1)
    rw [pc_eq]; simp +contextual -implicitDefEqProofs (maxSteps := 2000000) only [go_sem, ↓reduceIte, Nat.reduceAdd, Nat.reduceMul, Nat.reduceSub, Nat.reduceEqDiff, Nat.reduceLeDiff, Nat.reduceDiv, Nat.reduceMod, Nat.reduceBEq, Nat.reduceBNe, reduceCtorEq, Int.reduceLE, Int.reduceLT, Int.reduceToNat, Int.reduceNeg, Nat.reduceLT, Int.reduceEq, Int.reduceSub, Int.reduceAdd, Int.reduceMul, Nat.reducePow, Int.reduceBEq, Int.reduceBNe, Int.reduceMod, E_16, A16, A16_L0_eq, A16_L0b, hv, h46, hx, hy, g0, g1, g2, g2', g3, g3', g4, g5, g6, g7, g7', g8, g8', g9, g10, g11, g12, g12', g13, g13', g14, g15, g16, w1, w2, w3, w4, w5, w6, mx, my, h1, bne_self_eq_false]
theorem c16 (a : Arm) : pc E 16 [av a] = some (.bool (okB a)) := by
  have h46 := c46 a
  cases hf : farB a with
  | true =>
    have hv := okF (fun h => by have := (ok_inv2 h).1; rw [hf] at this; cases this)
    rw [hf] at h46
    rw [pc_eq]; simp +contextual -implicitDefEqProofs (maxSteps := 2000000) only [go_sem, ↓reduceIte, Nat.reduceAdd, Nat.reduceMul, Nat.reduceSub, Nat.reduceEqDiff, Nat.reduceLeDiff, Nat.reduceDiv, Nat.reduceMod, Nat.reduceBEq, Nat.reduceBNe, reduceCtorEq, Int.reduceLE, Int.reduceLT, Int.reduceToNat, Int.reduceNeg, Nat.reduceLT, Int.reduceEq, Int.reduceSub, Int.reduceAdd, Int.reduceMul, Nat.reducePow, Int.reduceBEq, Int.reduceBNe, Int.reduceMod, E_16, A16, hv, h46]
  | false =>
    rw [hf] at h46
    by_cases mx : a.bx.tmod 16 = 0
    · by_cases my : a.by_.tmod 16 = 0
      · by_cases hp : Pre a
        · exact c16p a hp hf mx my
        · have hv : okB a = false := okF (fun h => hp ⟨h.l0, h.l1, h.l2, h.w, h.j0, h.j1, h.j2⟩)
          by_cases g15 : a.w < 1
          · rw [pc_eq]; simp +contextual -implicitDefEqProofs (maxSteps := 2000000) only [go_sem, ↓reduceIte, Nat.reduceAdd, Nat.reduceMul, Nat.reduceSub, Nat.reduceEqDiff, Nat.reduceLeDiff, Nat.reduceDiv, Nat.reduceMod, Nat.reduceBEq, Nat.reduceBNe, reduceCtorEq, Int.reduceLE, Int.reduceLT, Int.reduceToNat, Int.reduceNeg, Nat.reduceLT, Int.reduceEq, Int.reduceSub, Int.reduceAdd, Int.reduceMul, Nat.reducePow, Int.reduceBEq, Int.reduceBNe, Int.reduceMod, E_16, A16, A16_L0_eq, A16_L0b, hv, h46, mx, my, bne_self_eq_false, g15]
          · by_cases g16 : 4 < a.w
            · rw [pc_eq]; simp +contextual -implicitDefEqProofs (maxSteps := 2000000) only [go_sem, ↓reduceIte, Nat.reduceAdd, Nat.reduceMul, Nat.reduceSub, Nat.reduceEqDiff, Nat.reduceLeDiff, Nat.reduceDiv, Nat.reduceMod, Nat.reduceBEq, Nat.reduceBNe, reduceCtorEq, Int.reduceLE, Int.reduceLT, Int.reduceToNat, Int.reduceNeg, Nat.reduceLT, Int.reduceEq, Int.reduceSub, Int.reduceAdd, Int.reduceMul, Nat.reducePow, Int.reduceBEq, Int.reduceBNe, Int.reduceMod, E_16, A16, A16_L0_eq, A16_L0b, hv, h46, mx, my, bne_self_eq_false, g15, g16]
            · by_cases g0 : a.l0 < 1
              · rw [pc_eq]; simp +contextual -implicitDefEqProofs (maxSteps := 2000000) only [go_sem, ↓reduceIte, Nat.reduceAdd, Nat.reduceMul, Nat.reduceSub, Nat.reduceEqDiff, Nat.reduceLeDiff, Nat.reduceDiv, Nat.reduceMod, Nat.reduceBEq, Nat.reduceBNe, reduceCtorEq, Int.reduceLE, Int.reduceLT, Int.reduceToNat, Int.reduceNeg, Nat.reduceLT, Int.reduceEq, Int.reduceSub, Int.reduceAdd, Int.reduceMul, Nat.reducePow, Int.reduceBEq, Int.reduceBNe, Int.reduceMod, E_16, A16, A16_L0_eq, A16_L0b, hv, h46, mx, my, bne_self_eq_false, g15, g16, g0]
              · by_cases g1 : 40 < a.l0
                · rw [pc_eq]; simp +contextual -implicitDefEqProofs (maxSteps := 2000000) only [go_sem, ↓reduceIte, Nat.reduceAdd, Nat.reduceMul, Nat.reduceSub, Nat.reduceEqDiff, Nat.reduceLeDiff, Nat.reduceDiv, Nat.reduceMod, Nat.reduceBEq, Nat.reduceBNe, reduceCtorEq, Int.reduceLE, Int.reduceLT, Int.reduceToNat, Int.reduceNeg, Nat.reduceLT, Int.reduceEq, Int.reduceSub, Int.reduceAdd, Int.reduceMul, Nat.reducePow, Int.reduceBEq, Int.reduceBNe, Int.reduceMod, E_16, A16, A16_L0_eq, A16_L0b, hv, h46, mx, my, bne_self_eq_false, g15, g16, g0, g1]
                · by_cases g2 : a.lo0 < -17
                  · rw [pc_eq]; simp +contextual -implicitDefEqProofs (maxSteps := 2000000) only [go_sem, ↓reduceIte, Nat.reduceAdd, Nat.reduceMul, Nat.reduceSub, Nat.reduceEqDiff, Nat.reduceLeDiff, Nat.reduceDiv, Nat.reduceMod, Nat.reduceBEq, Nat.reduceBNe, reduceCtorEq, Int.reduceLE, Int.reduceLT, Int.reduceToNat, Int.reduceNeg, Nat.reduceLT, Int.reduceEq, Int.reduceSub, Int.reduceAdd, Int.reduceMul, Nat.reducePow, Int.reduceBEq, Int.reduceBNe, Int.reduceMod, E_16, A16, A16_L0_eq, A16_L0b, hv, h46, mx, my, bne_self_eq_false, g15, g16, g0, g1, g2]
                  · by_cases g2' : 18 < a.lo0
                    · rw [pc_eq]; simp +contextual -implicitDefEqProofs (maxSteps := 2000000) only [go_sem, ↓reduceIte, Nat.reduceAdd, Nat.reduceMul, Nat.reduceSub, Nat.reduceEqDiff, Nat.reduceLeDiff, Nat.reduceDiv, Nat.reduceMod, Nat.reduceBEq, Nat.reduceBNe, reduceCtorEq, Int.reduceLE, Int.reduceLT, Int.reduceToNat, Int.reduceNeg, Nat.reduceLT, Int.reduceEq, Int.reduceSub, Int.reduceAdd, Int.reduceMul, Nat.reducePow, Int.reduceBEq, Int.reduceBNe, Int.reduceMod, E_16, A16, A16_L0_eq, A16_L0b, hv, h46, mx, my, bne_self_eq_false, g15, g16, g0, g1, g2, g2']
                    · by_cases g3' : a.hi0 < -17
                      · rw [pc_eq]; simp +contextual -implicitDefEqProofs (maxSteps := 2000000) only [go_sem, ↓reduceIte, Nat.reduceAdd, Nat.reduceMul, Nat.reduceSub, Nat.reduceEqDiff, Nat.reduceLeDiff, Nat.reduceDiv, Nat.reduceMod, Nat.reduceBEq, Nat.reduceBNe, reduceCtorEq, Int.reduceLE, Int.reduceLT, Int.reduceToNat, Int.reduceNeg, Nat.reduceLT, Int.reduceEq, Int.reduceSub, Int.reduceAdd, Int.reduceMul, Nat.reducePow, Int.reduceBEq, Int.reduceBNe, Int.reduceMod, E_16, A16, A16_L0_eq, A16_L0b, hv, h46, mx, my, bne_self_eq_false, g15, g16, g0, g1, g2, g2', g3']
                      · by_cases g3 : 18 < a.hi0
                        · rw [pc_eq]; simp +contextual -implicitDefEqProofs (maxSteps := 2000000) only [go_sem, ↓reduceIte, Nat.reduceAdd, Nat.reduceMul, Nat.reduceSub, Nat.reduceEqDiff, Nat.reduceLeDiff, Nat.reduceDiv, Nat.reduceMod, Nat.reduceBEq, Nat.reduceBNe, reduceCtorEq, Int.reduceLE, Int.reduceLT, Int.reduceToNat, Int.reduceNeg, Nat.reduceLT, Int.reduceEq, Int.reduceSub, Int.reduceAdd, Int.reduceMul, Nat.reducePow, Int.reduceBEq, Int.reduceBNe, Int.reduceMod, E_16, A16, A16_L0_eq, A16_L0b, hv, h46, mx, my, bne_self_eq_false, g15, g16, g0, g1, g2, g2', g3', g3]
                        · by_cases g4 : a.hi0 < a.lo0
                          · rw [pc_eq]; simp +contextual -implicitDefEqProofs (maxSteps := 2000000) only [go_sem, ↓reduceIte, Nat.reduceAdd, Nat.reduceMul, Nat.reduceSub, Nat.reduceEqDiff, Nat.reduceLeDiff, Nat.reduceDiv, Nat.reduceMod, Nat.reduceBEq, Nat.reduceBNe, reduceCtorEq, Int.reduceLE, Int.reduceLT, Int.reduceToNat, Int.reduceNeg, Nat.reduceLT, Int.reduceEq, Int.reduceSub, Int.reduceAdd, Int.reduceMul, Nat.reducePow, Int.reduceBEq, Int.reduceBNe, Int.reduceMod, E_16, A16, A16_L0_eq, A16_L0b, hv, h46, mx, my, bne_self_eq_false, g15, g16, g0, g1, g2, g2', g3', g3, g4]
                          · by_cases g5 : a.l1 < 1
                            · rw [pc_eq]; simp +contextual -implicitDefEqProofs (maxSteps := 2000000) only [go_sem, ↓reduceIte, Nat.reduceAdd, Nat.reduceMul, Nat.reduceSub, Nat.reduceEqDiff, Nat.reduceLeDiff, Nat.reduceDiv, Nat.reduceMod, Nat.reduceBEq, Nat.reduceBNe, reduceCtorEq, Int.reduceLE, Int.reduceLT, Int.reduceToNat, Int.reduceNeg, Nat.reduceLT, Int.reduceEq, Int.reduceSub, Int.reduceAdd, Int.reduceMul, Nat.reducePow, Int.reduceBEq, Int.reduceBNe, Int.reduceMod, E_16, A16, A16_L0_eq, A16_L0b, hv, h46, mx, my, bne_self_eq_false, g15, g16, g0, g1, g2, g2', g3', g3, g4, g5]
                            · by_cases g6 : 40 < a.l1
                              · rw [pc_eq]; simp +contextual -implicitDefEqProofs (maxSteps := 2000000) only [go_sem, ↓reduceIte, Nat.reduceAdd, Nat.reduceMul, Nat.reduceSub, Nat.reduceEqDiff, Nat.reduceLeDiff, Nat.reduceDiv, Nat.reduceMod, Nat.reduceBEq, Nat.reduceBNe, reduceCtorEq, Int.reduceLE, Int.reduceLT, Int.reduceToNat, Int.reduceNeg, Nat.reduceLT, Int.reduceEq, Int.reduceSub, Int.reduceAdd, Int.reduceMul, Nat.reducePow, Int.reduceBEq, Int.reduceBNe, Int.reduceMod, E_16, A16, A16_L0_eq, A16_L0b, hv, h46, mx, my, bne_self_eq_false, g15, g16, g0, g1, g2, g2', g3', g3, g4, g5, g6]
                              · by_cases g7 : a.lo1 < -17
                                · rw [pc_eq]; simp +contextual -implicitDefEqProofs (maxSteps := 2000000) only [go_sem, ↓reduceIte, Nat.reduceAdd, Nat.reduceMul, Nat.reduceSub, Nat.reduceEqDiff, Nat.reduceLeDiff, Nat.reduceDiv, Nat.reduceMod, Nat.reduceBEq, Nat.reduceBNe, reduceCtorEq, Int.reduceLE, Int.reduceLT, Int.reduceToNat, Int.reduceNeg, Nat.reduceLT, Int.reduceEq, Int.reduceSub, Int.reduceAdd, Int.reduceMul, Nat.reducePow, Int.reduceBEq, Int.reduceBNe, Int.reduceMod, E_16, A16, A16_L0_eq, A16_L0b, hv, h46, mx, my, bne_self_eq_false, g15, g16, g0, g1, g2, g2', g3', g3, g4, g5, g6, g7]
                                · by_cases g7' : 18 < a.lo1
                                  · rw [pc_eq]; simp +contextual -implicitDefEqProofs (maxSteps := 2000000) only [go_sem, ↓reduceIte, Nat.reduceAdd, Nat.reduceMul, Nat.reduceSub, Nat.reduceEqDiff, Nat.reduceLeDiff, Nat.reduceDiv, Nat.reduceMod, Nat.reduceBEq, Nat.reduceBNe, reduceCtorEq, Int.reduceLE, Int.reduceLT, Int.reduceToNat, Int.reduceNeg, Nat.reduceLT, Int.reduceEq, Int.reduceSub, Int.reduceAdd, Int.reduceMul, Nat.reducePow, Int.reduceBEq, Int.reduceBNe, Int.reduceMod, E_16, A16, A16_L0_eq, A16_L0b, hv, h46, mx, my, bne_self_eq_false, g15, g16, g0, g1, g2, g2', g3', g3, g4, g5, g6, g7, g7']
                                  · by_cases g8' : a.hi1 < -17
                                    · rw [pc_eq]; simp +contextual -implicitDefEqProofs (maxSteps := 2000000) only [go_sem, ↓reduceIte, Nat.reduceAdd, Nat.reduceMul, Nat.reduceSub, Nat.reduceEqDiff, Nat.reduceLeDiff, Nat.reduceDiv, Nat.reduceMod, Nat.reduceBEq, Nat.reduceBNe, reduceCtorEq, Int.reduceLE, Int.reduceLT, Int.reduceToNat, Int.reduceNeg, Nat.reduceLT, Int.reduceEq, Int.reduceSub, Int.reduceAdd, Int.reduceMul, Nat.reducePow, Int.reduceBEq, Int.reduceBNe, Int.reduceMod, E_16, A16, A16_L0_eq, A16_L0b, hv, h46, mx, my, bne_self_eq_false, g15, g16, g0, g1, g2, g2', g3', g3, g4, g5, g6, g7, g7', g8']
                                    · by_cases g8 : 18 < a.hi1
                                      · rw [pc_eq]; simp +contextual -implicitDefEqProofs (maxSteps := 2000000) only [go_sem, ↓reduceIte, Nat.reduceAdd, Nat.reduceMul, Nat.reduceSub, Nat.reduceEqDiff, Nat.reduceLeDiff, Nat.reduceDiv, Nat.reduceMod, Nat.reduceBEq, Nat.reduceBNe, reduceCtorEq, Int.reduceLE, Int.reduceLT, Int.reduceToNat, Int.reduceNeg, Nat.reduceLT, Int.reduceEq, Int.reduceSub, Int.reduceAdd, Int.reduceMul, Nat.reducePow, Int.reduceBEq, Int.reduceBNe, Int.reduceMod, E_16, A16, A16_L0_eq, A16_L0b, hv, h46, mx, my, bne_self_eq_false, g15, g16, g0, g1, g2, g2', g3', g3, g4, g5, g6, g7, g7', g8', g8]
                                      · by_cases g9 : a.hi1 < a.lo1
                                        · rw [pc_eq]; simp +contextual -implicitDefEqProofs (maxSteps := 2000000) only [go_sem, ↓reduceIte, Nat.reduceAdd, Nat.reduceMul, Nat.reduceSub, Nat.reduceEqDiff, Nat.reduceLeDiff, Nat.reduceDiv, Nat.reduceMod, Nat.reduceBEq, Nat.reduceBNe, reduceCtorEq, Int.reduceLE, Int.reduceLT, Int.reduceToNat, Int.reduceNeg, Nat.reduceLT, Int.reduceEq, Int.reduceSub, Int.reduceAdd, Int.reduceMul, Nat.reducePow, Int.reduceBEq, Int.reduceBNe, Int.reduceMod, E_16, A16, A16_L0_eq, A16_L0b, hv, h46, mx, my, bne_self_eq_false, g15, g16, g0, g1, g2, g2', g3', g3, g4, g5, g6, g7, g7', g8', g8, g9]
                                        · by_cases g10 : a.l2 < 1
                                          · rw [pc_eq]; simp +contextual -implicitDefEqProofs (maxSteps := 2000000) only [go_sem, ↓reduceIte, Nat.reduceAdd, Nat.reduceMul, Nat.reduceSub, Nat.reduceEqDiff, Nat.reduceLeDiff, Nat.reduceDiv, Nat.reduceMod, Nat.reduceBEq, Nat.reduceBNe, reduceCtorEq, Int.reduceLE, Int.reduceLT, Int.reduceToNat, Int.reduceNeg, Nat.reduceLT, Int.reduceEq, Int.reduceSub, Int.reduceAdd, Int.reduceMul, Nat.reducePow, Int.reduceBEq, Int.reduceBNe, Int.reduceMod, E_16, A16, A16_L0_eq, A16_L0b, hv, h46, mx, my, bne_self_eq_false, g15, g16, g0, g1, g2, g2', g3', g3, g4, g5, g6, g7, g7', g8', g8, g9, g10]
                                          · by_cases g11 : 40 < a.l2
                                            · rw [pc_eq]; simp +contextual -implicitDefEqProofs (maxSteps := 2000000) only [go_sem, ↓reduceIte, Nat.reduceAdd, Nat.reduceMul, Nat.reduceSub, Nat.reduceEqDiff, Nat.reduceLeDiff, Nat.reduceDiv, Nat.reduceMod, Nat.reduceBEq, Nat.reduceBNe, reduceCtorEq, Int.reduceLE, Int.reduceLT, Int.reduceToNat, Int.reduceNeg, Nat.reduceLT, Int.reduceEq, Int.reduceSub, Int.reduceAdd, Int.reduceMul, Nat.reducePow, Int.reduceBEq, Int.reduceBNe, Int.reduceMod, E_16, A16, A16_L0_eq, A16_L0b, hv, h46, mx, my, bne_self_eq_false, g15, g16, g0, g1, g2, g2', g3', g3, g4, g5, g6, g7, g7', g8', g8, g9, g10, g11]
                                            · by_cases g12 : a.lo2 < -17
                                              · rw [pc_eq]; simp +contextual -implicitDefEqProofs (maxSteps := 2000000) only [go_sem, ↓reduceIte, Nat.reduceAdd, Nat.reduceMul, Nat.reduceSub, Nat.reduceEqDiff, Nat.reduceLeDiff, Nat.reduceDiv, Nat.reduceMod, Nat.reduceBEq, Nat.reduceBNe, reduceCtorEq, Int.reduceLE, Int.reduceLT, Int.reduceToNat, Int.reduceNeg, Nat.reduceLT, Int.reduceEq, Int.reduceSub, Int.reduceAdd, Int.reduceMul, Nat.reducePow, Int.reduceBEq, Int.reduceBNe, Int.reduceMod, E_16, A16, A16_L0_eq, A16_L0b, hv, h46, mx, my, bne_self_eq_false, g15, g16, g0, g1, g2, g2', g3', g3, g4, g5, g6, g7, g7', g8', g8, g9, g10, g11, g12]
                                              · by_cases g12' : 18 < a.lo2
                                                · rw [pc_eq]; simp +contextual -implicitDefEqProofs (maxSteps := 2000000) only [go_sem, ↓reduceIte, Nat.reduceAdd, Nat.reduceMul, Nat.reduceSub, Nat.reduceEqDiff, Nat.reduceLeDiff, Nat.reduceDiv, Nat.reduceMod, Nat.reduceBEq, Nat.reduceBNe, reduceCtorEq, Int.reduceLE, Int.reduceLT, Int.reduceToNat, Int.reduceNeg, Nat.reduceLT, Int.reduceEq, Int.reduceSub, Int.reduceAdd, Int.reduceMul, Nat.reducePow, Int.reduceBEq, Int.reduceBNe, Int.reduceMod, E_16, A16, A16_L0_eq, A16_L0b, hv, h46, mx, my, bne_self_eq_false, g15, g16, g0, g1, g2, g2', g3', g3, g4, g5, g6, g7, g7', g8', g8, g9, g10, g11, g12, g12']
                                                · by_cases g13' : a.hi2 < -17
                                                  · rw [pc_eq]; simp +contextual -implicitDefEqProofs (maxSteps := 2000000) only [go_sem, ↓reduceIte, Nat.reduceAdd, Nat.reduceMul, Nat.reduceSub, Nat.reduceEqDiff, Nat.reduceLeDiff, Nat.reduceDiv, Nat.reduceMod, Nat.reduceBEq, Nat.reduceBNe, reduceCtorEq, Int.reduceLE, Int.reduceLT, Int.reduceToNat, Int.reduceNeg, Nat.reduceLT, Int.reduceEq, Int.reduceSub, Int.reduceAdd, Int.reduceMul, Nat.reducePow, Int.reduceBEq, Int.reduceBNe, Int.reduceMod, E_16, A16, A16_L0_eq, A16_L0b, hv, h46, mx, my, bne_self_eq_false, g15, g16, g0, g1, g2, g2', g3', g3, g4, g5, g6, g7, g7', g8', g8, g9, g10, g11, g12, g12', g13']
                                                  · by_cases g13 : 18 < a.hi2
                                                    · rw [pc_eq]; simp +contextual -implicitDefEqProofs (maxSteps := 2000000) only [go_sem, ↓reduceIte, Nat.reduceAdd, Nat.reduceMul, Nat.reduceSub, Nat.reduceEqDiff, Nat.reduceLeDiff, Nat.reduceDiv, Nat.reduceMod, Nat.reduceBEq, Nat.reduceBNe, reduceCtorEq, Int.reduceLE, Int.reduceLT, Int.reduceToNat, Int.reduceNeg, Nat.reduceLT, Int.reduceEq, Int.reduceSub, Int.reduceAdd, Int.reduceMul, Nat.reducePow, Int.reduceBEq, Int.reduceBNe, Int.reduceMod, E_16, A16, A16_L0_eq, A16_L0b, hv, h46, mx, my, bne_self_eq_false, g15, g16, g0, g1, g2, g2', g3', g3, g4, g5, g6, g7, g7', g8', g8, g9, g10, g11, g12, g12', g13', g13]
                                                    · by_cases g14 : a.hi2 < a.lo2
                                                      · rw [pc_eq]; simp +contextual -implicitDefEqProofs (maxSteps := 2000000) only [go_sem, ↓reduceIte, Nat.reduceAdd, Nat.reduceMul, Nat.reduceSub, Nat.reduceEqDiff, Nat.reduceLeDiff, Nat.reduceDiv, Nat.reduceMod, Nat.reduceBEq, Nat.reduceBNe, reduceCtorEq, Int.reduceLE, Int.reduceLT, Int.reduceToNat, Int.reduceNeg, Nat.reduceLT, Int.reduceEq, Int.reduceSub, Int.reduceAdd, Int.reduceMul, Nat.reducePow, Int.reduceBEq, Int.reduceBNe, Int.reduceMod, E_16, A16, A16_L0_eq, A16_L0b, hv, h46, mx, my, bne_self_eq_false, g15, g16, g0, g1, g2, g2', g3', g3, g4, g5, g6, g7, g7', g8', g8, g9, g10, g11, g12, g12', g13', g13, g14]
                                                      · exfalso; exact hp ⟨by omega, by omega, by omega, by omega, by omega, by omega, by omega⟩
      · have hv := okF (fun h => my (ok_inv h).1.2)
        have my' : (a.by_.tmod 16 != 0) = true := by simpa using my
        by_cases g15 : a.w < 1
        · rw [pc_eq]; simp +contextual -implicitDefEqProofs (maxSteps := 2000000) only [go_sem, ↓reduceIte, Nat.reduceAdd, Nat.reduceMul, Nat.reduceSub, Nat.reduceEqDiff, Nat.reduceLeDiff, Nat.reduceDiv, Nat.reduceMod, Nat.reduceBEq, Nat.reduceBNe, reduceCtorEq, Int.reduceLE, Int.reduceLT, Int.reduceToNat, Int.reduceNeg, Nat.reduceLT, Int.reduceEq, Int.reduceSub, Int.reduceAdd, Int.reduceMul, Nat.reducePow, Int.reduceBEq, Int.reduceBNe, Int.reduceMod, E_16, A16, hv, h46, mx, my, my', bne_self_eq_false, g15]
        · by_cases g16 : 4 < a.w
          · rw [pc_eq]; simp +contextual -implicitDefEqProofs (maxSteps := 2000000) only [go_sem, ↓reduceIte, Nat.reduceAdd, Nat.reduceMul, Nat.reduceSub, Nat.reduceEqDiff, Nat.reduceLeDiff, Nat.reduceDiv, Nat.reduceMod, Nat.reduceBEq, Nat.reduceBNe, reduceCtorEq, Int.reduceLE, Int.reduceLT, Int.reduceToNat, Int.reduceNeg, Nat.reduceLT, Int.reduceEq, Int.reduceSub, Int.reduceAdd, Int.reduceMul, Nat.reducePow, Int.reduceBEq, Int.reduceBNe, Int.reduceMod, E_16, A16, hv, h46, mx, my, my', bne_self_eq_false, g15, g16]
          · rw [pc_eq]; simp +contextual -implicitDefEqProofs (maxSteps := 2000000) only [go_sem, ↓reduceIte, Nat.reduceAdd, Nat.reduceMul, Nat.reduceSub, Nat.reduceEqDiff, Nat.reduceLeDiff, Nat.reduceDiv, Nat.reduceMod, Nat.reduceBEq, Nat.reduceBNe, reduceCtorEq, Int.reduceLE, Int.reduceLT, Int.reduceToNat, Int.reduceNeg, Nat.reduceLT, Int.reduceEq, Int.reduceSub, Int.reduceAdd, Int.reduceMul, Nat.reducePow, Int.reduceBEq, Int.reduceBNe, Int.reduceMod, E_16, A16, hv, h46, mx, my, my', bne_self_eq_false, g15, g16]
    · have hv := okF (fun h => mx (ok_inv h).1.1)
      have mx' : (a.bx.tmod 16 != 0) = true := by simpa using mx
      by_cases g15 : a.w < 1
      · rw [pc_eq]; simp +contextual -implicitDefEqProofs (maxSteps := 2000000) only [go_sem, ↓reduceIte, Nat.reduceAdd, Nat.reduceMul, Nat.reduceSub, Nat.reduceEqDiff, Nat.reduceLeDiff, Nat.reduceDiv, Nat.reduceMod, Nat.reduceBEq, Nat.reduceBNe, reduceCtorEq, Int.reduceLE, Int.reduceLT, Int.reduceToNat, Int.reduceNeg, Nat.reduceLT, Int.reduceEq, Int.reduceSub, Int.reduceAdd, Int.reduceMul, Nat.reducePow, Int.reduceBEq, Int.reduceBNe, Int.reduceMod, E_16, A16, hv, h46, mx, mx', g15]
      · by_cases g16 : 4 < a.w
        · rw [pc_eq]; simp +contextual -implicitDefEqProofs (maxSteps := 2000000) only [go_sem, ↓reduceIte, Nat.reduceAdd, Nat.reduceMul, Nat.reduceSub, Nat.reduceEqDiff, Nat.reduceLeDiff, Nat.reduceDiv, Nat.reduceMod, Nat.reduceBEq, Nat.reduceBNe, reduceCtorEq, Int.reduceLE, Int.reduceLT, Int.reduceToNat, Int.reduceNeg, Nat.reduceLT, Int.reduceEq, Int.reduceSub, Int.reduceAdd, Int.reduceMul, Nat.reducePow, Int.reduceBEq, Int.reduceBNe, Int.reduceMod, E_16, A16, hv, h46, mx, mx', g15, g16]
        · rw [pc_eq]; simp +contextual -implicitDefEqProofs (maxSteps := 2000000) only [go_sem, ↓reduceIte, Nat.reduceAdd, Nat.reduceMul, Nat.reduceSub, Nat.reduceEqDiff, Nat.reduceLeDiff, Nat.reduceDiv, Nat.reduceMod, Nat.reduceBEq, Nat.reduceBNe, reduceCtorEq, Int.reduceLE, Int.reduceLT, Int.reduceToNat, Int.reduceNeg, Nat.reduceLT, Int.reduceEq, Int.reduceSub, Int.reduceAdd, Int.reduceMul, Nat.reducePow, Int.reduceBEq, Int.reduceBNe, Int.reduceMod, E_16, A16, hv, h46, mx, mx', g15, g16]
end Go.Proofs.Ytnecdcaaknhgpaa

namespace Go.Proofs.Ytnecdcaaknhgpaa
set_option maxRecDepth 100000
set_option maxHeartbeats 4000000
set_option linter.unusedSimpArgs false
set_option linter.unusedVariables false
open Go Go.Zv
/-- joints within an arm's limits -/
structure Lim (a : Arm) (q0 q1 q2 : Int) : Prop where
  a0 : a.lo0 ≤ q0 ∧ q0 ≤ a.hi0
  a1 : a.lo1 ≤ q1 ∧ q1 ≤ a.hi1
  a2 : a.lo2 ≤ q2 ∧ q2 ≤ a.hi2
def limB (a : Arm) (q0 q1 q2 : Int) : Bool := decide (a.lo0 ≤ q0 ∧ q0 ≤ a.hi0 ∧ a.lo1 ≤ q1 ∧ q1 ≤ a.hi1 ∧ a.lo2 ≤ q2 ∧ q2 ≤ a.hi2)
theorem limT {a : Arm} {q0 q1 q2 : Int} (h : Lim a q0 q1 q2) : limB a q0 q1 q2 = true := decide_eq_true ⟨h.a0.1, h.a0.2, h.a1.1, h.a1.2, h.a2.1, h.a2.2⟩
theorem limF {a : Arm} {q0 q1 q2 : Int} (h : ¬ Lim a q0 q1 q2) : limB a q0 q1 q2 = false := decide_eq_false fun k => h ⟨⟨k.1, k.2.1⟩, ⟨k.2.2.1, k.2.2.2.1⟩, ⟨k.2.2.2.2.1, k.2.2.2.2.2⟩⟩
theorem limB_iff {a : Arm} {q0 q1 q2 : Int} : limB a q0 q1 q2 = true ↔ Lim a q0 q1 q2 := by
  refine ⟨fun h => ?_, limT⟩
  have k := of_decide_eq_true h
  exact ⟨⟨k.1, k.2.1⟩, ⟨k.2.2.1, k.2.2.2.1⟩, ⟨k.2.2.2.2.1, k.2.2.2.2.2⟩⟩
theorem c17 (a : Arm) (q0 q1 q2 : Int) : pc E 17 [av a, jv q0 q1 q2] = some (.bool (limB a q0 q1 q2)) := by
  by_cases g0 : q0 < a.lo0
  · have hv := limF (a := a) (q0 := q0) (q1 := q1) (q2 := q2) (fun h => by obtain ⟨h1, h2, h3⟩ := h; omega)
    rw [pc_eq]; simp +contextual -implicitDefEqProofs (maxSteps := 2000000) only [go_sem, ↓reduceIte, Nat.reduceAdd, Nat.reduceMul, Nat.reduceSub, Nat.reduceEqDiff, Nat.reduceLeDiff, Nat.reduceDiv, Nat.reduceMod, Nat.reduceBEq, Nat.reduceBNe, reduceCtorEq, Int.reduceLE, Int.reduceLT, Int.reduceToNat, Int.reduceNeg, Nat.reduceLT, Int.reduceEq, Int.reduceSub, Int.reduceAdd, Int.reduceMul, Nat.reducePow, Int.reduceBEq, Int.reduceBNe, Int.reduceMod, E_17, A17, A17_L0_eq, A17_L0b, hv, g0]
  · by_cases g1 : a.hi0 < q0
    · have hv := limF (a := a) (q0 := q0) (q1 := q1) (q2 := q2) (fun h => by obtain ⟨h1, h2, h3⟩ := h; omega)
      rw [pc_eq]; simp +contextual -implicitDefEqProofs (maxSteps := 2000000) only [go_sem, ↓reduceIte, Nat.reduceAdd, Nat.reduceMul, Nat.reduceSub, Nat.reduceEqDiff, Nat.reduceLeDiff, Nat.reduceDiv, Nat.reduceMod, Nat.reduceBEq, Nat.reduceBNe, reduceCtorEq, Int.reduceLE, Int.reduceLT, Int.reduceToNat, Int.reduceNeg, Nat.reduceLT, Int.reduceEq, Int.reduceSub, Int.reduceAdd, Int.reduceMul, Nat.reducePow, Int.reduceBEq, Int.reduceBNe, Int.reduceMod, E_17, A17, A17_L0_eq, A17_L0b, hv, g0, g1]
    · by_cases g2 : q1 < a.lo1
      · have hv := limF (a := a) (q0 := q0) (q1 := q1) (q2 := q2) (fun h => by obtain ⟨h1, h2, h3⟩ := h; omega)
        rw [pc_eq]; simp +contextual -implicitDefEqProofs (maxSteps := 2000000) only [go_sem, ↓reduceIte, Nat.reduceAdd, Nat.reduceMul, Nat.reduceSub, Nat.reduceEqDiff, Nat.reduceLeDiff, Nat.reduceDiv, Nat.reduceMod, Nat.reduceBEq, Nat.reduceBNe, reduceCtorEq, Int.reduceLE, Int.reduceLT, Int.reduceToNat, Int.reduceNeg, Nat.reduceLT, Int.reduceEq, Int.reduceSub, Int.reduceAdd, Int.reduceMul, Nat.reducePow, Int.reduceBEq, Int.reduceBNe, Int.reduceMod, E_17, A17, A17_L0_eq, A17_L0b, hv, g0, g1, g2]
      · by_cases g3 : a.hi1 < q1
        · have hv := limF (a := a) (q0 := q0) (q1 := q1) (q2 := q2) (fun h => by obtain ⟨h1, h2, h3⟩ := h; omega)
          rw [pc_eq]; simp +contextual -implicitDefEqProofs (maxSteps := 2000000) only [go_sem, ↓reduceIte, Nat.reduceAdd, Nat.reduceMul, Nat.reduceSub, Nat.reduceEqDiff, Nat.reduceLeDiff, Nat.reduceDiv, Nat.reduceMod, Nat.reduceBEq, Nat.reduceBNe, reduceCtorEq, Int.reduceLE, Int.reduceLT, Int.reduceToNat, Int.reduceNeg, Nat.reduceLT, Int.reduceEq, Int.reduceSub, Int.reduceAdd, Int.reduceMul, Nat.reducePow, Int.reduceBEq, Int.reduceBNe, Int.reduceMod, E_17, A17, A17_L0_eq, A17_L0b, hv, g0, g1, g2, g3]
        · by_cases g4 : q2 < a.lo2
          · have hv := limF (a := a) (q0 := q0) (q1 := q1) (q2 := q2) (fun h => by obtain ⟨h1, h2, h3⟩ := h; omega)
            rw [pc_eq]; simp +contextual -implicitDefEqProofs (maxSteps := 2000000) only [go_sem, ↓reduceIte, Nat.reduceAdd, Nat.reduceMul, Nat.reduceSub, Nat.reduceEqDiff, Nat.reduceLeDiff, Nat.reduceDiv, Nat.reduceMod, Nat.reduceBEq, Nat.reduceBNe, reduceCtorEq, Int.reduceLE, Int.reduceLT, Int.reduceToNat, Int.reduceNeg, Nat.reduceLT, Int.reduceEq, Int.reduceSub, Int.reduceAdd, Int.reduceMul, Nat.reducePow, Int.reduceBEq, Int.reduceBNe, Int.reduceMod, E_17, A17, A17_L0_eq, A17_L0b, hv, g0, g1, g2, g3, g4]
          · by_cases g5 : a.hi2 < q2
            · have hv := limF (a := a) (q0 := q0) (q1 := q1) (q2 := q2) (fun h => by obtain ⟨h1, h2, h3⟩ := h; omega)
              rw [pc_eq]; simp +contextual -implicitDefEqProofs (maxSteps := 2000000) only [go_sem, ↓reduceIte, Nat.reduceAdd, Nat.reduceMul, Nat.reduceSub, Nat.reduceEqDiff, Nat.reduceLeDiff, Nat.reduceDiv, Nat.reduceMod, Nat.reduceBEq, Nat.reduceBNe, reduceCtorEq, Int.reduceLE, Int.reduceLT, Int.reduceToNat, Int.reduceNeg, Nat.reduceLT, Int.reduceEq, Int.reduceSub, Int.reduceAdd, Int.reduceMul, Nat.reducePow, Int.reduceBEq, Int.reduceBNe, Int.reduceMod, E_17, A17, A17_L0_eq, A17_L0b, hv, g0, g1, g2, g3, g4, g5]
            · have hv := limT (a := a) (q0 := q0) (q1 := q1) (q2 := q2) ⟨by omega, by omega, by omega⟩
              rw [pc_eq]; simp +contextual -implicitDefEqProofs (maxSteps := 2000000) only [go_sem, ↓reduceIte, Nat.reduceAdd, Nat.reduceMul, Nat.reduceSub, Nat.reduceEqDiff, Nat.reduceLeDiff, Nat.reduceDiv, Nat.reduceMod, Nat.reduceBEq, Nat.reduceBNe, reduceCtorEq, Int.reduceLE, Int.reduceLT, Int.reduceToNat, Int.reduceNeg, Nat.reduceLT, Int.reduceEq, Int.reduceSub, Int.reduceAdd, Int.reduceMul, Nat.reducePow, Int.reduceBEq, Int.reduceBNe, Int.reduceMod, E_17, A17, A17_L0_eq, A17_L0b, hv, g0, g1, g2, g3, g4, g5]
theorem c18 (a : Arm) (q0 q1 q2 : Int) : pc E 18 [av a, jv q0 q1 q2] = some (.bool (limB a q0 q1 q2)) := by
  by_cases g0 : q0 < a.lo0
  · have hv := limF (a := a) (q0 := q0) (q1 := q1) (q2 := q2) (fun h => by obtain ⟨h1, h2, h3⟩ := h; omega)
    rw [pc_eq]; simp +contextual -implicitDefEqProofs (maxSteps := 2000000) only [go_sem, ↓reduceIte, Nat.reduceAdd, Nat.reduceMul, Nat.reduceSub, Nat.reduceEqDiff, Nat.reduceLeDiff, Nat.reduceDiv, Nat.reduceMod, Nat.reduceBEq, Nat.reduceBNe, reduceCtorEq, Int.reduceLE, Int.reduceLT, Int.reduceToNat, Int.reduceNeg, Nat.reduceLT, Int.reduceEq, Int.reduceSub, Int.reduceAdd, Int.reduceMul, Nat.reducePow, Int.reduceBEq, Int.reduceBNe, Int.reduceMod, E_18, A18, A18_L0_eq, A18_L0b, hv, g0]
  · by_cases g1 : a.hi0 < q0
    · have hv := limF (a := a) (q0 := q0) (q1 := q1) (q2 := q2) (fun h => by obtain ⟨h1, h2, h3⟩ := h; omega)
      rw [pc_eq]; simp +contextual -implicitDefEqProofs (maxSteps := 2000000) only [go_sem, ↓reduceIte, Nat.reduceAdd, Nat.reduceMul, Nat.reduceSub, Nat.reduceEqDiff, Nat.reduceLeDiff, Nat.reduceDiv, Nat.reduceMod, Nat.reduceBEq, Nat.reduceBNe, reduceCtorEq, Int.reduceLE, Int.reduceLT, Int.reduceToNat, Int.reduceNeg, Nat.reduceLT, Int.reduceEq, Int.reduceSub, Int.reduceAdd, Int.reduceMul, Nat.reducePow, Int.reduceBEq, Int.reduceBNe, Int.reduceMod, E_18, A18, A18_L0_eq, A18_L0b, hv, g0, g1]
    · by_cases g2 : q1 < a.lo1
      · have hv := limF (a := a) (q0 := q0) (q1 := q1) (q2 := q2) (fun h => by obtain ⟨h1, h2, h3⟩ := h; omega)
        rw [pc_eq]; simp +contextual -implicitDefEqProofs (maxSteps := 2000000) only [go_sem, ↓reduceIte, Nat.reduceAdd, Nat.reduceMul, Nat.reduceSub, Nat.reduceEqDiff, Nat.reduceLeDiff, Nat.reduceDiv, Nat.reduceMod, Nat.reduceBEq, Nat.reduceBNe, reduceCtorEq, Int.reduceLE, Int.reduceLT, Int.reduceToNat, Int.reduceNeg, Nat.reduceLT, Int.reduceEq, Int.reduceSub, Int.reduceAdd, Int.reduceMul, Nat.reducePow, Int.reduceBEq, Int.reduceBNe, Int.reduceMod, E_18, A18, A18_L0_eq, A18_L0b, hv, g0, g1, g2]
      · by_cases g3 : a.hi1 < q1
        · have hv := limF (a := a) (q0 := q0) (q1 := q1) (q2 := q2) (fun h => by obtain ⟨h1, h2, h3⟩ := h; omega)
          rw [pc_eq]; simp +contextual -implicitDefEqProofs (maxSteps := 2000000) only [go_sem, ↓reduceIte, Nat.reduceAdd, Nat.reduceMul, Nat.reduceSub, Nat.reduceEqDiff, Nat.reduceLeDiff, Nat.reduceDiv, Nat.reduceMod, Nat.reduceBEq, Nat.reduceBNe, reduceCtorEq, Int.reduceLE, Int.reduceLT, Int.reduceToNat, Int.reduceNeg, Nat.reduceLT, Int.reduceEq, Int.reduceSub, Int.reduceAdd, Int.reduceMul, Nat.reducePow, Int.reduceBEq, Int.reduceBNe, Int.reduceMod, E_18, A18, A18_L0_eq, A18_L0b, hv, g0, g1, g2, g3]
        · by_cases g4 : q2 < a.lo2
          · have hv := limF (a := a) (q0 := q0) (q1 := q1) (q2 := q2) (fun h => by obtain ⟨h1, h2, h3⟩ := h; omega)
            rw [pc_eq]; simp +contextual -implicitDefEqProofs (maxSteps := 2000000) only [go_sem, ↓reduceIte, Nat.reduceAdd, Nat.reduceMul, Nat.reduceSub, Nat.reduceEqDiff, Nat.reduceLeDiff, Nat.reduceDiv, Nat.reduceMod, Nat.reduceBEq, Nat.reduceBNe, reduceCtorEq, Int.reduceLE, Int.reduceLT, Int.reduceToNat, Int.reduceNeg, Nat.reduceLT, Int.reduceEq, Int.reduceSub, Int.reduceAdd, Int.reduceMul, Nat.reducePow, Int.reduceBEq, Int.reduceBNe, Int.reduceMod, E_18, A18, A18_L0_eq, A18_L0b, hv, g0, g1, g2, g3, g4]
          · by_cases g5 : a.hi2 < q2
            · have hv := limF (a := a) (q0 := q0) (q1 := q1) (q2 := q2) (fun h => by obtain ⟨h1, h2, h3⟩ := h; omega)
              rw [pc_eq]; simp +contextual -implicitDefEqProofs (maxSteps := 2000000) only [go_sem, ↓reduceIte, Nat.reduceAdd, Nat.reduceMul, Nat.reduceSub, Nat.reduceEqDiff, Nat.reduceLeDiff, Nat.reduceDiv, Nat.reduceMod, Nat.reduceBEq, Nat.reduceBNe, reduceCtorEq, Int.reduceLE, Int.reduceLT, Int.reduceToNat, Int.reduceNeg, Nat.reduceLT, Int.reduceEq, Int.reduceSub, Int.reduceAdd, Int.reduceMul, Nat.reducePow, Int.reduceBEq, Int.reduceBNe, Int.reduceMod, E_18, A18, A18_L0_eq, A18_L0b, hv, g0, g1, g2, g3, g4, g5]
            · have hv := limT (a := a) (q0 := q0) (q1 := q1) (q2 := q2) ⟨by omega, by omega, by omega⟩
              rw [pc_eq]; simp +contextual -implicitDefEqProofs (maxSteps := 2000000) only [go_sem, ↓reduceIte, Nat.reduceAdd, Nat.reduceMul, Nat.reduceSub, Nat.reduceEqDiff, Nat.reduceLeDiff, Nat.reduceDiv, Nat.reduceMod, Nat.reduceBEq, Nat.reduceBNe, reduceCtorEq, Int.reduceLE, Int.reduceLT, Int.reduceToNat, Int.reduceNeg, Nat.reduceLT, Int.reduceEq, Int.reduceSub, Int.reduceAdd, Int.reduceMul, Nat.reducePow, Int.reduceBEq, Int.reduceBNe, Int.reduceMod, E_18, A18, A18_L0_eq, A18_L0b, hv, g0, g1, g2, g3, g4, g5]
def jt (lo hi r : Int) : Int := lo + r % (hi - lo + 1)
theorem jt_in {lo hi r : Int} (h : lo ≤ hi) : lo ≤ jt lo hi r ∧ jt lo hi r ≤ hi := by
  unfold jt
  have h1 := Int.emod_nonneg r (show hi - lo + 1 ≠ 0 by omega)
  have h2 := Int.emod_lt_of_pos r (show 0 < hi - lo + 1 by omega)
  omega
theorem jt_lim {a : Arm} (h : OKa a) (r0 r1 r2 : Int) : Lim a (jt a.lo0 a.hi0 r0) (jt a.lo1 a.hi1 r1) (jt a.lo2 a.hi2 r2) := ⟨jt_in h.j0.2.1, jt_in h.j1.2.1, jt_in h.j2.2.1⟩
theorem c19 (a : Arm) (h : OKa a) (r0 r1 r2 : Int) (h0 : 0 ≤ r0 ∧ r0 ≤ 255) (h1 : 0 ≤ r1 ∧ r1 ≤ 255) (h2 : 0 ≤ r2 ∧ r2 ≤ 255) :
    pc E 19 [av a, .agg [.int .u8 r0, .int .u8 r1, .int .u8 r2]] = some (jv (jt a.lo0 a.hi0 r0) (jt a.lo1 a.hi1 r1) (jt a.lo2 a.hi2 r2)) := by
  have j0 := h.j0
  have j1 := h.j1
  have j2 := h.j2
  have l := jt_lim h r0 r1 r2
  have l0 := l.a0
  have l1 := l.a1
  have l2 := l.a2
  have a0 : IntKind.i64.wrap r0 = r0 := wrap_small (by omega) (by omega)
  have a1 : IntKind.i64.wrap r1 = r1 := wrap_small (by omega) (by omega)
  have a2 : IntKind.i64.wrap r2 = r2 := wrap_small (by omega) (by omega)
  have b0 : IntKind.i64.wrap (a.hi0 - a.lo0) = a.hi0 - a.lo0 := wrap_small (by omega) (by omega)
  have b1 : IntKind.i64.wrap (a.hi1 - a.lo1) = a.hi1 - a.lo1 := wrap_small (by omega) (by omega)
  have b2 : IntKind.i64.wrap (a.hi2 - a.lo2) = a.hi2 - a.lo2 := wrap_small (by omega) (by omega)
  have d0 : IntKind.i64.wrap (a.hi0 - a.lo0 + 1) = a.hi0 - a.lo0 + 1 := wrap_small (by omega) (by omega)
  have d1 : IntKind.i64.wrap (a.hi1 - a.lo1 + 1) = a.hi1 - a.lo1 + 1 := wrap_small (by omega) (by omega)
  have d2 : IntKind.i64.wrap (a.hi2 - a.lo2 + 1) = a.hi2 - a.lo2 + 1 := wrap_small (by omega) (by omega)
  have z0 : ¬ (a.hi0 - a.lo0 + 1 = 0) := by omega
  have z1 : ¬ (a.hi1 - a.lo1 + 1 = 0) := by omega
  have z2 : ¬ (a.hi2 - a.lo2 + 1 = 0) := by omega
  have m0 : r0.tmod (a.hi0 - a.lo0 + 1) = r0 % (a.hi0 - a.lo0 + 1) := tmod_pos h0.1
  have m1 : r1.tmod (a.hi1 - a.lo1 + 1) = r1 % (a.hi1 - a.lo1 + 1) := tmod_pos h1.1
  have m2 : r2.tmod (a.hi2 - a.lo2 + 1) = r2 % (a.hi2 - a.lo2 + 1) := tmod_pos h2.1
  have e0 : IntKind.i64.wrap (a.lo0 + r0 % (a.hi0 - a.lo0 + 1)) = jt a.lo0 a.hi0 r0 := wrap_small (n := jt a.lo0 a.hi0 r0) (by omega) (by omega)
  have e1 : IntKind.i64.wrap (a.lo1 + r1 % (a.hi1 - a.lo1 + 1)) = jt a.lo1 a.hi1 r1 := wrap_small (n := jt a.lo1 a.hi1 r1) (by omega) (by omega)
  have e2 : IntKind.i64.wrap (a.lo2 + r2 % (a.hi2 - a.lo2 + 1)) = jt a.lo2 a.hi2 r2 := wrap_small (n := jt a.lo2 a.hi2 r2) (by omega) (by omega)
  rw [pc_eq]; simp +contextual -implicitDefEqProofs (maxSteps := 2000000) only [go_sem, ↓reduceIte, Nat.reduceAdd, Nat.reduceMul, Nat.reduceSub, Nat.reduceEqDiff, Nat.reduceLeDiff, Nat.reduceDiv, Nat.reduceMod, Nat.reduceBEq, Nat.reduceBNe, reduceCtorEq, Int.reduceLE, Int.reduceLT, Int.reduceToNat, Int.reduceNeg, Nat.reduceLT, Int.reduceEq, Int.reduceSub, Int.reduceAdd, Int.reduceMul, Nat.reducePow, Int.reduceBEq, Int.reduceBNe, Int.reduceMod, E_19, A19, A19_L0_eq, A19_L0b, a0, a1, a2, b0, b1, b2, d0, d1, d2, z0, z1, z2, m0, m1, m2, e0, e1, e2]
/-- a step of one joint -/
def st1 (q0 q1 q2 : Int) (k : Int) (b : Int) : Int × Int × Int := if k = 0 then (q0 + b, q1, q2) else if k = 1 then (q0, q1 + b, q2) else (q0, q1, q2 + b)
def stp (a : Arm) (q0 q1 q2 k b : Int) : LV :=
  if (0 ≤ k ∧ k ≤ 2) ∧ (b = 1 ∨ b = -1) ∧ limB a (st1 q0 q1 q2 k b).1 (st1 q0 q1 q2 k b).2.1 (st1 q0 q1 q2 k b).2.2 = true then .tup [jv (st1 q0 q1 q2 k b).1 (st1 q0 q1 q2 k b).2.1 (st1 q0 q1 q2 k b).2.2, .bool true]
  else .tup [jv 0 0 0, .bool false]
end Go.Proofs.Ytnecdcaaknhgpaa

namespace Go.Proofs.Ytnecdcaaknhgpaa
set_option maxRecDepth 100000
set_option maxHeartbeats 4000000
set_option linter.unusedSimpArgs false
set_option linter.unusedVariables false
open Go Go.Zv
theorem c23 (a : Arm) (q0 q1 q2 k b : Int) (h0 : -100 ≤ q0 ∧ q0 ≤ 100) (h1 : -100 ≤ q1 ∧ q1 ≤ 100) (h2 : -100 ≤ q2 ∧ q2 ≤ 100) : pc E 23 [av a, jv q0 q1 q2, .int .i64 k, .int .i64 b] = some (stp a q0 q1 q2 k b) := by
  by_cases k0 : k < 0
  · have hv : stp a q0 q1 q2 k b = .tup [jv 0 0 0, .bool false] := by unfold stp; rw [if_neg]; intro h; omega
    rw [hv, pc_eq]; simp +contextual -implicitDefEqProofs (maxSteps := 2000000) only [go_sem, ↓reduceIte, Nat.reduceAdd, Nat.reduceMul, Nat.reduceSub, Nat.reduceEqDiff, Nat.reduceLeDiff, Nat.reduceDiv, Nat.reduceMod, Nat.reduceBEq, Nat.reduceBNe, reduceCtorEq, Int.reduceLE, Int.reduceLT, Int.reduceToNat, Int.reduceNeg, Nat.reduceLT, Int.reduceEq, Int.reduceSub, Int.reduceAdd, Int.reduceMul, Nat.reducePow, Int.reduceBEq, Int.reduceBNe, Int.reduceMod, E_23, A23, k0]
  by_cases k3 : 3 ≤ k
  · have hv : stp a q0 q1 q2 k b = .tup [jv 0 0 0, .bool false] := by unfold stp; rw [if_neg]; intro h; omega
    rw [hv, pc_eq]; simp +contextual -implicitDefEqProofs (maxSteps := 2000000) only [go_sem, ↓reduceIte, Nat.reduceAdd, Nat.reduceMul, Nat.reduceSub, Nat.reduceEqDiff, Nat.reduceLeDiff, Nat.reduceDiv, Nat.reduceMod, Nat.reduceBEq, Nat.reduceBNe, reduceCtorEq, Int.reduceLE, Int.reduceLT, Int.reduceToNat, Int.reduceNeg, Nat.reduceLT, Int.reduceEq, Int.reduceSub, Int.reduceAdd, Int.reduceMul, Nat.reducePow, Int.reduceBEq, Int.reduceBNe, Int.reduceMod, E_23, A23, k0, k3]
  by_cases hb : b = 1 ∨ b = -1
  · have hl := c17 a (st1 q0 q1 q2 k b).1 (st1 q0 q1 q2 k b).2.1 (st1 q0 q1 q2 k b).2.2
    have hs : stp a q0 q1 q2 k b = if limB a (st1 q0 q1 q2 k b).1 (st1 q0 q1 q2 k b).2.1 (st1 q0 q1 q2 k b).2.2 = true then .tup [jv (st1 q0 q1 q2 k b).1 (st1 q0 q1 q2 k b).2.1 (st1 q0 q1 q2 k b).2.2, .bool true] else .tup [jv 0 0 0, .bool false] := by
      unfold stp
      by_cases hc : limB a (st1 q0 q1 q2 k b).1 (st1 q0 q1 q2 k b).2.1 (st1 q0 q1 q2 k b).2.2 = true
      · rw [if_pos ⟨by omega, hb, hc⟩, if_pos hc]
      · rw [if_neg (fun h => hc h.2.2), if_neg hc]
    rw [hs]
    have w0 : IntKind.i64.wrap (q0 + b) = q0 + b := wrap_small (by omega) (by omega)
    have w1 : IntKind.i64.wrap (q1 + b) = q1 + b := wrap_small (by omega) (by omega)
    have w2 : IntKind.i64.wrap (q2 + b) = q2 + b := wrap_small (by omega) (by omega)
    rcases (show k = 0 ∨ k = 1 ∨ k = 2 by omega) with rfl | rfl | rfl <;> simp only [st1, if_true, show ¬ ((1 : Int) = 0) from by omega, show ¬ ((2 : Int) = 0) from by omega, show ¬ ((2 : Int) = 1) from by omega, if_false] at hl ⊢
    · cases hc : limB a (q0 + b) q1 q2 <;> rw [hc] at hl <;> rcases hb with rfl | rfl <;> rw [pc_eq] <;> simp +contextual -implicitDefEqProofs (maxSteps := 2000000) only [go_sem, ↓reduceIte, Nat.reduceAdd, Nat.reduceMul, Nat.reduceSub, Nat.reduceEqDiff, Nat.reduceLeDiff, Nat.reduceDiv, Nat.reduceMod, Nat.reduceBEq, Nat.reduceBNe, reduceCtorEq, Int.reduceLE, Int.reduceLT, Int.reduceToNat, Int.reduceNeg, Nat.reduceLT, Int.reduceEq, Int.reduceSub, Int.reduceAdd, Int.reduceMul, Nat.reducePow, Int.reduceBEq, Int.reduceBNe, Int.reduceMod, E_23, A23, w0, hl, bne_self_eq_false]
    · cases hc : limB a q0 (q1 + b) q2 <;> rw [hc] at hl <;> rcases hb with rfl | rfl <;> rw [pc_eq] <;> simp +contextual -implicitDefEqProofs (maxSteps := 2000000) only [go_sem, ↓reduceIte, Nat.reduceAdd, Nat.reduceMul, Nat.reduceSub, Nat.reduceEqDiff, Nat.reduceLeDiff, Nat.reduceDiv, Nat.reduceMod, Nat.reduceBEq, Nat.reduceBNe, reduceCtorEq, Int.reduceLE, Int.reduceLT, Int.reduceToNat, Int.reduceNeg, Nat.reduceLT, Int.reduceEq, Int.reduceSub, Int.reduceAdd, Int.reduceMul, Nat.reducePow, Int.reduceBEq, Int.reduceBNe, Int.reduceMod, E_23, A23, w1, hl, bne_self_eq_false]
    · cases hc : limB a q0 q1 (q2 + b) <;> rw [hc] at hl <;> rcases hb with rfl | rfl <;> rw [pc_eq] <;> simp +contextual -implicitDefEqProofs (maxSteps := 2000000) only [go_sem, ↓reduceIte, Nat.reduceAdd, Nat.reduceMul, Nat.reduceSub, Nat.reduceEqDiff, Nat.reduceLeDiff, Nat.reduceDiv, Nat.reduceMod, Nat.reduceBEq, Nat.reduceBNe, reduceCtorEq, Int.reduceLE, Int.reduceLT, Int.reduceToNat, Int.reduceNeg, Nat.reduceLT, Int.reduceEq, Int.reduceSub, Int.reduceAdd, Int.reduceMul, Nat.reducePow, Int.reduceBEq, Int.reduceBNe, Int.reduceMod, E_23, A23, w2, hl, bne_self_eq_false]
  · have hv : stp a q0 q1 q2 k b = .tup [jv 0 0 0, .bool false] := by unfold stp; rw [if_neg]; intro h; exact hb h.2.1
    have b1 : ¬ b = 1 := fun h => hb (.inl h)
    have b2 : ¬ b = -1 := fun h => hb (.inr h)
    have b3 : (b != 1) = true := by simpa using b1
    have b4 : (b != -1) = true := by simpa using b2
    rw [hv, pc_eq]; simp +contextual -implicitDefEqProofs (maxSteps := 2000000) only [go_sem, ↓reduceIte, Nat.reduceAdd, Nat.reduceMul, Nat.reduceSub, Nat.reduceEqDiff, Nat.reduceLeDiff, Nat.reduceDiv, Nat.reduceMod, Nat.reduceBEq, Nat.reduceBNe, reduceCtorEq, Int.reduceLE, Int.reduceLT, Int.reduceToNat, Int.reduceNeg, Nat.reduceLT, Int.reduceEq, Int.reduceSub, Int.reduceAdd, Int.reduceMul, Nat.reducePow, Int.reduceBEq, Int.reduceBNe, Int.reduceMod, E_23, A23, k0, k3, b1, b2, b3, b4]
theorem c24 (a : Arm) (q0 q1 q2 k b : Int) (h0 : -100 ≤ q0 ∧ q0 ≤ 100) (h1 : -100 ≤ q1 ∧ q1 ≤ 100) (h2 : -100 ≤ q2 ∧ q2 ≤ 100) : pc E 24 [av a, jv q0 q1 q2, .int .i64 k, .int .i64 b] = some (stp a q0 q1 q2 k b) := by
  by_cases k0 : k < 0
  · have hv : stp a q0 q1 q2 k b = .tup [jv 0 0 0, .bool false] := by unfold stp; rw [if_neg]; intro h; omega
    rw [hv, pc_eq]; simp +contextual -implicitDefEqProofs (maxSteps := 2000000) only [go_sem, ↓reduceIte, Nat.reduceAdd, Nat.reduceMul, Nat.reduceSub, Nat.reduceEqDiff, Nat.reduceLeDiff, Nat.reduceDiv, Nat.reduceMod, Nat.reduceBEq, Nat.reduceBNe, reduceCtorEq, Int.reduceLE, Int.reduceLT, Int.reduceToNat, Int.reduceNeg, Nat.reduceLT, Int.reduceEq, Int.reduceSub, Int.reduceAdd, Int.reduceMul, Nat.reducePow, Int.reduceBEq, Int.reduceBNe, Int.reduceMod, E_24, A24, k0]
  by_cases k3 : 2 < k
  · have hv : stp a q0 q1 q2 k b = .tup [jv 0 0 0, .bool false] := by unfold stp; rw [if_neg]; intro h; omega
    rw [hv, pc_eq]; simp +contextual -implicitDefEqProofs (maxSteps := 2000000) only [go_sem, ↓reduceIte, Nat.reduceAdd, Nat.reduceMul, Nat.reduceSub, Nat.reduceEqDiff, Nat.reduceLeDiff, Nat.reduceDiv, Nat.reduceMod, Nat.reduceBEq, Nat.reduceBNe, reduceCtorEq, Int.reduceLE, Int.reduceLT, Int.reduceToNat, Int.reduceNeg, Nat.reduceLT, Int.reduceEq, Int.reduceSub, Int.reduceAdd, Int.reduceMul, Nat.reducePow, Int.reduceBEq, Int.reduceBNe, Int.reduceMod, E_24, A24, k0, k3]
  by_cases hb : b = 1 ∨ b = -1
  · have hl := c18 a (st1 q0 q1 q2 k b).1 (st1 q0 q1 q2 k b).2.1 (st1 q0 q1 q2 k b).2.2
    have hs : stp a q0 q1 q2 k b = if limB a (st1 q0 q1 q2 k b).1 (st1 q0 q1 q2 k b).2.1 (st1 q0 q1 q2 k b).2.2 = true then .tup [jv (st1 q0 q1 q2 k b).1 (st1 q0 q1 q2 k b).2.1 (st1 q0 q1 q2 k b).2.2, .bool true] else .tup [jv 0 0 0, .bool false] := by
      unfold stp
      by_cases hc : limB a (st1 q0 q1 q2 k b).1 (st1 q0 q1 q2 k b).2.1 (st1 q0 q1 q2 k b).2.2 = true
      · rw [if_pos ⟨by omega, hb, hc⟩, if_pos hc]
      · rw [if_neg (fun h => hc h.2.2), if_neg hc]
    rw [hs]
    have w0 : IntKind.i64.wrap (q0 + b) = q0 + b := wrap_small (by omega) (by omega)
    have w1 : IntKind.i64.wrap (q1 + b) = q1 + b := wrap_small (by omega) (by omega)
    have w2 : IntKind.i64.wrap (q2 + b) = q2 + b := wrap_small (by omega) (by omega)
    rcases (show k = 0 ∨ k = 1 ∨ k = 2 by omega) with rfl | rfl | rfl <;> simp only [st1, if_true, show ¬ ((1 : Int) = 0) from by omega, show ¬ ((2 : Int) = 0) from by omega, show ¬ ((2 : Int) = 1) from by omega, if_false] at hl ⊢
    · cases hc : limB a (q0 + b) q1 q2 <;> rw [hc] at hl <;> rcases hb with rfl | rfl <;> rw [pc_eq] <;> simp +contextual -implicitDefEqProofs (maxSteps := 2000000) only [go_sem, ↓reduceIte, Nat.reduceAdd, Nat.reduceMul, Nat.reduceSub, Nat.reduceEqDiff, Nat.reduceLeDiff, Nat.reduceDiv, Nat.reduceMod, Nat.reduceBEq, Nat.reduceBNe, reduceCtorEq, Int.reduceLE, Int.reduceLT, Int.reduceToNat, Int.reduceNeg, Nat.reduceLT, Int.reduceEq, Int.reduceSub, Int.reduceAdd, Int.reduceMul, Nat.reducePow, Int.reduceBEq, Int.reduceBNe, Int.reduceMod, E_24, A24, w0, hl, bne_self_eq_false]
    · cases hc : limB a q0 (q1 + b) q2 <;> rw [hc] at hl <;> rcases hb with rfl | rfl <;> rw [pc_eq] <;> simp +contextual -implicitDefEqProofs (maxSteps := 2000000) only [go_sem, ↓reduceIte, Nat.reduceAdd, Nat.reduceMul, Nat.reduceSub, Nat.reduceEqDiff, Nat.reduceLeDiff, Nat.reduceDiv, Nat.reduceMod, Nat.reduceBEq, Nat.reduceBNe, reduceCtorEq, Int.reduceLE, Int.reduceLT, Int.reduceToNat, Int.reduceNeg, Nat.reduceLT, Int.reduceEq, Int.reduceSub, Int.reduceAdd, Int.reduceMul, Nat.reducePow, Int.reduceBEq, Int.reduceBNe, Int.reduceMod, E_24, A24, w1, hl, bne_self_eq_false]
    · cases hc : limB a q0 q1 (q2 + b) <;> rw [hc] at hl <;> rcases hb with rfl | rfl <;> rw [pc_eq] <;> simp +contextual -implicitDefEqProofs (maxSteps := 2000000) only [go_sem, ↓reduceIte, Nat.reduceAdd, Nat.reduceMul, Nat.reduceSub, Nat.reduceEqDiff, Nat.reduceLeDiff, Nat.reduceDiv, Nat.reduceMod, Nat.reduceBEq, Nat.reduceBNe, reduceCtorEq, Int.reduceLE, Int.reduceLT, Int.reduceToNat, Int.reduceNeg, Nat.reduceLT, Int.reduceEq, Int.reduceSub, Int.reduceAdd, Int.reduceMul, Nat.reducePow, Int.reduceBEq, Int.reduceBNe, Int.reduceMod, E_24, A24, w2, hl, bne_self_eq_false]
  · have hv : stp a q0 q1 q2 k b = .tup [jv 0 0 0, .bool false] := by unfold stp; rw [if_neg]; intro h; exact hb h.2.1
    have b1 : ¬ b = 1 := fun h => hb (.inl h)
    have b2 : ¬ b = -1 := fun h => hb (.inr h)
    have b3 : (b != 1) = true := by simpa using b1
    have b4 : (b != -1) = true := by simpa using b2
    rw [hv, pc_eq]; simp +contextual -implicitDefEqProofs (maxSteps := 2000000) only [go_sem, ↓reduceIte, Nat.reduceAdd, Nat.reduceMul, Nat.reduceSub, Nat.reduceEqDiff, Nat.reduceLeDiff, Nat.reduceDiv, Nat.reduceMod, Nat.reduceBEq, Nat.reduceBNe, reduceCtorEq, Int.reduceLE, Int.reduceLT, Int.reduceToNat, Int.reduceNeg, Nat.reduceLT, Int.reduceEq, Int.reduceSub, Int.reduceAdd, Int.reduceMul, Nat.reducePow, Int.reduceBEq, Int.reduceBNe, Int.reduceMod, E_24, A24, k0, k3, b1, b2, b3, b4]
end Go.Proofs.Ytnecdcaaknhgpaa

namespace Go.Proofs.Ytnecdcaaknhgpaa
set_option maxRecDepth 100000
set_option maxHeartbeats 4000000
set_option linter.unusedSimpArgs false
set_option linter.unusedVariables false
open Go Go.Zv
theorem all_c2 (l : List (Int × Int)) : ((l.map c2).all fun x => x.length == 2) = true := by simp [c2]
theorem get_c2 {l : List (Int × Int)} {i : Nat} {p : Int × Int} (h : l[i]? = some p) : (l.map c2)[i]? = some [.int .i64 p.1, .int .i64 p.2] := by
  rw [List.getElem?_map, h]; rfl
theorem c22 (a b : List (Int × Int)) (hl : a.length ≤ 1000000000) : pc E 22 [lkv a, lkv b] = some (.bool (decide (a = b))) := by
  by_cases h : a.length = b.length
  · have lp := loop_eq (fun S => (K E A22_L0 S).bind (blockR 0 (some []) [4, 5])) (fun k => ⟨[(0, lkv a), (1, lkv b), (5, .int .i64 k)], [], [], 0⟩) a b h (some (.ex .ret ⟨[(4, .bool false)], [], [], 0⟩)) (some (.ex .nrm ⟨[], [], [], 0⟩))
      (by
        show (K E A22_L0 _).bind _ = _
        rw [A22_L0_eq]; simp +contextual -implicitDefEqProofs (maxSteps := 2000000) only [go_sem, ↓reduceIte, Nat.reduceAdd, Nat.reduceMul, Nat.reduceSub, Nat.reduceEqDiff, Nat.reduceLeDiff, Nat.reduceDiv, Nat.reduceMod, Nat.reduceBEq, Nat.reduceBNe, reduceCtorEq, Int.reduceLE, Int.reduceLT, Int.reduceToNat, Int.reduceNeg, Nat.reduceLT, Int.reduceEq, Int.reduceSub, Int.reduceAdd, Int.reduceMul, Nat.reducePow, Int.reduceBEq, Int.reduceBNe, Int.reduceMod, A22_L0b, Int.lt_irrefl, List.length_map])
      (fun k p q hk hp hq => by
        show (K E A22_L0 _).bind _ = if _ then (K E A22_L0 _).bind _ else _
        have h1 : (k : Int) < a.length := by omega
        have h0 : (0 : Int) ≤ k := by omega
        have hw := wr_succ (n := k) (by omega)
        have g1 := get_c2 hp
        have g2 := get_c2 hq
        obtain ⟨px, py⟩ := p
        obtain ⟨qx, qy⟩ := q
        conv => lhs; rw [A22_L0_eq]
        by_cases e : px = qx
        · subst e
          by_cases e2 : py = qy
          · subst e2
            simp +contextual -implicitDefEqProofs (maxSteps := 2000000) only [go_sem, ↓reduceIte, Nat.reduceAdd, Nat.reduceMul, Nat.reduceSub, Nat.reduceEqDiff, Nat.reduceLeDiff, Nat.reduceDiv, Nat.reduceMod, Nat.reduceBEq, Nat.reduceBNe, reduceCtorEq, Int.reduceLE, Int.reduceLT, Int.reduceToNat, Int.reduceNeg, Nat.reduceLT, Int.reduceEq, Int.reduceSub, Int.reduceAdd, Int.reduceMul, Nat.reducePow, Int.reduceBEq, Int.reduceBNe, Int.reduceMod, A22_L0b, List.length_map, h0, h1, hw, g1, g2, bne_self_eq_false, beq_self_eq_true]
          · have e' : (py == qy) = false := by simpa using e2
            simp +contextual -implicitDefEqProofs (maxSteps := 2000000) only [go_sem, ↓reduceIte, Nat.reduceAdd, Nat.reduceMul, Nat.reduceSub, Nat.reduceEqDiff, Nat.reduceLeDiff, Nat.reduceDiv, Nat.reduceMod, Nat.reduceBEq, Nat.reduceBNe, reduceCtorEq, Int.reduceLE, Int.reduceLT, Int.reduceToNat, Int.reduceNeg, Nat.reduceLT, Int.reduceEq, Int.reduceSub, Int.reduceAdd, Int.reduceMul, Nat.reducePow, Int.reduceBEq, Int.reduceBNe, Int.reduceMod, A22_L0b, List.length_map, h0, h1, hw, g1, g2, bne_self_eq_false, beq_self_eq_true, e', Prod.mk.injEq, e2]
        · have e' : (px == qx) = false := by simpa using e
          simp +contextual -implicitDefEqProofs (maxSteps := 2000000) only [go_sem, ↓reduceIte, Nat.reduceAdd, Nat.reduceMul, Nat.reduceSub, Nat.reduceEqDiff, Nat.reduceLeDiff, Nat.reduceDiv, Nat.reduceMod, Nat.reduceBEq, Nat.reduceBNe, reduceCtorEq, Int.reduceLE, Int.reduceLT, Int.reduceToNat, Int.reduceNeg, Nat.reduceLT, Int.reduceEq, Int.reduceSub, Int.reduceAdd, Int.reduceMul, Nat.reducePow, Int.reduceBEq, Int.reduceBNe, Int.reduceMod, A22_L0b, List.length_map, h0, h1, hw, g1, g2, e', Prod.mk.injEq, e])
    simp only [Int.natCast_zero, Int.ofNat_zero] at lp
    have h' : ((a.length : Int) != b.length) = false := by simp [h]
    by_cases e : a = b
    · subst e
      rw [if_pos rfl] at lp
      rw [pc_eq]; simp +contextual -implicitDefEqProofs (maxSteps := 2000000) only [go_sem, ↓reduceIte, Nat.reduceAdd, Nat.reduceMul, Nat.reduceSub, Nat.reduceEqDiff, Nat.reduceLeDiff, Nat.reduceDiv, Nat.reduceMod, Nat.reduceBEq, Nat.reduceBNe, reduceCtorEq, Int.reduceLE, Int.reduceLT, Int.reduceToNat, Int.reduceNeg, Nat.reduceLT, Int.reduceEq, Int.reduceSub, Int.reduceAdd, Int.reduceMul, Nat.reducePow, Int.reduceBEq, Int.reduceBNe, Int.reduceMod, E_22, A22, List.length_map, h', lp, bne_self_eq_false]
    · rw [if_neg e] at lp
      rw [pc_eq]; simp +contextual -implicitDefEqProofs (maxSteps := 2000000) only [go_sem, ↓reduceIte, Nat.reduceAdd, Nat.reduceMul, Nat.reduceSub, Nat.reduceEqDiff, Nat.reduceLeDiff, Nat.reduceDiv, Nat.reduceMod, Nat.reduceBEq, Nat.reduceBNe, reduceCtorEq, Int.reduceLE, Int.reduceLT, Int.reduceToNat, Int.reduceNeg, Nat.reduceLT, Int.reduceEq, Int.reduceSub, Int.reduceAdd, Int.reduceMul, Nat.reducePow, Int.reduceBEq, Int.reduceBNe, Int.reduceMod, E_22, A22, List.length_map, h', lp, e]
  · have h' : ((a.length : Int) != b.length) = true := by simp; omega
    have h2 : ¬ ((a.length : Int) = b.length) := by omega
    have e : ¬ a = b := fun e => h (by rw [e])
    rw [pc_eq]; simp +contextual -implicitDefEqProofs (maxSteps := 2000000) only [go_sem, ↓reduceIte, Nat.reduceAdd, Nat.reduceMul, Nat.reduceSub, Nat.reduceEqDiff, Nat.reduceLeDiff, Nat.reduceDiv, Nat.reduceMod, Nat.reduceBEq, Nat.reduceBNe, reduceCtorEq, Int.reduceLE, Int.reduceLT, Int.reduceToNat, Int.reduceNeg, Nat.reduceLT, Int.reduceEq, Int.reduceSub, Int.reduceAdd, Int.reduceMul, Nat.reducePow, Int.reduceBEq, Int.reduceBNe, Int.reduceMod, E_22, A22, List.length_map, h', h2, e]
def farI (ax ay bx by_ : Int) : Int := ((ax - bx).tdiv 16) * ((ax - bx).tdiv 16) + ((ay - by_).tdiv 16) * ((ay - by_).tdiv 16)
theorem td16 {x : Int} (h : -2000000000 ≤ x ∧ x ≤ 2000000000) : -125000000 ≤ x.tdiv 16 ∧ x.tdiv 16 ≤ 125000000 := by
  rcases Int.lt_or_le x 0 with hx | hx
  · obtain ⟨y, rfl⟩ : ∃ y : Int, x = -y := ⟨-x, by omega⟩
    rw [Int.neg_tdiv, Int.tdiv_eq_ediv_of_nonneg (by omega)]; omega
  · rw [Int.tdiv_eq_ediv_of_nonneg (by omega)]; omega
theorem c29 (ax ay bx by_ : Int) (h1 : -1000000000 ≤ ax ∧ ax ≤ 1000000000) (h2 : -1000000000 ≤ ay ∧ ay ≤ 1000000000) (h3 : -1000000000 ≤ bx ∧ bx ≤ 1000000000) (h4 : -1000000000 ≤ by_ ∧ by_ ≤ 1000000000) : pc E 29 [.agg [.int .i64 ax, .int .i64 ay], .agg [.int .i64 bx, .int .i64 by_]] = some (.int .i64 (farI ax ay bx by_)) := by
  have w1 : IntKind.i64.wrap (ax - bx) = ax - bx := wrap_small (by omega) (by omega)
  have w2 : IntKind.i64.wrap (ay - by_) = ay - by_ := wrap_small (by omega) (by omega)
  have t1 := td16 (x := ax - bx) (by omega)
  have t2 := td16 (x := ay - by_) (by omega)
  unfold farI
  generalize hu : (ax - bx).tdiv 16 = u at *
  generalize hv : (ay - by_).tdiv 16 = v at *
  have m1 := mul_bd (A := 125000000) (C := 125000000) (x := u) (y := u) (by omega) (by omega) (by omega) (by omega)
  have m2 := mul_bd (A := 125000000) (C := 125000000) (x := v) (y := v) (by omega) (by omega) (by omega) (by omega)
  have w3 : IntKind.i64.wrap u = u := wrap_small (by omega) (by omega)
  have w4 : IntKind.i64.wrap v = v := wrap_small (by omega) (by omega)
  have w5 : IntKind.i64.wrap (u * u) = u * u := wrap_small (by omega) (by omega)
  have w6 : IntKind.i64.wrap (v * v) = v * v := wrap_small (by omega) (by omega)
  have w7 : IntKind.i64.wrap (u * u + v * v) = u * u + v * v := wrap_small (by omega) (by omega)
  rw [pc_eq]; simp +contextual -implicitDefEqProofs (maxSteps := 2000000) only [go_sem, ↓reduceIte, Nat.reduceAdd, Nat.reduceMul, Nat.reduceSub, Nat.reduceEqDiff, Nat.reduceLeDiff, Nat.reduceDiv, Nat.reduceMod, Nat.reduceBEq, Nat.reduceBNe, reduceCtorEq, Int.reduceLE, Int.reduceLT, Int.reduceToNat, Int.reduceNeg, Nat.reduceLT, Int.reduceEq, Int.reduceSub, Int.reduceAdd, Int.reduceMul, Nat.reducePow, Int.reduceBEq, Int.reduceBNe, Int.reduceMod, E_29, A29, hu, hv, w1, w2, w3, w4, w5, w6, w7]
theorem c21 (a : Arm) (h : OKa a) (q0 q1 q2 : Int) : pc E 21 [av a, jv q0 q1 q2] = some (.agg ((lks a (dd q0 q1 q2)).map lkv)) := by
  have h1 := c26' a q0 q1 q2
  have h2 := c28 a h q0 q1 q2
  have v := ddV q0 q1 q2
  have b := bds h v
  obtain ⟨o0x, o0y, o1x, o1y, o2x, o2y, bx, by_⟩ := b
  have hw : 0 ≤ a.w ∧ a.w ≤ 40 := by have := h.w; omega
  generalize dd q0 q1 q2 = d at *
  have k1 := c49 _ _ 1 (by omega) v.v1 a.w hw
  have k2 := c49 _ _ 2 (by omega) v.v2 a.w hw
  have k3 := c49 _ _ 3 (by omega) v.v3 a.w hw
  have u1 := ux_bd v.v1 a.w hw
  have u2 := ux_bd v.v2 a.w hw
  have u3 := ux_bd v.v3 a.w hw
  simp only [u65, Int.natCast_one, Int.cast_ofNat_Int] at k1 k2 k3 u1 u2 u3
  unfold lks
  have hp : (-1000000000 ≤ (pp a d).x1 ∧ (pp a d).x1 ≤ 1000000000) ∧ (-1000000000 ≤ (pp a d).y1 ∧ (pp a d).y1 ≤ 1000000000) ∧ (-1000000000 ≤ (pp a d).x2 ∧ (pp a d).x2 ≤ 1000000000) ∧ (-1000000000 ≤ (pp a d).y2 ∧ (pp a d).y2 ≤ 1000000000) ∧ (-1000000000 ≤ (pp a d).x3 ∧ (pp a d).x3 ≤ 1000000000) ∧ (-1000000000 ≤ (pp a d).y3 ∧ (pp a d).y3 ≤ 1000000000) := by simp only [pp]; omega
  generalize pp a d = p at *
  obtain ⟨p1, p2, p3, p4, p5, p6⟩ := hp
  generalize a.w * 67600 * d.x1 = ox1 at *
  generalize a.w * 67600 * d.y1 = oy1 at *
  generalize a.w * 1040 * d.x2 = ox2 at *
  generalize a.w * 1040 * d.y2 = oy2 at *
  generalize a.w * 16 * d.x3 = ox3 at *
  generalize a.w * 16 * d.y3 = oy3 at *
  have n0a : IntKind.i64.wrap (0 - ox1) = -ox1 := by rw [wrap_small (by omega) (by omega)]; omega
  have n0b : IntKind.i64.wrap (0 - oy1) = -oy1 := by rw [wrap_small (by omega) (by omega)]; omega
  have g00 := c50 a.bx a.by_ oy1 (-ox1)
  rw [wrap_small (by omega) (by omega), wrap_small (by omega) (by omega), show a.by_ + -ox1 = a.by_ - ox1 by omega] at g00
  have g01 := c50 p.x1 p.y1 oy1 (-ox1)
  rw [wrap_small (by omega) (by omega), wrap_small (by omega) (by omega), show p.y1 + -ox1 = p.y1 - ox1 by omega] at g01
  have g02 := c50 p.x1 p.y1 (-oy1) ox1
  rw [wrap_small (by omega) (by omega), wrap_small (by omega) (by omega), show p.x1 + -oy1 = p.x1 - oy1 by omega] at g02
  have g03 := c50 a.bx a.by_ (-oy1) ox1
  rw [wrap_small (by omega) (by omega), wrap_small (by omega) (by omega), show a.bx + -oy1 = a.bx - oy1 by omega] at g03
  have n1a : IntKind.i64.wrap (0 - ox2) = -ox2 := by rw [wrap_small (by omega) (by omega)]; omega
  have n1b : IntKind.i64.wrap (0 - oy2) = -oy2 := by rw [wrap_small (by omega) (by omega)]; omega
  have g10 := c50 p.x1 p.y1 oy2 (-ox2)
  rw [wrap_small (by omega) (by omega), wrap_small (by omega) (by omega), show p.y1 + -ox2 = p.y1 - ox2 by omega] at g10
  have g11 := c50 p.x2 p.y2 oy2 (-ox2)
  rw [wrap_small (by omega) (by omega), wrap_small (by omega) (by omega), show p.y2 + -ox2 = p.y2 - ox2 by omega] at g11
  have g12 := c50 p.x2 p.y2 (-oy2) ox2
  rw [wrap_small (by omega) (by omega), wrap_small (by omega) (by omega), show p.x2 + -oy2 = p.x2 - oy2 by omega] at g12
  have g13 := c50 p.x1 p.y1 (-oy2) ox2
  rw [wrap_small (by omega) (by omega), wrap_small (by omega) (by omega), show p.x1 + -oy2 = p.x1 - oy2 by omega] at g13
  have n2a : IntKind.i64.wrap (0 - ox3) = -ox3 := by rw [wrap_small (by omega) (by omega)]; omega
  have n2b : IntKind.i64.wrap (0 - oy3) = -oy3 := by rw [wrap_small (by omega) (by omega)]; omega
  have g20 := c50 p.x2 p.y2 oy3 (-ox3)
  rw [wrap_small (by omega) (by omega), wrap_small (by omega) (by omega), show p.y2 + -ox3 = p.y2 - ox3 by omega] at g20
  have g21 := c50 p.x3 p.y3 oy3 (-ox3)
  rw [wrap_small (by omega) (by omega), wrap_small (by omega) (by omega), show p.y3 + -ox3 = p.y3 - ox3 by omega] at g21
  have g22 := c50 p.x3 p.y3 (-oy3) ox3
  rw [wrap_small (by omega) (by omega), wrap_small (by omega) (by omega), show p.x3 + -oy3 = p.x3 - oy3 by omega] at g22
  have g23 := c50 p.x2 p.y2 (-oy3) ox3
  rw [wrap_small (by omega) (by omega), wrap_small (by omega) (by omega), show p.x2 + -oy3 = p.x2 - oy3 by omega] at g23
  rw [pc_eq]; simp +contextual -implicitDefEqProofs (maxSteps := 2000000) only [go_sem, ↓reduceIte, Nat.reduceAdd, Nat.reduceMul, Nat.reduceSub, Nat.reduceEqDiff, Nat.reduceLeDiff, Nat.reduceDiv, Nat.reduceMod, Nat.reduceBEq, Nat.reduceBNe, reduceCtorEq, Int.reduceLE, Int.reduceLT, Int.reduceToNat, Int.reduceNeg, Nat.reduceLT, Int.reduceEq, Int.reduceSub, Int.reduceAdd, Int.reduceMul, Nat.reducePow, Int.reduceBEq, Int.reduceBNe, Int.reduceMod, E_21, A21, A21_L0_eq, A21_L0b, h1, h2, k1, k2, k3, g00, g01, g02, g03, g10, g11, g12, g13, g20, g21, g22, g23, n0a, n0b, n1a, n1b, n2a, n2b, lkc, c2, List.map_cons, List.map_nil]
  rfl
end Go.Proofs.Ytnecdcaaknhgpaa

namespace Go.Proofs.Ytnecdcaaknhgpaa
set_option maxRecDepth 100000
set_option maxHeartbeats 4000000
set_option linter.unusedSimpArgs false
set_option linter.unusedVariables false
open Go Go.Zv
def one : Arm := ⟨0, 0, 1, 1, 1, 1, -17, -17, -17, 18, 18, 18⟩
def one8 : Arm := ⟨8, 0, 1, 1, 1, 1, -17, -17, -17, 18, 18, 18⟩
theorem ok1 : OKa one := by constructor <;> simp [one]
theorem c45 : pc E 45 [] = some (av one) := by rw [pc_eq]; simp +contextual -implicitDefEqProofs (maxSteps := 2000000) only [go_sem, ↓reduceIte, Nat.reduceAdd, Nat.reduceMul, Nat.reduceSub, Nat.reduceEqDiff, Nat.reduceLeDiff, Nat.reduceDiv, Nat.reduceMod, Nat.reduceBEq, Nat.reduceBNe, reduceCtorEq, Int.reduceLE, Int.reduceLT, Int.reduceToNat, Int.reduceNeg, Nat.reduceLT, Int.reduceEq, Int.reduceSub, Int.reduceAdd, Int.reduceMul, Nat.reducePow, Int.reduceBEq, Int.reduceBNe, Int.reduceMod, E_45, A45]; rfl
theorem c14 : pc E 14 [] = some (.bool true) := by
  have h0 := c45
  have h1 : pc E 27 [av one, jv 0 0 0] = some (.agg [.int .i64 0, .int .i64 0, .int .i64 4394000, .int .i64 0, .int .i64 8788000, .int .i64 0, .int .i64 13182000, .int .i64 0]) := c27 one ok1 0 0 0
  have h2 : pc E 27 [av one, jv 9 0 (-9)] = some (.agg [.int .i64 0, .int .i64 0, .int .i64 0, .int .i64 4394000, .int .i64 0, .int .i64 8788000, .int .i64 4394000, .int .i64 8788000]) := c27 one ok1 9 0 (-9)
  have h3 : pc E 20 [av one, jv 0 0 0] = some (.agg [lkv [(0, -4394000), (4394000, -4394000), (4394000, 4394000), (0, 4394000)], lkv [(4394000, -4394000), (8788000, -4394000), (8788000, 4394000), (4394000, 4394000)], lkv [(8788000, -4394000), (13182000, -4394000), (13182000, 4394000), (8788000, 4394000)]]) := c20 one ok1 0 0 0
  have h4 : pc E 23 [av one, jv 18 0 (-17), .int .i64 1, .int .i64 (-1)] = some (.tup [jv 18 (-1) (-17), .bool true]) := c23 one 18 0 (-17) 1 (-1) (by omega) (by omega) (by omega)
  have h5 : pc E 23 [av one, jv 18 0 (-17), .int .i64 0, .int .i64 1] = some (.tup [jv 0 0 0, .bool false]) := c23 one 18 0 (-17) 0 1 (by omega) (by omega) (by omega)
  have h6 : pc E 23 [av one, jv 18 0 (-17), .int .i64 2, .int .i64 (-1)] = some (.tup [jv 0 0 0, .bool false]) := c23 one 18 0 (-17) 2 (-1) (by omega) (by omega) (by omega)
  have h7 := c15 one
  rw [okT ok1] at h7
  have h8 := c15 one8
  rw [okF (fun h => by have := h.mx; simp [one8] at this)] at h8
  have h9 : pc E 17 [av one, jv 18 (-1) (-17)] = some (.bool true) := c17 one 18 (-1) (-17)
  have h10 : pc E 17 [av one, jv 0 19 0] = some (.bool false) := c17 one 0 19 0
  have h11 : pc E 25 [av one, jv 1 0 0] = some (.agg [.int .i64 63, .int .i64 16, .int .i64 1, .int .i64 4095, .int .i64 1040, .int .i64 2, .int .i64 266175, .int .i64 67600, .int .i64 3]) := c25' one 1 0 0
  have h12 := c22 [(4394000, -4394000), (8788000, -4394000), (8788000, 4394000), (4394000, 4394000)] [(4394000, -4394000), (8788000, -4394000), (8788000, 4394000), (4394000, 4394000)] (by simp)
  simp only [lkv, List.map_cons, List.map_nil, c2, decide_true, one, one8] at h0 h1 h2 h3 h4 h5 h6 h7 h8 h9 h10 h11 h12
  rw [pc_eq]; simp +contextual -implicitDefEqProofs (maxSteps := 2000000) only [go_sem, ↓reduceIte, Nat.reduceAdd, Nat.reduceMul, Nat.reduceSub, Nat.reduceEqDiff, Nat.reduceLeDiff, Nat.reduceDiv, Nat.reduceMod, Nat.reduceBEq, Nat.reduceBNe, reduceCtorEq, Int.reduceLE, Int.reduceLT, Int.reduceToNat, Int.reduceNeg, Nat.reduceLT, Int.reduceEq, Int.reduceSub, Int.reduceAdd, Int.reduceMul, Nat.reducePow, Int.reduceBEq, Int.reduceBNe, Int.reduceMod, E_14, A14, h0, h1, h2, h3, h4, h5, h6, h7, h8, h9, h10, h11, h12]
end Go.Proofs.Ytnecdcaaknhgpaa

namespace Go.Proofs.Ytnecdcaaknhgpaa
set_option maxRecDepth 100000
set_option maxHeartbeats 4000000
set_option linter.unusedSimpArgs false
set_option linter.unusedVariables false
open Go Go.Zv
def b1 (b : UInt8) : List LV := [.int .u8 b.toNat]
theorem get_b1 {l : List UInt8} {i : Nat} {p : UInt8} (h : l[i]? = some p) : (l.map b1)[i]? = some [.int .u8 p.toNat] := by
  rw [List.getElem?_map, h]; rfl
theorem stp_f {a : Arm} {q0 q1 q2 k b : Int} (h : ¬ Lim a (st1 q0 q1 q2 k b).1 (st1 q0 q1 q2 k b).2.1 (st1 q0 q1 q2 k b).2.2) : stp a q0 q1 q2 k b = .tup [jv 0 0 0, .bool false] := by
  unfold stp; rw [if_neg]; intro hh; exact h (limB_iff.1 hh.2.2)
theorem stp_t {a : Arm} {q0 q1 q2 k b : Int} (hk : 0 ≤ k ∧ k ≤ 2) (hb : b = 1 ∨ b = -1) (h : Lim a (st1 q0 q1 q2 k b).1 (st1 q0 q1 q2 k b).2.1 (st1 q0 q1 q2 k b).2.2) : stp a q0 q1 q2 k b = .tup [jv (st1 q0 q1 q2 k b).1 (st1 q0 q1 q2 k b).2.1 (st1 q0 q1 q2 k b).2.2, .bool true] := by
  unfold stp; rw [if_pos ⟨hk, hb, limT h⟩]
theorem tbf : (true == false) = false := rfl
theorem fbt : (false == true) = false := rfl
theorem tbt : (true == true) = true := rfl
theorem fbf : (false == false) = true := rfl
theorem n01 : ¬ ((1 : Int) = 0) := by omega
theorem n02 : ¬ ((2 : Int) = 0) := by omega
theorem n12 : ¬ ((2 : Int) = 1) := by omega
theorem loop6 (a : Arm) (h : OKa a) (l : List UInt8) (hl : l.length ≤ 100) (p : Int × Int × Int) (hp : Lim a p.1 p.2.1 p.2.2) : ∃ q : Int × Int × Int, Lim a q.1 q.2.1 q.2.2 ∧
    (K E A6_L0 ⟨[(2, .vs (l.map b1)), (3, .ptr 768 0), (7, .bool true), (8, .ptr 2048 0), (9, .int .i64 0)], [], [(2048, .box [.int .i64 p.1, .int .i64 p.2.1, .int .i64 p.2.2]), (768, .box (avc a))], 0⟩).bind (blockR 0 (some [3, 7, 8]) [6, 9, 10, 11, 12, 13, 14, 15, 16, 56, 96, 109]) =
    some (.ex .nrm ⟨[(3, .ptr 768 0), (7, .bool true), (8, .ptr 2048 0)], [], [(2048, .box [.int .i64 q.1, .int .i64 q.2.1, .int .i64 q.2.2]), (768, .box (avc a))], 0⟩) := by
  have hh := loop_inv (σ := Int × Int × Int) (fun S => (K E A6_L0 S).bind (blockR 0 (some [3, 7, 8]) [6, 9, 10, 11, 12, 13, 14, 15, 16, 56, 96, 109]))
    (fun k q => ⟨[(2, .vs (l.map b1)), (3, .ptr 768 0), (7, .bool true), (8, .ptr 2048 0), (9, .int .i64 k)], [], [(2048, .box [.int .i64 q.1, .int .i64 q.2.1, .int .i64 q.2.2]), (768, .box (avc a))], 0⟩) l.length (fun k q => Lim a q.1 q.2.1 q.2.2) ?_ p hp
  · obtain ⟨q, h1, h2⟩ := hh
    refine ⟨q, h1, h2.trans ?_⟩
    show (K E A6_L0 _).bind _ = _
    rw [A6_L0_eq]; simp +contextual -implicitDefEqProofs (maxSteps := 2000000) only [go_sem, ↓reduceIte, Nat.reduceAdd, Nat.reduceMul, Nat.reduceSub, Nat.reduceEqDiff, Nat.reduceLeDiff, Nat.reduceDiv, Nat.reduceMod, Nat.reduceBEq, Nat.reduceBNe, reduceCtorEq, Int.reduceLE, Int.reduceLT, Int.reduceToNat, Int.reduceNeg, Nat.reduceLT, Int.reduceEq, Int.reduceSub, Int.reduceAdd, Int.reduceMul, Nat.reducePow, Int.reduceBEq, Int.reduceBNe, Int.reduceMod, A6_L0b, List.length_map, Int.lt_irrefl]
  · rintro k ⟨q0, q1, q2⟩ hk hq
    simp only at hq
    have hget : l[k]? = some (l[k]'hk) := List.getElem?_eq_getElem _
    generalize l[k]'hk = v at *
    have hg := get_b1 hget
    have hv : v.toNat < 256 := v.toNat_lt
    have h1 : (k : Int) < l.length := by omega
    have h0 : (0 : Int) ≤ k := by omega
    have hw := wr_succ (n := k) (by omega)
    have w0 : IntKind.i64.wrap (v.toNat : Int) = v.toNat := wrap_small (by omega) (by omega)
    have t1 : (v.toNat : Int).tmod 3 = (v.toNat : Int) % 3 := tmod_pos (by omega)
    have t2 : (v.toNat : Int).tdiv 3 = (v.toNat : Int) / 3 := Int.tdiv_eq_ediv_of_nonneg (by omega)
    have w2 : IntKind.i64.wrap ((v.toNat : Int) / 3) = (v.toNat : Int) / 3 := wrap_small (by omega) (by omega)
    have t3 : ((v.toNat : Int) / 3).tmod 2 = (v.toNat : Int) / 3 % 2 := tmod_pos (by omega)
    have m0 : (v.toNat : Int) % 3 = 0 ∨ (v.toNat : Int) % 3 = 1 ∨ (v.toNat : Int) % 3 = 2 := by omega
    have m1 : (v.toNat : Int) / 3 % 2 = 0 ∨ (v.toNat : Int) / 3 % 2 = 1 := by omega
    generalize (v.toNat : Int) % 3 = kk at *
    generalize (v.toNat : Int) / 3 % 2 = mm at *
    have j0 := h.j0
    have j1 := h.j1
    have j2 := h.j2
    have a0 := hq.a0
    have a1 := hq.a1
    have a2 := hq.a2
    rcases m0 with rfl | m0
    · rcases m1 with rfl | rfl
      · by_cases he : q0 = a.hi0
        · have f1 := c23 a q0 q1 q2 0 1 (by omega) (by omega) (by omega)
          rw [stp_f (by simp only [st1, if_true, n01, n02, n12, if_false]; intro hh; obtain ⟨k0, k1, k2⟩ := hh; omega)] at f1
          have he2 : (q0 == a.hi0) = true := by simpa using he
          refine ⟨(q0, q1, q2), hq, ?_⟩
          show (K E A6_L0 _).bind _ = (K E A6_L0 _).bind _
          conv => lhs; rw [A6_L0_eq]
          simp +contextual -implicitDefEqProofs (maxSteps := 2000000) only [go_sem, ↓reduceIte, Nat.reduceAdd, Nat.reduceMul, Nat.reduceSub, Nat.reduceEqDiff, Nat.reduceLeDiff, Nat.reduceDiv, Nat.reduceMod, Nat.reduceBEq, Nat.reduceBNe, reduceCtorEq, Int.reduceLE, Int.reduceLT, Int.reduceToNat, Int.reduceNeg, Nat.reduceLT, Int.reduceEq, Int.reduceSub, Int.reduceAdd, Int.reduceMul, Nat.reducePow, Int.reduceBEq, Int.reduceBNe, Int.reduceMod, A6_L0b, List.length_map, h0, h1, hw, hg, w0, t1, t2, w2, t3, f1, he2, beq_self_eq_true, tbf, fbt, tbt, fbf]
        · have lr : Lim a (q0 + 1) (q1) (q2) := ⟨by omega, by omega, by omega⟩
          have f1 := c23 a q0 q1 q2 0 1 (by omega) (by omega) (by omega)
          rw [stp_t (by omega) (by omega) (by simp only [st1, if_true, n01, n02, n12, if_false]; exact lr)] at f1
          have f2 := c23 a (q0 + 1) (q1) (q2) 0 (-1) (by omega) (by omega) (by omega)
          have eb : q0 + 1 + (-1) = q0 := by omega
          rw [stp_t (by omega) (by omega) (by simp only [st1, if_true, n01, n02, n12, if_false, eb]; exact hq)] at f2
          simp only [st1, if_true, n01, n02, n12, if_false, eb] at f1 f2
          have f3 := c17 a (q0 + 1) (q1) (q2)
          rw [limT lr] at f3
          have he' : (q0 == a.hi0) = false := by simpa using he
          have w5 : IntKind.i64.wrap (q0 + 1) = q0 + 1 := wrap_small (by omega) (by omega)
          refine ⟨(q0 + 1, q1, q2), lr, ?_⟩
          show (K E A6_L0 _).bind _ = (K E A6_L0 _).bind _
          conv => lhs; rw [A6_L0_eq]
          simp +contextual -implicitDefEqProofs (maxSteps := 2000000) only [go_sem, ↓reduceIte, Nat.reduceAdd, Nat.reduceMul, Nat.reduceSub, Nat.reduceEqDiff, Nat.reduceLeDiff, Nat.reduceDiv, Nat.reduceMod, Nat.reduceBEq, Nat.reduceBNe, reduceCtorEq, Int.reduceLE, Int.reduceLT, Int.reduceToNat, Int.reduceNeg, Nat.reduceLT, Int.reduceEq, Int.reduceSub, Int.reduceAdd, Int.reduceMul, Nat.reducePow, Int.reduceBEq, Int.reduceBNe, Int.reduceMod, A6_L0b, List.length_map, h0, h1, hw, hg, w0, t1, t2, w2, t3, f1, f2, f3, w5, he, he', beq_self_eq_true, bne_self_eq_false, tbf, fbt, tbt, fbf]
      · by_cases he : q0 = a.lo0
        · have f1 := c23 a q0 q1 q2 0 (-1) (by omega) (by omega) (by omega)
          rw [stp_f (by simp only [st1, if_true, n01, n02, n12, if_false]; intro hh; obtain ⟨k0, k1, k2⟩ := hh; omega)] at f1
          have he2 : (q0 == a.lo0) = true := by simpa using he
          refine ⟨(q0, q1, q2), hq, ?_⟩
          show (K E A6_L0 _).bind _ = (K E A6_L0 _).bind _
          conv => lhs; rw [A6_L0_eq]
          simp +contextual -implicitDefEqProofs (maxSteps := 2000000) only [go_sem, ↓reduceIte, Nat.reduceAdd, Nat.reduceMul, Nat.reduceSub, Nat.reduceEqDiff, Nat.reduceLeDiff, Nat.reduceDiv, Nat.reduceMod, Nat.reduceBEq, Nat.reduceBNe, reduceCtorEq, Int.reduceLE, Int.reduceLT, Int.reduceToNat, Int.reduceNeg, Nat.reduceLT, Int.reduceEq, Int.reduceSub, Int.reduceAdd, Int.reduceMul, Nat.reducePow, Int.reduceBEq, Int.reduceBNe, Int.reduceMod, A6_L0b, List.length_map, h0, h1, hw, hg, w0, t1, t2, w2, t3, f1, he2, beq_self_eq_true, tbf, fbt, tbt, fbf]
        · have lr : Lim a (q0 + (-1)) (q1) (q2) := ⟨by omega, by omega, by omega⟩
          have f1 := c23 a q0 q1 q2 0 (-1) (by omega) (by omega) (by omega)
          rw [stp_t (by omega) (by omega) (by simp only [st1, if_true, n01, n02, n12, if_false]; exact lr)] at f1
          have f2 := c23 a (q0 + (-1)) (q1) (q2) 0 1 (by omega) (by omega) (by omega)
          have eb : q0 + (-1) + 1 = q0 := by omega
          rw [stp_t (by omega) (by omega) (by simp only [st1, if_true, n01, n02, n12, if_false, eb]; exact hq)] at f2
          simp only [st1, if_true, n01, n02, n12, if_false, eb] at f1 f2
          have f3 := c17 a (q0 + (-1)) (q1) (q2)
          rw [limT lr] at f3
          have he' : (q0 == a.lo0) = false := by simpa using he
          have w5 : IntKind.i64.wrap (q0 + (-1)) = q0 + (-1) := wrap_small (by omega) (by omega)
          refine ⟨(q0 + (-1), q1, q2), lr, ?_⟩
          show (K E A6_L0 _).bind _ = (K E A6_L0 _).bind _
          conv => lhs; rw [A6_L0_eq]
          simp +contextual -implicitDefEqProofs (maxSteps := 2000000) only [go_sem, ↓reduceIte, Nat.reduceAdd, Nat.reduceMul, Nat.reduceSub, Nat.reduceEqDiff, Nat.reduceLeDiff, Nat.reduceDiv, Nat.reduceMod, Nat.reduceBEq, Nat.reduceBNe, reduceCtorEq, Int.reduceLE, Int.reduceLT, Int.reduceToNat, Int.reduceNeg, Nat.reduceLT, Int.reduceEq, Int.reduceSub, Int.reduceAdd, Int.reduceMul, Nat.reducePow, Int.reduceBEq, Int.reduceBNe, Int.reduceMod, A6_L0b, List.length_map, h0, h1, hw, hg, w0, t1, t2, w2, t3, f1, f2, f3, w5, he, he', beq_self_eq_true, bne_self_eq_false, tbf, fbt, tbt, fbf]
    rcases m0 with rfl | rfl
    · rcases m1 with rfl | rfl
      · by_cases he : q1 = a.hi1
        · have f1 := c23 a q0 q1 q2 1 1 (by omega) (by omega) (by omega)
          rw [stp_f (by simp only [st1, if_true, n01, n02, n12, if_false]; intro hh; obtain ⟨k0, k1, k2⟩ := hh; omega)] at f1
          have he2 : (q1 == a.hi1) = true := by simpa using he
          refine ⟨(q0, q1, q2), hq, ?_⟩
          show (K E A6_L0 _).bind _ = (K E A6_L0 _).bind _
          conv => lhs; rw [A6_L0_eq]
          simp +contextual -implicitDefEqProofs (maxSteps := 2000000) only [go_sem, ↓reduceIte, Nat.reduceAdd, Nat.reduceMul, Nat.reduceSub, Nat.reduceEqDiff, Nat.reduceLeDiff, Nat.reduceDiv, Nat.reduceMod, Nat.reduceBEq, Nat.reduceBNe, reduceCtorEq, Int.reduceLE, Int.reduceLT, Int.reduceToNat, Int.reduceNeg, Nat.reduceLT, Int.reduceEq, Int.reduceSub, Int.reduceAdd, Int.reduceMul, Nat.reducePow, Int.reduceBEq, Int.reduceBNe, Int.reduceMod, A6_L0b, List.length_map, h0, h1, hw, hg, w0, t1, t2, w2, t3, f1, he2, beq_self_eq_true, tbf, fbt, tbt, fbf]
        · have lr : Lim a (q0) (q1 + 1) (q2) := ⟨by omega, by omega, by omega⟩
          have f1 := c23 a q0 q1 q2 1 1 (by omega) (by omega) (by omega)
          rw [stp_t (by omega) (by omega) (by simp only [st1, if_true, n01, n02, n12, if_false]; exact lr)] at f1
          have f2 := c23 a (q0) (q1 + 1) (q2) 1 (-1) (by omega) (by omega) (by omega)
          have eb : q1 + 1 + (-1) = q1 := by omega
          rw [stp_t (by omega) (by omega) (by simp only [st1, if_true, n01, n02, n12, if_false, eb]; exact hq)] at f2
          simp only [st1, if_true, n01, n02, n12, if_false, eb] at f1 f2
          have f3 := c17 a (q0) (q1 + 1) (q2)
          rw [limT lr] at f3
          have he' : (q1 == a.hi1) = false := by simpa using he
          have w5 : IntKind.i64.wrap (q1 + 1) = q1 + 1 := wrap_small (by omega) (by omega)
          refine ⟨(q0, q1 + 1, q2), lr, ?_⟩
          show (K E A6_L0 _).bind _ = (K E A6_L0 _).bind _
          conv => lhs; rw [A6_L0_eq]
          simp +contextual -implicitDefEqProofs (maxSteps := 2000000) only [go_sem, ↓reduceIte, Nat.reduceAdd, Nat.reduceMul, Nat.reduceSub, Nat.reduceEqDiff, Nat.reduceLeDiff, Nat.reduceDiv, Nat.reduceMod, Nat.reduceBEq, Nat.reduceBNe, reduceCtorEq, Int.reduceLE, Int.reduceLT, Int.reduceToNat, Int.reduceNeg, Nat.reduceLT, Int.reduceEq, Int.reduceSub, Int.reduceAdd, Int.reduceMul, Nat.reducePow, Int.reduceBEq, Int.reduceBNe, Int.reduceMod, A6_L0b, List.length_map, h0, h1, hw, hg, w0, t1, t2, w2, t3, f1, f2, f3, w5, he, he', beq_self_eq_true, bne_self_eq_false, tbf, fbt, tbt, fbf]
      · by_cases he : q1 = a.lo1
        · have f1 := c23 a q0 q1 q2 1 (-1) (by omega) (by omega) (by omega)
          rw [stp_f (by simp only [st1, if_true, n01, n02, n12, if_false]; intro hh; obtain ⟨k0, k1, k2⟩ := hh; omega)] at f1
          have he2 : (q1 == a.lo1) = true := by simpa using he
          refine ⟨(q0, q1, q2), hq, ?_⟩
          show (K E A6_L0 _).bind _ = (K E A6_L0 _).bind _
          conv => lhs; rw [A6_L0_eq]
          simp +contextual -implicitDefEqProofs (maxSteps := 2000000) only [go_sem, ↓reduceIte, Nat.reduceAdd, Nat.reduceMul, Nat.reduceSub, Nat.reduceEqDiff, Nat.reduceLeDiff, Nat.reduceDiv, Nat.reduceMod, Nat.reduceBEq, Nat.reduceBNe, reduceCtorEq, Int.reduceLE, Int.reduceLT, Int.reduceToNat, Int.reduceNeg, Nat.reduceLT, Int.reduceEq, Int.reduceSub, Int.reduceAdd, Int.reduceMul, Nat.reducePow, Int.reduceBEq, Int.reduceBNe, Int.reduceMod, A6_L0b, List.length_map, h0, h1, hw, hg, w0, t1, t2, w2, t3, f1, he2, beq_self_eq_true, tbf, fbt, tbt, fbf]
        · have lr : Lim a (q0) (q1 + (-1)) (q2) := ⟨by omega, by omega, by omega⟩
          have f1 := c23 a q0 q1 q2 1 (-1) (by omega) (by omega) (by omega)
          rw [stp_t (by omega) (by omega) (by simp only [st1, if_true, n01, n02, n12, if_false]; exact lr)] at f1
          have f2 := c23 a (q0) (q1 + (-1)) (q2) 1 1 (by omega) (by omega) (by omega)
          have eb : q1 + (-1) + 1 = q1 := by omega
          rw [stp_t (by omega) (by omega) (by simp only [st1, if_true, n01, n02, n12, if_false, eb]; exact hq)] at f2
          simp only [st1, if_true, n01, n02, n12, if_false, eb] at f1 f2
          have f3 := c17 a (q0) (q1 + (-1)) (q2)
          rw [limT lr] at f3
          have he' : (q1 == a.lo1) = false := by simpa using he
          have w5 : IntKind.i64.wrap (q1 + (-1)) = q1 + (-1) := wrap_small (by omega) (by omega)
          refine ⟨(q0, q1 + (-1), q2), lr, ?_⟩
          show (K E A6_L0 _).bind _ = (K E A6_L0 _).bind _
          conv => lhs; rw [A6_L0_eq]
          simp +contextual -implicitDefEqProofs (maxSteps := 2000000) only [go_sem, ↓reduceIte, Nat.reduceAdd, Nat.reduceMul, Nat.reduceSub, Nat.reduceEqDiff, Nat.reduceLeDiff, Nat.reduceDiv, Nat.reduceMod, Nat.reduceBEq, Nat.reduceBNe, reduceCtorEq, Int.reduceLE, Int.reduceLT, Int.reduceToNat, Int.reduceNeg, Nat.reduceLT, Int.reduceEq, Int.reduceSub, Int.reduceAdd, Int.reduceMul, Nat.reducePow, Int.reduceBEq, Int.reduceBNe, Int.reduceMod, A6_L0b, List.length_map, h0, h1, hw, hg, w0, t1, t2, w2, t3, f1, f2, f3, w5, he, he', beq_self_eq_true, bne_self_eq_false, tbf, fbt, tbt, fbf]
    · rcases m1 with rfl | rfl
      · by_cases he : q2 = a.hi2
        · have f1 := c23 a q0 q1 q2 2 1 (by omega) (by omega) (by omega)
          rw [stp_f (by simp only [st1, if_true, n01, n02, n12, if_false]; intro hh; obtain ⟨k0, k1, k2⟩ := hh; omega)] at f1
          have he2 : (q2 == a.hi2) = true := by simpa using he
          refine ⟨(q0, q1, q2), hq, ?_⟩
          show (K E A6_L0 _).bind _ = (K E A6_L0 _).bind _
          conv => lhs; rw [A6_L0_eq]
          simp +contextual -implicitDefEqProofs (maxSteps := 2000000) only [go_sem, ↓reduceIte, Nat.reduceAdd, Nat.reduceMul, Nat.reduceSub, Nat.reduceEqDiff, Nat.reduceLeDiff, Nat.reduceDiv, Nat.reduceMod, Nat.reduceBEq, Nat.reduceBNe, reduceCtorEq, Int.reduceLE, Int.reduceLT, Int.reduceToNat, Int.reduceNeg, Nat.reduceLT, Int.reduceEq, Int.reduceSub, Int.reduceAdd, Int.reduceMul, Nat.reducePow, Int.reduceBEq, Int.reduceBNe, Int.reduceMod, A6_L0b, List.length_map, h0, h1, hw, hg, w0, t1, t2, w2, t3, f1, he2, beq_self_eq_true, tbf, fbt, tbt, fbf]
        · have lr : Lim a (q0) (q1) (q2 + 1) := ⟨by omega, by omega, by omega⟩
          have f1 := c23 a q0 q1 q2 2 1 (by omega) (by omega) (by omega)
          rw [stp_t (by omega) (by omega) (by simp only [st1, if_true, n01, n02, n12, if_false]; exact lr)] at f1
          have f2 := c23 a (q0) (q1) (q2 + 1) 2 (-1) (by omega) (by omega) (by omega)
          have eb : q2 + 1 + (-1) = q2 := by omega
          rw [stp_t (by omega) (by omega) (by simp only [st1, if_true, n01, n02, n12, if_false, eb]; exact hq)] at f2
          simp only [st1, if_true, n01, n02, n12, if_false, eb] at f1 f2
          have f3 := c17 a (q0) (q1) (q2 + 1)
          rw [limT lr] at f3
          have he' : (q2 == a.hi2) = false := by simpa using he
          have w5 : IntKind.i64.wrap (q2 + 1) = q2 + 1 := wrap_small (by omega) (by omega)
          refine ⟨(q0, q1, q2 + 1), lr, ?_⟩
          show (K E A6_L0 _).bind _ = (K E A6_L0 _).bind _
          conv => lhs; rw [A6_L0_eq]
          simp +contextual -implicitDefEqProofs (maxSteps := 2000000) only [go_sem, ↓reduceIte, Nat.reduceAdd, Nat.reduceMul, Nat.reduceSub, Nat.reduceEqDiff, Nat.reduceLeDiff, Nat.reduceDiv, Nat.reduceMod, Nat.reduceBEq, Nat.reduceBNe, reduceCtorEq, Int.reduceLE, Int.reduceLT, Int.reduceToNat, Int.reduceNeg, Nat.reduceLT, Int.reduceEq, Int.reduceSub, Int.reduceAdd, Int.reduceMul, Nat.reducePow, Int.reduceBEq, Int.reduceBNe, Int.reduceMod, A6_L0b, List.length_map, h0, h1, hw, hg, w0, t1, t2, w2, t3, f1, f2, f3, w5, he, he', beq_self_eq_true, bne_self_eq_false, tbf, fbt, tbt, fbf]
      · by_cases he : q2 = a.lo2
        · have f1 := c23 a q0 q1 q2 2 (-1) (by omega) (by omega) (by omega)
          rw [stp_f (by simp only [st1, if_true, n01, n02, n12, if_false]; intro hh; obtain ⟨k0, k1, k2⟩ := hh; omega)] at f1
          have he2 : (q2 == a.lo2) = true := by simpa using he
          refine ⟨(q0, q1, q2), hq, ?_⟩
          show (K E A6_L0 _).bind _ = (K E A6_L0 _).bind _
          conv => lhs; rw [A6_L0_eq]
          simp +contextual -implicitDefEqProofs (maxSteps := 2000000) only [go_sem, ↓reduceIte, Nat.reduceAdd, Nat.reduceMul, Nat.reduceSub, Nat.reduceEqDiff, Nat.reduceLeDiff, Nat.reduceDiv, Nat.reduceMod, Nat.reduceBEq, Nat.reduceBNe, reduceCtorEq, Int.reduceLE, Int.reduceLT, Int.reduceToNat, Int.reduceNeg, Nat.reduceLT, Int.reduceEq, Int.reduceSub, Int.reduceAdd, Int.reduceMul, Nat.reducePow, Int.reduceBEq, Int.reduceBNe, Int.reduceMod, A6_L0b, List.length_map, h0, h1, hw, hg, w0, t1, t2, w2, t3, f1, he2, beq_self_eq_true, tbf, fbt, tbt, fbf]
        · have lr : Lim a (q0) (q1) (q2 + (-1)) := ⟨by omega, by omega, by omega⟩
          have f1 := c23 a q0 q1 q2 2 (-1) (by omega) (by omega) (by omega)
          rw [stp_t (by omega) (by omega) (by simp only [st1, if_true, n01, n02, n12, if_false]; exact lr)] at f1
          have f2 := c23 a (q0) (q1) (q2 + (-1)) 2 1 (by omega) (by omega) (by omega)
          have eb : q2 + (-1) + 1 = q2 := by omega
          rw [stp_t (by omega) (by omega) (by simp only [st1, if_true, n01, n02, n12, if_false, eb]; exact hq)] at f2
          simp only [st1, if_true, n01, n02, n12, if_false, eb] at f1 f2
          have f3 := c17 a (q0) (q1) (q2 + (-1))
          rw [limT lr] at f3
          have he' : (q2 == a.lo2) = false := by simpa using he
          have w5 : IntKind.i64.wrap (q2 + (-1)) = q2 + (-1) := wrap_small (by omega) (by omega)
          refine ⟨(q0, q1, q2 + (-1)), lr, ?_⟩
          show (K E A6_L0 _).bind _ = (K E A6_L0 _).bind _
          conv => lhs; rw [A6_L0_eq]
          simp +contextual -implicitDefEqProofs (maxSteps := 2000000) only [go_sem, ↓reduceIte, Nat.reduceAdd, Nat.reduceMul, Nat.reduceSub, Nat.reduceEqDiff, Nat.reduceLeDiff, Nat.reduceDiv, Nat.reduceMod, Nat.reduceBEq, Nat.reduceBNe, reduceCtorEq, Int.reduceLE, Int.reduceLT, Int.reduceToNat, Int.reduceNeg, Nat.reduceLT, Int.reduceEq, Int.reduceSub, Int.reduceAdd, Int.reduceMul, Nat.reducePow, Int.reduceBEq, Int.reduceBNe, Int.reduceMod, A6_L0b, List.length_map, h0, h1, hw, hg, w0, t1, t2, w2, t3, f1, f2, f3, w5, he, he', beq_self_eq_true, bne_self_eq_false, tbf, fbt, tbt, fbf]
theorem law6 (a : Arm) (r0 r1 r2 : Int) (h0 : 0 ≤ r0 ∧ r0 ≤ 255) (h1 : 0 ≤ r1 ∧ r1 ≤ 255) (h2 : 0 ≤ r2 ∧ r2 ≤ 255) (l : List UInt8) :
    pc E 6 [av a, .agg [.int .u8 r0, .int .u8 r1, .int .u8 r2], .vs (l.map b1)] = some (.bool true) := by
  have e0 := c14
  have e1 := c15 a
  cases ho : okB a with
  | false =>
    rw [ho] at e1
    rw [pc_eq]; simp +contextual -implicitDefEqProofs (maxSteps := 2000000) only [go_sem, ↓reduceIte, Nat.reduceAdd, Nat.reduceMul, Nat.reduceSub, Nat.reduceEqDiff, Nat.reduceLeDiff, Nat.reduceDiv, Nat.reduceMod, Nat.reduceBEq, Nat.reduceBNe, reduceCtorEq, Int.reduceLE, Int.reduceLT, Int.reduceToNat, Int.reduceNeg, Nat.reduceLT, Int.reduceEq, Int.reduceSub, Int.reduceAdd, Int.reduceMul, Nat.reducePow, Int.reduceBEq, Int.reduceBNe, Int.reduceMod, E_6, A6, e0, e1]
  | true =>
    have h := okB_iff.1 ho
    rw [ho] at e1
    by_cases hl : (100 : Int) < l.length
    · rw [pc_eq]; simp +contextual -implicitDefEqProofs (maxSteps := 2000000) only [go_sem, ↓reduceIte, Nat.reduceAdd, Nat.reduceMul, Nat.reduceSub, Nat.reduceEqDiff, Nat.reduceLeDiff, Nat.reduceDiv, Nat.reduceMod, Nat.reduceBEq, Nat.reduceBNe, reduceCtorEq, Int.reduceLE, Int.reduceLT, Int.reduceToNat, Int.reduceNeg, Nat.reduceLT, Int.reduceEq, Int.reduceSub, Int.reduceAdd, Int.reduceMul, Nat.reducePow, Int.reduceBEq, Int.reduceBNe, Int.reduceMod, E_6, A6, e0, e1, List.length_map, hl]
    · have e5 := c19 a h r0 r1 r2 h0 h1 h2
      have lm := jt_lim h r0 r1 r2
      generalize jt a.lo0 a.hi0 r0 = p0 at *
      generalize jt a.lo1 a.hi1 r1 = p1 at *
      generalize jt a.lo2 a.hi2 r2 = p2 at *
      obtain ⟨⟨q0, q1, q2⟩, hq, lp⟩ := loop6 a h l (by omega) (p0, p1, p2) lm
      simp only at hq lp
      have e6 := c17 a q0 q1 q2
      rw [limT hq] at e6
      rw [pc_eq]; simp +contextual -implicitDefEqProofs (maxSteps := 2000000) only [go_sem, ↓reduceIte, Nat.reduceAdd, Nat.reduceMul, Nat.reduceSub, Nat.reduceEqDiff, Nat.reduceLeDiff, Nat.reduceDiv, Nat.reduceMod, Nat.reduceBEq, Nat.reduceBNe, reduceCtorEq, Int.reduceLE, Int.reduceLT, Int.reduceToNat, Int.reduceNeg, Nat.reduceLT, Int.reduceEq, Int.reduceSub, Int.reduceAdd, Int.reduceMul, Nat.reducePow, Int.reduceBEq, Int.reduceBNe, Int.reduceMod, E_6, A6, e0, e1, e5, e6, List.length_map, hl, lp]
end Go.Proofs.Ytnecdcaaknhgpaa

namespace Go.Proofs.Ytnecdcaaknhgpaa
set_option maxRecDepth 100000
set_option maxHeartbeats 4000000
set_option linter.unusedSimpArgs false
set_option linter.unusedVariables false
open Go Go.Zv
theorem dot_bd {ux uy vx vy U V : Int} (hU : 0 ≤ U) (hV : 0 ≤ V) (h1 : ux * ux + uy * uy = U * U) (h2 : vx * vx + vy * vy = V * V) : -(U * V) ≤ ux * vx + uy * vy ∧ ux * vx + uy * vy ≤ U * V := by
  refine abs_of_sq (Int.mul_nonneg hU hV) ?_
  have e : (ux * vx + uy * vy) * (ux * vx + uy * vy) + (ux * vy - uy * vx) * (ux * vy - uy * vx) = (ux * ux + uy * uy) * (vx * vx + vy * vy) := by grind
  have k := sq_nn (ux * vy - uy * vx)
  rw [h1, h2] at e
  have e2 : U * U * (V * V) = U * V * (U * V) := by grind
  omega
theorem tri_up {ux uy vx vy wx wy U V W : Int} (hU : 0 ≤ U) (hV : 0 ≤ V) (hW : 0 ≤ W) (h1 : ux * ux + uy * uy = U * U) (h2 : vx * vx + vy * vy = V * V) (h3 : wx * wx + wy * wy = W * W) :
    (ux + vx + wx) * (ux + vx + wx) + (uy + vy + wy) * (uy + vy + wy) ≤ (U + V + W) * (U + V + W) := by
  have a := (dot_bd hU hV h1 h2).2
  have b := (dot_bd hU hW h1 h3).2
  have c := (dot_bd hV hW h2 h3).2
  have e : (ux + vx + wx) * (ux + vx + wx) + (uy + vy + wy) * (uy + vy + wy) = (ux * ux + uy * uy) + (vx * vx + vy * vy) + (wx * wx + wy * wy) + 2 * (ux * vx + uy * vy) + 2 * (ux * wx + uy * wy) + 2 * (vx * wx + vy * wy) := by grind
  have e2 : (U + V + W) * (U + V + W) = U * U + V * V + W * W + 2 * (U * V) + 2 * (U * W) + 2 * (V * W) := by grind
  rw [e, e2, h1, h2, h3]; omega
theorem sq_mono {x y : Int} (h0 : 0 ≤ x) (h : x ≤ y) : x * x ≤ y * y := Int.mul_le_mul h h h0 (by omega)
theorem tri_lo {ux uy vx vy wx wy U V W : Int} (hU : 0 ≤ U) (hV : 0 ≤ V) (hW : 0 ≤ W) (h1 : ux * ux + uy * uy = U * U) (h2 : vx * vx + vy * vy = V * V) (h3 : wx * wx + wy * wy = W * W) (hT : V + W ≤ U) :
    (U - V - W) * (U - V - W) ≤ (ux + vx + wx) * (ux + vx + wx) + (uy + vy + wy) * (uy + vy + wy) := by
  have a := (dot_bd hU hV h1 h2).1
  have b := (dot_bd hU hW h1 h3).1
  have c := (dot_bd hV hW h2 h3).2
  -- s = v + w, P = u . s
  have es : (vx + wx) * (vx + wx) + (vy + wy) * (vy + wy) = V * V + W * W + 2 * (vx * wx + vy * wy) := by rw [← h2, ← h3]; grind
  have hS : (vx + wx) * (vx + wx) + (vy + wy) * (vy + wy) ≤ (V + W) * (V + W) := by
    have e2 : (V + W) * (V + W) = V * V + W * W + 2 * (V * W) := by grind
    omega
  have hS0 : 0 ≤ (vx + wx) * (vx + wx) + (vy + wy) * (vy + wy) := by have := sq_nn (vx + wx); have := sq_nn (vy + wy); omega
  have ed : (ux + vx + wx) * (ux + vx + wx) + (uy + vy + wy) * (uy + vy + wy) = U * U + 2 * (ux * (vx + wx) + uy * (vy + wy)) + ((vx + wx) * (vx + wx) + (vy + wy) * (vy + wy)) := by rw [← h1]; grind
  have cs : (ux * (vx + wx) + uy * (vy + wy)) * (ux * (vx + wx) + uy * (vy + wy)) ≤ U * U * ((vx + wx) * (vx + wx) + (vy + wy) * (vy + wy)) := by
    have e : (ux * (vx + wx) + uy * (vy + wy)) * (ux * (vx + wx) + uy * (vy + wy)) + (ux * (vy + wy) - uy * (vx + wx)) * (ux * (vy + wy) - uy * (vx + wx)) = (ux * ux + uy * uy) * ((vx + wx) * (vx + wx) + (vy + wy) * (vy + wy)) := by grind
    have k := sq_nn (ux * (vy + wy) - uy * (vx + wx))
    rw [h1] at e
    omega
  have hP : -(U * V) - U * W ≤ ux * (vx + wx) + uy * (vy + wy) := by
    have e : ux * (vx + wx) + uy * (vy + wy) = (ux * vx + uy * vy) + (ux * wx + uy * wy) := by grind
    omega
  rw [ed]
  generalize (vx + wx) * (vx + wx) + (vy + wy) * (vy + wy) = S at *
  generalize ux * (vx + wx) + uy * (vy + wy) = P at *
  have hT0 : 0 ≤ U - V - W := by omega
  rcases Int.lt_or_le P 0 with hp | hp
  · by_cases hU0 : U = 0
    · subst hU0
      have : V = 0 := by omega
      have : W = 0 := by omega
      subst V; subst W
      simp at hP; omega
    · have k1 : 0 ≤ U * U + P := by
        have e : U * (V + W) = U * V + U * W := by grind
        have := Int.mul_le_mul_of_nonneg_left hT hU
        omega
      have k2 : U * (U - V - W) ≤ U * U + P := by
        have e : U * (U - V - W) = U * U - U * V - U * W := by grind
        omega
      have k3 := sq_mono (Int.mul_nonneg hU hT0) k2
      have e1 : U * (U - V - W) * (U * (U - V - W)) = U * U * ((U - V - W) * (U - V - W)) := by grind
      have e2 : (U * U + P) * (U * U + P) = U * U * (U * U + 2 * P) + P * P := by grind
      have e3 : U * U * (U * U + 2 * P + S) = U * U * (U * U + 2 * P) + U * U * S := by grind
      have k4 : U * U * ((U - V - W) * (U - V - W)) ≤ U * U * (U * U + 2 * P + S) := by omega
      exact Int.le_of_mul_le_mul_left k4 (Int.mul_pos (by omega) (by omega))
  · have k := sq_mono hT0 (show U - V - W ≤ U by omega)
    omega
end Go.Proofs.Ytnecdcaaknhgpaa

namespace Go.Proofs.Ytnecdcaaknhgpaa
set_option maxRecDepth 100000
set_option maxHeartbeats 4000000
set_option linter.unusedSimpArgs false
set_option linter.unusedVariables false
open Go Go.Zv
theorem td_16 (x : Int) : (16 * x).tdiv 16 = x := by
  rw [Int.mul_comm]; exact Int.mul_tdiv_cancel _ (by omega)
/-- what the tool center point lies from the base, over 16 -/
def vX (a : Arm) (d : Pts) : Int := a.l0 * 4225 * d.x1 + a.l1 * 65 * d.x2 + a.l2 * d.x3
def vY (a : Arm) (d : Pts) : Int := a.l0 * 4225 * d.y1 + a.l1 * 65 * d.y2 + a.l2 * d.y3
theorem far3 (a : Arm) (d : Pts) : farI (pp a d).x3 (pp a d).y3 a.bx a.by_ = vX a d * vX a d + vY a d * vY a d := by
  have e1 : (pp a d).x3 - a.bx = 16 * vX a d := by simp only [pp, vX]; grind
  have e2 : (pp a d).y3 - a.by_ = 16 * vY a d := by simp only [pp, vY]; grind
  unfold farI
  rw [e1, e2, td_16, td_16]
theorem nrm {x y r u m t : Int} (hv : VD x y r) (e : u * r = t) : (m * u * x) * (m * u * x) + (m * u * y) * (m * u * y) = (m * t) * (m * t) := by
  have h := hv.eq
  have e2 : (m * u * x) * (m * u * x) + (m * u * y) * (m * u * y) = (m * u) * (m * u) * (x * x + y * y) := by grind
  rw [e2, h, ← e]; grind
theorem reach {a : Arm} (h : OKa a) {d : Pts} (v : DV d) : vX a d * vX a d + vY a d * vY a d ≤ ((a.l0 + a.l1 + a.l2) * 274625) * ((a.l0 + a.l1 + a.l2) * 274625) ∧
    ∀ m : Int, 0 ≤ m → (m = 2 * a.l0 - (a.l0 + a.l1 + a.l2) ∨ m = 2 * a.l1 - (a.l0 + a.l1 + a.l2) ∨ m = 2 * a.l2 - (a.l0 + a.l1 + a.l2)) → (m * 274625) * (m * 274625) ≤ vX a d * vX a d + vY a d * vY a d := by
  have n1 := nrm (m := a.l0) (u := 4225) (t := 274625) v.v1 (by simp [p65])
  have n2 := nrm (m := a.l1) (u := 65) (t := 274625) v.v2 (by simp [p65])
  have n3 := nrm (m := a.l2) (u := 1) (t := 274625) v.v3 (by simp [p65])
  simp only [Int.mul_one] at n3
  have k0 := h.l0
  have k1 := h.l1
  have k2 := h.l2
  constructor
  · have t := tri_up (by omega) (by omega) (by omega) n1 n2 n3
    have e : a.l0 * 274625 + a.l1 * 274625 + a.l2 * 274625 = (a.l0 + a.l1 + a.l2) * 274625 := by omega
    rw [e] at t
    exact t
  · intro m hm hc
    rcases hc with rfl | rfl | rfl
    · have t := tri_lo (by omega) (by omega) (by omega) n1 n2 n3 (by omega)
      have e : a.l0 * 274625 - a.l1 * 274625 - a.l2 * 274625 = (2 * a.l0 - (a.l0 + a.l1 + a.l2)) * 274625 := by omega
      rw [e] at t
      exact t
    · have t := tri_lo (by omega) (by omega) (by omega) n2 n1 n3 (by omega)
      have e : a.l1 * 274625 - a.l0 * 274625 - a.l2 * 274625 = (2 * a.l1 - (a.l0 + a.l1 + a.l2)) * 274625 := by omega
      rw [e, Int.add_comm (a.l1 * 65 * d.x2), Int.add_comm (a.l1 * 65 * d.y2)] at t
      exact t
    · have t := tri_lo (by omega) (by omega) (by omega) n3 n1 n2 (by omega)
      have e : a.l2 * 274625 - a.l0 * 274625 - a.l1 * 274625 = (2 * a.l2 - (a.l0 + a.l1 + a.l2)) * 274625 := by omega
      rw [e] at t
      have e1 : a.l2 * d.x3 + a.l0 * 4225 * d.x1 + a.l1 * 65 * d.x2 = vX a d := by unfold vX; omega
      have e2 : a.l2 * d.y3 + a.l0 * 4225 * d.y1 + a.l1 * 65 * d.y2 = vY a d := by unfold vY; omega
      rw [e1, e2] at t
      exact t
theorem mx_or (x y : Int) : mxI x y = x ∨ mxI x y = y := by unfold mxI; split <;> simp
theorem td_4394 (x : Int) : (x * 4394000).tdiv 16 = x * 274625 := by
  have e : x * 4394000 = 16 * (x * 274625) := by omega
  rw [e, td_16]
theorem law7 (a : Arm) (r0 r1 r2 : Int) (h0 : 0 ≤ r0 ∧ r0 ≤ 255) (h1 : 0 ≤ r1 ∧ r1 ≤ 255) (h2 : 0 ≤ r2 ∧ r2 ≤ 255) :
    pc E 7 [av a, .agg [.int .u8 r0, .int .u8 r1, .int .u8 r2]] = some (.bool true) := by
  have e0 := c14
  have e1 := c15 a
  cases ho : okB a with
  | false =>
    rw [ho] at e1
    rw [pc_eq]; simp +contextual -implicitDefEqProofs (maxSteps := 2000000) only [go_sem, ↓reduceIte, Nat.reduceAdd, Nat.reduceMul, Nat.reduceSub, Nat.reduceEqDiff, Nat.reduceLeDiff, Nat.reduceDiv, Nat.reduceMod, Nat.reduceBEq, Nat.reduceBNe, reduceCtorEq, Int.reduceLE, Int.reduceLT, Int.reduceToNat, Int.reduceNeg, Nat.reduceLT, Int.reduceEq, Int.reduceSub, Int.reduceAdd, Int.reduceMul, Nat.reducePow, Int.reduceBEq, Int.reduceBNe, Int.reduceMod, E_7, A7, e0, e1]
  | true =>
    have h := okB_iff.1 ho
    rw [ho] at e1
    have e5 := c19 a h r0 r1 r2 h0 h1 h2
    generalize jt a.lo0 a.hi0 r0 = p0 at *
    generalize jt a.lo1 a.hi1 r1 = p1 at *
    generalize jt a.lo2 a.hi2 r2 = p2 at *
    have e6 := c27 a h p0 p1 p2
    have v := ddV p0 p1 p2
    generalize dd p0 p1 p2 = d at *
    have b := bds h v
    obtain ⟨o0x, o0y, o1x, o1y, o2x, o2y, bx, by_⟩ := b
    have hp : (-1000000000 ≤ (pp a d).x3 ∧ (pp a d).x3 ≤ 1000000000) ∧ (-1000000000 ≤ (pp a d).y3 ∧ (pp a d).y3 ≤ 1000000000) := by simp only [pp]; omega
    have e7 := c29 (pp a d).x3 (pp a d).y3 a.bx a.by_ hp.1 hp.2 (by omega) (by omega)
    have f3 := far3 a d
    have rc := reach h v
    rw [← f3] at rc
    generalize farI (pp a d).x3 (pp a d).y3 a.bx a.by_ = f at *
    obtain ⟨r1, r2⟩ := rc
    have k0 := h.l0
    have k1 := h.l1
    have k2 := h.l2
    have hM : mxI (mxI a.l0 a.l1) a.l2 = a.l0 ∨ mxI (mxI a.l0 a.l1) a.l2 = a.l1 ∨ mxI (mxI a.l0 a.l1) a.l2 = a.l2 := by
      have := mx_or a.l0 a.l1
      have := mx_or (mxI a.l0 a.l1) a.l2
      omega
    generalize hMe : mxI (mxI a.l0 a.l1) a.l2 = M at *
    have hN := mx_or 0 (2 * M - (a.l0 + a.l1 + a.l2))
    have hN0 : 0 ≤ mxI 0 (2 * M - (a.l0 + a.l1 + a.l2)) := by unfold mxI; split <;> omega
    have hN1 : mxI 0 (2 * M - (a.l0 + a.l1 + a.l2)) ≤ 120 := by omega
    have w1 : IntKind.i64.wrap (a.l0 + a.l1) = a.l0 + a.l1 := wrap_small (by omega) (by omega)
    have w2 : IntKind.i64.wrap (a.l0 + a.l1 + a.l2) = a.l0 + a.l1 + a.l2 := wrap_small (by omega) (by omega)
    have w3 : IntKind.i64.wrap (2 * M) = 2 * M := wrap_small (by omega) (by omega)
    have w4 : IntKind.i64.wrap (2 * M - (a.l0 + a.l1 + a.l2)) = 2 * M - (a.l0 + a.l1 + a.l2) := wrap_small (by omega) (by omega)
    have k : ∀ m : Int, 0 ≤ m → m ≤ 120 → IntKind.i64.wrap (m * 4394000) = m * 4394000 ∧ (m * 4394000).tdiv 16 = m * 274625 ∧ IntKind.i64.wrap (m * 274625) = m * 274625 ∧ IntKind.i64.wrap ((m * 274625) * (m * 274625)) = (m * 274625) * (m * 274625) := fun m x y => by
      have m1 := mul_bd (A := 33000000) (C := 33000000) (x := m * 274625) (y := m * 274625) (by omega) (by omega) (by omega) (by omega)
      exact ⟨wrap_small (by omega) (by omega), td_4394 m, wrap_small (by omega) (by omega), wrap_small (by omega) (by omega)⟩
    obtain ⟨x1, x2, x3, x4⟩ := k (a.l0 + a.l1 + a.l2) (by omega) (by omega)
    obtain ⟨y1, y2, y3, y4⟩ := k _ hN0 hN1
    have fin : (mxI 0 (2 * M - (a.l0 + a.l1 + a.l2)) * 274625) * (mxI 0 (2 * M - (a.l0 + a.l1 + a.l2)) * 274625) ≤ f := by
      rcases hN with hz | hz
      · rw [hz]
        have := sq_nn (vX a d)
        have := sq_nn (vY a d)
        omega
      · refine r2 _ hN0 ?_
        omega
    generalize hS : a.l0 + a.l1 + a.l2 = S at *
    generalize hN' : mxI 0 (2 * M - S) = N at *
    rw [pc_eq]; simp +contextual -implicitDefEqProofs (maxSteps := 2000000) only [go_sem, ↓reduceIte, Nat.reduceAdd, Nat.reduceMul, Nat.reduceSub, Nat.reduceEqDiff, Nat.reduceLeDiff, Nat.reduceDiv, Nat.reduceMod, Nat.reduceBEq, Nat.reduceBNe, reduceCtorEq, Int.reduceLE, Int.reduceLT, Int.reduceToNat, Int.reduceNeg, Nat.reduceLT, Int.reduceEq, Int.reduceSub, Int.reduceAdd, Int.reduceMul, Nat.reducePow, Int.reduceBEq, Int.reduceBNe, Int.reduceMod, E_7, A7, e0, e1, e5, e6, e7, hMe, hS, hN', w1, w2, w3, w4, x1, x2, x3, x4, y1, y2, y3, y4, r1, fin, beq_self_eq_true]
end Go.Proofs.Ytnecdcaaknhgpaa

namespace Go.Geo
set_option maxRecDepth 100000
set_option maxHeartbeats 4000000
set_option linter.unusedSimpArgs false
set_option linter.unusedVariables false
open Go Go.Zv
def sgn (n : Int) : Int := if n > 0 then 1 else if n < 0 then -1 else 0
def crW (ax ay bx by_ px py : Int) : Int := w64 (w64 (w64 (bx - ax) * w64 (py - ay)) - w64 (w64 (by_ - ay) * w64 (px - ax)))
abbrev pt (p : Int × Int) : LV := .agg [.int .i64 p.1, .int .i64 p.2]
def c2 (p : Int × Int) : List LV := [.int .i64 p.1, .int .i64 p.2]
theorem get_c2 {l : List (Int × Int)} {i : Nat} {p : Int × Int} (h : l[i]? = some p) : (l.map c2)[i]? = some [.int .i64 p.1, .int .i64 p.2] := by
  rw [List.getElem?_map, h]; rfl
theorem wr_nat {n : Nat} (h : n < 9223372036854775808) : IntKind.i64.wrap (n : Int) = n := by
  simp [IntKind.wrap, IntKind.signed, IntKind.bits]; omega
theorem wr_succ {n : Nat} (h : n + 1 < 9223372036854775808) : IntKind.i64.wrap ((n : Int) + 1) = ((n + 1 : Nat) : Int) := by
  have := wr_nat h; simpa using this
def minP (a b : Int × Int) : Int × Int := (mnI a.1 b.1, mnI a.2 b.2)
def maxP (a b : Int × Int) : Int × Int := (mxI a.1 b.1, mxI a.2 b.2)
def bbL : List (Int × Int) → Int × Int
  | [] => (0, 0)
  | p :: t => (p :: t).foldl minP p
def bbH : List (Int × Int) → Int × Int
  | [] => (0, 0)
  | p :: t => (p :: t).foldl maxP p
def withinB (ax ay bx by_ px py : Int) : Bool := decide (mnI ax bx ≤ px) && (decide (px ≤ mxI ax bx) && (decide (mnI ay by_ ≤ py) && decide (py ≤ mxI ay by_)))
theorem mn_self (a : Int) : mnI a a = a := by unfold mnI; split <;> rfl
theorem mx_self (a : Int) : mxI a a = a := by unfold mxI; split <;> rfl
def onB (ax ay bx by_ px py : Int) : Bool := withinB ax ay bx by_ px py && decide (sgn (crW ax ay bx by_ px py) = 0)
def sdI (ax ay bx by_ cx cy dx dy : Int) : Int := w64 (sgn (crW ax ay bx by_ cx cy) * sgn (crW ax ay bx by_ dx dy))
def endsB (ax ay bx by_ cx cy dx dy : Int) : Bool := (decide (sgn (crW ax ay bx by_ cx cy) = 0) && withinB ax ay bx by_ cx cy) || (decide (sgn (crW ax ay bx by_ dx dy) = 0) && withinB ax ay bx by_ dx dy)
theorem wrap0 : IntKind.i64.wrap 0 = 0 := by decide
def cutB (ax ay bx by_ cx cy dx dy : Int) : Bool := (decide (sdI ax ay bx by_ cx cy dx dy < 0) && decide (sdI cx cy dx dy ax ay bx by_ < 0)) || (endsB ax ay bx by_ cx cy dx dy || endsB cx cy dx dy ax ay bx by_)
theorem cut_eq_B (ax ay bx by_ cx cy dx dy : Int) : ((onB ax ay bx by_ cx cy || onB ax ay bx by_ dx dy || onB cx cy dx dy ax ay || onB cx cy dx dy bx by_) || (decide (sdI ax ay bx by_ cx cy dx dy < 0) && decide (sdI cx cy dx dy ax ay bx by_ < 0))) = cutB ax ay bx by_ cx cy dx dy := by
  unfold cutB onB endsB
  generalize withinB ax ay bx by_ cx cy = a
  generalize withinB ax ay bx by_ dx dy = b
  generalize withinB cx cy dx dy ax ay = c
  generalize withinB cx cy dx dy bx by_ = d
  generalize decide (sgn (crW ax ay bx by_ cx cy) = 0) = e
  generalize decide (sgn (crW ax ay bx by_ dx dy) = 0) = f
  generalize decide (sgn (crW cx cy dx dy ax ay) = 0) = g
  generalize decide (sgn (crW cx cy dx dy bx by_) = 0) = h
  generalize decide (sdI ax ay bx by_ cx cy dx dy < 0) = i
  generalize decide (sdI cx cy dx dy ax ay bx by_ < 0) = j
  revert a b c d e f g h i j; decide
def sharedB (W S T : Int) : Bool := if W < 0 then decide (0 ≤ -S) && (decide (-S ≤ -W) && (decide (0 ≤ -T) && decide (-T ≤ -W))) else decide (0 ≤ S) && (decide (S ≤ W) && (decide (0 ≤ T) && decide (T ≤ W)))
def B (x : Int) : Prop := -500000000 ≤ x ∧ x ≤ 500000000
theorem wB {x : Int} (h : B x) : IntKind.i64.wrap x = x := by unfold B at h; exact wrap_small (by omega) (by omega)
def cr (ax ay bx by_ px py : Int) : Int := (bx - ax) * (py - ay) - (by_ - ay) * (px - ax)
theorem mul_bd {x y A C : Int} (h1 : -A ≤ x) (h2 : x ≤ A) (h3 : -C ≤ y) (h4 : y ≤ C) : -(A * C) ≤ x * y ∧ x * y ≤ A * C := by
  have hA : 0 ≤ A := by omega
  have hC : 0 ≤ C := by omega
  have a1 : x * y ≤ A * C := by
    rcases Int.le_total 0 x with hx | hx
    · have h5 : x * y ≤ x * C := Int.mul_le_mul_of_nonneg_left h4 hx
      have h6 : x * C ≤ A * C := Int.mul_le_mul_of_nonneg_right h2 hC
      omega
    · have h5 : (-x) * (-y) ≤ (-x) * C := Int.mul_le_mul_of_nonneg_left (by omega) (by omega)
      have h6 : (-x) * C ≤ A * C := Int.mul_le_mul_of_nonneg_right (by omega) hC
      have h7 : (-x) * (-y) = x * y := by grind
      omega
  have a2 : -(A * C) ≤ x * y := by
    rcases Int.le_total 0 x with hx | hx
    · have h5 : x * (-y) ≤ x * C := Int.mul_le_mul_of_nonneg_left (by omega) hx
      have h6 : x * C ≤ A * C := Int.mul_le_mul_of_nonneg_right h2 hC
      have h7 : x * (-y) = -(x * y) := by grind
      omega
    · have h5 : (-x) * y ≤ (-x) * C := Int.mul_le_mul_of_nonneg_left h4 (by omega)
      have h6 : (-x) * C ≤ A * C := Int.mul_le_mul_of_nonneg_right (by omega) hC
      have h7 : (-x) * y = -(x * y) := by grind
      omega
  exact ⟨a2, a1⟩
theorem wprod {x y z w : Int} (h1 : -1000000000 ≤ x) (h2 : x ≤ 1000000000) (h3 : -1000000000 ≤ y) (h4 : y ≤ 1000000000) (h5 : -1000000000 ≤ z) (h6 : z ≤ 1000000000) (h7 : -1000000000 ≤ w) (h8 : w ≤ 1000000000) :
    IntKind.i64.wrap (IntKind.i64.wrap (IntKind.i64.wrap x * IntKind.i64.wrap y) - IntKind.i64.wrap (IntKind.i64.wrap z * IntKind.i64.wrap w)) = x * y - z * w ∧ -2000000000000000000 ≤ x * y - z * w ∧ x * y - z * w ≤ 2000000000000000000 := by
  obtain ⟨p1, p2⟩ := mul_bd h1 h2 h3 h4
  obtain ⟨q1, q2⟩ := mul_bd h5 h6 h7 h8
  rw [wrap_small (n := x) (by omega) (by omega), wrap_small (n := y) (by omega) (by omega), wrap_small (n := z) (by omega) (by omega), wrap_small (n := w) (by omega) (by omega)]
  rw [wrap_small (n := x * y) (by omega) (by omega), wrap_small (n := z * w) (by omega) (by omega), wrap_small (n := x * y - z * w) (by omega) (by omega)]
  exact ⟨rfl, by omega, by omega⟩
theorem crW_B {ax ay bx by_ px py : Int} (h1 : B ax) (h2 : B ay) (h3 : B bx) (h4 : B by_) (h5 : B px) (h6 : B py) : crW ax ay bx by_ px py = cr ax ay bx by_ px py := by
  unfold B at *
  exact (wprod (by omega) (by omega) (by omega) (by omega) (by omega) (by omega) (by omega) (by omega)).1
theorem tmod_bd (x : Int) {n : Int} (h : 0 < n) : -n < x.tmod n ∧ x.tmod n < n := ⟨Int.lt_tmod_of_pos x h, Int.tmod_lt_of_pos x h⟩
theorem sgn_cases (n : Int) : sgn n = 1 ∨ sgn n = 0 ∨ sgn n = -1 := by unfold sgn; split <;> (try split) <;> simp
theorem sgn_neg (n : Int) : sgn (-n) = -sgn n := by unfold sgn; repeat' split
                                                    all_goals omega
theorem sgn_zero : sgn 0 = 0 := by decide
theorem cr_swap (ax ay bx by_ px py : Int) : cr bx by_ ax ay px py = - cr ax ay bx by_ px py := by unfold cr; grind
theorem cr_swap2 (ax ay bx by_ px py : Int) : cr ax ay px py bx by_ = - cr ax ay bx by_ px py := by unfold cr; grind
theorem cr_rot (ax ay bx by_ px py : Int) : cr bx by_ px py ax ay = cr ax ay bx by_ px py := by unfold cr; grind
theorem cr_rot2 (ax ay bx by_ px py : Int) : cr px py ax ay bx by_ = cr ax ay bx by_ px py := by unfold cr; grind
theorem cr_add (ax ay bx by_ px py u v : Int) : cr (ax + u) (ay + v) (bx + u) (by_ + v) (px + u) (py + v) = cr ax ay bx by_ px py := by unfold cr; grind
theorem cr_sub (ax ay bx by_ px py u v : Int) : cr (ax - u) (ay - v) (bx - u) (by_ - v) (px - u) (py - v) = cr ax ay bx by_ px py := by unfold cr; grind
theorem cr_quarter (ax ay bx by_ px py : Int) : cr (0 - ay) ax (0 - by_) bx (0 - py) px = cr ax ay bx by_ px py := by unfold cr; grind
theorem cr_aac (ax ay px py : Int) : cr ax ay ax ay px py = 0 := by unfold cr; grind
theorem cr_abb (ax ay px py : Int) : cr ax ay px py px py = 0 := by unfold cr; grind
theorem wsum {x y z w : Int} (h1 : -1000000000 ≤ x) (h2 : x ≤ 1000000000) (h3 : -1000000000 ≤ y) (h4 : y ≤ 1000000000) (h5 : -1000000000 ≤ z) (h6 : z ≤ 1000000000) (h7 : -1000000000 ≤ w) (h8 : w ≤ 1000000000) :
    IntKind.i64.wrap (IntKind.i64.wrap (IntKind.i64.wrap x * IntKind.i64.wrap y) + IntKind.i64.wrap (IntKind.i64.wrap z * IntKind.i64.wrap w)) = x * y + z * w := by
  obtain ⟨p1, p2⟩ := mul_bd h1 h2 h3 h4
  obtain ⟨q1, q2⟩ := mul_bd h5 h6 h7 h8
  rw [wrap_small (n := x) (by omega) (by omega), wrap_small (n := y) (by omega) (by omega), wrap_small (n := z) (by omega) (by omega), wrap_small (n := w) (by omega) (by omega)]
  rw [wrap_small (n := x * y) (by omega) (by omega), wrap_small (n := z * w) (by omega) (by omega), wrap_small (n := x * y + z * w) (by omega) (by omega)]
theorem mul_nn {x y : Int} : 0 ≤ x * y ↔ (0 ≤ x ∧ 0 ≤ y) ∨ (x ≤ 0 ∧ y ≤ 0) := by
  constructor
  · intro h
    rcases Int.lt_trichotomy x 0 with hx | hx | hx
    · rcases Int.lt_trichotomy y 0 with hy | hy | hy
      · right; omega
      · right; omega
      · have := Int.mul_neg_of_neg_of_pos hx hy; omega
    · subst hx
      rcases Int.le_total 0 y with hy | hy
      · left; omega
      · right; omega
    · rcases Int.lt_trichotomy y 0 with hy | hy | hy
      · have := Int.mul_neg_of_pos_of_neg hx hy; omega
      · left; omega
      · left; omega
  · rintro (⟨h1, h2⟩ | ⟨h1, h2⟩)
    · exact Int.mul_nonneg h1 h2
    · exact Int.mul_nonneg_of_nonpos_of_nonpos h1 h2
theorem bt {a b p : Int} : (mnI a b ≤ p ∧ p ≤ mxI a b) ↔ 0 ≤ (p - a) * (b - p) := by
  rw [mul_nn]; unfold mnI mxI
  constructor
  · intro h; split at h <;> split at h <;> omega
  · intro h; split <;> split <;> omega
theorem withinB_iff {ax ay bx by_ px py : Int} : withinB ax ay bx by_ px py = true ↔ 0 ≤ (px - ax) * (bx - px) ∧ 0 ≤ (py - ay) * (by_ - py) := by
  rw [← bt, ← bt]
  simp [withinB, and_assoc]
theorem sgn_eq0 {n : Int} : sgn n = 0 ↔ n = 0 := by unfold sgn; repeat' split
                                                    all_goals omega
theorem sq_pos {x : Int} (h : x ≠ 0) : 0 < x * x := by
  rcases Int.lt_trichotomy x 0 with h1 | h1 | h1
  · exact Int.mul_pos_of_neg_of_neg h1 h1
  · exact absurd h1 h
  · exact Int.mul_pos h1 h1
theorem on_key {u v U V : Int} (hc : U * v - V * u = 0) (hd : 0 ≤ u * (U - u) + v * (V - v)) (hne : U ≠ 0 ∨ V ≠ 0) : 0 ≤ u * (U - u) ∧ 0 ≤ v * (V - v) := by
  have key : (V * V) * (u * (U - u)) = (U * U) * (v * (V - v)) := by
    have e : U * v = V * u := by omega
    have : (V * V) * (u * (U - u)) = (V * u) * (V * U) - (V * u) * (V * u) := by grind
    rw [this, ← e]; grind
  have sq : ∀ x : Int, 0 ≤ x * x := fun x => by
    by_cases h : x = 0
    · subst h; simp
    · have := sq_pos h; omega
  constructor
  · refine Classical.byContradiction fun h => ?_
    have h1 : u * (U - u) < 0 := by omega
    have h2 : 0 < v * (V - v) := by omega
    have h3 : 0 ≤ (U * U) * (v * (V - v)) := Int.mul_nonneg (sq U) (by omega)
    rcases hne with hU | hV
    · have := Int.mul_pos (sq_pos hU) h2
      have h5 : (V * V) * (u * (U - u)) ≤ 0 := Int.mul_nonpos_of_nonneg_of_nonpos (sq V) (by omega)
      omega
    · have := Int.mul_neg_of_pos_of_neg (sq_pos hV) h1
      omega
  · refine Classical.byContradiction fun h => ?_
    have h1 : v * (V - v) < 0 := by omega
    have h2 : 0 < u * (U - u) := by omega
    rcases hne with hU | hV
    · have := Int.mul_neg_of_pos_of_neg (sq_pos hU) h1
      have h5 : 0 ≤ (V * V) * (u * (U - u)) := Int.mul_nonneg (sq V) (by omega)
      omega
    · have := Int.mul_pos (sq_pos hV) h2
      have h5 : (U * U) * (v * (V - v)) ≤ 0 := Int.mul_nonpos_of_nonneg_of_nonpos (sq U) (by omega)
      omega
theorem on_iff {ax ay bx by_ px py : Int} : (withinB ax ay bx by_ px py = true ∧ cr ax ay bx by_ px py = 0) ↔ (cr ax ay bx by_ px py = 0 ∧ 0 ≤ (px - ax) * (bx - px) + (py - ay) * (by_ - py) ∧ ((ax = bx ∧ ay = by_) → (px = ax ∧ py = ay))) := by
  rw [withinB_iff]
  constructor
  · rintro ⟨⟨h1, h2⟩, h3⟩
    refine ⟨h3, by omega, ?_⟩
    rintro ⟨rfl, rfl⟩
    rw [mul_nn] at h1 h2
    omega
  · rintro ⟨h3, h4, h5⟩
    refine ⟨?_, h3⟩
    by_cases he : ax = bx ∧ ay = by_
    · obtain ⟨rfl, rfl⟩ := h5 he
      obtain ⟨rfl, rfl⟩ := he
      simp
    · have := on_key (u := px - ax) (v := py - ay) (U := bx - ax) (V := by_ - ay) (by unfold cr at h3; exact h3) (by
        have e1 : bx - ax - (px - ax) = bx - px := by omega
        have e2 : by_ - ay - (py - ay) = by_ - py := by omega
        rw [e1, e2]; exact h4) (by omega)
      have e1 : bx - ax - (px - ax) = bx - px := by omega
      have e2 : by_ - ay - (py - ay) = by_ - py := by omega
      rw [e1, e2] at this; exact this
theorem onB_iff {ax ay bx by_ px py : Int} (h1 : B ax) (h2 : B ay) (h3 : B bx) (h4 : B by_) (h5 : B px) (h6 : B py) : onB ax ay bx by_ px py = true ↔ (cr ax ay bx by_ px py = 0 ∧ 0 ≤ (px - ax) * (bx - px) + (py - ay) * (by_ - py) ∧ ((ax = bx ∧ ay = by_) → (px = ax ∧ py = ay))) := by
  rw [← on_iff]; unfold onB; rw [crW_B h1 h2 h3 h4 h5 h6]; simp [sgn_eq0]
def wW (ax ay bx by_ cx cy dx dy : Int) : Int := (bx - ax) * (dy - cy) - (by_ - ay) * (dx - cx)
def sS (ax ay bx by_ cx cy dx dy : Int) : Int := (cx - ax) * (dy - cy) - (cy - ay) * (dx - cx)
def tT (ax ay bx by_ cx cy dx dy : Int) : Int := (cx - ax) * (by_ - ay) - (cy - ay) * (bx - ax)
section
variable (ax ay bx by_ cx cy dx dy : Int)
theorem o1_eq : cr ax ay bx by_ cx cy = - tT ax ay bx by_ cx cy dx dy := by unfold cr tT; grind
theorem o2_eq : cr ax ay bx by_ dx dy = wW ax ay bx by_ cx cy dx dy - tT ax ay bx by_ cx cy dx dy := by unfold cr tT wW; grind
theorem o3_eq : cr cx cy dx dy ax ay = sS ax ay bx by_ cx cy dx dy := by unfold cr sS; grind
theorem o4_eq : cr cx cy dx dy bx by_ = sS ax ay bx by_ cx cy dx dy - wW ax ay bx by_ cx cy dx dy := by unfold cr sS wW; grind
end
theorem sq_nn (x : Int) : 0 ≤ x * x := by
  by_cases h : x = 0
  · subst h; simp
  · have := sq_pos h; omega
theorem nn_of_mul {x y : Int} (hx : 0 < x) (h : 0 ≤ x * y) : 0 ≤ y := by
  rw [mul_nn] at h; omega
theorem within_A {ax ay bx by_ cx cy dx dy : Int} (hT : tT ax ay bx by_ cx cy dx dy = 0) (hW : wW ax ay bx by_ cx cy dx dy ≠ 0) :
    withinB ax ay bx by_ cx cy = true ↔ 0 ≤ sS ax ay bx by_ cx cy dx dy * (wW ax ay bx by_ cx cy dx dy - sS ax ay bx by_ cx cy dx dy) := by
  have e1 : wW ax ay bx by_ cx cy dx dy * (cx - ax) = sS ax ay bx by_ cx cy dx dy * (bx - ax) := by
    have : wW ax ay bx by_ cx cy dx dy * (cx - ax) - sS ax ay bx by_ cx cy dx dy * (bx - ax) = (dx - cx) * (- tT ax ay bx by_ cx cy dx dy) := by unfold wW sS tT; grind
    rw [hT] at this; simp at this; omega
  have e2 : wW ax ay bx by_ cx cy dx dy * (cy - ay) = sS ax ay bx by_ cx cy dx dy * (by_ - ay) := by
    have : wW ax ay bx by_ cx cy dx dy * (cy - ay) - sS ax ay bx by_ cx cy dx dy * (by_ - ay) = (dy - cy) * (- tT ax ay bx by_ cx cy dx dy) := by unfold wW sS tT; grind
    rw [hT] at this; simp at this; omega
  have hne : bx - ax ≠ 0 ∨ by_ - ay ≠ 0 := by
    refine Classical.byContradiction fun h => hW ?_
    have h1 : bx - ax = 0 := by omega
    have h2 : by_ - ay = 0 := by omega
    unfold wW; rw [h1, h2]; simp
  generalize sS ax ay bx by_ cx cy dx dy = s at *
  generalize wW ax ay bx by_ cx cy dx dy = w at *
  have hw := sq_pos hW
  have f1 : (w * w) * ((cx - ax) * (bx - cx)) = (s * (w - s)) * ((bx - ax) * (bx - ax)) := by
    have : (w * w) * ((cx - ax) * (bx - cx)) = (w * (cx - ax)) * (w * (bx - ax) - w * (cx - ax)) := by grind
    rw [this, e1]; grind
  have f2 : (w * w) * ((cy - ay) * (by_ - cy)) = (s * (w - s)) * ((by_ - ay) * (by_ - ay)) := by
    have : (w * w) * ((cy - ay) * (by_ - cy)) = (w * (cy - ay)) * (w * (by_ - ay) - w * (cy - ay)) := by grind
    rw [this, e2]; grind
  rw [withinB_iff]
  constructor
  · rintro ⟨h1, h2⟩
    rcases hne with hn | hn
    · have : 0 ≤ (s * (w - s)) * ((bx - ax) * (bx - ax)) := by rw [← f1]; exact Int.mul_nonneg (by omega) h1
      rw [Int.mul_comm] at this
      exact nn_of_mul (sq_pos hn) this
    · have : 0 ≤ (s * (w - s)) * ((by_ - ay) * (by_ - ay)) := by rw [← f2]; exact Int.mul_nonneg (by omega) h2
      rw [Int.mul_comm] at this
      exact nn_of_mul (sq_pos hn) this
  · intro h
    exact ⟨nn_of_mul hw (by rw [f1]; exact Int.mul_nonneg h (sq_nn _)), nn_of_mul hw (by rw [f2]; exact Int.mul_nonneg h (sq_nn _))⟩
theorem sgn_mul_neg {x y : Int} : IntKind.i64.wrap (sgn x * sgn y) < 0 ↔ x * y < 0 := by
  have h : x * y < 0 ↔ ¬ (0 ≤ x * y) := by omega
  rw [h, mul_nn]
  unfold sgn
  repeat' split
  all_goals (simp only [Int.mul_zero, Int.zero_mul, Int.one_mul, Int.mul_one, Int.reduceMul, Int.reduceNeg])
  all_goals (first | (rw [show IntKind.i64.wrap 1 = 1 by decide]; omega) | (rw [show IntKind.i64.wrap (-1) = -1 by decide]; omega) | (rw [show IntKind.i64.wrap 0 = 0 by decide]; omega))
structure B8 (ax ay bx by_ cx cy dx dy : Int) : Prop where
  a0 : B ax
  a1 : B ay
  b0 : B bx
  b1 : B by_
  c0 : B cx
  c1 : B cy
  d0 : B dx
  d1 : B dy
theorem cutB_iff {ax ay bx by_ cx cy dx dy : Int} (h : B8 ax ay bx by_ cx cy dx dy) : cutB ax ay bx by_ cx cy dx dy = true ↔
    (cr ax ay bx by_ cx cy * cr ax ay bx by_ dx dy < 0 ∧ cr cx cy dx dy ax ay * cr cx cy dx dy bx by_ < 0) ∨
    ((cr ax ay bx by_ cx cy = 0 ∧ withinB ax ay bx by_ cx cy = true) ∨ (cr ax ay bx by_ dx dy = 0 ∧ withinB ax ay bx by_ dx dy = true)) ∨
    ((cr cx cy dx dy ax ay = 0 ∧ withinB cx cy dx dy ax ay = true) ∨ (cr cx cy dx dy bx by_ = 0 ∧ withinB cx cy dx dy bx by_ = true)) := by
  unfold cutB endsB sdI
  rw [crW_B h.a0 h.a1 h.b0 h.b1 h.c0 h.c1, crW_B h.a0 h.a1 h.b0 h.b1 h.d0 h.d1, crW_B h.c0 h.c1 h.d0 h.d1 h.a0 h.a1, crW_B h.c0 h.c1 h.d0 h.d1 h.b0 h.b1]
  simp only [Bool.or_eq_true, Bool.and_eq_true, decide_eq_true_eq, sgn_mul_neg, sgn_eq0]
theorem cut_par {ax ay bx by_ cx cy dx dy : Int} (h : B8 ax ay bx by_ cx cy dx dy) (hW : wW ax ay bx by_ cx cy dx dy = 0) :
    cutB ax ay bx by_ cx cy dx dy = (onB ax ay bx by_ cx cy || (onB ax ay bx by_ dx dy || (onB cx cy dx dy ax ay || onB cx cy dx dy bx by_))) := by
  rw [Bool.eq_iff_iff, cutB_iff h]
  simp only [Bool.or_eq_true]
  unfold onB
  rw [crW_B h.a0 h.a1 h.b0 h.b1 h.c0 h.c1, crW_B h.a0 h.a1 h.b0 h.b1 h.d0 h.d1, crW_B h.c0 h.c1 h.d0 h.d1 h.a0 h.a1, crW_B h.c0 h.c1 h.d0 h.d1 h.b0 h.b1]
  simp only [Bool.and_eq_true, decide_eq_true_eq, sgn_eq0]
  have hn : ¬ (cr ax ay bx by_ cx cy * cr ax ay bx by_ dx dy < 0) := by
    rw [o1_eq ax ay bx by_ cx cy dx dy, o2_eq ax ay bx by_ cx cy dx dy, hW]
    have := sq_nn (tT ax ay bx by_ cx cy dx dy)
    have e : -tT ax ay bx by_ cx cy dx dy * (0 - tT ax ay bx by_ cx cy dx dy) = tT ax ay bx by_ cx cy dx dy * tT ax ay bx by_ cx cy dx dy := by grind
    rw [e]; omega
  constructor
  · rintro (⟨h1, _⟩ | h | h)
    · exact absurd h1 hn
    · rcases h with h | h
      · exact .inl ⟨h.2, h.1⟩
      · exact .inr (.inl ⟨h.2, h.1⟩)
    · rcases h with h | h
      · exact .inr (.inr (.inl ⟨h.2, h.1⟩))
      · exact .inr (.inr (.inr ⟨h.2, h.1⟩))
  · rintro (h | h | h | h)
    · exact .inr (.inl (.inl ⟨h.2, h.1⟩))
    · exact .inr (.inl (.inr ⟨h.2, h.1⟩))
    · exact .inr (.inr (.inl ⟨h.2, h.1⟩))
    · exact .inr (.inr (.inr ⟨h.2, h.1⟩))
theorem shared_iff {W S T : Int} (hW : W ≠ 0) : sharedB W S T = true ↔ 0 ≤ S * (W - S) ∧ 0 ≤ T * (W - T) := by
  rw [mul_nn, mul_nn]; unfold sharedB
  split <;> simp only [Bool.and_eq_true, decide_eq_true_eq] <;> omega
theorem cut_cross {ax ay bx by_ cx cy dx dy : Int} (h : B8 ax ay bx by_ cx cy dx dy) (hW : wW ax ay bx by_ cx cy dx dy ≠ 0) :
    cutB ax ay bx by_ cx cy dx dy = sharedB (wW ax ay bx by_ cx cy dx dy) (sS ax ay bx by_ cx cy dx dy) (tT ax ay bx by_ cx cy dx dy) := by
  rw [Bool.eq_iff_iff, cutB_iff h, shared_iff hW]
  have wa := within_A (ax := ax) (ay := ay) (bx := bx) (by_ := by_) (cx := cx) (cy := cy) (dx := dx) (dy := dy)
  have wb := within_A (ax := ax) (ay := ay) (bx := bx) (by_ := by_) (cx := dx) (cy := dy) (dx := cx) (dy := cy)
  have wc := within_A (ax := cx) (ay := cy) (bx := dx) (by_ := dy) (cx := ax) (cy := ay) (dx := bx) (dy := by_)
  have wd := within_A (ax := cx) (ay := cy) (bx := dx) (by_ := dy) (cx := bx) (cy := by_) (dx := ax) (dy := ay)
  rw [show wW ax ay bx by_ dx dy cx cy = - wW ax ay bx by_ cx cy dx dy by unfold wW; grind, show sS ax ay bx by_ dx dy cx cy = - sS ax ay bx by_ cx cy dx dy by unfold sS; grind, show tT ax ay bx by_ dx dy cx cy = tT ax ay bx by_ cx cy dx dy - wW ax ay bx by_ cx cy dx dy by unfold tT wW; grind] at wb
  rw [show wW cx cy dx dy ax ay bx by_ = - wW ax ay bx by_ cx cy dx dy by unfold wW; grind, show sS cx cy dx dy ax ay bx by_ = - tT ax ay bx by_ cx cy dx dy by unfold sS tT; grind, show tT cx cy dx dy ax ay bx by_ = - sS ax ay bx by_ cx cy dx dy by unfold tT sS; grind] at wc
  rw [show wW cx cy dx dy bx by_ ax ay = wW ax ay bx by_ cx cy dx dy by unfold wW; grind, show sS cx cy dx dy bx by_ ax ay = tT ax ay bx by_ cx cy dx dy by unfold sS tT; grind, show tT cx cy dx dy bx by_ ax ay = wW ax ay bx by_ cx cy dx dy - sS ax ay bx by_ cx cy dx dy by unfold tT sS wW; grind] at wd
  rw [o1_eq ax ay bx by_ cx cy dx dy, o2_eq ax ay bx by_ cx cy dx dy, o3_eq ax ay bx by_ cx cy dx dy, o4_eq ax ay bx by_ cx cy dx dy]
  generalize wW ax ay bx by_ cx cy dx dy = W at *
  generalize sS ax ay bx by_ cx cy dx dy = S at *
  generalize tT ax ay bx by_ cx cy dx dy = T at *
  have e1 : -T * (W - T) = -(T * (W - T)) := by grind
  have e2 : S * (S - W) = -(S * (W - S)) := by grind
  have e3 : -S * (-W - -S) = S * (W - S) := by grind
  have e4 : -T * (-W - -T) = T * (W - T) := by grind
  rw [e3] at wb; rw [e4] at wc
  rw [e1, e2]
  have z1 : ∀ {x : Int}, x = 0 → x * (W - x) = 0 := fun h => by rw [h]; simp
  have z2 : ∀ {x : Int}, W - x = 0 → x * (W - x) = 0 := fun h => by rw [h]; simp
  constructor
  · rintro (⟨h1, h2⟩ | (⟨h1, h2⟩ | ⟨h1, h2⟩) | (⟨h1, h2⟩ | ⟨h1, h2⟩))
    · omega
    · have h3 : T = 0 := by omega
      exact ⟨(wa h3 hW).1 h2, by rw [z1 h3]; omega⟩
    · have h3 : T - W = 0 := by omega
      exact ⟨(wb h3 (by omega)).1 h2, by rw [z2 (by omega)]; omega⟩
    · have h3 : S = 0 := h1
      exact ⟨by rw [z1 h3]; omega, (wc (by omega) (by omega)).1 h2⟩
    · have h3 : W - S = 0 := by omega
      exact ⟨by rw [z2 h3]; omega, (wd h3 hW).1 h2⟩
  · rintro ⟨h1, h2⟩
    by_cases t0 : T * (W - T) = 0
    · rcases Int.mul_eq_zero.1 t0 with t | t
      · exact .inr (.inl (.inl ⟨by omega, (wa t hW).2 h1⟩))
      · exact .inr (.inl (.inr ⟨by omega, (wb (by omega) (by omega)).2 h1⟩))
    · by_cases s0 : S * (W - S) = 0
      · rcases Int.mul_eq_zero.1 s0 with t | t
        · exact .inr (.inr (.inl ⟨t, (wc (by omega) (by omega)).2 h2⟩))
        · exact .inr (.inr (.inr ⟨by omega, (wd t hW).2 h2⟩))
      · exact .inl ⟨by omega, by omega⟩
theorem within_swap (ax ay bx by_ px py : Int) : withinB bx by_ ax ay px py = withinB ax ay bx by_ px py := by
  rw [Bool.eq_iff_iff, withinB_iff, withinB_iff, mul_nn, mul_nn, mul_nn, mul_nn]; omega
theorem B8.s1 {ax ay bx by_ cx cy dx dy : Int} (h : B8 ax ay bx by_ cx cy dx dy) : B8 bx by_ ax ay cx cy dx dy := ⟨h.b0, h.b1, h.a0, h.a1, h.c0, h.c1, h.d0, h.d1⟩
theorem B8.s2 {ax ay bx by_ cx cy dx dy : Int} (h : B8 ax ay bx by_ cx cy dx dy) : B8 cx cy dx dy ax ay bx by_ := ⟨h.c0, h.c1, h.d0, h.d1, h.a0, h.a1, h.b0, h.b1⟩
theorem cut_s1 {ax ay bx by_ cx cy dx dy : Int} (h : B8 ax ay bx by_ cx cy dx dy) : cutB bx by_ ax ay cx cy dx dy = cutB ax ay bx by_ cx cy dx dy := by
  rw [Bool.eq_iff_iff, cutB_iff h, cutB_iff h.s1, within_swap ax ay bx by_ cx cy, within_swap ax ay bx by_ dx dy, cr_swap ax ay bx by_ cx cy, cr_swap ax ay bx by_ dx dy, Int.neg_mul_neg, Int.mul_comm (cr cx cy dx dy bx by_)]
  simp only [Int.neg_eq_zero]
  constructor
  · rintro (h | h | h | h)
    · exact .inl h
    · exact .inr (.inl h)
    · exact .inr (.inr (.inr h))
    · exact .inr (.inr (.inl h))
  · rintro (h | h | h | h)
    · exact .inl h
    · exact .inr (.inl h)
    · exact .inr (.inr (.inr h))
    · exact .inr (.inr (.inl h))
theorem cut_s2 {ax ay bx by_ cx cy dx dy : Int} (h : B8 ax ay bx by_ cx cy dx dy) : cutB cx cy dx dy ax ay bx by_ = cutB ax ay bx by_ cx cy dx dy := by
  rw [Bool.eq_iff_iff, cutB_iff h, cutB_iff h.s2]
  constructor
  · rintro (h | h | h)
    · exact .inl ⟨h.2, h.1⟩
    · exact .inr (.inr h)
    · exact .inr (.inl h)
  · rintro (h | h | h)
    · exact .inl ⟨h.2, h.1⟩
    · exact .inr (.inr h)
    · exact .inr (.inl h)
theorem cut_s3 {ax ay bx by_ cx cy dx dy : Int} (h : B8 ax ay bx by_ cx cy dx dy) : cutB ax ay bx by_ dx dy cx cy = cutB ax ay bx by_ cx cy dx dy := by
  rw [← cut_s2 h.s2.s1.s2, cut_s1 h.s2, cut_s2 h]
theorem within_end (ax ay bx by_ : Int) : withinB ax ay bx by_ ax ay = true := by rw [withinB_iff]; simp
theorem cr_a (ax ay bx by_ : Int) : cr ax ay bx by_ ax ay = 0 := by unfold cr; grind
theorem cut_end {ax ay bx by_ dx dy : Int} (h : B8 ax ay bx by_ ax ay dx dy) : cutB ax ay bx by_ ax ay dx dy = true := by
  rw [cutB_iff h]; exact .inr (.inl (.inl ⟨cr_a .., within_end ..⟩))
theorem conv {W S a b M : Int} (h1 : 0 ≤ S) (h2 : 0 ≤ W - S) (ha : a ≤ M) (hb : b ≤ M) : W * a + S * (b - a) ≤ W * M := by
  have e : W * M - (W * a + S * (b - a)) = (W - S) * (M - a) + S * (M - b) := by grind
  have := Int.mul_nonneg h2 (show 0 ≤ M - a by omega)
  have := Int.mul_nonneg h1 (show 0 ≤ M - b by omega)
  omega
theorem conv' {W S a b M : Int} (h1 : 0 ≤ S) (h2 : 0 ≤ W - S) (ha : M ≤ a) (hb : M ≤ b) : W * M ≤ W * a + S * (b - a) := by
  have e : (W * a + S * (b - a)) - W * M = (W - S) * (a - M) + S * (b - M) := by grind
  have := Int.mul_nonneg h2 (show 0 ≤ a - M by omega)
  have := Int.mul_nonneg h1 (show 0 ≤ b - M by omega)
  omega
theorem lap1 {W S T a b c d : Int} (hW : 0 < W) (s1 : 0 ≤ S) (s2 : 0 ≤ W - S) (t1 : 0 ≤ T) (t2 : 0 ≤ W - T) (he : W * a + S * (b - a) = W * c + T * (d - c)) : mnI a b ≤ mxI c d := by
  refine Classical.byContradiction fun h => ?_
  have h1 := conv' (M := mnI a b) (a := a) (b := b) s1 s2 (by unfold mnI; split <;> omega) (by unfold mnI; split <;> omega)
  have h2 := conv (M := mxI c d) (a := c) (b := d) t1 t2 (by unfold mxI; split <;> omega) (by unfold mxI; split <;> omega)
  have h3 := Int.mul_pos hW (show 0 < mnI a b - mxI c d by omega)
  rw [Int.mul_sub] at h3
  omega
theorem lap2 {W S T a b c d : Int} (hW : W ≠ 0) (hS : 0 ≤ S * (W - S)) (hT : 0 ≤ T * (W - T)) (he : W * a + S * (b - a) = W * c + T * (d - c)) : mnI a b ≤ mxI c d ∧ mnI c d ≤ mxI a b := by
  rw [mul_nn] at hS hT
  rcases Int.lt_or_lt_of_ne hW with h | h
  · have he' : (-W) * a + (-S) * (b - a) = (-W) * c + (-T) * (d - c) := by grind
    exact ⟨lap1 (by omega) (by omega) (by omega) (by omega) (by omega) he', lap1 (by omega) (by omega) (by omega) (by omega) (by omega) he'.symm⟩
  · exact ⟨lap1 (by omega) (by omega) (by omega) (by omega) (by omega) he, lap1 (by omega) (by omega) (by omega) (by omega) (by omega) he.symm⟩
theorem lap_pt {a b c d p : Int} (h1 : 0 ≤ (p - a) * (b - p)) (h2 : 0 ≤ (p - c) * (d - p)) : mnI a b ≤ mxI c d ∧ mnI c d ≤ mxI a b := by
  rw [← bt] at h1 h2; omega
theorem cut_lap {ax ay bx by_ cx cy dx dy : Int} (h : B8 ax ay bx by_ cx cy dx dy) (hc : cutB ax ay bx by_ cx cy dx dy = true) :
    (mnI ax bx ≤ mxI cx dx ∧ mnI cx dx ≤ mxI ax bx) ∧ (mnI ay by_ ≤ mxI cy dy ∧ mnI cy dy ≤ mxI ay by_) := by
  have z : ∀ x y : Int, 0 ≤ (x - x) * (y - x) ∧ 0 ≤ (y - x) * (y - y) := fun x y => by simp
  by_cases hW : wW ax ay bx by_ cx cy dx dy = 0
  · rw [cut_par h hW] at hc
    simp only [Bool.or_eq_true, onB, Bool.and_eq_true, withinB_iff] at hc
    rcases hc with ⟨⟨h1, h2⟩, _⟩ | ⟨⟨h1, h2⟩, _⟩ | ⟨⟨h1, h2⟩, _⟩ | ⟨⟨h1, h2⟩, _⟩
    · exact ⟨lap_pt h1 (z _ _).1, lap_pt h2 (z _ _).1⟩
    · exact ⟨lap_pt h1 (z _ _).2, lap_pt h2 (z _ _).2⟩
    · exact ⟨lap_pt (z _ _).1 h1, lap_pt (z _ _).1 h2⟩
    · exact ⟨lap_pt (z _ _).2 h1, lap_pt (z _ _).2 h2⟩
  · rw [cut_cross h hW, shared_iff hW] at hc
    exact ⟨lap2 hW hc.1 hc.2 (by unfold wW sS tT; grind), lap2 hW hc.1 hc.2 (by unfold wW sS tT; grind)⟩
theorem w_x {ax ay bx by_ px py : Int} (hc : cr ax ay bx by_ px py = 0) (hn : bx - ax ≠ 0) (h : 0 ≤ (px - ax) * (bx - px)) : withinB ax ay bx by_ px py = true := by
  rw [withinB_iff]
  refine ⟨h, nn_of_mul (sq_pos hn) ?_⟩
  have e : (bx - ax) * (py - ay) = (by_ - ay) * (px - ax) := by unfold cr at hc; omega
  have : (bx - ax) * (bx - ax) * ((py - ay) * (by_ - py)) = ((by_ - ay) * (by_ - ay)) * ((px - ax) * (bx - px)) := by
    have : (bx - ax) * (bx - ax) * ((py - ay) * (by_ - py)) = ((bx - ax) * (py - ay)) * ((bx - ax) * (by_ - ay) - (bx - ax) * (py - ay)) := by grind
    rw [this, e]; grind
  rw [this]; exact Int.mul_nonneg (sq_nn _) h
theorem w_y {ax ay bx by_ px py : Int} (hc : cr ax ay bx by_ px py = 0) (hn : by_ - ay ≠ 0) (h : 0 ≤ (py - ay) * (by_ - py)) : withinB ax ay bx by_ px py = true := by
  have := w_x (ax := ay) (ay := ax) (bx := by_) (by_ := bx) (px := py) (py := px) (by unfold cr at *; omega) hn h
  rw [withinB_iff] at *; exact ⟨this.2, this.1⟩
theorem line1 {a b c d r : Int} (h1 : 0 ≤ (r - a) * (b - r)) (h2 : 0 ≤ (r - c) * (d - r)) : (0 ≤ (c - a) * (b - c) ∨ 0 ≤ (d - a) * (b - d)) ∨ (0 ≤ (a - c) * (d - a) ∨ 0 ≤ (b - c) * (d - b)) := by
  simp only [mul_nn] at *; omega
theorem common {ax ay bx by_ cx cy dx dy rx ry : Int} (h : B8 ax ay bx by_ cx cy dx dy) (u1 : withinB ax ay bx by_ rx ry = true) (u2 : cr ax ay bx by_ rx ry = 0) (v1 : withinB cx cy dx dy rx ry = true) (v2 : cr cx cy dx dy rx ry = 0) :
    cutB ax ay bx by_ cx cy dx dy = true := by
  by_cases hW : wW ax ay bx by_ cx cy dx dy = 0
  · have same : ∀ {px py qx qy : Int}, qx - px = 0 → qy - py = 0 → withinB px py qx qy rx ry = true → px = rx ∧ py = ry ∧ qx = rx ∧ qy = ry := fun e1 e2 hw => by
      rw [withinB_iff, mul_nn, mul_nn] at hw; omega
    rw [cutB_iff h]
    by_cases hab : bx - ax = 0 ∧ by_ - ay = 0
    · obtain ⟨rfl, rfl, rfl, rfl⟩ := same hab.1 hab.2 u1
      exact .inr (.inr (.inl ⟨v2, v1⟩))
    by_cases hcd : dx - cx = 0 ∧ dy - cy = 0
    · obtain ⟨rfl, rfl, rfl, rfl⟩ := same hcd.1 hcd.2 v1
      exact .inr (.inl (.inl ⟨u2, u1⟩))
    have par : (bx - ax) * (dy - cy) = (by_ - ay) * (dx - cx) := by unfold wW at hW; omega
    rw [withinB_iff] at u1 v1
    have k1 : cr ax ay bx by_ cx cy = 0 ∧ cr ax ay bx by_ dx dy = 0 ∧ cr cx cy dx dy ax ay = 0 ∧ cr cx cy dx dy bx by_ = 0 := by
      have p : ∀ {U V u v x y : Int}, (U ≠ 0 ∨ V ≠ 0) → U * v = V * u → U * y - V * x = 0 → u * y - v * x = 0 := fun {U V u v x y} hn e1 e2 => by
        have g1 : U * (u * y - v * x) = u * (U * y - V * x) + x * (V * u - U * v) := by grind
        have g2 : V * (u * y - v * x) = v * (U * y - V * x) + y * (V * u - U * v) := by grind
        rw [e2, e1] at g1 g2
        simp only [Int.sub_self, Int.mul_zero, Int.add_zero] at g1 g2
        rcases hn with hn | hn
        · exact (Int.mul_eq_zero.1 g1).resolve_left hn
        · exact (Int.mul_eq_zero.1 g2).resolve_left hn
      have n1 : bx - ax ≠ 0 ∨ by_ - ay ≠ 0 := by omega
      have n2 : dx - cx ≠ 0 ∨ dy - cy ≠ 0 := by omega
      unfold cr at u2 v2
      have q1 := p n1 par u2
      have q2 := p n2 (u := bx - ax) (v := by_ - ay) (by grind) v2
      have r1 : (bx - ax) * (cy - ay) - (by_ - ay) * (cx - ax) = 0 := by grind
      have r3 : (dx - cx) * (ay - cy) - (dy - cy) * (ax - cx) = 0 := by grind
      unfold cr
      refine ⟨r1, ?_, r3, ?_⟩ <;> grind
    obtain ⟨k1, k2, k3, k4⟩ := k1
    by_cases hx : bx - ax = 0
    · have hy : by_ - ay ≠ 0 := by omega
      have hy2 : dy - cy ≠ 0 := fun e => by
        rw [e, Int.mul_zero] at par
        have := (Int.mul_eq_zero.1 par.symm).resolve_left hy
        omega
      rcases line1 u1.2 v1.2 with (l | l) | (l | l)
      · exact .inr (.inl (.inl ⟨k1, w_y k1 hy l⟩))
      · exact .inr (.inl (.inr ⟨k2, w_y k2 hy l⟩))
      · exact .inr (.inr (.inl ⟨k3, w_y k3 hy2 l⟩))
      · exact .inr (.inr (.inr ⟨k4, w_y k4 hy2 l⟩))
    · have hx2 : dx - cx ≠ 0 := fun e => by
        rw [e, Int.mul_zero] at par
        have := (Int.mul_eq_zero.1 par).resolve_left hx
        omega
      rcases line1 u1.1 v1.1 with (l | l) | (l | l)
      · exact .inr (.inl (.inl ⟨k1, w_x k1 hx l⟩))
      · exact .inr (.inl (.inr ⟨k2, w_x k2 hx l⟩))
      · exact .inr (.inr (.inl ⟨k3, w_x k3 hx2 l⟩))
      · exact .inr (.inr (.inr ⟨k4, w_x k4 hx2 l⟩))
  · rw [cut_cross h hW, shared_iff hW]
    have e1 : wW ax ay bx by_ rx ry (rx + (dx - cx)) (ry + (dy - cy)) = wW ax ay bx by_ cx cy dx dy := by unfold wW; grind
    have e2 : sS ax ay bx by_ rx ry (rx + (dx - cx)) (ry + (dy - cy)) = sS ax ay bx by_ cx cy dx dy := by unfold cr at v2; unfold sS; grind
    have e3 : tT ax ay bx by_ rx ry (rx + (dx - cx)) (ry + (dy - cy)) = 0 := by unfold cr at u2; unfold tT; grind
    have f1 : wW cx cy dx dy rx ry (rx + (bx - ax)) (ry + (by_ - ay)) = - wW ax ay bx by_ cx cy dx dy := by unfold wW; grind
    have f2 : sS cx cy dx dy rx ry (rx + (bx - ax)) (ry + (by_ - ay)) = - tT ax ay bx by_ cx cy dx dy := by unfold cr at u2; unfold sS tT; grind
    have f3 : tT cx cy dx dy rx ry (rx + (bx - ax)) (ry + (by_ - ay)) = 0 := by unfold cr at v2; unfold tT; grind
    have g1 := (within_A e3 (by rw [e1]; exact hW)).1 u1
    have g2 := (within_A f3 (by rw [f1]; omega)).1 v1
    rw [e1, e2] at g1
    rw [f1, f2] at g2
    refine ⟨g1, ?_⟩
    have : -tT ax ay bx by_ cx cy dx dy * (-wW ax ay bx by_ cx cy dx dy - -tT ax ay bx by_ cx cy dx dy) = tT ax ay bx by_ cx cy dx dy * (wW ax ay bx by_ cx cy dx dy - tT ax ay bx by_ cx cy dx dy) := by grind
    omega
theorem mn_le (a b : Int) : mnI a b ≤ a ∧ mnI a b ≤ b ∧ (mnI a b = a ∨ mnI a b = b) := by unfold mnI; split <;> omega
theorem mx_le (a b : Int) : a ≤ mxI a b ∧ b ≤ mxI a b ∧ (mxI a b = a ∨ mxI a b = b) := by unfold mxI; split <;> omega
theorem fold_min : ∀ (l : List (Int × Int)) (q : Int × Int), ((l.foldl minP q).1 ≤ q.1 ∧ (l.foldl minP q).2 ≤ q.2) ∧ (∀ p ∈ l, (l.foldl minP q).1 ≤ p.1 ∧ (l.foldl minP q).2 ≤ p.2) ∧
    ((l.foldl minP q).1 = q.1 ∨ ∃ p ∈ l, (l.foldl minP q).1 = p.1) ∧ ((l.foldl minP q).2 = q.2 ∨ ∃ p ∈ l, (l.foldl minP q).2 = p.2)
  | [], q => by simp
  | p :: l, q => by
    obtain ⟨⟨h1, h2⟩, h3, h4, h5⟩ := fold_min l (minP q p)
    have m1 := mn_le q.1 p.1
    have m2 := mn_le q.2 p.2
    simp only [List.foldl_cons]
    simp only [minP] at h1 h2 h4 h5
    refine ⟨⟨by simp only [minP] at *; omega, by simp only [minP] at *; omega⟩, fun r hr => ?_, ?_, ?_⟩
    · simp only [List.mem_cons] at hr
      rcases hr with rfl | hr
      · simp only [minP] at *; omega
      · exact h3 r hr
    · rcases h4 with h4 | ⟨r, hr, h4⟩
      · rcases m1.2.2 with m | m
        · exact .inl (by simp only [minP] at *; omega)
        · exact .inr ⟨p, by simp, by simp only [minP] at *; omega⟩
      · exact .inr ⟨r, by simp [hr], h4⟩
    · rcases h5 with h4 | ⟨r, hr, h4⟩
      · rcases m2.2.2 with m | m
        · exact .inl (by simp only [minP] at *; omega)
        · exact .inr ⟨p, by simp, by simp only [minP] at *; omega⟩
      · exact .inr ⟨r, by simp [hr], h4⟩
theorem fold_max : ∀ (l : List (Int × Int)) (q : Int × Int), (q.1 ≤ (l.foldl maxP q).1 ∧ q.2 ≤ (l.foldl maxP q).2) ∧ (∀ p ∈ l, p.1 ≤ (l.foldl maxP q).1 ∧ p.2 ≤ (l.foldl maxP q).2) ∧
    ((l.foldl maxP q).1 = q.1 ∨ ∃ p ∈ l, (l.foldl maxP q).1 = p.1) ∧ ((l.foldl maxP q).2 = q.2 ∨ ∃ p ∈ l, (l.foldl maxP q).2 = p.2)
  | [], q => by simp
  | p :: l, q => by
    obtain ⟨⟨h1, h2⟩, h3, h4, h5⟩ := fold_max l (maxP q p)
    have m1 := mx_le q.1 p.1
    have m2 := mx_le q.2 p.2
    simp only [List.foldl_cons]
    simp only [maxP] at h1 h2 h4 h5
    refine ⟨⟨by simp only [maxP] at *; omega, by simp only [maxP] at *; omega⟩, fun r hr => ?_, ?_, ?_⟩
    · simp only [List.mem_cons] at hr
      rcases hr with rfl | hr
      · simp only [maxP] at *; omega
      · exact h3 r hr
    · rcases h4 with h4 | ⟨r, hr, h4⟩
      · rcases m1.2.2 with m | m
        · exact .inl (by simp only [maxP] at *; omega)
        · exact .inr ⟨p, by simp, by simp only [maxP] at *; omega⟩
      · exact .inr ⟨r, by simp [hr], h4⟩
    · rcases h5 with h4 | ⟨r, hr, h4⟩
      · rcases m2.2.2 with m | m
        · exact .inl (by simp only [maxP] at *; omega)
        · exact .inr ⟨p, by simp, by simp only [maxP] at *; omega⟩
      · exact .inr ⟨r, by simp [hr], h4⟩
/-- what a box is: it bounds, and each side is met -/
structure Box (l : List (Int × Int)) (lo hi : Int × Int) : Prop where
  b1 : ∀ p ∈ l, lo.1 ≤ p.1
  b2 : ∀ p ∈ l, lo.2 ≤ p.2
  b3 : ∀ p ∈ l, p.1 ≤ hi.1
  b4 : ∀ p ∈ l, p.2 ≤ hi.2
  m1 : ∃ p ∈ l, p.1 = lo.1
  m2 : ∃ p ∈ l, p.2 = lo.2
  m3 : ∃ p ∈ l, p.1 = hi.1
  m4 : ∃ p ∈ l, p.2 = hi.2
theorem box {l : List (Int × Int)} (h : l ≠ []) : Box l (bbL l) (bbH l) := by
  cases l with
  | nil => exact absurd rfl h
  | cons p l =>
    obtain ⟨⟨a1, a2⟩, a3, a4, a5⟩ := fold_min (p :: l) p
    obtain ⟨⟨c1, c2⟩, c3, c4, c5⟩ := fold_max (p :: l) p
    refine ⟨fun q hq => (a3 q hq).1, fun q hq => (a3 q hq).2, fun q hq => (c3 q hq).1, fun q hq => (c3 q hq).2, ?_, ?_, ?_, ?_⟩
    · rcases a4 with a | ⟨r, hr, a⟩
      · exact ⟨p, by simp, a.symm⟩
      · exact ⟨r, hr, a.symm⟩
    · rcases a5 with a | ⟨r, hr, a⟩
      · exact ⟨p, by simp, a.symm⟩
      · exact ⟨r, hr, a.symm⟩
    · rcases c4 with a | ⟨r, hr, a⟩
      · exact ⟨p, by simp, a.symm⟩
      · exact ⟨r, hr, a.symm⟩
    · rcases c5 with a | ⟨r, hr, a⟩
      · exact ⟨p, by simp, a.symm⟩
      · exact ⟨r, hr, a.symm⟩
theorem Box.uniq {l : List (Int × Int)} {lo hi lo' hi' : Int × Int} (h : Box l lo hi) (k : Box l lo' hi') : lo = lo' ∧ hi = hi' := by
  obtain ⟨p1, hp1, e1⟩ := h.m1
  obtain ⟨p2, hp2, e2⟩ := h.m2
  obtain ⟨p3, hp3, e3⟩ := h.m3
  obtain ⟨p4, hp4, e4⟩ := h.m4
  obtain ⟨q1, hq1, f1⟩ := k.m1
  obtain ⟨q2, hq2, f2⟩ := k.m2
  obtain ⟨q3, hq3, f3⟩ := k.m3
  obtain ⟨q4, hq4, f4⟩ := k.m4
  have := h.b1 q1 hq1; have := k.b1 p1 hp1
  have := h.b2 q2 hq2; have := k.b2 p2 hp2
  have := h.b3 q3 hq3; have := k.b3 p3 hp3
  have := h.b4 q4 hq4; have := k.b4 p4 hp4
  exact ⟨Prod.ext (by omega) (by omega), Prod.ext (by omega) (by omega)⟩
def gapZ (lo hi lo' hi' : Int × Int) : Int := mxI (mxI (mxI (mxI 0 (lo'.1 - hi.1)) (lo'.2 - hi.2)) (lo.1 - hi'.1)) (lo.2 - hi'.2)
theorem mx_mx (a b x : Int) : x = mxI a b ↔ a ≤ x ∧ b ≤ x ∧ (x = a ∨ x = b) := by unfold mxI; split <;> omega
theorem gapZ_char (lo hi lo' hi' : Int × Int) (x : Int) : x = gapZ lo hi lo' hi' ↔ (0 ≤ x ∧ lo'.1 - hi.1 ≤ x ∧ lo'.2 - hi.2 ≤ x ∧ lo.1 - hi'.1 ≤ x ∧ lo.2 - hi'.2 ≤ x) ∧ (x = 0 ∨ x = lo'.1 - hi.1 ∨ x = lo'.2 - hi.2 ∨ x = lo.1 - hi'.1 ∨ x = lo.2 - hi'.2) := by
  unfold gapZ mxI; repeat' split
  all_goals omega
end Go.Geo

namespace Go.Proofs.Ytnecdcaaknhgpaa.G
set_option maxRecDepth 100000
set_option maxHeartbeats 4000000
set_option linter.unusedSimpArgs false
set_option linter.unusedVariables false
open Go Go.Zv
open Go.Geo
theorem c54 (ax ay bx by_ : Int) : pc E 54 [.agg [.int .i64 ax, .int .i64 ay], .agg [.int .i64 bx, .int .i64 by_]] = some (.agg [.int .i64 (w64 (ax + bx)), .int .i64 (w64 (ay + by_))]) := by
  rw [pc_eq]; simp +contextual -implicitDefEqProofs (maxSteps := 2000000) only [go_sem, ↓reduceIte, Nat.reduceAdd, Nat.reduceMul, Nat.reduceSub, Nat.reduceEqDiff, Nat.reduceLeDiff, Nat.reduceDiv, Nat.reduceMod, Nat.reduceBEq, Nat.reduceBNe, reduceCtorEq, Int.reduceLE, Int.reduceLT, Int.reduceToNat, Int.reduceNeg, Nat.reduceLT, Int.reduceEq, Int.reduceSub, Int.reduceAdd, Int.reduceMul, Nat.reducePow, Int.reduceBEq, Int.reduceBNe, Int.reduceMod, E_54, A54]
theorem c67 (ax ay bx by_ : Int) : pc E 67 [.agg [.int .i64 ax, .int .i64 ay], .agg [.int .i64 bx, .int .i64 by_]] = some (.agg [.int .i64 (w64 (ax - bx)), .int .i64 (w64 (ay - by_))]) := by
  rw [pc_eq]; simp +contextual -implicitDefEqProofs (maxSteps := 2000000) only [go_sem, ↓reduceIte, Nat.reduceAdd, Nat.reduceMul, Nat.reduceSub, Nat.reduceEqDiff, Nat.reduceLeDiff, Nat.reduceDiv, Nat.reduceMod, Nat.reduceBEq, Nat.reduceBNe, reduceCtorEq, Int.reduceLE, Int.reduceLT, Int.reduceToNat, Int.reduceNeg, Nat.reduceLT, Int.reduceEq, Int.reduceSub, Int.reduceAdd, Int.reduceMul, Nat.reducePow, Int.reduceBEq, Int.reduceBNe, Int.reduceMod, E_67, A67]
theorem c62 (ax ay bx by_ px py : Int) : pc E 62 [.agg [.int .i64 ax, .int .i64 ay], .agg [.int .i64 bx, .int .i64 by_], .agg [.int .i64 px, .int .i64 py]] = some (.int .i64 (sgn (crW ax ay bx by_ px py))) := by
  rw [pc_eq]; simp +contextual -implicitDefEqProofs (maxSteps := 2000000) only [go_sem, ↓reduceIte, Nat.reduceAdd, Nat.reduceMul, Nat.reduceSub, Nat.reduceEqDiff, Nat.reduceLeDiff, Nat.reduceDiv, Nat.reduceMod, Nat.reduceBEq, Nat.reduceBNe, reduceCtorEq, Int.reduceLE, Int.reduceLT, Int.reduceToNat, Int.reduceNeg, Nat.reduceLT, Int.reduceEq, Int.reduceSub, Int.reduceAdd, Int.reduceMul, Nat.reducePow, Int.reduceBEq, Int.reduceBNe, Int.reduceMod, E_62, A62, c67, decide_eq_true_eq]
  unfold sgn crW; split <;> (try split) <;> rfl
theorem c118 (ax ay bx by_ : Int) : pc E 118 [.agg [.int .i64 ax, .int .i64 ay], .agg [.int .i64 bx, .int .i64 by_]] = some (.agg [.int .i64 (mnI ax bx), .int .i64 (mnI ay by_)]) := by
  rw [pc_eq]; simp +contextual -implicitDefEqProofs (maxSteps := 2000000) only [go_sem, ↓reduceIte, Nat.reduceAdd, Nat.reduceMul, Nat.reduceSub, Nat.reduceEqDiff, Nat.reduceLeDiff, Nat.reduceDiv, Nat.reduceMod, Nat.reduceBEq, Nat.reduceBNe, reduceCtorEq, Int.reduceLE, Int.reduceLT, Int.reduceToNat, Int.reduceNeg, Nat.reduceLT, Int.reduceEq, Int.reduceSub, Int.reduceAdd, Int.reduceMul, Nat.reducePow, Int.reduceBEq, Int.reduceBNe, Int.reduceMod, E_118, A118]
theorem c119 (ax ay bx by_ : Int) : pc E 119 [.agg [.int .i64 ax, .int .i64 ay], .agg [.int .i64 bx, .int .i64 by_]] = some (.agg [.int .i64 (mxI ax bx), .int .i64 (mxI ay by_)]) := by
  rw [pc_eq]; simp +contextual -implicitDefEqProofs (maxSteps := 2000000) only [go_sem, ↓reduceIte, Nat.reduceAdd, Nat.reduceMul, Nat.reduceSub, Nat.reduceEqDiff, Nat.reduceLeDiff, Nat.reduceDiv, Nat.reduceMod, Nat.reduceBEq, Nat.reduceBNe, reduceCtorEq, Int.reduceLE, Int.reduceLT, Int.reduceToNat, Int.reduceNeg, Nat.reduceLT, Int.reduceEq, Int.reduceSub, Int.reduceAdd, Int.reduceMul, Nat.reducePow, Int.reduceBEq, Int.reduceBNe, Int.reduceMod, E_119, A119]
theorem fold_loop (l : List (Int × Int)) (hl : l.length < 9223372036854775808) (f : FuncId) (g : Int × Int → Int × Int → Int × Int) (hg : ∀ ax ay bx by_, pc E f [.agg [.int .i64 ax, .int .i64 ay], .agg [.int .i64 bx, .int .i64 by_]] = some (.agg [.int .i64 (g (ax, ay) (bx, by_)).1, .int .i64 (g (ax, ay) (bx, by_)).2])) :
    ∀ (k i : Nat) (ax ay : Int), i + k = l.length → (K E A117_L0 ⟨[(2, .fn (.func f) [] []), (4, .ptr 1024 0), (6, .ptr 1536 0), (9, .vs (l.map c2)), (10, .int .i64 l.length), (11, .int .i64 i)], [],
      [(1536, .box [.int .i64 0, .int .i64 0]), (1024, .box [.int .i64 ax, .int .i64 ay])], 0⟩).bind (blockR 0 (some [4, 6]) [8]) =
      some (.ex .nrm ⟨[(4, .ptr 1024 0), (6, .ptr 1536 0)], [], [(1536, .box [.int .i64 0, .int .i64 0]), (1024, .box [.int .i64 ((l.drop i).foldl g (ax, ay)).1, .int .i64 ((l.drop i).foldl g (ax, ay)).2])], 0⟩)
  | 0, i, ax, ay, h => by
    have hi : ¬ ((i : Int) < l.length) := by omega
    have hd : l.drop i = [] := List.drop_of_length_le (by omega)
    rw [A117_L0_eq, hd]
    simp +contextual -implicitDefEqProofs (maxSteps := 2000000) only [go_sem, ↓reduceIte, Nat.reduceAdd, Nat.reduceMul, Nat.reduceSub, Nat.reduceEqDiff, Nat.reduceLeDiff, Nat.reduceDiv, Nat.reduceMod, Nat.reduceBEq, Nat.reduceBNe, reduceCtorEq, Int.reduceLE, Int.reduceLT, Int.reduceToNat, Int.reduceNeg, Nat.reduceLT, Int.reduceEq, Int.reduceSub, Int.reduceAdd, Int.reduceMul, Nat.reducePow, Int.reduceBEq, Int.reduceBNe, Int.reduceMod, A117_L0b, hi, List.foldl_nil]
  | k + 1, i, ax, ay, h => by
    have hi : ((i : Int) < l.length) := by omega
    have hget : l[i]? = some (l[i]'(by omega)) := List.getElem?_eq_getElem _
    generalize l[i]'(by omega) = p at hget
    have hg2 := get_c2 hget
    have hw := wr_succ (n := i) (by omega)
    have h0 : (0 : Int) ≤ (i : Int) := by omega
    have hd : l.drop i = p :: l.drop (i + 1) := by
      have hlt : i < l.length := by omega
      rw [List.drop_eq_getElem_cons hlt]
      rw [List.getElem?_eq_getElem hlt] at hget
      simp only [Option.some.injEq] at hget
      rw [hget]
    rw [A117_L0_eq, hd]
    simp +contextual -implicitDefEqProofs (maxSteps := 2000000) only [go_sem, ↓reduceIte, Nat.reduceAdd, Nat.reduceMul, Nat.reduceSub, Nat.reduceEqDiff, Nat.reduceLeDiff, Nat.reduceDiv, Nat.reduceMod, Nat.reduceBEq, Nat.reduceBNe, reduceCtorEq, Int.reduceLE, Int.reduceLT, Int.reduceToNat, Int.reduceNeg, Nat.reduceLT, Int.reduceEq, Int.reduceSub, Int.reduceAdd, Int.reduceMul, Nat.reducePow, Int.reduceBEq, Int.reduceBNe, Int.reduceMod, A117_L0b, hi, hg2, hg, h0, hw, List.foldl_cons]
    rw [fold_loop l hl f g hg k (i + 1) _ _ (by omega)]
theorem c117 (l : List (Int × Int)) (hl : l.length < 9223372036854775808) (ax ay : Int) (f : FuncId) (g : Int × Int → Int × Int → Int × Int) (hg : ∀ ax ay bx by_, pc E f [.agg [.int .i64 ax, .int .i64 ay], .agg [.int .i64 bx, .int .i64 by_]] = some (.agg [.int .i64 (g (ax, ay) (bx, by_)).1, .int .i64 (g (ax, ay) (bx, by_)).2])) :
    pc E 117 [.vs (l.map c2), .agg [.int .i64 ax, .int .i64 ay], .fn (.func f) [] []] = some (pt (l.foldl g (ax, ay))) := by
  have := fold_loop l hl f g hg l.length 0 ax ay (by omega)
  simp only [Int.ofNat_zero, Int.natCast_zero, List.drop_zero] at this
  rw [pc_eq]; simp +contextual -implicitDefEqProofs (maxSteps := 2000000) only [go_sem, ↓reduceIte, Nat.reduceAdd, Nat.reduceMul, Nat.reduceSub, Nat.reduceEqDiff, Nat.reduceLeDiff, Nat.reduceDiv, Nat.reduceMod, Nat.reduceBEq, Nat.reduceBNe, reduceCtorEq, Int.reduceLE, Int.reduceLT, Int.reduceToNat, Int.reduceNeg, Nat.reduceLT, Int.reduceEq, Int.reduceSub, Int.reduceAdd, Int.reduceMul, Nat.reducePow, Int.reduceBEq, Int.reduceBNe, Int.reduceMod, E_117, A117, List.length_map, this]
theorem c107 (l : List (Int × Int)) (hl : l.length < 9223372036854775808) : pc E 107 [.vs (l.map c2)] = some (.tup [pt (bbL l), pt (bbH l)]) := by
  cases l with
  | nil =>
    rw [pc_eq]; simp +contextual -implicitDefEqProofs only [E_107, A107, go_sem, ↓reduceIte, Nat.reduceAdd, Nat.reduceMul, Nat.reduceSub, Nat.reduceEqDiff, Nat.reduceLeDiff, Nat.reduceDiv, Nat.reduceMod, Nat.reduceBEq, Nat.reduceBNe, reduceCtorEq, Int.reduceLE, Int.reduceLT, Int.reduceToNat, Int.reduceNeg, Nat.reduceLT, Int.reduceEq, Int.reduceSub, Int.reduceAdd, Int.reduceMul, Nat.reducePow, Int.reduceBEq, Int.reduceBNe, Int.reduceMod, List.map_nil, bbL, bbH, Int.ofNat_zero, Int.natCast_zero]
  | cons p t =>
    have h1 := c117 (p :: t) hl p.1 p.2 118 minP (fun ax ay bx by_ => c118 ax ay bx by_)
    have h2 := c117 (p :: t) hl p.1 p.2 119 maxP (fun ax ay bx by_ => c119 ax ay bx by_)
    have hz : ¬ (((p :: t).length : Int) = 0) := by simp only [List.length_cons]; omega
    simp only [List.map_cons, c2, List.length_cons] at h1 h2 hz
    rw [pc_eq]; simp +contextual -implicitDefEqProofs only [E_107, A107, go_sem, ↓reduceIte, Nat.reduceAdd, Nat.reduceMul, Nat.reduceSub, Nat.reduceEqDiff, Nat.reduceLeDiff, Nat.reduceDiv, Nat.reduceMod, Nat.reduceBEq, Nat.reduceBNe, reduceCtorEq, Int.reduceLE, Int.reduceLT, Int.reduceToNat, Int.reduceNeg, Nat.reduceLT, Int.reduceEq, Int.reduceSub, Int.reduceAdd, Int.reduceMul, Nat.reducePow, Int.reduceBEq, Int.reduceBNe, Int.reduceMod, List.map_cons, c2, bbL, bbH, List.length_map, hz, h1, h2]
theorem c107_2 (ax ay bx by_ : Int) : pc E 107 [.vs [[.int .i64 ax, .int .i64 ay], [.int .i64 bx, .int .i64 by_]]] = some (.tup [pt (bbL [(ax, ay), (bx, by_)]), pt (bbH [(ax, ay), (bx, by_)])]) :=
  c107 [(ax, ay), (bx, by_)] (by simp)
theorem c90 (ax ay bx by_ px py : Int) : pc E 90 [.agg [.int .i64 ax, .int .i64 ay], .agg [.int .i64 bx, .int .i64 by_], .agg [.int .i64 px, .int .i64 py]] = some (.bool (withinB ax ay bx by_ px py)) := by
  rw [pc_eq]; simp +contextual -implicitDefEqProofs (maxSteps := 2000000) only [go_sem, ↓reduceIte, Nat.reduceAdd, Nat.reduceMul, Nat.reduceSub, Nat.reduceEqDiff, Nat.reduceLeDiff, Nat.reduceDiv, Nat.reduceMod, Nat.reduceBEq, Nat.reduceBNe, reduceCtorEq, Int.reduceLE, Int.reduceLT, Int.reduceToNat, Int.reduceNeg, Nat.reduceLT, Int.reduceEq, Int.reduceSub, Int.reduceAdd, Int.reduceMul, Nat.reducePow, Int.reduceBEq, Int.reduceBNe, Int.reduceMod, E_90, A90, c107_2, bbL, bbH, List.foldl_cons, List.foldl_nil, minP, maxP, mn_self, mx_self, withinB]
  repeat' split
  all_goals (try simp_all)
  all_goals (try (intros; omega))
theorem c61 (ax ay bx by_ px py : Int) : pc E 61 [.agg [.int .i64 ax, .int .i64 ay], .agg [.int .i64 bx, .int .i64 by_], .agg [.int .i64 px, .int .i64 py]] = some (.bool (onB ax ay bx by_ px py)) := by
  rw [pc_eq]; simp +contextual -implicitDefEqProofs (maxSteps := 2000000) only [go_sem, ↓reduceIte, Nat.reduceAdd, Nat.reduceMul, Nat.reduceSub, Nat.reduceEqDiff, Nat.reduceLeDiff, Nat.reduceDiv, Nat.reduceMod, Nat.reduceBEq, Nat.reduceBNe, reduceCtorEq, Int.reduceLE, Int.reduceLT, Int.reduceToNat, Int.reduceNeg, Nat.reduceLT, Int.reduceEq, Int.reduceSub, Int.reduceAdd, Int.reduceMul, Nat.reducePow, Int.reduceBEq, Int.reduceBNe, Int.reduceMod, E_61, A61, c90, c62, onB]
  repeat' split
  all_goals simp_all [Bool.beq_eq_decide_eq]
theorem c111 (ax ay bx by_ cx cy dx dy : Int) : pc E 111 [.agg [.int .i64 ax, .int .i64 ay], .agg [.int .i64 bx, .int .i64 by_], .agg [.int .i64 cx, .int .i64 cy], .agg [.int .i64 dx, .int .i64 dy]] =
    some (.tup [.bool (decide (sdI ax ay bx by_ cx cy dx dy < 0)), .bool (endsB ax ay bx by_ cx cy dx dy)]) := by
  rw [pc_eq]; simp +contextual -implicitDefEqProofs (maxSteps := 2000000) only [go_sem, ↓reduceIte, Nat.reduceAdd, Nat.reduceMul, Nat.reduceSub, Nat.reduceEqDiff, Nat.reduceLeDiff, Nat.reduceDiv, Nat.reduceMod, Nat.reduceBEq, Nat.reduceBNe, reduceCtorEq, Int.reduceLE, Int.reduceLT, Int.reduceToNat, Int.reduceNeg, Nat.reduceLT, Int.reduceEq, Int.reduceSub, Int.reduceAdd, Int.reduceMul, Nat.reducePow, Int.reduceBEq, Int.reduceBNe, Int.reduceMod, E_111, A111, c90, c62, sdI, endsB]
  repeat' split
  all_goals (try simp_all [wrap0])
  all_goals (try (intros; omega))
  all_goals (try rfl)
theorem c88 (ax ay bx by_ cx cy dx dy : Int) : pc E 88 [.agg [.int .i64 ax, .int .i64 ay], .agg [.int .i64 bx, .int .i64 by_], .agg [.int .i64 cx, .int .i64 cy], .agg [.int .i64 dx, .int .i64 dy]] = some (.bool (cutB ax ay bx by_ cx cy dx dy)) := by
  rw [pc_eq]; simp +contextual -implicitDefEqProofs (maxSteps := 2000000) only [go_sem, ↓reduceIte, Nat.reduceAdd, Nat.reduceMul, Nat.reduceSub, Nat.reduceEqDiff, Nat.reduceLeDiff, Nat.reduceDiv, Nat.reduceMod, Nat.reduceBEq, Nat.reduceBNe, reduceCtorEq, Int.reduceLE, Int.reduceLT, Int.reduceToNat, Int.reduceNeg, Nat.reduceLT, Int.reduceEq, Int.reduceSub, Int.reduceAdd, Int.reduceMul, Nat.reducePow, Int.reduceBEq, Int.reduceBNe, Int.reduceMod, E_88, A88, c111, cutB]
  repeat' split
  all_goals (try simp_all)
  all_goals (try (intros; omega))
  all_goals (try rfl)
end Go.Proofs.Ytnecdcaaknhgpaa.G

namespace Go.Geo
set_option maxRecDepth 100000
set_option maxHeartbeats 4000000
set_option linter.unusedSimpArgs false
set_option linter.unusedVariables false
open Go Go.Zv
abbrev Pt := Int × Int
/-- a polygon's edges -/
def eds : List Pt → List (Pt × Pt)
  | [] => []
  | p :: t => (p :: t).zip (t ++ [p])
theorem eds_len (l : List Pt) : (eds l).length = l.length := by cases l <;> simp [eds]
theorem eds_get {l : List Pt} {k : Nat} {e : Pt × Pt} (h : (eds l)[k]? = some e) : k < l.length ∧ l[k]? = some e.1 ∧ l[(k + 1) % l.length]? = some e.2 := by
  cases l with
  | nil => simp [eds] at h
  | cons p t =>
    have hk : k < (eds (p :: t)).length := (List.getElem?_eq_some_iff.1 h).1
    rw [eds_len] at hk
    refine ⟨hk, ?_⟩
    simp only [eds] at h
    rw [List.getElem?_zip_eq_some] at h
    refine ⟨h.1, ?_⟩
    have h2 := h.2
    simp only [List.length_cons] at hk ⊢
    by_cases e1 : k = t.length
    · subst e1
      rw [Nat.mod_self]
      rw [List.getElem?_append_right (by omega)] at h2
      simpa using h2
    · rw [Nat.mod_eq_of_lt (by omega)]
      rw [List.getElem?_append_left (by omega)] at h2
      simpa using h2
theorem mod_nat {k n : Nat} (hk : k < n) (hn : n ≤ 1000000000) : (((k + 1 : Nat) : Int)).tmod (n : Int) = (((k + 1) % n : Nat) : Int) ∧ ¬ ((n : Int) = 0) ∧ ((n : Int) == 0) = false ∧ (0 : Int) ≤ (((k + 1) % n : Nat) : Int) ∧ (((k + 1) % n : Nat) : Int) < n := by
  have h := Nat.mod_lt (k + 1) (show n > 0 by omega)
  refine ⟨?_, by omega, by simp; omega, by omega, by omega⟩
  rw [Int.tmod_eq_emod_of_nonneg (by omega)]; rfl
theorem wr_k {k : Nat} (h : k ≤ 1000000000) : IntKind.i64.wrap (((k : Nat) : Int) + 1) = ((k + 1 : Nat) : Int) := wr_succ (by omega)
def arF (x : Int) (e : Pt × Pt) : Int := w64 (x + w64 (w64 (e.1.1 * e.2.2) - w64 (e.1.2 * e.2.1)))
/-- twice the area -/
def areaW (l : List Pt) : Int := (eds l).foldl arF 0
abbrev oriE (a b p : Pt) : Int := sgn (crW a.1 a.2 b.1 b.2 p.1 p.2)
/-- a point on an edge -/
def onE (p : Pt) (e : Pt × Pt) : Bool := onB e.1.1 e.1.2 e.2.1 e.2.2 p.1 p.2
/-- an edge that the ray to the right crosses -/
def flE (p : Pt) (e : Pt × Pt) : Bool := (decide (p.2 < e.1.2) != decide (p.2 < e.2.2)) && (decide (0 < sgn (crW e.1.1 e.1.2 e.2.1 e.2.2 p.1 p.2)) == decide (e.1.2 < e.2.2))
def parF (p : Pt) (b : Bool) (e : Pt × Pt) : Bool := b != flE p e
/-- where a point lies: 0 on the boundary, 1 inside, -1 outside -/
def locI (l : List Pt) (p : Pt) : Int := if (eds l).any (onE p) = true then 0 else if (eds l).foldl (parF p) false = true then 1 else -1
end Go.Geo

namespace Go.Geo
set_option maxRecDepth 100000
set_option maxHeartbeats 4000000
set_option linter.unusedSimpArgs false
set_option linter.unusedVariables false
open Go Go.Zv
def mayB (p : Pt) : Bool := decide (mxI p.1 p.2 ≤ 439400000) && decide (-439400000 ≤ mnI p.1 p.2)
def ptn (l : List Pt) (k : Nat) : Pt := l.getD (k % l.length) (0, 0)
def adjB (n i k : Nat) : Bool := decide (k = i) || (decide (k = (i + 1) % n) || decide (i = (k + 1) % n))
def cutE (e f : Pt × Pt) : Bool := cutB e.1.1 e.1.2 e.2.1 e.2.2 f.1.1 f.1.2 f.2.1 f.2.2
def edn (l : List Pt) (k : Nat) : Pt × Pt := (ptn l k, ptn l (k + 1))
def bad2 (l : List Pt) (i k : Nat) : Bool := !adjB l.length i k && cutE (edn l i) (edn l k)
def bad1 (l : List Pt) (i : Nat) : Bool := decide (oriE (ptn l i) (ptn l (i + 1)) (ptn l (i + 2)) = 0) || (List.range l.length).any (bad2 l i)
def simB (l : List Pt) : Bool := !(List.range l.length).any (bad1 l)
/-- what polygon.Valid tells -/
def valB (l : List Pt) : Bool := decide (3 ≤ l.length) && (decide (l.length ≤ 12) && (l.all mayB && (simB l && decide (0 < areaW l))))
theorem ptn_get {l : List Pt} {k : Nat} (h : k < l.length) : l[k]? = some (ptn l k) := by
  unfold ptn; rw [Nat.mod_eq_of_lt h, List.getElem?_eq_getElem h]; simp [List.getD, h]
theorem ptn_mod {l : List Pt} {k : Nat} (h : 0 < l.length) : l[k % l.length]? = some (ptn l k) := by
  have := ptn_get (l := l) (Nat.mod_lt k h)
  rw [this]; unfold ptn; rw [Nat.mod_mod]
theorem edn_get {l : List Pt} {k : Nat} (h : k < l.length) : (eds l)[k]? = some (edn l k) := by
  have hk : k < (eds l).length := by rw [eds_len]; exact h
  obtain ⟨e, he⟩ : ∃ e, (eds l)[k]? = some e := ⟨_, List.getElem?_eq_getElem hk⟩
  obtain ⟨_, h1, h2⟩ := eds_get he
  rw [ptn_get h] at h1
  rw [ptn_mod (by omega)] at h2
  simp only [Option.some.injEq] at h1 h2
  rw [he]; unfold edn; rw [h1, h2]
theorem range_get {n k : Nat} (h : k < n) : (List.range n)[k]? = some k := by simp [h]
end Go.Geo
