/- Part of the proof: what functions of the program compute, over the evaluation that the engine's texts tie to the machine. -/
import Derived.Test.YtojjdhdflhcdkaaG1
namespace Go.Proofs.Ytojjdhdflhcdkaa
set_option maxRecDepth 100000
set_option maxHeartbeats 4000000
set_option linter.unusedSimpArgs false
set_option linter.unusedVariables false
open Go Go.Zv
def minP (a b : Int × Int) : Int × Int := (mnI a.1 b.1, mnI a.2 b.2)
def maxP (a b : Int × Int) : Int × Int := (mxI a.1 b.1, mxI a.2 b.2)
def bbL : List (Int × Int) → Int × Int
  | [] => (0, 0)
  | p :: t => (p :: t).foldl minP p
def bbH : List (Int × Int) → Int × Int
  | [] => (0, 0)
  | p :: t => (p :: t).foldl maxP p
theorem c13 (l : List (Int × Int)) (hl : l.length < 9223372036854775808) : pc E 13 [.vs (l.map c2)] = some (.tup [pt (bbL l), pt (bbH l)]) := by
  cases l with
  | nil =>
    rw [pc_eq]; simp +contextual -implicitDefEqProofs only [E_13, A13, go_sem, ↓reduceIte, Nat.reduceAdd, Nat.reduceMul, Nat.reduceSub, Nat.reduceEqDiff, Nat.reduceLeDiff, Nat.reduceDiv, Nat.reduceMod, Nat.reduceBEq, reduceCtorEq, Int.reduceLE, Int.reduceLT, Int.reduceToNat, Int.reduceNeg, Nat.reduceLT, Int.reduceEq, Int.reduceSub, Int.reduceAdd, Int.reduceMul, Nat.reducePow, List.map_nil, bbL, bbH, Int.ofNat_zero, Int.natCast_zero]
  | cons p t =>
    have h1 := c33 (p :: t) hl p.1 p.2 34 minP (fun ax ay bx by_ => c34 ax ay bx by_)
    have h2 := c33 (p :: t) hl p.1 p.2 35 maxP (fun ax ay bx by_ => c35 ax ay bx by_)
    have hz : ¬ (((p :: t).length : Int) = 0) := by simp only [List.length_cons]; omega
    simp only [List.map_cons, c2, List.length_cons] at h1 h2 hz
    rw [pc_eq]; simp +contextual -implicitDefEqProofs only [E_13, A13, go_sem, ↓reduceIte, Nat.reduceAdd, Nat.reduceMul, Nat.reduceSub, Nat.reduceEqDiff, Nat.reduceLeDiff, Nat.reduceDiv, Nat.reduceMod, Nat.reduceBEq, reduceCtorEq, Int.reduceLE, Int.reduceLT, Int.reduceToNat, Int.reduceNeg, Nat.reduceLT, Int.reduceEq, Int.reduceSub, Int.reduceAdd, Int.reduceMul, Nat.reducePow, List.map_cons, c2, bbL, bbH, List.length_map, hz, h1, h2]

theorem box_loop (l : List (Int × Int)) (hl : l.length < 9223372036854775808) :
    ∀ (k i : Nat) (a b : Int × Int), i + k = l.length → (K E A14_L0 ⟨[(0, .vs (l.map c2)), (2, .ptr 512 0), (3, .ptr 768 0), (4, .ptr 1024 0), (5, .ptr 1280 0), (6, .int .i64 i)], [],
      [(1280, .box [.int .i64 b.1, .int .i64 b.2]), (1024, .box [.int .i64 a.1, .int .i64 a.2]), (768, .box [.int .i64 0, .int .i64 0]), (512, .box [.int .i64 0, .int .i64 0])], 0⟩).bind (blockR 0 (some [2, 3, 4, 5]) [6]) =
      some (.ex .nrm ⟨[(2, .ptr 512 0), (3, .ptr 768 0), (4, .ptr 1024 0), (5, .ptr 1280 0)], [], [(1280, .box [.int .i64 ((l.drop i).foldl maxP b).1, .int .i64 ((l.drop i).foldl maxP b).2]), (1024, .box [.int .i64 ((l.drop i).foldl minP a).1, .int .i64 ((l.drop i).foldl minP a).2]), (768, .box [.int .i64 0, .int .i64 0]), (512, .box [.int .i64 0, .int .i64 0])], 0⟩)
  | 0, i, a, b, h => by
    have hi : ¬ ((i : Int) < l.length) := by omega
    have hd : l.drop i = [] := List.drop_of_length_le (by omega)
    rw [A14_L0_eq, hd]
    simp +contextual -implicitDefEqProofs (maxSteps := 2000000) only [go_sem, ↓reduceIte, Nat.reduceAdd, Nat.reduceMul, Nat.reduceSub, Nat.reduceEqDiff, Nat.reduceLeDiff, Nat.reduceDiv, Nat.reduceMod, Nat.reduceBEq, reduceCtorEq, Int.reduceLE, Int.reduceLT, Int.reduceToNat, Int.reduceNeg, Nat.reduceLT, Int.reduceEq, Int.reduceSub, Int.reduceAdd, Int.reduceMul, Nat.reducePow, A14_L0b, hi, List.foldl_nil, List.length_map]
  | k + 1, i, a, b, h => by
    have hi : ((i : Int) < l.length) := by omega
    have hget : l[i]? = some (l[i]'(by omega)) := List.getElem?_eq_getElem _
    have hd : l.drop i = (l[i]'(by omega)) :: l.drop (i + 1) := List.drop_eq_getElem_cons (by omega)
    generalize l[i]'(by omega) = p at hget hd
    have hg2 := get_c2 hget
    have hw := wr_succ (n := i) (by omega)
    have h0 : (0 : Int) ≤ (i : Int) := by omega
    have ih := box_loop l hl k (i + 1) (minP a p) (maxP b p) (by omega)
    simp only [minP, maxP] at ih
    rw [A14_L0_eq, hd]
    simp +contextual -implicitDefEqProofs (maxSteps := 2000000) only [go_sem, ↓reduceIte, Nat.reduceAdd, Nat.reduceMul, Nat.reduceSub, Nat.reduceEqDiff, Nat.reduceLeDiff, Nat.reduceDiv, Nat.reduceMod, Nat.reduceBEq, reduceCtorEq, Int.reduceLE, Int.reduceLT, Int.reduceToNat, Int.reduceNeg, Nat.reduceLT, Int.reduceEq, Int.reduceSub, Int.reduceAdd, Int.reduceMul, Nat.reducePow, A14_L0b, hi, hg2, h0, hw, List.foldl_cons, List.length_map]
    rw [ih]; rfl
theorem c14 (l : List (Int × Int)) (hl : l.length < 9223372036854775808) : pc E 14 [.vs (l.map c2)] = some (.tup [pt (bbL l), pt (bbH l)]) := by
  cases l with
  | nil => rw [pc_eq]; simp +contextual -implicitDefEqProofs (maxSteps := 2000000) only [go_sem, ↓reduceIte, Nat.reduceAdd, Nat.reduceMul, Nat.reduceSub, Nat.reduceEqDiff, Nat.reduceLeDiff, Nat.reduceDiv, Nat.reduceMod, Nat.reduceBEq, reduceCtorEq, Int.reduceLE, Int.reduceLT, Int.reduceToNat, Int.reduceNeg, Nat.reduceLT, Int.reduceEq, Int.reduceSub, Int.reduceAdd, Int.reduceMul, Nat.reducePow, E_14, A14, List.map_nil, bbL, bbH, Int.ofNat_zero, Int.natCast_zero]
  | cons p t =>
    have hz : ¬ (((t.length + 1 : Nat) : Int) = 0) := by omega
    have := box_loop (p :: t) hl (p :: t).length 0 p p (by omega)
    simp only [List.map_cons, c2, Int.ofNat_zero, Int.natCast_zero, List.drop_zero] at this
    rw [pc_eq]; simp +contextual -implicitDefEqProofs (maxSteps := 2000000) only [go_sem, ↓reduceIte, Nat.reduceAdd, Nat.reduceMul, Nat.reduceSub, Nat.reduceEqDiff, Nat.reduceLeDiff, Nat.reduceDiv, Nat.reduceMod, Nat.reduceBEq, reduceCtorEq, Int.reduceLE, Int.reduceLT, Int.reduceToNat, Int.reduceNeg, Nat.reduceLT, Int.reduceEq, Int.reduceSub, Int.reduceAdd, Int.reduceMul, Nat.reducePow, E_14, A14, List.map_cons, c2, List.length_map, hz, this, bbL, bbH]
theorem c13_2 (ax ay bx by_ : Int) : pc E 13 [.vs [[.int .i64 ax, .int .i64 ay], [.int .i64 bx, .int .i64 by_]]] = some (.tup [pt (bbL [(ax, ay), (bx, by_)]), pt (bbH [(ax, ay), (bx, by_)])]) :=
  c13 [(ax, ay), (bx, by_)] (by simp)
def withinB (ax ay bx by_ px py : Int) : Bool := decide (mnI ax bx ≤ px) && (decide (px ≤ mxI ax bx) && (decide (mnI ay by_ ≤ py) && decide (py ≤ mxI ay by_)))
theorem mn_self (a : Int) : mnI a a = a := by unfold mnI; split <;> rfl
theorem mx_self (a : Int) : mxI a a = a := by unfold mxI; split <;> rfl
theorem c37 (ax ay bx by_ px py : Int) : pc E 37 [.agg [.int .i64 ax, .int .i64 ay], .agg [.int .i64 bx, .int .i64 by_], .agg [.int .i64 px, .int .i64 py]] = some (.bool (withinB ax ay bx by_ px py)) := by
  rw [pc_eq]; simp +contextual -implicitDefEqProofs (maxSteps := 2000000) only [go_sem, ↓reduceIte, Nat.reduceAdd, Nat.reduceMul, Nat.reduceSub, Nat.reduceEqDiff, Nat.reduceLeDiff, Nat.reduceDiv, Nat.reduceMod, Nat.reduceBEq, reduceCtorEq, Int.reduceLE, Int.reduceLT, Int.reduceToNat, Int.reduceNeg, Nat.reduceLT, Int.reduceEq, Int.reduceSub, Int.reduceAdd, Int.reduceMul, Nat.reducePow, E_37, A37, c13_2, bbL, bbH, List.foldl_cons, List.foldl_nil, minP, maxP, mn_self, mx_self, withinB]
  repeat' split
  all_goals (try simp_all)
  all_goals (try (intros; omega))
def onB (ax ay bx by_ px py : Int) : Bool := withinB ax ay bx by_ px py && decide (sgn (crW ax ay bx by_ px py) = 0)
theorem c21 (ax ay bx by_ px py : Int) : pc E 21 [.agg [.int .i64 ax, .int .i64 ay], .agg [.int .i64 bx, .int .i64 by_], .agg [.int .i64 px, .int .i64 py]] = some (.bool (onB ax ay bx by_ px py)) := by
  rw [pc_eq]; simp +contextual -implicitDefEqProofs (maxSteps := 2000000) only [go_sem, ↓reduceIte, Nat.reduceAdd, Nat.reduceMul, Nat.reduceSub, Nat.reduceEqDiff, Nat.reduceLeDiff, Nat.reduceDiv, Nat.reduceMod, Nat.reduceBEq, reduceCtorEq, Int.reduceLE, Int.reduceLT, Int.reduceToNat, Int.reduceNeg, Nat.reduceLT, Int.reduceEq, Int.reduceSub, Int.reduceAdd, Int.reduceMul, Nat.reducePow, E_21, A21, c37, c19, onB]
  repeat' split
  all_goals simp_all [Bool.beq_eq_decide_eq]
theorem c22 (ax ay bx by_ px py : Int) : pc E 22 [.agg [.int .i64 ax, .int .i64 ay], .agg [.int .i64 bx, .int .i64 by_], .agg [.int .i64 px, .int .i64 py]] = some (.bool (onB ax ay bx by_ px py)) := by
  rw [pc_eq]; simp +contextual -implicitDefEqProofs (maxSteps := 2000000) only [go_sem, ↓reduceIte, Nat.reduceAdd, Nat.reduceMul, Nat.reduceSub, Nat.reduceEqDiff, Nat.reduceLeDiff, Nat.reduceDiv, Nat.reduceMod, Nat.reduceBEq, reduceCtorEq, Int.reduceLE, Int.reduceLT, Int.reduceToNat, Int.reduceNeg, Nat.reduceLT, Int.reduceEq, Int.reduceSub, Int.reduceAdd, Int.reduceMul, Nat.reducePow, E_22, A22, c20, c38, onB, withinB]
  repeat' split
  all_goals (try simp_all)
  all_goals (try (intros; omega))
end Go.Proofs.Ytojjdhdflhcdkaa
