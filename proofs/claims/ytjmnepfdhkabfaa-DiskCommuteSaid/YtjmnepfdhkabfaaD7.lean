/- Part of the proof: what functions of the program compute, over the evaluation that the engine's texts tie to the machine. -/
import Derived.Test.YtjmnepfdhkabfaaD6
namespace Go.Proofs.Ytjmnepfdhkabfaa
set_option maxRecDepth 100000
set_option maxHeartbeats 4000000
set_option linter.unusedSimpArgs false
set_option linter.unusedVariables false
open Go Go.Zv
def all64 (l : List (List UInt8)) : Bool := l.all fun s => s.length == 64
theorem c48 (l : List (List UInt8)) (hl : l.length ≤ 64) : pc E 48 [sv l, .fn (.func 49) [] []] = some (.bool (!all64 l)) := by
  cases h : all64 l with
  | true =>
    have hg := idx_good l hl (fun s hs => by simpa using List.all_eq_true.1 h s hs) l.length 0 (by omega)
    simp only [Int.natCast_zero, Int.ofNat_zero] at hg
    have h79 : pc E 79 [sv l, .fn (.func 49) [] []] = some (.int .i64 (-1)) := by
      rw [pc_eq]; simp +contextual -implicitDefEqProofs (maxSteps := 2000000) only [go_sem, ↓reduceIte, Nat.reduceAdd, Nat.reduceMul, Nat.reduceSub, Nat.reduceEqDiff, Nat.reduceLeDiff, Nat.reduceDiv, Nat.reduceMod, Nat.reduceBEq, Nat.reduceBNe, reduceCtorEq, Int.reduceLE, Int.reduceLT, Int.reduceToNat, Int.reduceNeg, Nat.reduceLT, Int.reduceEq, Int.reduceSub, Int.reduceAdd, Int.reduceMul, Nat.reducePow, E_79, A79, List.length_map, hg]
    rw [pc_eq]; simp +contextual -implicitDefEqProofs (maxSteps := 2000000) only [go_sem, ↓reduceIte, Nat.reduceAdd, Nat.reduceMul, Nat.reduceSub, Nat.reduceEqDiff, Nat.reduceLeDiff, Nat.reduceDiv, Nat.reduceMod, Nat.reduceBEq, Nat.reduceBNe, reduceCtorEq, Int.reduceLE, Int.reduceLT, Int.reduceToNat, Int.reduceNeg, Nat.reduceLT, Int.reduceEq, Int.reduceSub, Int.reduceAdd, Int.reduceMul, Nat.reducePow, E_48, A48, h79]
  | false =>
    have hb : ∃ s ∈ l.drop 0, s.length ≠ 64 := by
      rw [List.drop_zero]
      have := List.all_eq_false.1 h
      obtain ⟨s, hs, hn⟩ := this
      exact ⟨s, hs, by simpa using hn⟩
    obtain ⟨i, hg⟩ := idx_bad l (by omega) l.length 0 (by omega) hb
    simp only [Int.natCast_zero, Int.ofNat_zero] at hg
    have h79 : pc E 79 [sv l, .fn (.func 49) [] []] = some (.int .i64 i) := by
      rw [pc_eq]; simp +contextual -implicitDefEqProofs (maxSteps := 2000000) only [go_sem, ↓reduceIte, Nat.reduceAdd, Nat.reduceMul, Nat.reduceSub, Nat.reduceEqDiff, Nat.reduceLeDiff, Nat.reduceDiv, Nat.reduceMod, Nat.reduceBEq, Nat.reduceBNe, reduceCtorEq, Int.reduceLE, Int.reduceLT, Int.reduceToNat, Int.reduceNeg, Nat.reduceLT, Int.reduceEq, Int.reduceSub, Int.reduceAdd, Int.reduceMul, Nat.reducePow, E_79, A79, List.length_map, hg]
    have h0 : (0 : Int) ≤ (i : Int) := by omega
    rw [pc_eq]; simp +contextual -implicitDefEqProofs (maxSteps := 2000000) only [go_sem, ↓reduceIte, Nat.reduceAdd, Nat.reduceMul, Nat.reduceSub, Nat.reduceEqDiff, Nat.reduceLeDiff, Nat.reduceDiv, Nat.reduceMod, Nat.reduceBEq, Nat.reduceBNe, reduceCtorEq, Int.reduceLE, Int.reduceLT, Int.reduceToNat, Int.reduceNeg, Nat.reduceLT, Int.reduceEq, Int.reduceSub, Int.reduceAdd, Int.reduceMul, Nat.reducePow, E_48, A48, h79, h0]
def vd (s : List (List UInt8)) (f t : Int) : Bool := decide (1 ≤ s.length ∧ s.length ≤ 64 ∧ (f = -1 ∨ (1 ≤ f ∧ f ≤ 1099511627776)) ∧ 0 ≤ t ∧ t ≤ 64) && all64 s
theorem c20 (s : List (List UInt8)) (f t : Int) (w : Bool) : pc E 20 [.agg [sv s, .int .i64 f, .int .i64 t, .bool w]] = some (.bool (vd s f t)) := by
  by_cases h : 1 ≤ s.length ∧ s.length ≤ 64 ∧ (f = -1 ∨ (1 ≤ f ∧ f ≤ 1099511627776)) ∧ 0 ≤ t ∧ t ≤ 64
  · have h48 := c48 s h.2.1
    have e1 : ((s.length : Int) == 0) = false := by simp; intro hh; subst hh; simp at h
    have e2 : ¬ ((64 : Int) < s.length) := by omega
    have e3 : ¬ (t < 0) := by omega
    have e4 : ¬ (64 < t) := by omega
    have e5 : ¬ (f < -1) := by omega
    have e6 : (f == 0) = false := by simp; omega
    have e7 : ¬ (1099511627776 < f) := by omega
    have e8 : ¬ (f = 0) := by omega
    have e9 : ¬ ((s.length : Int) = 0) := by omega
    rw [pc_eq]; simp +contextual -implicitDefEqProofs (maxSteps := 2000000) only [go_sem, ↓reduceIte, Nat.reduceAdd, Nat.reduceMul, Nat.reduceSub, Nat.reduceEqDiff, Nat.reduceLeDiff, Nat.reduceDiv, Nat.reduceMod, Nat.reduceBEq, Nat.reduceBNe, reduceCtorEq, Int.reduceLE, Int.reduceLT, Int.reduceToNat, Int.reduceNeg, Nat.reduceLT, Int.reduceEq, Int.reduceSub, Int.reduceAdd, Int.reduceMul, Nat.reducePow, E_20, A20, List.length_map, e1, e2, e3, e4, e5, e6, e7, e8, e9, h48, Bool.not_not]
    simp [vd, h]
  · have hv : vd s f t = false := by unfold vd; rw [decide_eq_false h, Bool.false_and]
    rw [hv]
    by_cases e1 : (s.length : Int) = 0
    · rw [pc_eq]; simp +contextual -implicitDefEqProofs (maxSteps := 2000000) only [go_sem, ↓reduceIte, Nat.reduceAdd, Nat.reduceMul, Nat.reduceSub, Nat.reduceEqDiff, Nat.reduceLeDiff, Nat.reduceDiv, Nat.reduceMod, Nat.reduceBEq, Nat.reduceBNe, reduceCtorEq, Int.reduceLE, Int.reduceLT, Int.reduceToNat, Int.reduceNeg, Nat.reduceLT, Int.reduceEq, Int.reduceSub, Int.reduceAdd, Int.reduceMul, Nat.reducePow, E_20, A20, List.length_map, e1]
    have e1' := beq_eq_false_iff_ne.2 e1
    by_cases e2 : (64 : Int) < s.length
    · rw [pc_eq]; simp +contextual -implicitDefEqProofs (maxSteps := 2000000) only [go_sem, ↓reduceIte, Nat.reduceAdd, Nat.reduceMul, Nat.reduceSub, Nat.reduceEqDiff, Nat.reduceLeDiff, Nat.reduceDiv, Nat.reduceMod, Nat.reduceBEq, Nat.reduceBNe, reduceCtorEq, Int.reduceLE, Int.reduceLT, Int.reduceToNat, Int.reduceNeg, Nat.reduceLT, Int.reduceEq, Int.reduceSub, Int.reduceAdd, Int.reduceMul, Nat.reducePow, E_20, A20, List.length_map, e1, e1', e2]
    by_cases e3 : t < 0
    · rw [pc_eq]; simp +contextual -implicitDefEqProofs (maxSteps := 2000000) only [go_sem, ↓reduceIte, Nat.reduceAdd, Nat.reduceMul, Nat.reduceSub, Nat.reduceEqDiff, Nat.reduceLeDiff, Nat.reduceDiv, Nat.reduceMod, Nat.reduceBEq, Nat.reduceBNe, reduceCtorEq, Int.reduceLE, Int.reduceLT, Int.reduceToNat, Int.reduceNeg, Nat.reduceLT, Int.reduceEq, Int.reduceSub, Int.reduceAdd, Int.reduceMul, Nat.reducePow, E_20, A20, List.length_map, e1, e1', e2, e3]
    by_cases e4 : 64 < t
    · rw [pc_eq]; simp +contextual -implicitDefEqProofs (maxSteps := 2000000) only [go_sem, ↓reduceIte, Nat.reduceAdd, Nat.reduceMul, Nat.reduceSub, Nat.reduceEqDiff, Nat.reduceLeDiff, Nat.reduceDiv, Nat.reduceMod, Nat.reduceBEq, Nat.reduceBNe, reduceCtorEq, Int.reduceLE, Int.reduceLT, Int.reduceToNat, Int.reduceNeg, Nat.reduceLT, Int.reduceEq, Int.reduceSub, Int.reduceAdd, Int.reduceMul, Nat.reducePow, E_20, A20, List.length_map, e1, e1', e2, e3, e4]
    by_cases e5 : f < -1
    · rw [pc_eq]; simp +contextual -implicitDefEqProofs (maxSteps := 2000000) only [go_sem, ↓reduceIte, Nat.reduceAdd, Nat.reduceMul, Nat.reduceSub, Nat.reduceEqDiff, Nat.reduceLeDiff, Nat.reduceDiv, Nat.reduceMod, Nat.reduceBEq, Nat.reduceBNe, reduceCtorEq, Int.reduceLE, Int.reduceLT, Int.reduceToNat, Int.reduceNeg, Nat.reduceLT, Int.reduceEq, Int.reduceSub, Int.reduceAdd, Int.reduceMul, Nat.reducePow, E_20, A20, List.length_map, e1, e1', e2, e3, e4, e5]
    by_cases e6 : f = 0
    · rw [pc_eq]; simp +contextual -implicitDefEqProofs (maxSteps := 2000000) only [go_sem, ↓reduceIte, Nat.reduceAdd, Nat.reduceMul, Nat.reduceSub, Nat.reduceEqDiff, Nat.reduceLeDiff, Nat.reduceDiv, Nat.reduceMod, Nat.reduceBEq, Nat.reduceBNe, reduceCtorEq, Int.reduceLE, Int.reduceLT, Int.reduceToNat, Int.reduceNeg, Nat.reduceLT, Int.reduceEq, Int.reduceSub, Int.reduceAdd, Int.reduceMul, Nat.reducePow, E_20, A20, List.length_map, e1, e1', e2, e3, e4, e5, e6]
    have e6' := beq_eq_false_iff_ne.2 e6
    have e7 : 1099511627776 < f := by omega
    rw [pc_eq]; simp +contextual -implicitDefEqProofs (maxSteps := 2000000) only [go_sem, ↓reduceIte, Nat.reduceAdd, Nat.reduceMul, Nat.reduceSub, Nat.reduceEqDiff, Nat.reduceLeDiff, Nat.reduceDiv, Nat.reduceMod, Nat.reduceBEq, Nat.reduceBNe, reduceCtorEq, Int.reduceLE, Int.reduceLT, Int.reduceToNat, Int.reduceNeg, Nat.reduceLT, Int.reduceEq, Int.reduceSub, Int.reduceAdd, Int.reduceMul, Nat.reducePow, E_20, A20, List.length_map, e1, e1', e2, e3, e4, e5, e6, e6', e7]
end Go.Proofs.Ytjmnepfdhkabfaa
