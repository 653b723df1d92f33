/- Part of the proof: what functions of the program compute, over the evaluation that the engine's texts tie to the machine. -/
import Derived.Test.YtjmnepfdhkabfaaD10
namespace Go.Proofs.Ytjmnepfdhkabfaa
set_option maxRecDepth 100000
set_option maxHeartbeats 4000000
set_option linter.unusedSimpArgs false
set_option linter.unusedVariables false
open Go Go.Zv
theorem great_good (l : List Act) (hl : l.length ≤ 1000000000) (ha : ∀ a ∈ l, a.data.length ≤ 100) : ∀ (j k : Nat), k + j = l.length →
    (K E A16_L0 ⟨[(0, .vs (l.map a5)), (3, .int .i64 k)], [], [], 0⟩).bind (blockR 0 (some []) [2, 3]) = some (.ex .nrm ⟨[], [], [], 0⟩)
  | 0, k, h => by
    have e : l.length = k := by omega
    rw [A16_L0_eq]
    simp +contextual -implicitDefEqProofs (maxSteps := 2000000) only [go_sem, ↓reduceIte, Nat.reduceAdd, Nat.reduceMul, Nat.reduceSub, Nat.reduceEqDiff, Nat.reduceLeDiff, Nat.reduceDiv, Nat.reduceMod, Nat.reduceBEq, Nat.reduceBNe, reduceCtorEq, Int.reduceLE, Int.reduceLT, Int.reduceToNat, Int.reduceNeg, Nat.reduceLT, Int.reduceEq, Int.reduceSub, Int.reduceAdd, Int.reduceMul, Nat.reducePow, A16_L0b, e, Int.lt_irrefl, List.length_map]
  | j + 1, k, h => by
    have h1 : (k : Int) < l.length := by omega
    have hget : l[k]? = some (l[k]'(by omega)) := List.getElem?_eq_getElem _
    have hp := ha _ (List.getElem_mem (l := l) (n := k) (by omega))
    generalize l[k]'(by omega) = p at hget hp
    have hg := get_a5 hget
    have hw := wr_succ (n := k) (by omega)
    have h0 : (0 : Int) ≤ (k : Int) := by omega
    have h2 : ¬ ((100 : Int) < p.data.length) := by omega
    have ih := great_good l hl ha j (k + 1) (by omega)
    rw [A16_L0_eq]
    simp +contextual -implicitDefEqProofs (maxSteps := 2000000) only [go_sem, ↓reduceIte, Nat.reduceAdd, Nat.reduceMul, Nat.reduceSub, Nat.reduceEqDiff, Nat.reduceLeDiff, Nat.reduceDiv, Nat.reduceMod, Nat.reduceBEq, Nat.reduceBNe, reduceCtorEq, Int.reduceLE, Int.reduceLT, Int.reduceToNat, Int.reduceNeg, Nat.reduceLT, Int.reduceEq, Int.reduceSub, Int.reduceAdd, Int.reduceMul, Nat.reducePow, A16_L0b, h1, hg, hw, h0, h2, ih, List.length_map]
theorem great_bad (l : List Act) (hl : l.length ≤ 1000000000) : ∀ (j k : Nat), k + j = l.length → (∃ a ∈ l.drop k, ¬ a.data.length ≤ 100) →
    (K E A16_L0 ⟨[(0, .vs (l.map a5)), (3, .int .i64 k)], [], [], 0⟩).bind (blockR 0 (some []) [2, 3]) = some (.ex .ret ⟨[(2, .bool true)], [], [], 0⟩)
  | 0, k, h, ⟨a, ha, _⟩ => by
    rw [List.drop_of_length_le (by omega)] at ha; cases ha
  | j + 1, k, h, hb => by
    have h1 : (k : Int) < l.length := by omega
    have hget : l[k]? = some (l[k]'(by omega)) := List.getElem?_eq_getElem _
    have hd : l.drop k = (l[k]'(by omega)) :: l.drop (k + 1) := List.drop_eq_getElem_cons (by omega)
    generalize l[k]'(by omega) = p at hget hd
    have hg := get_a5 hget
    have hw := wr_succ (n := k) (by omega)
    have h0 : (0 : Int) ≤ (k : Int) := by omega
    by_cases hp : p.data.length ≤ 100
    · have h2 : ¬ ((100 : Int) < p.data.length) := by omega
      obtain ⟨a, ha, hn⟩ := hb
      rw [hd, List.mem_cons] at ha
      have ih := great_bad l hl j (k + 1) (by omega) ⟨a, ha.resolve_left (fun e => by subst e; exact hn hp), hn⟩
      rw [A16_L0_eq]
      simp +contextual -implicitDefEqProofs (maxSteps := 2000000) only [go_sem, ↓reduceIte, Nat.reduceAdd, Nat.reduceMul, Nat.reduceSub, Nat.reduceEqDiff, Nat.reduceLeDiff, Nat.reduceDiv, Nat.reduceMod, Nat.reduceBEq, Nat.reduceBNe, reduceCtorEq, Int.reduceLE, Int.reduceLT, Int.reduceToNat, Int.reduceNeg, Nat.reduceLT, Int.reduceEq, Int.reduceSub, Int.reduceAdd, Int.reduceMul, Nat.reducePow, A16_L0b, h1, hg, hw, h0, h2, ih, List.length_map]
    · have h2 : ((100 : Int) < p.data.length) := by omega
      rw [A16_L0_eq]
      simp +contextual -implicitDefEqProofs (maxSteps := 2000000) only [go_sem, ↓reduceIte, Nat.reduceAdd, Nat.reduceMul, Nat.reduceSub, Nat.reduceEqDiff, Nat.reduceLeDiff, Nat.reduceDiv, Nat.reduceMod, Nat.reduceBEq, Nat.reduceBNe, reduceCtorEq, Int.reduceLE, Int.reduceLT, Int.reduceToNat, Int.reduceNeg, Nat.reduceLT, Int.reduceEq, Int.reduceSub, Int.reduceAdd, Int.reduceMul, Nat.reducePow, A16_L0b, h1, hg, hw, h0, h2, List.length_map]
def gr (l : List Act) : Bool := decide (60 < l.length) || l.any fun a => decide (100 < a.data.length)
theorem c16 (l : List Act) (hl : l.length ≤ 9223372036854775807) : pc E 16 [.vs (l.map a5)] = some (.bool (gr l)) := by
  by_cases h1 : 60 < l.length
  · have h1' : (60 : Int) < l.length := by omega
    have hv : gr l = true := by simp [gr, h1]
    rw [hv, pc_eq]; simp +contextual -implicitDefEqProofs (maxSteps := 2000000) only [go_sem, ↓reduceIte, Nat.reduceAdd, Nat.reduceMul, Nat.reduceSub, Nat.reduceEqDiff, Nat.reduceLeDiff, Nat.reduceDiv, Nat.reduceMod, Nat.reduceBEq, Nat.reduceBNe, reduceCtorEq, Int.reduceLE, Int.reduceLT, Int.reduceToNat, Int.reduceNeg, Nat.reduceLT, Int.reduceEq, Int.reduceSub, Int.reduceAdd, Int.reduceMul, Nat.reducePow, E_16, A16, List.length_map, h1']
  · have h1' : ¬ ((60 : Int) < l.length) := by omega
    cases h2 : l.any fun a => decide (100 < a.data.length) with
    | true =>
      have hv : gr l = true := by simp only [gr, h2, Bool.or_true]
      obtain ⟨a, ha, hh⟩ := List.any_eq_true.1 h2
      have g := great_bad l (by omega) l.length 0 (by omega) ⟨a, by simpa using ha, by simpa using hh⟩
      simp only [Int.natCast_zero, Int.ofNat_zero] at g
      rw [hv, pc_eq]; simp +contextual -implicitDefEqProofs (maxSteps := 2000000) only [go_sem, ↓reduceIte, Nat.reduceAdd, Nat.reduceMul, Nat.reduceSub, Nat.reduceEqDiff, Nat.reduceLeDiff, Nat.reduceDiv, Nat.reduceMod, Nat.reduceBEq, Nat.reduceBNe, reduceCtorEq, Int.reduceLE, Int.reduceLT, Int.reduceToNat, Int.reduceNeg, Nat.reduceLT, Int.reduceEq, Int.reduceSub, Int.reduceAdd, Int.reduceMul, Nat.reducePow, E_16, A16, List.length_map, h1', g]
    | false =>
      have hv : gr l = false := by simp only [gr, h2, Bool.or_false, decide_eq_false h1]
      have g := great_good l (by omega) (fun a ha => by have := List.any_eq_false.1 h2 a ha; simpa using this) l.length 0 (by omega)
      simp only [Int.natCast_zero, Int.ofNat_zero] at g
      rw [hv, pc_eq]; simp +contextual -implicitDefEqProofs (maxSteps := 2000000) only [go_sem, ↓reduceIte, Nat.reduceAdd, Nat.reduceMul, Nat.reduceSub, Nat.reduceEqDiff, Nat.reduceLeDiff, Nat.reduceDiv, Nat.reduceMod, Nat.reduceBEq, Nat.reduceBNe, reduceCtorEq, Int.reduceLE, Int.reduceLT, Int.reduceToNat, Int.reduceNeg, Nat.reduceLT, Int.reduceEq, Int.reduceSub, Int.reduceAdd, Int.reduceMul, Nat.reducePow, E_16, A16, List.length_map, h1', g]
end Go.Proofs.Ytjmnepfdhkabfaa
