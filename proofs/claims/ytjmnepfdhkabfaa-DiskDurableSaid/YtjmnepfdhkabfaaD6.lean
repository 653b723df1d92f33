/- Part of the proof: what functions of the program compute, over the evaluation that the engine's texts tie to the machine. -/
import Derived.Test.YtjmnepfdhkabfaaD5
namespace Go.Proofs.Ytjmnepfdhkabfaa
set_option maxRecDepth 100000
set_option maxHeartbeats 4000000
set_option linter.unusedSimpArgs false
set_option linter.unusedVariables false
open Go Go.Zv
theorem c49 (s : List UInt8) : pc E 49 [bv s] = some (.bool ((s.length : Int) != 64)) := by
  rw [pc_eq]; simp +contextual -implicitDefEqProofs (maxSteps := 2000000) only [go_sem, ↓reduceIte, Nat.reduceAdd, Nat.reduceMul, Nat.reduceSub, Nat.reduceEqDiff, Nat.reduceLeDiff, Nat.reduceDiv, Nat.reduceMod, Nat.reduceBEq, Nat.reduceBNe, reduceCtorEq, Int.reduceLE, Int.reduceLT, Int.reduceToNat, Int.reduceNeg, Nat.reduceLT, Int.reduceEq, Int.reduceSub, Int.reduceAdd, Int.reduceMul, Nat.reducePow, E_49, A49, List.length_map]
theorem idx_good (l : List (List UInt8)) (hl : l.length ≤ 64) (h : ∀ s ∈ l, s.length = 64) : ∀ (j k : Nat), k + j = l.length →
    (K E A79_L0 ⟨[(0, sv l), (1, .fn (.func 49) [] []), (7, .int .i64 l.length), (8, .int .i64 k)], [], [], 0⟩).bind (blockR 0 (some []) [4, 5, 16]) = some (.ex .nrm ⟨[], [], [], 0⟩)
  | 0, k, hk => by
    have e : l.length = k := by omega
    rw [A79_L0_eq, e]
    simp +contextual -implicitDefEqProofs (maxSteps := 2000000) only [go_sem, ↓reduceIte, Nat.reduceAdd, Nat.reduceMul, Nat.reduceSub, Nat.reduceEqDiff, Nat.reduceLeDiff, Nat.reduceDiv, Nat.reduceMod, Nat.reduceBEq, Nat.reduceBNe, reduceCtorEq, Int.reduceLE, Int.reduceLT, Int.reduceToNat, Int.reduceNeg, Nat.reduceLT, Int.reduceEq, Int.reduceSub, Int.reduceAdd, Int.reduceMul, Nat.reducePow, A79_L0b, Int.lt_irrefl]
  | j + 1, k, hk => by
    have h1 : (k : Int) < l.length := by omega
    have hget : l[k]? = some (l[k]'(by omega)) := List.getElem?_eq_getElem _
    have h2 := h _ (List.getElem_mem (l := l) (n := k) (by omega))
    generalize l[k]'(by omega) = p at hget h2
    have hg := get_s1 hget
    have hw := wr_succ (n := k) (by omega)
    have h0 : (0 : Int) ≤ (k : Int) := by omega
    have ih := idx_good l hl h j (k + 1) (by omega)
    have h3 : ((p.length : Int) != 64) = false := by simp [h2]
    rw [A79_L0_eq]
    simp +contextual -implicitDefEqProofs (maxSteps := 2000000) only [go_sem, ↓reduceIte, Nat.reduceAdd, Nat.reduceMul, Nat.reduceSub, Nat.reduceEqDiff, Nat.reduceLeDiff, Nat.reduceDiv, Nat.reduceMod, Nat.reduceBEq, Nat.reduceBNe, reduceCtorEq, Int.reduceLE, Int.reduceLT, Int.reduceToNat, Int.reduceNeg, Nat.reduceLT, Int.reduceEq, Int.reduceSub, Int.reduceAdd, Int.reduceMul, Nat.reducePow, A79_L0b, h1, h0, hg, hw, c49, h3, ih, List.length_map]
theorem idx_bad (l : List (List UInt8)) (hl : l.length ≤ 1000000000) : ∀ (j k : Nat), k + j = l.length → (∃ s ∈ l.drop k, s.length ≠ 64) →
    ∃ i : Nat, (K E A79_L0 ⟨[(0, sv l), (1, .fn (.func 49) [] []), (7, .int .i64 l.length), (8, .int .i64 k)], [], [], 0⟩).bind (blockR 0 (some []) [4, 5, 16]) = some (.ex .ret ⟨[(4, .int .i64 i)], [], [], 0⟩)
  | 0, k, hk, ⟨s, hs, _⟩ => by
    rw [List.drop_of_length_le (by omega)] at hs; cases hs
  | j + 1, k, hk, hb => by
    have h1 : (k : Int) < l.length := by omega
    have hget : l[k]? = some (l[k]'(by omega)) := List.getElem?_eq_getElem _
    have hd : l.drop k = (l[k]'(by omega)) :: l.drop (k + 1) := List.drop_eq_getElem_cons (by omega)
    generalize l[k]'(by omega) = p at hget hd
    have hg := get_s1 hget
    have hw := wr_succ (n := k) (by omega)
    have h0 : (0 : Int) ≤ (k : Int) := by omega
    by_cases h2 : p.length = 64
    · have h3 : ((p.length : Int) != 64) = false := by simp [h2]
      obtain ⟨s, hs, hn⟩ := hb
      rw [hd, List.mem_cons] at hs
      obtain ⟨i, ih⟩ := idx_bad l hl j (k + 1) (by omega) ⟨s, hs.resolve_left (fun e => by subst e; exact hn h2), hn⟩
      refine ⟨i, ?_⟩
      rw [A79_L0_eq]
      simp +contextual -implicitDefEqProofs (maxSteps := 2000000) only [go_sem, ↓reduceIte, Nat.reduceAdd, Nat.reduceMul, Nat.reduceSub, Nat.reduceEqDiff, Nat.reduceLeDiff, Nat.reduceDiv, Nat.reduceMod, Nat.reduceBEq, Nat.reduceBNe, reduceCtorEq, Int.reduceLE, Int.reduceLT, Int.reduceToNat, Int.reduceNeg, Nat.reduceLT, Int.reduceEq, Int.reduceSub, Int.reduceAdd, Int.reduceMul, Nat.reducePow, A79_L0b, h1, h0, hg, hw, c49, h3, ih, List.length_map]
    · have h3 : ((p.length : Int) != 64) = true := by simp; omega
      refine ⟨k, ?_⟩
      rw [A79_L0_eq]
      simp +contextual -implicitDefEqProofs (maxSteps := 2000000) only [go_sem, ↓reduceIte, Nat.reduceAdd, Nat.reduceMul, Nat.reduceSub, Nat.reduceEqDiff, Nat.reduceLeDiff, Nat.reduceDiv, Nat.reduceMod, Nat.reduceBEq, Nat.reduceBNe, reduceCtorEq, Int.reduceLE, Int.reduceLT, Int.reduceToNat, Int.reduceNeg, Nat.reduceLT, Int.reduceEq, Int.reduceSub, Int.reduceAdd, Int.reduceMul, Nat.reducePow, A79_L0b, h1, h0, hg, hw, c49, h3, List.length_map]
end Go.Proofs.Ytjmnepfdhkabfaa
