/- Part of the proof: what functions of the program compute, over the evaluation that the engine's texts tie to the machine. -/
import Derived.Test.YtjmnepfdhkabfaaD11
namespace Go.Proofs.Ytjmnepfdhkabfaa
set_option maxRecDepth 100000
set_option maxHeartbeats 4000000
set_option linter.unusedSimpArgs false
set_option linter.unusedVariables false
open Go Go.Zv
theorem right_good (s : List (List UInt8)) (f t : Int) (w : Bool) (hl : s.length ≤ 64) (h : ∀ x ∈ s, x.length = 64) : ∀ (j k : Nat), k + j = s.length →
    (K E A21_L0 ⟨[(1, .ptr 256 0), (3, .int .i64 k)], [], [(256, .box [sv s, .int .i64 f, .int .i64 t, .bool w])], 0⟩).bind (blockR 0 (some []) [2, 3]) = some (.ex .nrm ⟨[], [], [(256, .box [sv s, .int .i64 f, .int .i64 t, .bool w])], 0⟩)
  | 0, k, hk => by
    have e : s.length = k := by omega
    rw [A21_L0_eq]
    simp +contextual -implicitDefEqProofs (maxSteps := 2000000) only [go_sem, ↓reduceIte, Nat.reduceAdd, Nat.reduceMul, Nat.reduceSub, Nat.reduceEqDiff, Nat.reduceLeDiff, Nat.reduceDiv, Nat.reduceMod, Nat.reduceBEq, Nat.reduceBNe, reduceCtorEq, Int.reduceLE, Int.reduceLT, Int.reduceToNat, Int.reduceNeg, Nat.reduceLT, Int.reduceEq, Int.reduceSub, Int.reduceAdd, Int.reduceMul, Nat.reducePow, A21_L0b, e, Int.lt_irrefl, List.length_map]
  | j + 1, k, hk => by
    have h1 : (k : Int) < s.length := by omega
    have hget : s[k]? = some (s[k]'(by omega)) := List.getElem?_eq_getElem _
    have hp := h _ (List.getElem_mem (l := s) (n := k) (by omega))
    generalize s[k]'(by omega) = p at hget hp
    have hg := get_s1 hget
    have hw := wr_succ (n := k) (by omega)
    have h0 : (0 : Int) ≤ (k : Int) := by omega
    have h2 : ((p.length : Int) != 64) = false := by simp [hp]
    have ih := right_good s f t w hl h j (k + 1) (by omega)
    rw [A21_L0_eq]
    simp +contextual -implicitDefEqProofs (maxSteps := 2000000) only [go_sem, ↓reduceIte, Nat.reduceAdd, Nat.reduceMul, Nat.reduceSub, Nat.reduceEqDiff, Nat.reduceLeDiff, Nat.reduceDiv, Nat.reduceMod, Nat.reduceBEq, Nat.reduceBNe, reduceCtorEq, Int.reduceLE, Int.reduceLT, Int.reduceToNat, Int.reduceNeg, Nat.reduceLT, Int.reduceEq, Int.reduceSub, Int.reduceAdd, Int.reduceMul, Nat.reducePow, A21_L0b, h1, hg, hw, h0, h2, ih, List.length_map]
theorem right_bad (s : List (List UInt8)) (f t : Int) (w : Bool) (hl : s.length ≤ 64) : ∀ (j k : Nat), k + j = s.length → (∃ x ∈ s.drop k, x.length ≠ 64) →
    (K E A21_L0 ⟨[(1, .ptr 256 0), (3, .int .i64 k)], [], [(256, .box [sv s, .int .i64 f, .int .i64 t, .bool w])], 0⟩).bind (blockR 0 (some []) [2, 3]) = some (.ex .ret ⟨[(2, .bool false)], [], [(256, .box [sv s, .int .i64 f, .int .i64 t, .bool w])], 0⟩)
  | 0, k, hk, ⟨a, ha, _⟩ => by
    rw [List.drop_of_length_le (by omega)] at ha; cases ha
  | j + 1, k, hk, hb => by
    have h1 : (k : Int) < s.length := by omega
    have hget : s[k]? = some (s[k]'(by omega)) := List.getElem?_eq_getElem _
    have hd : s.drop k = (s[k]'(by omega)) :: s.drop (k + 1) := List.drop_eq_getElem_cons (by omega)
    generalize s[k]'(by omega) = p at hget hd
    have hg := get_s1 hget
    have hw := wr_succ (n := k) (by omega)
    have h0 : (0 : Int) ≤ (k : Int) := by omega
    by_cases hp : p.length = 64
    · have h2 : ((p.length : Int) != 64) = false := by simp [hp]
      obtain ⟨a, ha, hn⟩ := hb
      rw [hd, List.mem_cons] at ha
      have ih := right_bad s f t w hl j (k + 1) (by omega) ⟨a, ha.resolve_left (fun e => by subst e; exact hn hp), hn⟩
      rw [A21_L0_eq]
      simp +contextual -implicitDefEqProofs (maxSteps := 2000000) only [go_sem, ↓reduceIte, Nat.reduceAdd, Nat.reduceMul, Nat.reduceSub, Nat.reduceEqDiff, Nat.reduceLeDiff, Nat.reduceDiv, Nat.reduceMod, Nat.reduceBEq, Nat.reduceBNe, reduceCtorEq, Int.reduceLE, Int.reduceLT, Int.reduceToNat, Int.reduceNeg, Nat.reduceLT, Int.reduceEq, Int.reduceSub, Int.reduceAdd, Int.reduceMul, Nat.reducePow, A21_L0b, h1, hg, hw, h0, h2, ih, List.length_map]
    · have h2 : ((p.length : Int) != 64) = true := by simp; omega
      rw [A21_L0_eq]
      simp +contextual -implicitDefEqProofs (maxSteps := 2000000) only [go_sem, ↓reduceIte, Nat.reduceAdd, Nat.reduceMul, Nat.reduceSub, Nat.reduceEqDiff, Nat.reduceLeDiff, Nat.reduceDiv, Nat.reduceMod, Nat.reduceBEq, Nat.reduceBNe, reduceCtorEq, Int.reduceLE, Int.reduceLT, Int.reduceToNat, Int.reduceNeg, Nat.reduceLT, Int.reduceEq, Int.reduceSub, Int.reduceAdd, Int.reduceMul, Nat.reducePow, A21_L0b, h1, hg, hw, h0, h2, List.length_map]
theorem c21 (s : List (List UInt8)) (f t : Int) (w : Bool) : pc E 21 [.agg [sv s, .int .i64 f, .int .i64 t, .bool w]] = some (.bool (vd s f t)) := by
  by_cases h : 1 ≤ s.length ∧ s.length ≤ 64 ∧ (f = -1 ∨ (1 ≤ f ∧ f ≤ 1099511627776)) ∧ 0 ≤ t ∧ t ≤ 64
  · have e1 : ¬ ((s.length : Int) < 1) := by omega
    have e2 : ¬ ((64 : Int) < s.length) := by omega
    have e3 : ¬ (t < 0) := by omega
    have e4 : ¬ (64 < t) := by omega
    have hv : vd s f t = all64 s := by unfold vd; rw [decide_eq_true h, Bool.true_and]
    rw [hv]
    have key : ∃ o, (K E A21_L0 ⟨[(1, .ptr 256 0), (3, .int .i64 0)], [], [(256, .box [sv s, .int .i64 f, .int .i64 t, .bool w])], 0⟩).bind (blockR 0 (some []) [2, 3]) = some o ∧
        o = if all64 s = true then .ex .nrm ⟨[], [], [(256, .box [sv s, .int .i64 f, .int .i64 t, .bool w])], 0⟩ else .ex .ret ⟨[(2, .bool false)], [], [(256, .box [sv s, .int .i64 f, .int .i64 t, .bool w])], 0⟩ := by
      cases h5 : all64 s with
      | true => exact ⟨_, right_good s f t w h.2.1 (fun x hx => by simpa using List.all_eq_true.1 h5 x hx) s.length 0 (by omega), by rw [if_pos rfl]⟩
      | false =>
        obtain ⟨x, hx, hn⟩ := List.all_eq_false.1 h5
        exact ⟨_, right_bad s f t w h.2.1 s.length 0 (by omega) ⟨x, by simpa using hx, by simpa using hn⟩, by rw [if_neg (by simp)]⟩
    obtain ⟨o, hk, rfl⟩ := key
    by_cases e5 : f = -1
    · subst e5
      cases h5 : all64 s <;> rw [h5] at hk <;> simp only [if_true, if_false, Bool.false_eq_true] at hk
      · rw [pc_eq]; simp +contextual -implicitDefEqProofs (maxSteps := 2000000) only [go_sem, ↓reduceIte, Nat.reduceAdd, Nat.reduceMul, Nat.reduceSub, Nat.reduceEqDiff, Nat.reduceLeDiff, Nat.reduceDiv, Nat.reduceMod, Nat.reduceBEq, Nat.reduceBNe, reduceCtorEq, Int.reduceLE, Int.reduceLT, Int.reduceToNat, Int.reduceNeg, Nat.reduceLT, Int.reduceEq, Int.reduceSub, Int.reduceAdd, Int.reduceMul, Nat.reducePow, E_21, A21, List.length_map, e1, e2, e3, e4, hk, bne_self_eq_false]
      · rw [pc_eq]; simp +contextual -implicitDefEqProofs (maxSteps := 2000000) only [go_sem, ↓reduceIte, Nat.reduceAdd, Nat.reduceMul, Nat.reduceSub, Nat.reduceEqDiff, Nat.reduceLeDiff, Nat.reduceDiv, Nat.reduceMod, Nat.reduceBEq, Nat.reduceBNe, reduceCtorEq, Int.reduceLE, Int.reduceLT, Int.reduceToNat, Int.reduceNeg, Nat.reduceLT, Int.reduceEq, Int.reduceSub, Int.reduceAdd, Int.reduceMul, Nat.reducePow, E_21, A21, List.length_map, e1, e2, e3, e4, hk, bne_self_eq_false]
    · have e5' : (f != -1) = true := by simp [e5]
      have e6 : ¬ (f < 1) := by omega
      have e7 : ¬ (1099511627776 < f) := by omega
      cases h5 : all64 s <;> rw [h5] at hk <;> simp only [if_true, if_false, Bool.false_eq_true] at hk
      · rw [pc_eq]; simp +contextual -implicitDefEqProofs (maxSteps := 2000000) only [go_sem, ↓reduceIte, Nat.reduceAdd, Nat.reduceMul, Nat.reduceSub, Nat.reduceEqDiff, Nat.reduceLeDiff, Nat.reduceDiv, Nat.reduceMod, Nat.reduceBEq, Nat.reduceBNe, reduceCtorEq, Int.reduceLE, Int.reduceLT, Int.reduceToNat, Int.reduceNeg, Nat.reduceLT, Int.reduceEq, Int.reduceSub, Int.reduceAdd, Int.reduceMul, Nat.reducePow, E_21, A21, List.length_map, e1, e2, e3, e4, e5, e5', e6, e7, hk]
      · rw [pc_eq]; simp +contextual -implicitDefEqProofs (maxSteps := 2000000) only [go_sem, ↓reduceIte, Nat.reduceAdd, Nat.reduceMul, Nat.reduceSub, Nat.reduceEqDiff, Nat.reduceLeDiff, Nat.reduceDiv, Nat.reduceMod, Nat.reduceBEq, Nat.reduceBNe, reduceCtorEq, Int.reduceLE, Int.reduceLT, Int.reduceToNat, Int.reduceNeg, Nat.reduceLT, Int.reduceEq, Int.reduceSub, Int.reduceAdd, Int.reduceMul, Nat.reducePow, E_21, A21, List.length_map, e1, e2, e3, e4, e5, e5', e6, e7, hk]
  · have hv : vd s f t = false := by unfold vd; rw [decide_eq_false h, Bool.false_and]
    rw [hv]
    by_cases e1 : (s.length : Int) < 1
    · rw [pc_eq]; simp +contextual -implicitDefEqProofs (maxSteps := 2000000) only [go_sem, ↓reduceIte, Nat.reduceAdd, Nat.reduceMul, Nat.reduceSub, Nat.reduceEqDiff, Nat.reduceLeDiff, Nat.reduceDiv, Nat.reduceMod, Nat.reduceBEq, Nat.reduceBNe, reduceCtorEq, Int.reduceLE, Int.reduceLT, Int.reduceToNat, Int.reduceNeg, Nat.reduceLT, Int.reduceEq, Int.reduceSub, Int.reduceAdd, Int.reduceMul, Nat.reducePow, E_21, A21, List.length_map, e1]
    by_cases e2 : (64 : Int) < s.length
    · rw [pc_eq]; simp +contextual -implicitDefEqProofs (maxSteps := 2000000) only [go_sem, ↓reduceIte, Nat.reduceAdd, Nat.reduceMul, Nat.reduceSub, Nat.reduceEqDiff, Nat.reduceLeDiff, Nat.reduceDiv, Nat.reduceMod, Nat.reduceBEq, Nat.reduceBNe, reduceCtorEq, Int.reduceLE, Int.reduceLT, Int.reduceToNat, Int.reduceNeg, Nat.reduceLT, Int.reduceEq, Int.reduceSub, Int.reduceAdd, Int.reduceMul, Nat.reducePow, E_21, A21, List.length_map, e1, e2]
    by_cases e5 : f = -1
    · have e5' : (f != -1) = false := by simp [e5]
      by_cases e3 : t < 0
      · rw [pc_eq]; simp +contextual -implicitDefEqProofs (maxSteps := 2000000) only [go_sem, ↓reduceIte, Nat.reduceAdd, Nat.reduceMul, Nat.reduceSub, Nat.reduceEqDiff, Nat.reduceLeDiff, Nat.reduceDiv, Nat.reduceMod, Nat.reduceBEq, Nat.reduceBNe, reduceCtorEq, Int.reduceLE, Int.reduceLT, Int.reduceToNat, Int.reduceNeg, Nat.reduceLT, Int.reduceEq, Int.reduceSub, Int.reduceAdd, Int.reduceMul, Nat.reducePow, E_21, A21, List.length_map, e1, e2, e5, e5', e3]
      · have e4 : 64 < t := by omega
        rw [pc_eq]; simp +contextual -implicitDefEqProofs (maxSteps := 2000000) only [go_sem, ↓reduceIte, Nat.reduceAdd, Nat.reduceMul, Nat.reduceSub, Nat.reduceEqDiff, Nat.reduceLeDiff, Nat.reduceDiv, Nat.reduceMod, Nat.reduceBEq, Nat.reduceBNe, reduceCtorEq, Int.reduceLE, Int.reduceLT, Int.reduceToNat, Int.reduceNeg, Nat.reduceLT, Int.reduceEq, Int.reduceSub, Int.reduceAdd, Int.reduceMul, Nat.reducePow, E_21, A21, List.length_map, e1, e2, e5, e5', e3, e4]
    have e5' : (f != -1) = true := by simp [e5]
    by_cases e6 : f < 1
    · rw [pc_eq]; simp +contextual -implicitDefEqProofs (maxSteps := 2000000) only [go_sem, ↓reduceIte, Nat.reduceAdd, Nat.reduceMul, Nat.reduceSub, Nat.reduceEqDiff, Nat.reduceLeDiff, Nat.reduceDiv, Nat.reduceMod, Nat.reduceBEq, Nat.reduceBNe, reduceCtorEq, Int.reduceLE, Int.reduceLT, Int.reduceToNat, Int.reduceNeg, Nat.reduceLT, Int.reduceEq, Int.reduceSub, Int.reduceAdd, Int.reduceMul, Nat.reducePow, E_21, A21, List.length_map, e1, e2, e5, e5', e6]
    by_cases e7 : 1099511627776 < f
    · rw [pc_eq]; simp +contextual -implicitDefEqProofs (maxSteps := 2000000) only [go_sem, ↓reduceIte, Nat.reduceAdd, Nat.reduceMul, Nat.reduceSub, Nat.reduceEqDiff, Nat.reduceLeDiff, Nat.reduceDiv, Nat.reduceMod, Nat.reduceBEq, Nat.reduceBNe, reduceCtorEq, Int.reduceLE, Int.reduceLT, Int.reduceToNat, Int.reduceNeg, Nat.reduceLT, Int.reduceEq, Int.reduceSub, Int.reduceAdd, Int.reduceMul, Nat.reducePow, E_21, A21, List.length_map, e1, e2, e5, e5', e6, e7]
    by_cases e3 : t < 0
    · rw [pc_eq]; simp +contextual -implicitDefEqProofs (maxSteps := 2000000) only [go_sem, ↓reduceIte, Nat.reduceAdd, Nat.reduceMul, Nat.reduceSub, Nat.reduceEqDiff, Nat.reduceLeDiff, Nat.reduceDiv, Nat.reduceMod, Nat.reduceBEq, Nat.reduceBNe, reduceCtorEq, Int.reduceLE, Int.reduceLT, Int.reduceToNat, Int.reduceNeg, Nat.reduceLT, Int.reduceEq, Int.reduceSub, Int.reduceAdd, Int.reduceMul, Nat.reducePow, E_21, A21, List.length_map, e1, e2, e5, e5', e6, e7, e3]
    · have e4 : 64 < t := by omega
      rw [pc_eq]; simp +contextual -implicitDefEqProofs (maxSteps := 2000000) only [go_sem, ↓reduceIte, Nat.reduceAdd, Nat.reduceMul, Nat.reduceSub, Nat.reduceEqDiff, Nat.reduceLeDiff, Nat.reduceDiv, Nat.reduceMod, Nat.reduceBEq, Nat.reduceBNe, reduceCtorEq, Int.reduceLE, Int.reduceLT, Int.reduceToNat, Int.reduceNeg, Nat.reduceLT, Int.reduceEq, Int.reduceSub, Int.reduceAdd, Int.reduceMul, Nat.reducePow, E_21, A21, List.length_map, e1, e2, e5, e5', e6, e7, e3, e4]
end Go.Proofs.Ytjmnepfdhkabfaa
