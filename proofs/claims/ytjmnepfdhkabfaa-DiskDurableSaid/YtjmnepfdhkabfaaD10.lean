/- Part of the proof: what functions of the program compute, over the evaluation that the engine's texts tie to the machine. -/
import Derived.Test.YtjmnepfdhkabfaaD9
namespace Go.Proofs.Ytjmnepfdhkabfaa
set_option maxRecDepth 100000
set_option maxHeartbeats 4000000
set_option linter.unusedSimpArgs false
set_option linter.unusedVariables false
open Go Go.Zv
theorem same_good (s r : List (List UInt8)) (f t f' t' : Int) (w w' : Bool) (hl : s.length ≤ 1000000000) (hr : r = s) : ∀ (j k : Nat), k + j = s.length →
    (K E A19_L0 ⟨[(2, .ptr 512 0), (3, .ptr 768 0), (5, .int .i64 k)], [], [(768, .box [sv r, .int .i64 f', .int .i64 t', .bool w']), (512, .box [sv s, .int .i64 f, .int .i64 t, .bool w])], 0⟩).bind (blockR 0 (some []) [4, 5, 51]) =
    some (.ex .nrm ⟨[], [], [(768, .box [sv r, .int .i64 f', .int .i64 t', .bool w']), (512, .box [sv s, .int .i64 f, .int .i64 t, .bool w])], 0⟩)
  | 0, k, h => by
    have e : s.length = k := by omega
    rw [A19_L0_eq]
    simp +contextual -implicitDefEqProofs (maxSteps := 2000000) only [go_sem, ↓reduceIte, Nat.reduceAdd, Nat.reduceMul, Nat.reduceSub, Nat.reduceEqDiff, Nat.reduceLeDiff, Nat.reduceDiv, Nat.reduceMod, Nat.reduceBEq, Nat.reduceBNe, reduceCtorEq, Int.reduceLE, Int.reduceLT, Int.reduceToNat, Int.reduceNeg, Nat.reduceLT, Int.reduceEq, Int.reduceSub, Int.reduceAdd, Int.reduceMul, Nat.reducePow, A19_L0b, e, Int.lt_irrefl, List.length_map]
  | j + 1, k, h => by
    subst hr
    have h1 : (k : Int) < r.length := by omega
    have hget : r[k]? = some (r[k]'(by omega)) := List.getElem?_eq_getElem _
    generalize r[k]'(by omega) = p at hget
    have hg := get_s1 hget
    have hw := wr_succ (n := k) (by omega)
    have h0 : (0 : Int) ≤ (k : Int) := by omega
    have ih := same_good r r f t f' t' w w' hl rfl j (k + 1) (by omega)
    have hc := c27 p p
    rw [beq_self_eq_true] at hc
    rw [A19_L0_eq]
    simp +contextual -implicitDefEqProofs (maxSteps := 2000000) only [go_sem, ↓reduceIte, Nat.reduceAdd, Nat.reduceMul, Nat.reduceSub, Nat.reduceEqDiff, Nat.reduceLeDiff, Nat.reduceDiv, Nat.reduceMod, Nat.reduceBEq, Nat.reduceBNe, reduceCtorEq, Int.reduceLE, Int.reduceLT, Int.reduceToNat, Int.reduceNeg, Nat.reduceLT, Int.reduceEq, Int.reduceSub, Int.reduceAdd, Int.reduceMul, Nat.reducePow, A19_L0b, h1, hg, hw, h0, hc, ih, List.length_map]
theorem same_bad (s r : List (List UInt8)) (f t f' t' : Int) (w w' : Bool) (hl : s.length ≤ 1000000000) (hr : r.length = s.length) : ∀ (j k : Nat), k + j = s.length → s.drop k ≠ r.drop k →
    (K E A19_L0 ⟨[(2, .ptr 512 0), (3, .ptr 768 0), (5, .int .i64 k)], [], [(768, .box [sv r, .int .i64 f', .int .i64 t', .bool w']), (512, .box [sv s, .int .i64 f, .int .i64 t, .bool w])], 0⟩).bind (blockR 0 (some []) [4, 5, 51]) =
    some (.ex .ret ⟨[(4, .bool false)], [], [(768, .box [sv r, .int .i64 f', .int .i64 t', .bool w']), (512, .box [sv s, .int .i64 f, .int .i64 t, .bool w])], 0⟩)
  | 0, k, h, hb => by
    rw [List.drop_of_length_le (by omega), List.drop_of_length_le (by omega)] at hb; exact absurd rfl hb
  | j + 1, k, h, hb => by
    have h1 : (k : Int) < s.length := by omega
    have h1' : (k : Int) < r.length := by omega
    have hget : s[k]? = some (s[k]'(by omega)) := List.getElem?_eq_getElem _
    have hget' : r[k]? = some (r[k]'(by omega)) := List.getElem?_eq_getElem _
    have hd : s.drop k = (s[k]'(by omega)) :: s.drop (k + 1) := List.drop_eq_getElem_cons (by omega)
    have hd' : r.drop k = (r[k]'(by omega)) :: r.drop (k + 1) := List.drop_eq_getElem_cons (by omega)
    generalize s[k]'(by omega) = p at hget hd
    generalize r[k]'(by omega) = q at hget' hd'
    have hg := get_s1 hget
    have hg' := get_s1 hget'
    have hw := wr_succ (n := k) (by omega)
    have h0 : (0 : Int) ≤ (k : Int) := by omega
    have hc := c27 p q
    rw [hd, hd'] at hb
    by_cases e : p = q
    · subst e
      have ih := same_bad s r f t f' t' w w' hl hr j (k + 1) (by omega) (fun e => hb (by rw [e]))
      rw [beq_self_eq_true] at hc
      rw [A19_L0_eq]
      simp +contextual -implicitDefEqProofs (maxSteps := 2000000) only [go_sem, ↓reduceIte, Nat.reduceAdd, Nat.reduceMul, Nat.reduceSub, Nat.reduceEqDiff, Nat.reduceLeDiff, Nat.reduceDiv, Nat.reduceMod, Nat.reduceBEq, Nat.reduceBNe, reduceCtorEq, Int.reduceLE, Int.reduceLT, Int.reduceToNat, Int.reduceNeg, Nat.reduceLT, Int.reduceEq, Int.reduceSub, Int.reduceAdd, Int.reduceMul, Nat.reducePow, A19_L0b, h1, h1', hg, hg', hw, h0, hc, ih, List.length_map]
    · rw [beq_eq_false_iff_ne.2 e] at hc
      rw [A19_L0_eq]
      simp +contextual -implicitDefEqProofs (maxSteps := 2000000) only [go_sem, ↓reduceIte, Nat.reduceAdd, Nat.reduceMul, Nat.reduceSub, Nat.reduceEqDiff, Nat.reduceLeDiff, Nat.reduceDiv, Nat.reduceMod, Nat.reduceBEq, Nat.reduceBNe, reduceCtorEq, Int.reduceLE, Int.reduceLT, Int.reduceToNat, Int.reduceNeg, Nat.reduceLT, Int.reduceEq, Int.reduceSub, Int.reduceAdd, Int.reduceMul, Nat.reducePow, A19_L0b, h1, h1', hg, hg', hw, h0, hc, List.length_map]
def sameB (a b : Dsk) : Bool := decide (a.sec = b.sec ∧ a.fuse = b.fuse ∧ a.torn = b.torn ∧ a.down = b.down)
theorem c19 (a b : Dsk) (hl : a.sec.length ≤ 1000000000) : pc E 19 [dv a, dv b] = some (.bool (sameB a b)) := by
  obtain ⟨s, f, t, w⟩ := a
  obtain ⟨r, f', t', w'⟩ := b
  simp only at hl
  by_cases h1 : r.length = s.length
  · have e1 : ((s.length : Int) != r.length) = false := by simp [h1]
    by_cases h2 : f = f'
    · by_cases h3 : t = t'
      · by_cases h4 : w = w'
        · subst h2; subst h3; subst h4
          by_cases h5 : r = s
          · have g := same_good s r f t f t w w hl h5 s.length 0 (by omega)
            simp only [Int.natCast_zero, Int.ofNat_zero] at g
            have hv : sameB ⟨s, f, t, w⟩ ⟨r, f, t, w⟩ = true := by simp [sameB, h5]
            rw [hv, pc_eq]; simp +contextual -implicitDefEqProofs (maxSteps := 2000000) only [go_sem, ↓reduceIte, Nat.reduceAdd, Nat.reduceMul, Nat.reduceSub, Nat.reduceEqDiff, Nat.reduceLeDiff, Nat.reduceDiv, Nat.reduceMod, Nat.reduceBEq, Nat.reduceBNe, reduceCtorEq, Int.reduceLE, Int.reduceLT, Int.reduceToNat, Int.reduceNeg, Nat.reduceLT, Int.reduceEq, Int.reduceSub, Int.reduceAdd, Int.reduceMul, Nat.reducePow, E_19, A19, List.length_map, e1, g, bne_self_eq_false]
          · have g := same_bad s r f t f t w w hl h1 s.length 0 (by omega) (by simpa using fun e => h5 e.symm)
            simp only [Int.natCast_zero, Int.ofNat_zero] at g
            have hv : sameB ⟨s, f, t, w⟩ ⟨r, f, t, w⟩ = false := by simp [sameB]; intro e; exact absurd e.symm h5
            rw [hv, pc_eq]; simp +contextual -implicitDefEqProofs (maxSteps := 2000000) only [go_sem, ↓reduceIte, Nat.reduceAdd, Nat.reduceMul, Nat.reduceSub, Nat.reduceEqDiff, Nat.reduceLeDiff, Nat.reduceDiv, Nat.reduceMod, Nat.reduceBEq, Nat.reduceBNe, reduceCtorEq, Int.reduceLE, Int.reduceLT, Int.reduceToNat, Int.reduceNeg, Nat.reduceLT, Int.reduceEq, Int.reduceSub, Int.reduceAdd, Int.reduceMul, Nat.reducePow, E_19, A19, List.length_map, e1, g, bne_self_eq_false]
        · have hv : sameB ⟨s, f, t, w⟩ ⟨r, f', t', w'⟩ = false := by simp [sameB, h4]
          have e2 : (f != f') = false := by simp [h2]
          have e3 : (t != t') = false := by simp [h3]
          rw [hv, pc_eq]; simp +contextual -implicitDefEqProofs (maxSteps := 2000000) only [go_sem, ↓reduceIte, Nat.reduceAdd, Nat.reduceMul, Nat.reduceSub, Nat.reduceEqDiff, Nat.reduceLeDiff, Nat.reduceDiv, Nat.reduceMod, Nat.reduceBEq, Nat.reduceBNe, reduceCtorEq, Int.reduceLE, Int.reduceLT, Int.reduceToNat, Int.reduceNeg, Nat.reduceLT, Int.reduceEq, Int.reduceSub, Int.reduceAdd, Int.reduceMul, Nat.reducePow, E_19, A19, List.length_map, e1, e2, e3, h4]
      · have hv : sameB ⟨s, f, t, w⟩ ⟨r, f', t', w'⟩ = false := by simp [sameB, h3]
        have e2 : (f != f') = false := by simp [h2]
        have e3 : (t != t') = true := by simp [h3]
        rw [hv, pc_eq]; simp +contextual -implicitDefEqProofs (maxSteps := 2000000) only [go_sem, ↓reduceIte, Nat.reduceAdd, Nat.reduceMul, Nat.reduceSub, Nat.reduceEqDiff, Nat.reduceLeDiff, Nat.reduceDiv, Nat.reduceMod, Nat.reduceBEq, Nat.reduceBNe, reduceCtorEq, Int.reduceLE, Int.reduceLT, Int.reduceToNat, Int.reduceNeg, Nat.reduceLT, Int.reduceEq, Int.reduceSub, Int.reduceAdd, Int.reduceMul, Nat.reducePow, E_19, A19, List.length_map, e1, e2, e3, h3]
    · have hv : sameB ⟨s, f, t, w⟩ ⟨r, f', t', w'⟩ = false := by simp [sameB, h2]
      have e2 : (f != f') = true := by simp [h2]
      rw [hv, pc_eq]; simp +contextual -implicitDefEqProofs (maxSteps := 2000000) only [go_sem, ↓reduceIte, Nat.reduceAdd, Nat.reduceMul, Nat.reduceSub, Nat.reduceEqDiff, Nat.reduceLeDiff, Nat.reduceDiv, Nat.reduceMod, Nat.reduceBEq, Nat.reduceBNe, reduceCtorEq, Int.reduceLE, Int.reduceLT, Int.reduceToNat, Int.reduceNeg, Nat.reduceLT, Int.reduceEq, Int.reduceSub, Int.reduceAdd, Int.reduceMul, Nat.reducePow, E_19, A19, List.length_map, e1, e2, h2]
  · have e1 : ((s.length : Int) != r.length) = true := by simp; omega
    have e1' : ¬ ((s.length : Int) = r.length) := by omega
    have hv : sameB ⟨s, f, t, w⟩ ⟨r, f', t', w'⟩ = false := by
      simp only [sameB, decide_eq_false_iff_not]; rintro ⟨rfl, _⟩; exact h1 rfl
    rw [hv, pc_eq]; simp +contextual -implicitDefEqProofs (maxSteps := 2000000) only [go_sem, ↓reduceIte, Nat.reduceAdd, Nat.reduceMul, Nat.reduceSub, Nat.reduceEqDiff, Nat.reduceLeDiff, Nat.reduceDiv, Nat.reduceMod, Nat.reduceBEq, Nat.reduceBNe, reduceCtorEq, Int.reduceLE, Int.reduceLT, Int.reduceToNat, Int.reduceNeg, Nat.reduceLT, Int.reduceEq, Int.reduceSub, Int.reduceAdd, Int.reduceMul, Nat.reducePow, E_19, A19, List.length_map, e1, e1']
end Go.Proofs.Ytjmnepfdhkabfaa
