/- Part of the proof: the evaluation of the program's code and its tie to the machine, or what functions of the program compute over it. -/
import Derived.Test.YteellikeoiedbaaPart2
namespace Go.Proofs.Yteellikeoiedbaa
set_option maxRecDepth 100000
set_option maxHeartbeats 4000000
set_option linter.unusedSimpArgs false
set_option linter.unusedVariables false
open Go Go.Zv
open Go.Geo
theorem shr1 (n : Int) : shf .shr .i64 n 1 = some (.int .i64 (n / 2)) := by
  unfold shf
  rw [if_neg (by decide)]
  have : (2 : Int) ^ (min (Int.toNat 1) IntKind.i64.bits) = 2 := by decide
  simp only [this]
  rw [Int.fdiv_eq_ediv_of_nonneg _ (by decide)]
theorem c20 (a b : List Pt) (ha : a.length ≤ 1000000000) (hb : b.length ≤ 1000000000) (o d : Int) : pc E 20 [.vs (a.map c2), .vs (b.map c2), .agg [.int .i64 o, .int .i64 d]] = some (.bool (isepB a b o d)) := by
  have g1 := c47 a ha d
  have g2 := c47 b hb d
  have k1 := c48 b hb (edn a d.toNat).1.1 (edn a d.toNat).1.2 (edn a d.toNat).2.1 (edn a d.toNat).2.2
  have k2 := c48 a ha (edn b d.toNat).1.1 (edn b d.toNat).1.2 (edn b d.toNat).2.1 (edn b d.toNat).2.2
  unfold isepB sepAt
  rw [show (((edn a d.toNat).1.1, (edn a d.toNat).1.2), ((edn a d.toNat).2.1, (edn a d.toNat).2.2)) = edn a d.toNat from rfl] at k1
  rw [show (((edn b d.toNat).1.1, (edn b d.toNat).1.2), ((edn b d.toNat).2.1, (edn b d.toNat).2.2)) = edn b d.toNat from rfl] at k2
  generalize beyB (edn a d.toNat) b = B1 at *
  generalize beyB (edn b d.toNat) a = B2' at *
  have sh := shr1 o
  have w1 : shf .shr .i64 1 1 = some (.int .i64 0) := shr1 1
  by_cases h1 : o = 1
  · subst h1
    rw [if_pos rfl]
    by_cases h2 : 0 ≤ d ∧ d < b.length
    · rw [if_pos h2] at g2
      rw [decide_eq_true h2, Bool.true_and]
      rw [pc_eq]; simp +contextual -implicitDefEqProofs (maxSteps := 2000000) only [go_sem, ↓reduceIte, Nat.reduceAdd, Nat.reduceMul, Nat.reduceSub, Nat.reduceEqDiff, Nat.reduceLeDiff, Nat.reduceDiv, Nat.reduceMod, Nat.reduceBEq, Nat.reduceBNe, reduceCtorEq, Int.reduceLE, Int.reduceLT, Int.reduceToNat, Int.reduceNeg, Nat.reduceLT, Int.reduceEq, Int.reduceSub, Int.reduceAdd, Int.reduceMul, Nat.reducePow, Int.reduceBEq, Int.reduceBNe, Int.reduceMod, E_20, A20, g2, k2, w1, beq_self_eq_true]
    · rw [if_neg h2] at g2
      rw [decide_eq_false h2, Bool.false_and]
      rw [pc_eq]; simp +contextual -implicitDefEqProofs (maxSteps := 2000000) only [go_sem, ↓reduceIte, Nat.reduceAdd, Nat.reduceMul, Nat.reduceSub, Nat.reduceEqDiff, Nat.reduceLeDiff, Nat.reduceDiv, Nat.reduceMod, Nat.reduceBEq, Nat.reduceBNe, reduceCtorEq, Int.reduceLE, Int.reduceLT, Int.reduceToNat, Int.reduceNeg, Nat.reduceLT, Int.reduceEq, Int.reduceSub, Int.reduceAdd, Int.reduceMul, Nat.reducePow, Int.reduceBEq, Int.reduceBNe, Int.reduceMod, E_20, A20, g2, w1, beq_self_eq_true]
  · have h1' : (o == 1) = false := by simpa using h1
    rw [if_neg h1]
    by_cases h2 : 0 ≤ d ∧ d < a.length
    · rw [if_pos h2] at g1
      rw [decide_eq_true h2, Bool.true_and]
      by_cases h3 : o = 0
      · subst h3
        have w0 : shf .shr .i64 0 1 = some (.int .i64 0) := shr1 0
        rw [pc_eq]; simp +contextual -implicitDefEqProofs (maxSteps := 2000000) only [go_sem, ↓reduceIte, Nat.reduceAdd, Nat.reduceMul, Nat.reduceSub, Nat.reduceEqDiff, Nat.reduceLeDiff, Nat.reduceDiv, Nat.reduceMod, Nat.reduceBEq, Nat.reduceBNe, reduceCtorEq, Int.reduceLE, Int.reduceLT, Int.reduceToNat, Int.reduceNeg, Nat.reduceLT, Int.reduceEq, Int.reduceSub, Int.reduceAdd, Int.reduceMul, Nat.reducePow, Int.reduceBEq, Int.reduceBNe, Int.reduceMod, E_20, A20, g1, k1, w0, h1, h1', beq_self_eq_true, decide_true, Bool.true_and]
      · have h4 : ¬ o / 2 = 0 := by omega
        have h4' : (o / 2 == 0) = false := by simpa using h4
        rw [pc_eq]; simp +contextual -implicitDefEqProofs (maxSteps := 2000000) only [go_sem, ↓reduceIte, Nat.reduceAdd, Nat.reduceMul, Nat.reduceSub, Nat.reduceEqDiff, Nat.reduceLeDiff, Nat.reduceDiv, Nat.reduceMod, Nat.reduceBEq, Nat.reduceBNe, reduceCtorEq, Int.reduceLE, Int.reduceLT, Int.reduceToNat, Int.reduceNeg, Nat.reduceLT, Int.reduceEq, Int.reduceSub, Int.reduceAdd, Int.reduceMul, Nat.reducePow, Int.reduceBEq, Int.reduceBNe, Int.reduceMod, E_20, A20, g1, k1, sh, h1, h1', h3, h4, h4', decide_false, Bool.false_and]
    · rw [if_neg h2] at g1
      rw [decide_eq_false h2, Bool.false_and, Bool.and_false]
      rw [pc_eq]; simp +contextual -implicitDefEqProofs (maxSteps := 2000000) only [go_sem, ↓reduceIte, Nat.reduceAdd, Nat.reduceMul, Nat.reduceSub, Nat.reduceEqDiff, Nat.reduceLeDiff, Nat.reduceDiv, Nat.reduceMod, Nat.reduceBEq, Nat.reduceBNe, reduceCtorEq, Int.reduceLE, Int.reduceLT, Int.reduceToNat, Int.reduceNeg, Nat.reduceLT, Int.reduceEq, Int.reduceSub, Int.reduceAdd, Int.reduceMul, Nat.reducePow, Int.reduceBEq, Int.reduceBNe, Int.reduceMod, E_20, A20, g1, h1, h1']
theorem c22 (a b : List Pt) (ha : a.length ≤ 1000000000) (hb : b.length ≤ 1000000000) (k i j : Int) : pc E 22 [.vs (a.map c2), .vs (b.map c2), .agg [.int .i64 k, .int .i64 i, .int .i64 j]] = some (.bool (icnB a b k i j)) := by
  have g1 := c47 a ha i
  have g2 := c47 b hb j
  have o1 := c27 (edn a i.toNat).1.1 (edn a i.toNat).1.2 (edn a i.toNat).2.1 (edn a i.toNat).2.2 (edn b j.toNat).1.1 (edn b j.toNat).1.2 (edn b j.toNat).2.1 (edn b j.toNat).2.2
  have o2 := c46 a b hb i
  have o3 := c46 b a ha j
  unfold icnB
  have hc : cutE (edn a i.toNat) (edn b j.toNat) = cutB (edn a i.toNat).1.1 (edn a i.toNat).1.2 (edn a i.toNat).2.1 (edn a i.toNat).2.2 (edn b j.toNat).1.1 (edn b j.toNat).1.2 (edn b j.toNat).2.1 (edn b j.toNat).2.2 := rfl
  rw [hc]
  generalize cutB (edn a i.toNat).1.1 (edn a i.toNat).1.2 (edn a i.toNat).2.1 (edn a i.toNat).2.2 (edn b j.toNat).1.1 (edn b j.toNat).1.2 (edn b j.toNat).2.1 (edn b j.toNat).2.2 = cc at *
  generalize insB a i b = B1 at *
  generalize insB b j a = B2' at *
  generalize edn a i.toNat = e at *
  generalize edn b j.toNat = f at *
  by_cases h1 : k = 1
  · subst h1
    rw [if_pos rfl]
    by_cases h2 : 0 ≤ i ∧ i < a.length
    · rw [if_pos h2] at g1
      rw [decide_eq_true h2, Bool.true_and]
      by_cases h3 : 0 ≤ j ∧ j < b.length
      · rw [if_pos h3] at g2
        rw [decide_eq_true h3, Bool.true_and]
        rw [pc_eq]; simp +contextual -implicitDefEqProofs (maxSteps := 2000000) only [go_sem, ↓reduceIte, Nat.reduceAdd, Nat.reduceMul, Nat.reduceSub, Nat.reduceEqDiff, Nat.reduceLeDiff, Nat.reduceDiv, Nat.reduceMod, Nat.reduceBEq, Nat.reduceBNe, reduceCtorEq, Int.reduceLE, Int.reduceLT, Int.reduceToNat, Int.reduceNeg, Nat.reduceLT, Int.reduceEq, Int.reduceSub, Int.reduceAdd, Int.reduceMul, Nat.reducePow, Int.reduceBEq, Int.reduceBNe, Int.reduceMod, E_22, A22, g1, g2, o1, beq_self_eq_true]
      · rw [if_neg h3] at g2
        rw [decide_eq_false h3, Bool.false_and]
        rw [pc_eq]; simp +contextual -implicitDefEqProofs (maxSteps := 2000000) only [go_sem, ↓reduceIte, Nat.reduceAdd, Nat.reduceMul, Nat.reduceSub, Nat.reduceEqDiff, Nat.reduceLeDiff, Nat.reduceDiv, Nat.reduceMod, Nat.reduceBEq, Nat.reduceBNe, reduceCtorEq, Int.reduceLE, Int.reduceLT, Int.reduceToNat, Int.reduceNeg, Nat.reduceLT, Int.reduceEq, Int.reduceSub, Int.reduceAdd, Int.reduceMul, Nat.reducePow, Int.reduceBEq, Int.reduceBNe, Int.reduceMod, E_22, A22, g1, g2, beq_self_eq_true]
    · rw [if_neg h2] at g1
      rw [decide_eq_false h2, Bool.false_and]
      by_cases h3 : 0 ≤ j ∧ j < b.length
      · rw [if_pos h3] at g2
        rw [pc_eq]; simp +contextual -implicitDefEqProofs (maxSteps := 2000000) only [go_sem, ↓reduceIte, Nat.reduceAdd, Nat.reduceMul, Nat.reduceSub, Nat.reduceEqDiff, Nat.reduceLeDiff, Nat.reduceDiv, Nat.reduceMod, Nat.reduceBEq, Nat.reduceBNe, reduceCtorEq, Int.reduceLE, Int.reduceLT, Int.reduceToNat, Int.reduceNeg, Nat.reduceLT, Int.reduceEq, Int.reduceSub, Int.reduceAdd, Int.reduceMul, Nat.reducePow, Int.reduceBEq, Int.reduceBNe, Int.reduceMod, E_22, A22, g1, g2, beq_self_eq_true]
      · rw [if_neg h3] at g2
        rw [pc_eq]; simp +contextual -implicitDefEqProofs (maxSteps := 2000000) only [go_sem, ↓reduceIte, Nat.reduceAdd, Nat.reduceMul, Nat.reduceSub, Nat.reduceEqDiff, Nat.reduceLeDiff, Nat.reduceDiv, Nat.reduceMod, Nat.reduceBEq, Nat.reduceBNe, reduceCtorEq, Int.reduceLE, Int.reduceLT, Int.reduceToNat, Int.reduceNeg, Nat.reduceLT, Int.reduceEq, Int.reduceSub, Int.reduceAdd, Int.reduceMul, Nat.reducePow, Int.reduceBEq, Int.reduceBNe, Int.reduceMod, E_22, A22, g1, g2, beq_self_eq_true]
  · have h1' : (k == 1) = false := by simpa using h1
    rw [if_neg h1]
    by_cases h2 : k = 2
    · subst h2
      rw [if_pos rfl]
      by_cases h3 : j = 0
      · subst h3
        rw [decide_eq_true rfl, Bool.true_and]
        rw [pc_eq]; simp +contextual -implicitDefEqProofs (maxSteps := 2000000) only [go_sem, ↓reduceIte, Nat.reduceAdd, Nat.reduceMul, Nat.reduceSub, Nat.reduceEqDiff, Nat.reduceLeDiff, Nat.reduceDiv, Nat.reduceMod, Nat.reduceBEq, Nat.reduceBNe, reduceCtorEq, Int.reduceLE, Int.reduceLT, Int.reduceToNat, Int.reduceNeg, Nat.reduceLT, Int.reduceEq, Int.reduceSub, Int.reduceAdd, Int.reduceMul, Nat.reducePow, Int.reduceBEq, Int.reduceBNe, Int.reduceMod, E_22, A22, o2, beq_self_eq_true]
      · have h3' : (j == 0) = false := by simpa using h3
        rw [decide_eq_false h3, Bool.false_and]
        rw [pc_eq]; simp +contextual -implicitDefEqProofs (maxSteps := 2000000) only [go_sem, ↓reduceIte, Nat.reduceAdd, Nat.reduceMul, Nat.reduceSub, Nat.reduceEqDiff, Nat.reduceLeDiff, Nat.reduceDiv, Nat.reduceMod, Nat.reduceBEq, Nat.reduceBNe, reduceCtorEq, Int.reduceLE, Int.reduceLT, Int.reduceToNat, Int.reduceNeg, Nat.reduceLT, Int.reduceEq, Int.reduceSub, Int.reduceAdd, Int.reduceMul, Nat.reducePow, Int.reduceBEq, Int.reduceBNe, Int.reduceMod, E_22, A22, h3, h3', beq_self_eq_true]
    · have h2' : (k == 2) = false := by simpa using h2
      rw [if_neg h2]
      by_cases h4 : k = 3
      · subst h4
        rw [if_pos rfl]
        by_cases h3 : i = 0
        · subst h3
          rw [decide_eq_true rfl, Bool.true_and]
          rw [pc_eq]; simp +contextual -implicitDefEqProofs (maxSteps := 2000000) only [go_sem, ↓reduceIte, Nat.reduceAdd, Nat.reduceMul, Nat.reduceSub, Nat.reduceEqDiff, Nat.reduceLeDiff, Nat.reduceDiv, Nat.reduceMod, Nat.reduceBEq, Nat.reduceBNe, reduceCtorEq, Int.reduceLE, Int.reduceLT, Int.reduceToNat, Int.reduceNeg, Nat.reduceLT, Int.reduceEq, Int.reduceSub, Int.reduceAdd, Int.reduceMul, Nat.reducePow, Int.reduceBEq, Int.reduceBNe, Int.reduceMod, E_22, A22, o3, beq_self_eq_true]
        · have h3' : (i == 0) = false := by simpa using h3
          rw [decide_eq_false h3, Bool.false_and]
          rw [pc_eq]; simp +contextual -implicitDefEqProofs (maxSteps := 2000000) only [go_sem, ↓reduceIte, Nat.reduceAdd, Nat.reduceMul, Nat.reduceSub, Nat.reduceEqDiff, Nat.reduceLeDiff, Nat.reduceDiv, Nat.reduceMod, Nat.reduceBEq, Nat.reduceBNe, reduceCtorEq, Int.reduceLE, Int.reduceLT, Int.reduceToNat, Int.reduceNeg, Nat.reduceLT, Int.reduceEq, Int.reduceSub, Int.reduceAdd, Int.reduceMul, Nat.reducePow, Int.reduceBEq, Int.reduceBNe, Int.reduceMod, E_22, A22, h3, h3', beq_self_eq_true]
      · have h4' : (k == 3) = false := by simpa using h4
        rw [if_neg h4]
        rw [pc_eq]; simp +contextual -implicitDefEqProofs (maxSteps := 2000000) only [go_sem, ↓reduceIte, Nat.reduceAdd, Nat.reduceMul, Nat.reduceSub, Nat.reduceEqDiff, Nat.reduceLeDiff, Nat.reduceDiv, Nat.reduceMod, Nat.reduceBEq, Nat.reduceBNe, reduceCtorEq, Int.reduceLE, Int.reduceLT, Int.reduceToNat, Int.reduceNeg, Nat.reduceLT, Int.reduceEq, Int.reduceSub, Int.reduceAdd, Int.reduceMul, Nat.reducePow, Int.reduceBEq, Int.reduceBNe, Int.reduceMod, E_22, A22, h1, h1', h2, h2', h4, h4']
theorem c16 (l : List Pt) : pc E 16 [.vs (l.map c2)] = some (.bool (valB l)) := by
  have h := c30 l
  by_cases k1 : (l.length : Int) ≤ 12
  · rw [pc_eq]; simp +contextual -implicitDefEqProofs (maxSteps := 2000000) only [go_sem, ↓reduceIte, Nat.reduceAdd, Nat.reduceMul, Nat.reduceSub, Nat.reduceEqDiff, Nat.reduceLeDiff, Nat.reduceDiv, Nat.reduceMod, Nat.reduceBEq, Nat.reduceBNe, reduceCtorEq, Int.reduceLE, Int.reduceLT, Int.reduceToNat, Int.reduceNeg, Nat.reduceLT, Int.reduceEq, Int.reduceSub, Int.reduceAdd, Int.reduceMul, Nat.reducePow, Int.reduceBEq, Int.reduceBNe, Int.reduceMod, E_16, A16, List.length_map, k1, h]
  · have hv : valB l = false := by
      cases hb : valB l with
      | false => rfl
      | true => have := (val_iff.1 hb).n12; omega
    rw [hv]
    rw [pc_eq]; simp +contextual -implicitDefEqProofs (maxSteps := 2000000) only [go_sem, ↓reduceIte, Nat.reduceAdd, Nat.reduceMul, Nat.reduceSub, Nat.reduceEqDiff, Nat.reduceLeDiff, Nat.reduceDiv, Nat.reduceMod, Nat.reduceBEq, Nat.reduceBNe, reduceCtorEq, Int.reduceLE, Int.reduceLT, Int.reduceToNat, Int.reduceNeg, Nat.reduceLT, Int.reduceEq, Int.reduceSub, Int.reduceAdd, Int.reduceMul, Nat.reducePow, Int.reduceBEq, Int.reduceBNe, Int.reduceMod, E_16, A16, List.length_map, k1, h]
theorem c51 (l : List Pt) (hl : l.length ≤ 1000000000) (k : Nat) (hk : k < l.length) : pc E 51 [.vs (l.map c2), .int .i64 k] = some (.int .i64 ((k + 1) % l.length : Nat)) := by
  obtain ⟨m1, m2, m3, m4, m5⟩ := mod_nat hk hl
  have hw := wr_k (k := k) (by omega)
  rw [pc_eq]; simp +contextual -implicitDefEqProofs (maxSteps := 2000000) only [go_sem, ↓reduceIte, Nat.reduceAdd, Nat.reduceMul, Nat.reduceSub, Nat.reduceEqDiff, Nat.reduceLeDiff, Nat.reduceDiv, Nat.reduceMod, Nat.reduceBEq, Nat.reduceBNe, reduceCtorEq, Int.reduceLE, Int.reduceLT, Int.reduceToNat, Int.reduceNeg, Nat.reduceLT, Int.reduceEq, Int.reduceSub, Int.reduceAdd, Int.reduceMul, Nat.reducePow, Int.reduceBEq, Int.reduceBNe, Int.reduceMod, E_51, A51, List.length_map, m1, m2, m3, hw]
theorem in24 (l : List Pt) (hl : l.length ≤ 1000000000) (i : Nat) (hi : i < l.length) :
    ((List.range l.length).any (rgtE l i) = true → (K E A24_L0 ⟨[(0, .vs (l.map c2)), (3, .int .i64 i), (4, .int .i64 0)], [], [], 0⟩).bind (blockR 2 (some [0, 3]) [2, 4, 24, 31]) = some (.ex .ret ⟨[(2, .bool false)], [], [], 0⟩)) ∧
    ((List.range l.length).any (rgtE l i) = false → (K E A24_L0 ⟨[(0, .vs (l.map c2)), (3, .int .i64 i), (4, .int .i64 0)], [], [], 0⟩).bind (blockR 2 (some [0, 3]) [2, 4, 24, 31]) = some (.ex .nrm ⟨[(0, .vs (l.map c2)), (3, .int .i64 i)], [], [], 0⟩)) := by
  have lp := loop_leave (σ := Unit) (fun S => (K E A24_L0 S).bind (blockR 2 (some [0, 3]) [2, 4, 24, 31]))
    (fun k _ => ⟨[(0, .vs (l.map c2)), (3, .int .i64 i), (4, .int .i64 k)], [], [], 0⟩)
    (List.range l.length) (fun _ _ => ()) (rgtE l i)
    (fun o => o = some (.ex .ret ⟨[(2, .bool false)], [], [], 0⟩))
    (fun _ => some (.ex .nrm ⟨[(0, .vs (l.map c2)), (3, .int .i64 i)], [], [], 0⟩))
    (fun x => by
      rw [List.length_range]
      show (K E A24_L0 _).bind _ = _
      rw [A24_L0_eq]; simp +contextual -implicitDefEqProofs (maxSteps := 2000000) only [go_sem, ↓reduceIte, Nat.reduceAdd, Nat.reduceMul, Nat.reduceSub, Nat.reduceEqDiff, Nat.reduceLeDiff, Nat.reduceDiv, Nat.reduceMod, Nat.reduceBEq, Nat.reduceBNe, reduceCtorEq, Int.reduceLE, Int.reduceLT, Int.reduceToNat, Int.reduceNeg, Nat.reduceLT, Int.reduceEq, Int.reduceSub, Int.reduceAdd, Int.reduceMul, Nat.reducePow, Int.reduceBEq, Int.reduceBNe, Int.reduceMod, A24_L0b, Int.lt_irrefl, List.length_map])
    (fun k k' x hk he => by
      rw [List.length_range] at hk
      rw [range_get hk] at he
      cases he
      have g1 := get_c2 (ptn_get hi)
      have g2 := get_c2 (ptn_mod (l := l) (k := i + 1) (by omega))
      have g3 := get_c2 (ptn_get hk)
      have o2 := c51 l hl i hi
      obtain ⟨_, _, _, m4, m5⟩ := mod_nat hi hl
      have h1 : (k : Int) < l.length := by omega
      have h0 : (0 : Int) ≤ k := by omega
      have i1 : (i : Int) < l.length := by omega
      have i0 : (0 : Int) ≤ i := by omega
      have hw := wr_k (k := k) (by omega)
      have o1 := c53 (ptn l i).1 (ptn l i).2 (ptn l (i + 1)).1 (ptn l (i + 1)).2 (ptn l k).1 (ptn l k).2
      unfold rgtE oriE
      generalize sgn (crW (ptn l i).1 (ptn l i).2 (ptn l (i + 1)).1 (ptn l (i + 1)).2 (ptn l k).1 (ptn l k).2) = s at *
      generalize ptn l i = p1 at *
      generalize ptn l (i + 1) = p2 at *
      generalize ptn l k = p3 at *
      refine ⟨fun h => ?_, fun h => ?_⟩
      · have h' := of_decide_eq_true h
        show (K E A24_L0 _).bind _ = _
        rw [A24_L0_eq]
        simp +contextual -implicitDefEqProofs (maxSteps := 2000000) only [go_sem, ↓reduceIte, Nat.reduceAdd, Nat.reduceMul, Nat.reduceSub, Nat.reduceEqDiff, Nat.reduceLeDiff, Nat.reduceDiv, Nat.reduceMod, Nat.reduceBEq, Nat.reduceBNe, reduceCtorEq, Int.reduceLE, Int.reduceLT, Int.reduceToNat, Int.reduceNeg, Nat.reduceLT, Int.reduceEq, Int.reduceSub, Int.reduceAdd, Int.reduceMul, Nat.reducePow, Int.reduceBEq, Int.reduceBNe, Int.reduceMod, A24_L0b, List.length_map, h0, h1, i0, i1, g1, g2, g3, m4, m5, o2, o1, hw, h']
      · have h' := of_decide_eq_false h
        show (K E A24_L0 _).bind _ = (K E A24_L0 _).bind _
        conv => lhs; rw [A24_L0_eq]
        simp +contextual -implicitDefEqProofs (maxSteps := 2000000) only [go_sem, ↓reduceIte, Nat.reduceAdd, Nat.reduceMul, Nat.reduceSub, Nat.reduceEqDiff, Nat.reduceLeDiff, Nat.reduceDiv, Nat.reduceMod, Nat.reduceBEq, Nat.reduceBNe, reduceCtorEq, Int.reduceLE, Int.reduceLT, Int.reduceToNat, Int.reduceNeg, Nat.reduceLT, Int.reduceEq, Int.reduceSub, Int.reduceAdd, Int.reduceMul, Nat.reducePow, Int.reduceBEq, Int.reduceBNe, Int.reduceMod, A24_L0b, List.length_map, h0, h1, i0, i1, g1, g2, g3, m4, m5, o2, o1, hw, h'])
    ()
  simp only [Int.natCast_zero, Int.ofNat_zero] at lp
  exact lp
theorem c24 (l : List Pt) (hl : l.length ≤ 1000000000) : pc E 24 [.vs (l.map c2)] = some (.bool (cvxB l)) := by
  have lp := loop_leave (σ := Unit) (fun S => (K E A24_L1 S).bind (blockR 0 (some []) [2, 3, 4, 24, 31]))
    (fun k _ => ⟨[(0, .vs (l.map c2)), (3, .int .i64 k)], [], [], 0⟩)
    (List.range l.length) (fun _ _ => ()) (fun i => (List.range l.length).any (rgtE l i))
    (fun o => o = some (.ex .ret ⟨[(2, .bool false)], [], [], 0⟩))
    (fun _ => some (.ex .nrm ⟨[], [], [], 0⟩))
    (fun x => by
      rw [List.length_range]
      show (K E A24_L1 _).bind _ = _
      rw [A24_L1_eq]; simp +contextual -implicitDefEqProofs (maxSteps := 2000000) only [go_sem, ↓reduceIte, Nat.reduceAdd, Nat.reduceMul, Nat.reduceSub, Nat.reduceEqDiff, Nat.reduceLeDiff, Nat.reduceDiv, Nat.reduceMod, Nat.reduceBEq, Nat.reduceBNe, reduceCtorEq, Int.reduceLE, Int.reduceLT, Int.reduceToNat, Int.reduceNeg, Nat.reduceLT, Int.reduceEq, Int.reduceSub, Int.reduceAdd, Int.reduceMul, Nat.reducePow, Int.reduceBEq, Int.reduceBNe, Int.reduceMod, A24_L1b, Int.lt_irrefl, List.length_map])
    (fun i i' x hi he => by
      rw [List.length_range] at hi
      rw [range_get hi] at he
      cases he
      have h1 : (i : Int) < l.length := by omega
      have hw := wr_k (k := i) (by omega)
      have q := in24 l hl i hi
      refine ⟨fun h => ?_, fun h => ?_⟩
      · have q := q.1 h
        show (K E A24_L1 _).bind _ = _
        rw [A24_L1_eq]
        simp +contextual -implicitDefEqProofs (maxSteps := 2000000) only [go_sem, ↓reduceIte, Nat.reduceAdd, Nat.reduceMul, Nat.reduceSub, Nat.reduceEqDiff, Nat.reduceLeDiff, Nat.reduceDiv, Nat.reduceMod, Nat.reduceBEq, Nat.reduceBNe, reduceCtorEq, Int.reduceLE, Int.reduceLT, Int.reduceToNat, Int.reduceNeg, Nat.reduceLT, Int.reduceEq, Int.reduceSub, Int.reduceAdd, Int.reduceMul, Nat.reducePow, Int.reduceBEq, Int.reduceBNe, Int.reduceMod, A24_L1b, List.length_map, h1, hw, q]
      · have q := q.2 h
        show (K E A24_L1 _).bind _ = (K E A24_L1 _).bind _
        conv => lhs; rw [A24_L1_eq]
        simp +contextual -implicitDefEqProofs (maxSteps := 2000000) only [go_sem, ↓reduceIte, Nat.reduceAdd, Nat.reduceMul, Nat.reduceSub, Nat.reduceEqDiff, Nat.reduceLeDiff, Nat.reduceDiv, Nat.reduceMod, Nat.reduceBEq, Nat.reduceBNe, reduceCtorEq, Int.reduceLE, Int.reduceLT, Int.reduceToNat, Int.reduceNeg, Nat.reduceLT, Int.reduceEq, Int.reduceSub, Int.reduceAdd, Int.reduceMul, Nat.reducePow, Int.reduceBEq, Int.reduceBNe, Int.reduceMod, A24_L1b, List.length_map, h1, hw, q])
    ()
  simp only [Int.natCast_zero, Int.ofNat_zero] at lp
  unfold cvxB
  cases ha : (List.range l.length).any fun i => (List.range l.length).any (rgtE l i)
  · have lq := lp.2 ha
    rw [pc_eq]; simp +contextual -implicitDefEqProofs (maxSteps := 2000000) only [go_sem, ↓reduceIte, Nat.reduceAdd, Nat.reduceMul, Nat.reduceSub, Nat.reduceEqDiff, Nat.reduceLeDiff, Nat.reduceDiv, Nat.reduceMod, Nat.reduceBEq, Nat.reduceBNe, reduceCtorEq, Int.reduceLE, Int.reduceLT, Int.reduceToNat, Int.reduceNeg, Nat.reduceLT, Int.reduceEq, Int.reduceSub, Int.reduceAdd, Int.reduceMul, Nat.reducePow, Int.reduceBEq, Int.reduceBNe, Int.reduceMod, E_24, A24, List.length_map, lq]
  · have lq := lp.1 ha
    rw [pc_eq]; simp +contextual -implicitDefEqProofs (maxSteps := 2000000) only [go_sem, ↓reduceIte, Nat.reduceAdd, Nat.reduceMul, Nat.reduceSub, Nat.reduceEqDiff, Nat.reduceLeDiff, Nat.reduceDiv, Nat.reduceMod, Nat.reduceBEq, Nat.reduceBNe, reduceCtorEq, Int.reduceLE, Int.reduceLT, Int.reduceToNat, Int.reduceNeg, Nat.reduceLT, Int.reduceEq, Int.reduceSub, Int.reduceAdd, Int.reduceMul, Nat.reducePow, Int.reduceBEq, Int.reduceBNe, Int.reduceMod, E_24, A24, List.length_map, lq]
end Go.Proofs.Yteellikeoiedbaa

namespace Go.Geo
set_option maxRecDepth 100000
set_option maxHeartbeats 4000000
set_option linter.unusedSimpArgs false
set_option linter.unusedVariables false
open Go Go.Zv
def seA (a b : List Pt) : Option Nat := (List.range a.length).find? fun i => beyB (edn a i) b
/-- the first separating edge -/
def SE (a b : List Pt) : Option (Int × Int) :=
  match seA a b with
  | some i => some (0, (i : Int))
  | none => Option.map (fun i : Nat => ((1 : Int), (i : Int))) (seA b a)
end Go.Geo
namespace Go.Proofs.Yteellikeoiedbaa
set_option maxRecDepth 100000
set_option maxHeartbeats 4000000
set_option linter.unusedSimpArgs false
set_option linter.unusedVariables false
open Go Go.Zv
open Go.Geo
def sepV : Option (Int × Int) → LV
  | some (o, i) => .tup [.agg [.int .i64 o, .int .i64 i], .bool true]
  | none => .tup [.agg [.int .i64 0, .int .i64 0], .bool false]
abbrev FR25 (a b p : List Pt) (o : Int) : Env := [(0, .vs (a.map c2)), (1, .vs (b.map c2)), (4, .ptr 1024 0), (5, .ptr 1280 0), (6, .ptr 1536 0), (8, .ptr 2048 0), (13, .agg [.vs (a.map c2), .vs (b.map c2)]), (14, .int .i64 o), (24, .fn (Fn.func 73) [] [.fp [.vs (p.map c2)]])]
abbrev OO25 (a b p q : List Pt) (o : Int) (st : LSt) (pe : AEx) (ok : Bool) (s0 s1 : Int) : Heap := [(1024000, .loop (FR25 a b p o) [25, 26] A25_R0a A25_R0b st pe), (2048, .box [.vs (q.map c2)]), (2049, .row 2 []), (1536, .box [.int .i64 o]), (1280, .box [.bool ok]), (1024, .box [.int .i64 s0, .int .i64 s1])]
theorem in25 (a b p q : List Pt) (hp : p.length ≤ 1000000000) (hq : q.length ≤ 1000000000) (o : Int) :
    (∀ i, seA p q = some i → (K E A73_L0 ⟨[(0, .yl 1024000), (1, .fp [.vs (p.map c2)]), (5, .vs (p.map c2)), (6, .int .i64 p.length), (7, .int .i64 0)], [FR25 a b p o, [(0, .yl 1024000)]], OO25 a b p q o .ready .nrm false 0 0, 1⟩).bind (blockR 0 (some []) [3, 4, 24]) =
      some (.ex .ret ⟨[(0, .yl 1024000), (1, .fp [.vs (p.map c2)]), (5, .vs (p.map c2)), (6, .int .i64 p.length), (7, .int .i64 i), (25, .bool true)], [FR25 a b p o, [(0, .yl 1024000)]], OO25 a b p q o .done .ret true o i, 1⟩)) ∧
    (seA p q = none → (K E A73_L0 ⟨[(0, .yl 1024000), (1, .fp [.vs (p.map c2)]), (5, .vs (p.map c2)), (6, .int .i64 p.length), (7, .int .i64 0)], [FR25 a b p o, [(0, .yl 1024000)]], OO25 a b p q o .ready .nrm false 0 0, 1⟩).bind (blockR 0 (some []) [3, 4, 24]) =
      some (.ex .nrm ⟨[], [FR25 a b p o, [(0, .yl 1024000)]], OO25 a b p q o .ready .nrm false 0 0, 1⟩)) := by
  have lp := loop_first (fun S => (K E A73_L0 S).bind (blockR 0 (some []) [3, 4, 24]))
    (fun k => ⟨[(0, .yl 1024000), (1, .fp [.vs (p.map c2)]), (5, .vs (p.map c2)), (6, .int .i64 p.length), (7, .int .i64 k)], [FR25 a b p o, [(0, .yl 1024000)]], OO25 a b p q o .ready .nrm false 0 0, 1⟩)
    p.length (fun i => beyB (edn p i) q)
    (fun i r => r = some (.ex .ret ⟨[(0, .yl 1024000), (1, .fp [.vs (p.map c2)]), (5, .vs (p.map c2)), (6, .int .i64 p.length), (7, .int .i64 i), (25, .bool true)], [FR25 a b p o, [(0, .yl 1024000)]], OO25 a b p q o .done .ret true o i, 1⟩))
    (some (.ex .nrm ⟨[], [FR25 a b p o, [(0, .yl 1024000)]], OO25 a b p q o .ready .nrm false 0 0, 1⟩))
    (by
      show (K E A73_L0 _).bind _ = _
      rw [A73_L0_eq]; simp +contextual -implicitDefEqProofs (maxSteps := 2000000) only [go_sem, ↓reduceIte, Nat.reduceAdd, Nat.reduceMul, Nat.reduceSub, Nat.reduceEqDiff, Nat.reduceLeDiff, Nat.reduceDiv, Nat.reduceMod, Nat.reduceBEq, Nat.reduceBNe, reduceCtorEq, Int.reduceLE, Int.reduceLT, Int.reduceToNat, Int.reduceNeg, Nat.reduceLT, Int.reduceEq, Int.reduceSub, Int.reduceAdd, Int.reduceMul, Nat.reducePow, Int.reduceBEq, Int.reduceBNe, Int.reduceMod, A73_L0b, Int.lt_irrefl])
    (fun k hk => by
      obtain ⟨_, g1, g2⟩ := eds_get (edn_get hk)
      have g1 := get_c2 g1
      have g2 := get_c2 g2
      obtain ⟨m1, m2, m3, m4, m5⟩ := mod_nat hk hp
      have hw := wr_k (k := k) (by omega)
      have h1 : (k : Int) < p.length := by omega
      have h0 : (0 : Int) ≤ k := by omega
      generalize edn p k = e at *
      obtain ⟨⟨ax, ay⟩, ⟨bx, by_⟩⟩ := e
      have o1 := c48 q hq ax ay bx by_
      refine ⟨fun hb => ?_, fun hb => ?_⟩
      · rw [hb] at o1
        show (K E A73_L0 _).bind _ = _
        rw [A73_L0_eq]
        simp +contextual -implicitDefEqProofs (maxSteps := 2000000) only [go_sem, ↓reduceIte, Nat.reduceAdd, Nat.reduceMul, Nat.reduceSub, Nat.reduceEqDiff, Nat.reduceLeDiff, Nat.reduceDiv, Nat.reduceMod, Nat.reduceBEq, Nat.reduceBNe, reduceCtorEq, Int.reduceLE, Int.reduceLT, Int.reduceToNat, Int.reduceNeg, Nat.reduceLT, Int.reduceEq, Int.reduceSub, Int.reduceAdd, Int.reduceMul, Nat.reducePow, Int.reduceBEq, Int.reduceBNe, Int.reduceMod, OO25, FR25, A73_L0b, A25_R0a, A25_R0b, List.length_map, h0, h1, g1, g2, m1, m2, m3, m4, m5, hw, o1]
      · rw [hb] at o1
        show (K E A73_L0 _).bind _ = (K E A73_L0 _).bind _
        conv => lhs; rw [A73_L0_eq]
        simp +contextual -implicitDefEqProofs (maxSteps := 2000000) only [go_sem, ↓reduceIte, Nat.reduceAdd, Nat.reduceMul, Nat.reduceSub, Nat.reduceEqDiff, Nat.reduceLeDiff, Nat.reduceDiv, Nat.reduceMod, Nat.reduceBEq, Nat.reduceBNe, reduceCtorEq, Int.reduceLE, Int.reduceLT, Int.reduceToNat, Int.reduceNeg, Nat.reduceLT, Int.reduceEq, Int.reduceSub, Int.reduceAdd, Int.reduceMul, Nat.reducePow, Int.reduceBEq, Int.reduceBNe, Int.reduceMod, OO25, FR25, A73_L0b, A25_R0a, A25_R0b, List.length_map, h0, h1, g1, g2, m1, m2, m3, m4, m5, hw, o1])
  simp only [Int.natCast_zero, Int.ofNat_zero] at lp
  exact lp
theorem c25 (a b : List Pt) (ha : a.length ≤ 1000000000) (hb : b.length ≤ 1000000000) : pc E 25 [.vs (a.map c2), .vs (b.map c2)] = some (sepV (SE a b)) := by
  have h1 := c45 a
  have h2 := c45 b
  have q1 := in25 a b a b ha hb 0
  have q2 := in25 a b b a hb ha 1
  simp only [FR25, OO25] at q1 q2
  unfold SE
  cases e1 : seA a b with
  | some i =>
    have r1 := q1.1 i e1
    simp only [sepV]
    rw [pc_eq]; simp +contextual -implicitDefEqProofs (maxSteps := 2000000) only [go_sem, ↓reduceIte, Nat.reduceAdd, Nat.reduceMul, Nat.reduceSub, Nat.reduceEqDiff, Nat.reduceLeDiff, Nat.reduceDiv, Nat.reduceMod, Nat.reduceBEq, Nat.reduceBNe, reduceCtorEq, Int.reduceLE, Int.reduceLT, Int.reduceToNat, Int.reduceNeg, Nat.reduceLT, Int.reduceEq, Int.reduceSub, Int.reduceAdd, Int.reduceMul, Nat.reducePow, Int.reduceBEq, Int.reduceBNe, Int.reduceMod, E_25, A25, A25_L1_eq, A25_L1b, h1, h2, E_73, A73, A25_R0, List.length_map, r1]
  | none =>
    have r1 := q1.2 e1
    cases e2 : seA b a with
    | some i =>
      have r2 := q2.1 i e2
      simp only [sepV, Option.map_some]
      rw [pc_eq]; simp +contextual -implicitDefEqProofs (maxSteps := 2000000) only [go_sem, ↓reduceIte, Nat.reduceAdd, Nat.reduceMul, Nat.reduceSub, Nat.reduceEqDiff, Nat.reduceLeDiff, Nat.reduceDiv, Nat.reduceMod, Nat.reduceBEq, Nat.reduceBNe, reduceCtorEq, Int.reduceLE, Int.reduceLT, Int.reduceToNat, Int.reduceNeg, Nat.reduceLT, Int.reduceEq, Int.reduceSub, Int.reduceAdd, Int.reduceMul, Nat.reducePow, Int.reduceBEq, Int.reduceBNe, Int.reduceMod, E_25, A25, A25_L1_eq, A25_L1b, h1, h2, E_73, A73, A25_R0, List.length_map, r1, r2]
    | none =>
      have r2 := q2.2 e2
      simp only [sepV, Option.map_none]
      rw [pc_eq]; simp +contextual -implicitDefEqProofs (maxSteps := 2000000) only [go_sem, ↓reduceIte, Nat.reduceAdd, Nat.reduceMul, Nat.reduceSub, Nat.reduceEqDiff, Nat.reduceLeDiff, Nat.reduceDiv, Nat.reduceMod, Nat.reduceBEq, Nat.reduceBNe, reduceCtorEq, Int.reduceLE, Int.reduceLT, Int.reduceToNat, Int.reduceNeg, Nat.reduceLT, Int.reduceEq, Int.reduceSub, Int.reduceAdd, Int.reduceMul, Nat.reducePow, Int.reduceBEq, Int.reduceBNe, Int.reduceMod, E_25, A25, A25_L1_eq, A25_L1b, h1, h2, E_73, A73, A25_R0, List.length_map, r1, r2]
end Go.Proofs.Yteellikeoiedbaa

namespace Go.Geo
set_option maxRecDepth 100000
set_option maxHeartbeats 4000000
set_option linter.unusedSimpArgs false
set_option linter.unusedVariables false
open Go Go.Zv
/-! a polygon cut in two -/
section
variable {a : List Pt} {k : Nat}
def cut1 (a : List Pt) (k : Nat) : List Pt := a.take (k + 1)
def cut2 (a : List Pt) (k : Nat) : List Pt := ptn a 0 :: a.drop k
theorem cut1_len (hk : k + 1 ≤ a.length) : (cut1 a k).length = k + 1 := by unfold cut1; rw [List.length_take]; omega
theorem cut2_len (hk : k ≤ a.length) : (cut2 a k).length = a.length - k + 1 := by unfold cut2; rw [List.length_cons, List.length_drop]
theorem ptn_eq_of {l m : List Pt} {i j : Nat} (hi : i < l.length) (hj : j < m.length) (h : l[i]? = m[j]?) : ptn l i = ptn m j := by
  rw [ptn_get hi, ptn_get hj] at h; simpa using h
theorem cut1_ptn (hk : k + 1 ≤ a.length) {j : Nat} (hj : j ≤ k) : ptn (cut1 a k) j = ptn a j :=
  ptn_eq_of (by rw [cut1_len hk]; omega) (by omega) (by unfold cut1; rw [List.getElem?_take, if_pos (by omega)])
theorem cut1_ptn' (hk : k + 1 ≤ a.length) : ptn (cut1 a k) (k + 1) = ptn a 0 := by
  have := ptn_per (cut1 a k) 0
  rw [cut1_len hk, Nat.zero_add] at this
  rw [this, cut1_ptn hk (by omega)]
theorem cut2_ptn0 (hk : k < a.length) : ptn (cut2 a k) 0 = ptn a 0 := by
  have h1 := ptn_get (l := cut2 a k) (k := 0) (by rw [cut2_len (by omega)]; omega)
  unfold cut2 at h1 ⊢
  simpa using h1.symm
theorem cut2_ptn (hk : k < a.length) {j : Nat} (hj : k + j < a.length) : ptn (cut2 a k) (j + 1) = ptn a (k + j) :=
  ptn_eq_of (by rw [cut2_len (by omega)]; omega) hj (by unfold cut2; rw [List.getElem?_cons_succ, List.getElem?_drop])
theorem cut2_ptn' (hk : k < a.length) : ptn (cut2 a k) (a.length - k + 1) = ptn a 0 := by
  have := ptn_per (cut2 a k) 0
  rw [cut2_len (by omega), Nat.zero_add] at this
  rw [this, cut2_ptn0 hk]
theorem ptn_n (a : List Pt) : ptn a a.length = ptn a 0 := by have := ptn_per a 0; rwa [Nat.zero_add] at this
theorem eds_cut1 (hk : k + 1 ≤ a.length) : eds (cut1 a k) = (List.range k).map (edn a) ++ [(ptn a k, ptn a 0)] := by
  rw [eds_range, cut1_len hk, List.range_succ, List.map_append]
  congr 1
  · refine List.map_congr_left fun j hj => ?_
    have := List.mem_range.1 hj
    unfold edn; rw [cut1_ptn hk (by omega), cut1_ptn hk (by omega)]
  · simp only [List.map_cons, List.map_nil, edn]; rw [cut1_ptn hk (by omega), cut1_ptn' hk]
theorem eds_cut2 (hk : k < a.length) : eds (cut2 a k) = (ptn a 0, ptn a k) :: (List.range (a.length - k)).map (fun j => edn a (k + j)) := by
  rw [eds_range, cut2_len (by omega), List.range_succ_eq_map, List.map_cons, List.map_map]
  congr 1
  · unfold edn; rw [cut2_ptn0 hk]
    have := cut2_ptn hk (j := 0) (by omega)
    rw [this]; rfl
  · refine List.map_congr_left fun j hj => ?_
    have hj := List.mem_range.1 hj
    simp only [Function.comp_apply, edn]
    rw [show j.succ = j + 1 from rfl, cut2_ptn hk (by omega)]
    by_cases e : k + (j + 1) < a.length
    · rw [cut2_ptn hk (j := j + 1) e]; rfl
    · rw [show j + 1 + 1 = a.length - k + 1 by omega, cut2_ptn' hk, show k + j + 1 = a.length by omega, ptn_n]
theorem eds_cut (hk : k ≤ a.length) : eds a = (List.range k).map (edn a) ++ (List.range (a.length - k)).map (fun j => edn a (k + j)) := by
  rw [eds_range]
  conv => lhs; rw [show a.length = k + (a.length - k) by omega]
  rw [List.range_add, List.map_append, List.map_map]; rfl
/-- what counts an edge and its opposite to nothing -/
theorem cut_sum (hk : k + 1 ≤ a.length) (F : Pt × Pt → Int) (hF : ∀ p q, F (q, p) = -F (p, q)) : ((eds (cut1 a k)).map F).sum + ((eds (cut2 a k)).map F).sum = ((eds a).map F).sum := by
  rw [eds_cut1 hk, eds_cut2 (by omega), eds_cut (k := k) (by omega)]
  simp only [List.map_append, List.sum_append, List.map_cons, List.sum_cons, List.map_nil, List.sum_nil]
  rw [hF (ptn a 0) (ptn a k)]
  omega
theorem cut_area (hk : k + 1 ≤ a.length) : w64 (areaW (cut1 a k) + areaW (cut2 a k)) = areaW a := by
  rw [areaW_sum, areaW_sum, areaW_sum, w64_add, w64_add', cut_sum hk dE (fun p q => by unfold dE; simp only; grind)]
theorem cut_wn (hk : k + 1 ≤ a.length) (d x : Q2) : wn d x ((eds (cut1 a k)).map qe) + wn d x ((eds (cut2 a k)).map qe) = wn d x ((eds a).map qe) := by
  unfold wn
  rw [List.map_map, List.map_map, List.map_map]
  exact cut_sum hk _ (fun p q => by simp only [Function.comp_apply, qe]; exact hit_neg ..)
theorem wn_rev {d x : Q2} {l : List Pt} (h : Val l) {i : Nat} {s : Rat} (s0 : 0 < s) (s1 : s < 1) (hx : x = onp (pqf l i) (pqf l (i + 1)) s) (hd : d = sq (pqf l i) (pqf l (i + 1))) : wn d x ((eds l).map qe) = 0 := by
  have hs := simp_of h.n3 h.may h.sim
  have hL := Lc_val h
  rw [eds_chn, ← wn_base hs d x i, split1 hs i, wn_cons]
  have hg := f_ne hs i
  have hdg : d = (-(sq (pqf l (i + 1)) (pqf l i)).1, -(sq (pqf l (i + 1)) (pqf l i)).2) := by
    rw [hd]; refine Prod.ext ?_ ?_ <;> simp only [sq] <;> grind
  have e1 : hit d (sq (edg (pqf l) i).1 x) (sq (edg (pqf l) i).2 x) = 0 := by
    simp only [edg]
    have k1 : xq d (sq (pqf l i) x) = 0 := by rw [hx, hd]; unfold xq sq onp; grind
    have k2 : xq d (sq (pqf l (i + 1)) x) = 0 := by rw [hx, hd]; unfold xq sq onp; grind
    have z0 : ¬ (0 : Rat) < 0 := by grind
    unfold hit; rw [k1, k2]; simp only [z0, if_false]
  rw [e1]
  -- a direction to the right of the edge
  have hr : 0 < xq ((sq (pqf l (i + 1)) (pqf l i)).2, -(sq (pqf l (i + 1)) (pqf l i)).1) (sq (pqf l (i + 1)) (pqf l i)) := by
    have := dq_pos hg
    unfold dq at this; unfold xq; grind
  have hN := N_right hs s0 s1 hx hr
  have hdr : 0 < xq d ((sq (pqf l (i + 1)) (pqf l i)).2, -(sq (pqf l (i + 1)) (pqf l i)).1) := by
    have := dq_pos hg
    rw [hdg]
    unfold dq at this; unfold xq; grind
  have hon : OnE x (edg (pqf l) i) := by rw [hx]; exact on_of_param (by grind) (by grind)
  have k1 : xq (sq (pqf l (i + 1)) (pqf l i)) (sq x (pqf l i)) = 0 := by rw [hx]; unfold xq sq onp; grind
  have dd := dq_pos hg
  have j1 : dq (sq (pqf l (i + 1)) (pqf l i)) (sq x (pqf l i)) = s * dq (sq (pqf l (i + 1)) (pqf l i)) (sq (pqf l (i + 1)) (pqf l i)) := by rw [hx]; unfold dq sq onp; grind
  have j2 : dq (sq (pqf l (i + 1)) (pqf l i)) (sq (pqf l (i + 1)) x) = (1 - s) * dq (sq (pqf l (i + 1)) (pqf l i)) (sq (pqf l (i + 1)) (pqf l i)) := by rw [hx]; unfold dq sq onp; grind
  have x0 : x ≠ pqf l i := fun e => by
    rw [e, sq_self] at j1
    have := Rat.mul_pos s0 dd
    rw [← e] at j1
    have z : dq (sq (pqf l (i + 1)) x) (0, 0) = 0 := by unfold dq; grind
    rw [← e] at this
    grind
  have x1 : x ≠ pqf l (i + 1) := fun e => by
    rw [e, sq_self] at j2
    have := Rat.mul_pos (show 0 < 1 - s by grind) dd
    have z : dq (sq (pqf l (i + 1)) (pqf l i)) (0, 0) = 0 := by unfold dq; grind
    grind
  have hoff : ∀ g ∈ chn (pqf l) (i + 1) (l.length - 1), ¬ OnE x g := fun g hg => by
    obtain ⟨m, hm, rfl⟩ := mem_chn.1 hg
    exact inner_off hs hon x0 x1 m hm
  have hw := wn_wedge (N_path hs i) hdr hoff
  have z1 : xq d (sq (pqf l i) x) = 0 := by rw [hx, hd]; unfold xq sq onp; grind
  have z2 : xq d (sq (pqf l (i + 1)) x) = 0 := by rw [hx, hd]; unfold xq sq onp; grind
  have z0 : ¬ (0 : Rat) < 0 := by grind
  unfold Wd at hw
  rw [z1, z2] at hw
  simp only [z0, if_false] at hw
  rw [hN, hL] at hw
  omega
/-- on a half-open edge, in its direction -/
theorem wn_edge {x : Q2} {l : List Pt} (h : Val l) {i : Nat} {s : Rat} (s0 : 0 ≤ s) (s1 : s < 1) (hx : x = onp (pqf l i) (pqf l (i + 1)) s) : wn (sq (pqf l (i + 1)) (pqf l i)) x ((eds l).map qe) = 1 := by
  have hs := simp_of h.n3 h.may h.sim
  rw [eds_chn, ← wn_base hs _ x i, Lc_eq hs s0 s1 hx, Lc_const hs, Lc_val h]
end
end Go.Geo

namespace Go.Geo
set_option maxRecDepth 100000
set_option maxHeartbeats 4000000
set_option linter.unusedSimpArgs false
set_option linter.unusedVariables false
open Go Go.Zv
theorem loc3 {l : List Pt} (V : Val l) {x : Pt} (hx : B2 x) : ((∃ e ∈ eds l, OnE (qp x) (qe e)) ∧ locI l x = 0) ∨ ((∀ e ∈ eds l, ¬ OnE (qp x) (qe e)) ∧ (∀ d : Q2, d ≠ (0, 0) → wn d (qp x) ((eds l).map qe) = 1) ∧ locI l x = 1) ∨ ((∀ e ∈ eds l, ¬ OnE (qp x) (qe e)) ∧ (∀ d : Q2, d ≠ (0, 0) → wn d (qp x) ((eds l).map qe) = 0) ∧ locI l x = -1) := by
  have hl := locI_wn V.may hx
  cases ho : (eds l).any (onE x) with
  | true =>
    left
    rw [ho] at hl
    rw [List.any_eq_true] at ho
    obtain ⟨e, he, h⟩ := ho
    exact ⟨⟨e, he, (onE_meets hx (eds_B V.may he).1 (eds_B V.may he).2).1 h⟩, by simpa using hl⟩
  | false =>
    right
    have hoff := (off_iff V.may hx).1 ho
    rw [ho] at hl
    simp only [Bool.false_eq_true, if_false] at hl
    have hall : ∀ d : Q2, d ≠ (0, 0) → wn d (qp x) ((eds l).map qe) = wn (1, 0) (qp x) ((eds l).map qe) := fun d hd => wn_dir (eds_path l) hd d10 fun g hg => by
      obtain ⟨e, he, rfl⟩ := List.mem_map.1 hg
      exact hoff e he
    rcases wind_val V hoff d10 with h | h
    · right; refine ⟨hoff, fun d hd => by rw [hall d hd, h], ?_⟩
      rw [hl, h]; decide
    · left; refine ⟨hoff, fun d hd => by rw [hall d hd, h], ?_⟩
      rw [hl, h]; decide
theorem half_edge {l : List Pt} {x : Q2} (h : ∃ e ∈ eds l, OnE x (qe e)) : ∃ i s, i < l.length ∧ 0 ≤ s ∧ s < 1 ∧ x = onp (pqf l i) (pqf l (i + 1)) s := by
  obtain ⟨e, he, ho⟩ := h
  rw [eds_range, List.mem_map] at he
  obtain ⟨i, hi, rfl⟩ := he
  have hi := List.mem_range.1 hi
  obtain ⟨s, s0, s1, hs⟩ := on_param ho
  by_cases e : s = 1
  · refine ⟨(i + 1) % l.length, 0, Nat.mod_lt _ (by omega), by grind, by grind, ?_⟩
    rw [onp0, hs, e, onp1]
    unfold pqf
    rw [mod_of_per (ptn l) l.length (ptn_per l) (i + 1)]; rfl
  · exact ⟨i, s, hi, s0, by grind, hs⟩
theorem on_swap {x p q : Q2} (h : OnE x (p, q)) : OnE x (q, p) := by
  unfold OnE OnV at *
  simp only at *
  obtain ⟨h1, h2⟩ := h
  have e1 : xq (sq q x) (sq p x) = -xq (sq p x) (sq q x) := xq_swap _ _
  have e2 : dq (sq q x) (sq p x) = dq (sq p x) (sq q x) := by unfold dq; grind
  rw [e1, e2]; exact ⟨by grind, h2⟩
theorem edn_mem {l : List Pt} {i : Nat} (h : i < l.length) : edn l i ∈ eds l := List.mem_of_getElem? (edn_get h)
theorem on_at {l : List Pt} {i : Nat} {s : Rat} {x : Q2} (h : i < l.length) (s0 : 0 ≤ s) (s1 : s < 1) (hx : x = onp (pqf l i) (pqf l (i + 1)) s) : ∃ e ∈ eds l, OnE x (qe e) :=
  ⟨edn l i, edn_mem h, by rw [hx]; exact on_of_param s0 (by grind)⟩
theorem cut_loc {a : List Pt} {k : Nat} (V : Val a) (hk : 2 ≤ k) (hk2 : k + 2 ≤ a.length) (V1 : Val (cut1 a k)) (V2 : Val (cut2 a k)) {x : Pt} (hx : B2 x) :
    (locI (cut1 a k) x = 1 → locI (cut2 a k) x = -1) ∧ (locI (cut2 a k) x = 1 → locI (cut1 a k) x = -1) ∧ (0 ≤ locI a x ↔ 0 ≤ locI (cut1 a k) x ∨ 0 ≤ locI (cut2 a k) x) := by
  have L := loc3 V hx
  have L1 := loc3 V1 hx
  have L2 := loc3 V2 hx
  have hsum := fun d => cut_wn (a := a) (k := k) (by omega) d (qp x)
  have p1 : ∀ j, j ≤ k → pqf (cut1 a k) j = pqf a j := fun j hj => by unfold pqf; rw [cut1_ptn (by omega) hj]
  have p1' : pqf (cut1 a k) (k + 1) = pqf a 0 := by unfold pqf; rw [cut1_ptn' (by omega)]
  have p20 : pqf (cut2 a k) 0 = pqf a 0 := by unfold pqf; rw [cut2_ptn0 (by omega)]
  have p2 : ∀ j, k + j < a.length → pqf (cut2 a k) (j + 1) = pqf a (k + j) := fun j hj => by unfold pqf; rw [cut2_ptn (by omega) hj]
  have p2' : pqf (cut2 a k) (a.length - k + 1) = pqf a a.length := by unfold pqf; rw [cut2_ptn' (by omega), ptn_n]
  have ne := fun i => f_ne (simp_of V.n3 V.may V.sim) i
  by_cases hon : ∃ e ∈ eds a, OnE (qp x) (qe e)
  · obtain ⟨i, s, hi, s0, s1, hxe⟩ := half_edge hon
    have hA := wn_edge V s0 s1 hxe
    have hl0 : locI a x = 0 := by
      rcases L with ⟨_, h⟩ | ⟨h, _⟩ | ⟨h, _⟩
      · exact h
      · obtain ⟨e, he, ho⟩ := hon; exact absurd ho (h e he)
      · obtain ⟨e, he, ho⟩ := hon; exact absurd ho (h e he)
    by_cases hik : i < k
    · have hx1 : qp x = onp (pqf (cut1 a k) i) (pqf (cut1 a k) (i + 1)) s := by rw [p1 i (by omega), p1 (i + 1) (by omega)]; exact hxe
      have on1 := on_at (l := cut1 a k) (i := i) (by rw [cut1_len (by omega)]; omega) s0 s1 hx1
      have hB := wn_edge V1 s0 s1 hx1
      rw [p1 i (by omega), p1 (i + 1) (by omega)] at hB
      have l1 : locI (cut1 a k) x = 0 := by
        obtain ⟨e, he, ho⟩ := on1
        rcases L1 with ⟨_, h⟩ | ⟨h, _⟩ | ⟨h, _⟩
        · exact h
        · exact absurd ho (h e he)
        · exact absurd ho (h e he)
      have l2 : locI (cut2 a k) x ≠ 1 := by
        rcases L2 with ⟨_, h⟩ | ⟨_, h, _⟩ | ⟨_, _, h⟩
        · omega
        · have := h _ (ne i)
          have := hsum (sq (pqf a (i + 1)) (pqf a i))
          omega
        · omega
      rw [hl0, l1]
      exact ⟨by omega, fun h => absurd h l2, by omega⟩
    · have q1 : pqf (cut2 a k) (i - k + 1) = pqf a i := by rw [p2 (i - k) (by omega)]; congr 1; omega
      have q2 : pqf (cut2 a k) (i - k + 1 + 1) = pqf a (i + 1) := by
        by_cases e : i + 1 < a.length
        · rw [p2 (i - k + 1) (by omega)]; congr 1; omega
        · rw [show i - k + 1 + 1 = a.length - k + 1 by omega, p2']; congr 1; omega
      have hx1 : qp x = onp (pqf (cut2 a k) (i - k + 1)) (pqf (cut2 a k) (i - k + 1 + 1)) s := by rw [q1, q2]; exact hxe
      have on1 := on_at (l := cut2 a k) (i := i - k + 1) (by rw [cut2_len (by omega)]; omega) s0 s1 hx1
      have hB := wn_edge V2 s0 s1 hx1
      rw [q1, q2] at hB
      have l2 : locI (cut2 a k) x = 0 := by
        obtain ⟨e, he, ho⟩ := on1
        rcases L2 with ⟨_, h⟩ | ⟨h, _⟩ | ⟨h, _⟩
        · exact h
        · exact absurd ho (h e he)
        · exact absurd ho (h e he)
      have l1 : locI (cut1 a k) x ≠ 1 := by
        rcases L1 with ⟨_, h⟩ | ⟨_, h, _⟩ | ⟨_, _, h⟩
        · omega
        · have := h _ (ne i)
          have := hsum (sq (pqf a (i + 1)) (pqf a i))
          omega
        · omega
      rw [hl0, l2]
      exact ⟨fun h => absurd h l1, by omega, by omega⟩
  · have hoff : ∀ e ∈ eds a, ¬ OnE (qp x) (qe e) := fun e he ho => hon ⟨e, he, ho⟩
    have c0 : qp x ≠ pqf a 0 := fun e => hoff _ (edn_mem (i := 0) (by omega)) (by rw [e]; exact on_left _ _)
    have ck : qp x ≠ pqf a k := fun e => hoff _ (edn_mem (i := k) (by omega)) (by rw [e]; exact on_left _ _)
    by_cases hc : OnE (qp x) (pqf a k, pqf a 0)
    · obtain ⟨s, s0, s1, hs⟩ := on_param hc
      have t0 : 0 < s := by
        refine Classical.byContradiction fun h => ck ?_
        have : s = 0 := by grind
        rw [hs, this, onp0]
      have t1 : s < 1 := by
        refine Classical.byContradiction fun h => c0 ?_
        have : s = 1 := by grind
        rw [hs, this, onp1]
      have hx1 : qp x = onp (pqf (cut1 a k) k) (pqf (cut1 a k) (k + 1)) s := by rw [p1 k (by omega), p1']; exact hs
      have q1 : pqf (cut2 a k) 1 = pqf a k := by have := p2 0 (by omega); simpa using this
      have hx2 : qp x = onp (pqf (cut2 a k) 0) (pqf (cut2 a k) (0 + 1)) (1 - s) := by
        rw [p20, Nat.zero_add, q1, hs]; refine Prod.ext ?_ ?_ <;> simp only [onp] <;> grind
      have on1 := on_at (l := cut1 a k) (i := k) (by rw [cut1_len (by omega)]; omega) s0 t1 hx1
      have on2 := on_at (l := cut2 a k) (i := 0) (by rw [cut2_len (by omega)]; omega) (by grind) (by grind) hx2
      have hA := wn_edge V1 s0 t1 hx1
      have hB := wn_rev V2 (i := 0) (s := 1 - s) (by grind) (by grind) hx2 rfl
      rw [p1 k (by omega), p1'] at hA
      rw [p20, Nat.zero_add, q1] at hB
      have hs2 := hsum (sq (pqf a 0) (pqf a k))
      rw [hA, hB] at hs2
      have l1 : locI (cut1 a k) x = 0 := by
        obtain ⟨e, he, ho⟩ := on1
        rcases L1 with ⟨_, h⟩ | ⟨h, _⟩ | ⟨h, _⟩
        · exact h
        · exact absurd ho (h e he)
        · exact absurd ho (h e he)
      have l2 : locI (cut2 a k) x = 0 := by
        obtain ⟨e, he, ho⟩ := on2
        rcases L2 with ⟨_, h⟩ | ⟨h, _⟩ | ⟨h, _⟩
        · exact h
        · exact absurd ho (h e he)
        · exact absurd ho (h e he)
      have hne : sq (pqf a 0) (pqf a k) ≠ (0, 0) := by
        refine sq_ne fun e => ck ?_
        rw [hs, e]; refine Prod.ext ?_ ?_ <;> simp only [onp] <;> grind
      have lA : locI a x = 1 := by
        rcases L with ⟨h, _⟩ | ⟨_, _, h⟩ | ⟨_, h, _⟩
        · exact absurd h hon
        · exact h
        · have := h _ hne; omega
      rw [lA, l1, l2]
      exact ⟨by omega, by omega, by omega⟩
    · have off1 : ∀ e ∈ eds (cut1 a k), ¬ OnE (qp x) (qe e) := fun e he ho => by
        rw [eds_cut1 (by omega), List.mem_append] at he
        rcases he with he | he
        · obtain ⟨j, hj, rfl⟩ := List.mem_map.1 he
          have := List.mem_range.1 hj
          exact hoff _ (edn_mem (by omega)) ho
        · simp only [List.mem_singleton] at he
          subst he
          exact hc ho
      have off2 : ∀ e ∈ eds (cut2 a k), ¬ OnE (qp x) (qe e) := fun e he ho => by
        rw [eds_cut2 (by omega), List.mem_cons] at he
        rcases he with rfl | he
        · exact hc (on_swap ho)
        · obtain ⟨j, hj, rfl⟩ := List.mem_map.1 he
          have := List.mem_range.1 hj
          exact hoff _ (edn_mem (by omega)) ho
      have hs := hsum (1, 0)
      rcases L with ⟨h, _⟩ | ⟨_, w, l⟩ | ⟨_, w, l⟩
      · exact absurd h hon
      all_goals
        rcases L1 with ⟨⟨e, he, ho⟩, _⟩ | ⟨_, w1, l1⟩ | ⟨_, w1, l1⟩
        · exact absurd ho (off1 e he)
        all_goals
          rcases L2 with ⟨⟨e, he, ho⟩, _⟩ | ⟨_, w2, l2⟩ | ⟨_, w2, l2⟩
          · exact absurd ho (off2 e he)
          all_goals
            have u := w _ d10
            have u1 := w1 _ d10
            have u2 := w2 _ d10
            rw [l, l1, l2]
            omega
end Go.Geo

namespace Go.Geo
set_option maxRecDepth 100000
set_option maxHeartbeats 4000000
set_option linter.unusedSimpArgs false
set_option linter.unusedVariables false
open Go Go.Zv
theorem find_some {n : Nat} {P : Nat → Bool} : ((List.range n).find? P).isSome = (List.range n).any P := by
  rw [Bool.eq_iff_iff, List.find?_isSome, List.any_eq_true]
theorem FC_isSome (a b : List Pt) : (FC a b).isSome = ((List.range a.length).any (fun i => (List.range b.length).any fun j => cutE (edn a i) (edn b j)) || ((List.range a.length).any (fun i => insB a i b) || (List.range b.length).any (fun j => insB b j a))) := by
  have e1 : (fcE a b).isSome = (List.range a.length).any (fun i => (List.range b.length).any fun j => cutE (edn a i) (edn b j)) := by
    unfold fcE; rw [find_some]
    exact any_congr2 fun i _ => by unfold fcJ; rw [find_some]
  have e2 : (fcA a b).isSome = (List.range a.length).any (fun i => insB a i b) := by unfold fcA; rw [find_some]
  have e3 : (fcA b a).isSome = (List.range b.length).any (fun i => insB b i a) := by unfold fcA; rw [find_some]
  rw [← e1, ← e2, ← e3]
  unfold FC
  cases h1 : fcE a b with
  | some i =>
    have : (fcJ a b i).isSome = true := by
      unfold fcE at h1
      rw [List.find?_range_eq_some] at h1
      exact h1.1
    simp [this]
  | none =>
    cases h2 : fcA a b with
    | some i => simp
    | none => simp
theorem cutE_comm' {a b : List Pt} (ha : a.all mayB = true) (hb : b.all mayB = true) (a0 : 0 < a.length) (b0 : 0 < b.length) (i j : Nat) : cutE (edn b j) (edn a i) = cutE (edn a i) (edn b j) := by
  have h1 := ptn_B ha a0 i
  have h2 := ptn_B ha a0 (i + 1)
  have h3 := ptn_B hb b0 j
  have h4 := ptn_B hb b0 (j + 1)
  unfold edn cutE; exact cut_s2 (B8_of h1 h2 h3 h4)
theorem cutE_sw {a b c d : Pt} (ha : B2 a) (hb : B2 b) (hc : B2 c) (hd : B2 d) : cutE (c, d) (a, b) = cutE (a, b) (c, d) := by
  unfold cutE; exact cut_s2 (B8_of ha hb hc hd)
theorem any_swap {n m : Nat} (f : Nat → Nat → Bool) : ((List.range n).any fun i => (List.range m).any (f i)) = (List.range m).any fun j => (List.range n).any fun i => f i j := by
  rw [Bool.eq_iff_iff]
  simp only [List.any_eq_true]
  exact ⟨fun ⟨i, hi, j, hj, h⟩ => ⟨j, hj, i, hi, h⟩, fun ⟨j, hj, i, hi, h⟩ => ⟨i, hi, j, hj, h⟩⟩
theorem FC_comm {a b : List Pt} (A : Val a) (B : Val b) : (FC a b).isSome = (FC b a).isSome := by
  have a3 := A.n3
  have b3 := B.n3
  rw [FC_isSome, FC_isSome, any_swap]
  have : ((List.range b.length).any fun j => (List.range a.length).any fun i => cutE (edn a i) (edn b j)) = (List.range b.length).any fun j => (List.range a.length).any fun i => cutE (edn b j) (edn a i) :=
    any_congr2 fun j _ => any_congr2 fun i _ => (cutE_comm' A.may B.may (by omega) (by omega) i j).symm
  rw [this]
  cases ((List.range b.length).any fun j => (List.range a.length).any fun i => cutE (edn b j) (edn a i)) <;> cases ((List.range a.length).any fun i => insB a i b) <;> cases ((List.range b.length).any fun j => insB b j a) <;> rfl
theorem icn_comm {a b : List Pt} (A : Val a) (B : Val b) (k i j : Int) : icnB a b k i j = icnB b a (if k = 2 then 3 else if k = 3 then 2 else k) j i := by
  have a3 := A.n3
  have b3 := B.n3
  unfold icnB
  by_cases h1 : k = 1
  · subst h1
    rw [if_pos rfl]
    simp only [show ¬ (1 : Int) = 2 from by decide, show ¬ (1 : Int) = 3 from by decide, if_false, if_true]
    rw [cutE_comm' A.may B.may (by omega) (by omega)]
    cases decide (0 ≤ i ∧ i < a.length) <;> cases decide (0 ≤ j ∧ j < b.length) <;> rfl
  · by_cases h2 : k = 2
    · subst h2; simp
    · by_cases h3 : k = 3
      · subst h3; simp
      · simp [h1, h2, h3]
theorem isep_comm (a b : List Pt) (o d : Int) (h : 0 ≤ o ∧ o ≤ 1) : isepB a b o d = isepB b a (1 - o) d := by
  rcases (show o = 0 ∨ o = 1 by omega) with rfl | rfl
  · simp [isepB]
  · simp [isepB]
/-! separation -/
theorem cr_lin (P Q x : Pt) (y : Pt) : xq (sq (qp Q) (qp P)) (sq (qp y) (qp x)) = ((cr P.1 P.2 Q.1 Q.2 y.1 y.2 - cr P.1 P.2 Q.1 Q.2 x.1 x.2 : Int) : Rat) := by
  rw [Rat.intCast_sub, ← xq_int, ← xq_int]; unfold xq sq; grind
theorem sep_no {a b : List Pt} (A : Val a) (B : Val b) {P Q : Pt} (hP : B2 P) (hQ : B2 Q) (h1 : ∀ p ∈ a, 0 ≤ cr P.1 P.2 Q.1 Q.2 p.1 p.2) (h2 : ∀ q ∈ b, cr P.1 P.2 Q.1 Q.2 q.1 q.2 < 0) :
    (∀ e ∈ eds a, ∀ f ∈ eds b, cutE e f = false) ∧ (∀ p ∈ a, locI b p = -1) ∧ ∀ q ∈ b, locI a q = -1 := by
  have b3 := B.n3
  have hd : sq (qp Q) (qp P) ≠ (0, 0) := by
    intro e
    have hq := h2 _ (ptn_mem (l := b) 0 (by omega))
    have := xq_int P Q (ptn b 0)
    rw [e] at this
    have z : xq (0, 0) (sq (qp (ptn b 0)) (qp P)) = 0 := by unfold xq; grind
    rw [z] at this
    have := Rat.intCast_neg_iff.2 hq
    grind
  refine ⟨fun e he f hf => ?_, fun p hp => ?_, fun q hq => ?_⟩
  · cases hc : cutE e f with
    | false => rfl
    | true =>
      exfalso
      obtain ⟨e1, e2⟩ := eds_B A.may he
      obtain ⟨f1, f2⟩ := eds_B B.may hf
      obtain ⟨z, z1, z2⟩ := (cut_meets e1 e2 f1 f2).1 hc
      obtain ⟨m1, m2⟩ := eds_mem he
      obtain ⟨m3, m4⟩ := eds_mem hf
      obtain ⟨s, s0, s1, hs⟩ := on_param z1
      obtain ⟨t, t0, t1, ht⟩ := on_param z2
      have k1 := Rat.intCast_nonneg.2 (h1 _ m1)
      have k2 := Rat.intCast_nonneg.2 (h1 _ m2)
      have k3 := Rat.intCast_neg_iff.2 (h2 _ m3)
      have k4 := Rat.intCast_neg_iff.2 (h2 _ m4)
      rw [← xq_int] at k1 k2 k3 k4
      have w1 : xq (sq (qp Q) (qp P)) (sq z (qp P)) = (1 - s) * xq (sq (qp Q) (qp P)) (sq (qp e.1) (qp P)) + s * xq (sq (qp Q) (qp P)) (sq (qp e.2) (qp P)) := by rw [hs]; unfold xq sq onp; grind
      have w2 : xq (sq (qp Q) (qp P)) (sq z (qp P)) = (1 - t) * xq (sq (qp Q) (qp P)) (sq (qp f.1) (qp P)) + t * xq (sq (qp Q) (qp P)) (sq (qp f.2) (qp P)) := by rw [ht]; unfold xq sq onp; grind
      have n1 := Rat.mul_nonneg (show 0 ≤ 1 - s by grind) k1
      have n2 := Rat.mul_nonneg s0 k2
      have n3 : xq (sq (qp Q) (qp P)) (sq z (qp P)) < 0 := by
        rw [w2]
        by_cases ht0 : t = 0
        · rw [ht0]; grind
        · have n3 := Rat.mul_nonneg (show 0 ≤ 1 - t by grind) (show 0 ≤ -xq (sq (qp Q) (qp P)) (sq (qp f.1) (qp P)) by grind)
          have n4 := Rat.mul_pos (show 0 < t by grind) (show 0 < -xq (sq (qp Q) (qp P)) (sq (qp f.2) (qp P)) by grind)
          grind
      rw [w1] at n3
      grind
  · refine loc_side B.may (mayB_B2 (List.all_eq_true.1 A.may _ hp)) hd fun q hq => ?_
    rw [cr_lin, Rat.intCast_neg_iff]
    have := h1 p hp; have := h2 q hq; omega
  · refine loc_side' A.may (mayB_B2 (List.all_eq_true.1 B.may _ hq)) hd fun p hp => ?_
    rw [cr_lin, Rat.intCast_pos]
    have := h1 p hp; have := h2 q hq; omega
theorem ori_sgn {P Q x : Pt} (hP : B2 P) (hQ : B2 Q) (hx : B2 x) : oriE P Q x < 0 ↔ cr P.1 P.2 Q.1 Q.2 x.1 x.2 < 0 := by
  unfold oriE
  rw [crW_B hP.1 hP.2 hQ.1 hQ.2 hx.1 hx.2]
  unfold sgn; repeat' split
  all_goals omega
theorem sepAt_no {a b : List Pt} (A : Val a) (B : Val b) (hc : cvxB a = true) {d : Int} (h : sepAt a b d = true) : (∀ e ∈ eds a, ∀ f ∈ eds b, cutE e f = false) ∧ (∀ p ∈ a, locI b p = -1) ∧ ∀ q ∈ b, locI a q = -1 := by
  have a3 := A.n3
  unfold sepAt at h
  rw [Bool.and_eq_true, decide_eq_true_eq] at h
  obtain ⟨hd, hb⟩ := h
  have b1 := ptn_B A.may (by omega) d.toNat
  have b2 := ptn_B A.may (by omega) (d.toNat + 1)
  refine sep_no A B b1 b2 (fun p hp => ?_) fun q hq => ?_
  · unfold cvxB at hc
    rw [Bool.not_eq_true', List.any_eq_false] at hc
    have h1 := hc d.toNat (List.mem_range.2 (by omega))
    rw [Bool.not_eq_true, List.any_eq_false] at h1
    obtain ⟨k, hk, rfl⟩ := List.getElem_of_mem hp
    have h2 := h1 k (List.mem_range.2 hk)
    have e : a[k] = ptn a k := by
      have := ptn_get hk
      rw [List.getElem?_eq_getElem hk] at this
      simpa using this
    unfold rgtE at h2
    rw [decide_eq_true_eq, ori_sgn b1 b2 (ptn_B A.may (by omega) k)] at h2
    rw [e]; omega
  · unfold beyB at hb
    have := List.all_eq_true.1 hb q hq
    rw [decide_eq_true_eq] at this
    exact (ori_sgn b1 b2 (mayB_B2 (List.all_eq_true.1 B.may _ hq))).1 this
theorem ins_false {a b : List Pt} {i : Int} (h : ∀ p ∈ a, locI b p = -1) : insB a i b = false := by
  unfold insB
  by_cases h1 : 0 ≤ i
  · by_cases h2 : i < a.length
    · have := h _ (List.mem_of_getElem? (ptn_get (l := a) (k := i.toNat) (by omega)))
      simp [this]
    · simp [h2]
  · simp [h1]
theorem no_contact {a b : List Pt} (h1 : ∀ e ∈ eds a, ∀ f ∈ eds b, cutE e f = false) (h2 : ∀ p ∈ a, locI b p = -1) (h3 : ∀ q ∈ b, locI a q = -1) : (FC a b).isSome = false ∧ ∀ k i j, icnB a b k i j = false := by
  constructor
  · rw [FC_isSome]
    simp only [Bool.or_eq_false_iff, List.any_eq_false]
    refine ⟨fun i hi h => ?_, fun i _ => by rw [ins_false h2]; simp, fun i _ => by rw [ins_false h3]; simp⟩
    rw [List.any_eq_true] at h
    obtain ⟨j, hj, h⟩ := h
    rw [h1 _ (edn_mem (List.mem_range.1 hi)) _ (edn_mem (List.mem_range.1 hj))] at h
    cases h
  · intro k i j
    unfold icnB
    by_cases k1 : k = 1
    · rw [if_pos k1]
      by_cases hi : 0 ≤ i ∧ i < a.length
      · by_cases hj : 0 ≤ j ∧ j < b.length
        · rw [h1 _ (edn_mem (l := a) (i := i.toNat) (by omega)) _ (edn_mem (l := b) (i := j.toNat) (by omega))]; simp
        · simp [hj]
      · simp [hi]
    · rw [if_neg k1, ins_false h2, ins_false h3]; simp
theorem isep_no {a b : List Pt} (A : Val a) (B : Val b) {o d : Int} (ca : o = 0 → cvxB a = true) (cb : o = 1 → cvxB b = true) (h : isepB a b o d = true) : (FC a b).isSome = false ∧ ∀ k i j, icnB a b k i j = false := by
  unfold isepB at h
  by_cases ho : o = 1
  · rw [if_pos ho] at h
    obtain ⟨h1, h2, h3⟩ := sepAt_no B A (cb ho) h
    refine no_contact (fun e he f hf => ?_) h3 h2
    obtain ⟨e1, e2⟩ := eds_B A.may he
    obtain ⟨f1, f2⟩ := eds_B B.may hf
    have := cutE_sw f1 f2 e1 e2
    rw [show (e.1, e.2) = e from rfl, show (f.1, f.2) = f from rfl] at this
    rw [this]; exact h1 f hf e he
  · rw [if_neg ho, Bool.and_eq_true, decide_eq_true_eq] at h
    obtain ⟨h1, h2, h3⟩ := sepAt_no A B (ca h.1) h.2
    exact no_contact h1 h2 h3
/-! the criterion -/
theorem loc_same {a b : List Pt} (A : Val a) (B : Val b) (h : ∀ i j, i < a.length → j < b.length → cutE (edn a i) (edn b j) = false) : ∀ i, i < a.length → locI b (ptn a i) = locI b (ptn a 0) := by
  have a3 := A.n3
  have b3 := B.n3
  intro i
  induction i with
  | zero => intro _; rfl
  | succ i ih =>
    intro hi
    rw [← ih (by omega)]
    refine ((loc_walk B.may (ptn_B A.may (by omega) i) (ptn_B A.may (by omega) (i + 1)) fun e he => ?_).1).symm
    rw [eds_range, List.mem_map] at he
    obtain ⟨j, hj, rfl⟩ := he
    have hj := List.mem_range.1 hj
    have := cutE_comm' A.may B.may (by omega) (by omega) i j
    show cutE (edn b j) (edn a i) = false
    rw [this]; exact h i j (by omega) hj
theorem loc_vals (l : List Pt) (p : Pt) : locI l p = 0 ∨ locI l p = 1 ∨ locI l p = -1 := by
  unfold locI; split
  · exact .inl rfl
  · split
    · exact .inr (.inl rfl)
    · exact .inr (.inr rfl)
theorem criterion {a b : List Pt} (A : Val a) (B : Val b) : (FC a b).isSome = ((List.range a.length).any (fun i => (List.range b.length).any fun j => cutE (edn a i) (edn b j)) || (decide (0 ≤ locI b (ptn a 0)) || decide (0 ≤ locI a (ptn b 0)))) := by
  have a3 := A.n3
  have b3 := B.n3
  rw [FC_isSome]
  cases hc : (List.range a.length).any (fun i => (List.range b.length).any fun j => cutE (edn a i) (edn b j)) with
  | true => rfl
  | false =>
    have hn : ∀ i j, i < a.length → j < b.length → cutE (edn a i) (edn b j) = false := fun i j hi hj => by
      have h1 := List.any_eq_false.1 hc i (List.mem_range.2 hi)
      rw [Bool.not_eq_true] at h1
      have h2 := List.any_eq_false.1 h1 j (List.mem_range.2 hj)
      simpa using h2
    have key : ∀ {a b : List Pt}, Val a → Val b → (∀ i j, i < a.length → j < b.length → cutE (edn a i) (edn b j) = false) → (List.range a.length).any (fun i => insB a i b) = decide (0 ≤ locI b (ptn a 0)) := by
      intro a b A B hn
      have a3 := A.n3
      have hs := loc_same A B hn
      have lv := loc_vals b (ptn a 0)
      rw [Bool.eq_iff_iff, List.any_eq_true, decide_eq_true_eq]
      constructor
      · rintro ⟨i, hi, h⟩
        have hi := List.mem_range.1 hi
        unfold insB at h
        simp only [Bool.and_eq_true, decide_eq_true_eq] at h
        have := h.2.2
        rw [Int.toNat_natCast, hs i hi] at this
        omega
      · intro h
        refine ⟨0, List.mem_range.2 (by omega), ?_⟩
        unfold insB
        simp only [Bool.and_eq_true, decide_eq_true_eq]
        refine ⟨by omega, by omega, ?_⟩
        show locI b (ptn a 0) ≠ -1
        omega
    rw [key A B hn, key B A fun i j hi hj => by rw [cutE_comm' A.may B.may (by omega) (by omega)]; exact hn j i hj hi]
end Go.Geo

namespace Go.Geo
set_option maxRecDepth 100000
set_option maxHeartbeats 4000000
set_option linter.unusedSimpArgs false
set_option linter.unusedVariables false
open Go Go.Zv
/-- an edge that the reference counts -/
def cntE (p : Pt) (e : Pt × Pt) : Bool := (decide (e.1.2 ≤ p.2) && (decide (p.2 < e.2.2) && decide (0 < crW e.1.1 e.1.2 e.2.1 e.2.2 p.1 p.2))) || (decide (e.2.2 ≤ p.2) && (decide (p.2 < e.1.2) && decide (0 < crW e.2.1 e.2.2 e.1.1 e.1.2 p.1 p.2)))
def hasF (p : Pt) (x : Int) (e : Pt × Pt) : Int := if cntE p e = true then w64 (x + 1) else x
theorem cnt_fl {p : Pt} {e : Pt × Pt} (hp : B2 p) (h1 : B2 e.1) (h2 : B2 e.2) (hn : onE p e = false) : cntE p e = flE p e := by
  have hon : ¬ (withinB e.1.1 e.1.2 e.2.1 e.2.2 p.1 p.2 = true ∧ cr e.1.1 e.1.2 e.2.1 e.2.2 p.1 p.2 = 0) := fun h => by
    have := (onE_meets hp h1 h2).2 ((onE_int p e.1 e.2).2 h)
    rw [this] at hn; cases hn
  unfold cntE flE
  rw [crW_B h1.1 h1.2 h2.1 h2.2 hp.1 hp.2, crW_B h2.1 h2.2 h1.1 h1.2 hp.1 hp.2, cr_swap e.1.1 e.1.2 e.2.1 e.2.2 p.1 p.2]
  have s1 : 0 < sgn (cr e.1.1 e.1.2 e.2.1 e.2.2 p.1 p.2) ↔ 0 < cr e.1.1 e.1.2 e.2.1 e.2.2 p.1 p.2 := by unfold sgn; repeat' split
                                                                                                        all_goals omega
  simp only [s1]
  by_cases a : p.2 < e.1.2 <;> by_cases b : p.2 < e.2.2
  · have a' : ¬ e.1.2 ≤ p.2 := by omega
    have b' : ¬ e.2.2 ≤ p.2 := by omega
    simp [a, b, a', b']
  · have a' : ¬ e.1.2 ≤ p.2 := by omega
    have b' : e.2.2 ≤ p.2 := by omega
    have c : ¬ e.1.2 < e.2.2 := by omega
    have hne : cr e.1.1 e.1.2 e.2.1 e.2.2 p.1 p.2 ≠ 0 := fun hc => hon ⟨w_y hc (by omega) (by rw [mul_nn]; omega), hc⟩
    by_cases d : 0 < cr e.1.1 e.1.2 e.2.1 e.2.2 p.1 p.2
    · have d' : ¬ 0 < -cr e.1.1 e.1.2 e.2.1 e.2.2 p.1 p.2 := by omega
      simp [a, b, a', b', c, d]; omega
    · have d' : 0 < -cr e.1.1 e.1.2 e.2.1 e.2.2 p.1 p.2 := by omega
      simp [a, b, a', b', c, d]; omega
  · have a' : e.1.2 ≤ p.2 := by omega
    have b' : ¬ e.2.2 ≤ p.2 := by omega
    have c : e.1.2 < e.2.2 := by omega
    by_cases d : 0 < cr e.1.1 e.1.2 e.2.1 e.2.2 p.1 p.2
    · simp [a, b, a', b', c, d]
    · simp [a, b, a', b', c, d]
  · have a' : e.1.2 ≤ p.2 := by omega
    have b' : e.2.2 ≤ p.2 := by omega
    simp [a, b, a', b']
theorem has_par (p : Pt) (es : List (Pt × Pt)) (h : ∀ e ∈ es, cntE p e = flE p e) : ∀ (x : Int) (b : Bool), 0 ≤ x → x + es.length ≤ 1000 → b = decide (x % 2 = 1) → 0 ≤ es.foldl (hasF p) x ∧ es.foldl (parF p) b = decide ((es.foldl (hasF p) x) % 2 = 1) := by
  induction es with
  | nil => intro x b h1 _ hb; exact ⟨h1, hb⟩
  | cons e l ih =>
    intro x b h1 h2 hb
    rw [List.foldl_cons, List.foldl_cons]
    simp only [List.length_cons] at h2
    have hw : w64 (x + 1) = x + 1 := wrap_small (by omega) (by omega)
    refine ih (fun f hf => h f (by simp [hf])) _ _ ?_ ?_ ?_
    · unfold hasF; split <;> omega
    · unfold hasF; split <;> omega
    · unfold parF hasF
      rw [← h e (by simp), hw, hb]
      cases cntE p e with
      | true =>
        simp only [if_true]
        by_cases hx : x % 2 = 1
        · have : ¬ (x + 1) % 2 = 1 := by omega
          simp [hx, this]
        · have : (x + 1) % 2 = 1 := by omega
          simp [hx, this]
      | false => simp
def tcJ (a b : List Pt) (k : Int) (i : Nat) : Option Nat := (List.range b.length).find? fun j => icnB a b k i j
def tcI (a b : List Pt) (k : Int) : Option Nat := (List.range a.length).find? fun i => (tcJ a b k i).isSome
/-- the reference's first witness -/
def TC (a b : List Pt) : Option (Int × Int × Int) :=
  match tcI a b 1 with
  | some i => Option.map (fun j : Nat => ((1 : Int), (i : Int), (j : Int))) (tcJ a b 1 i)
  | none => match tcI a b 2 with
    | some i => Option.map (fun j : Nat => ((2 : Int), (i : Int), (j : Int))) (tcJ a b 2 i)
    | none => match tcI a b 3 with
      | some i => Option.map (fun j : Nat => ((3 : Int), (i : Int), (j : Int))) (tcJ a b 3 i)
      | none => none
theorem find_congr2 {n : Nat} {f g : Nat → Bool} (h : ∀ i, i < n → f i = g i) : (List.range n).find? f = (List.range n).find? g := by
  have : ∀ l : List Nat, (∀ i ∈ l, f i = g i) → l.find? f = l.find? g := by
    intro l
    induction l with
    | nil => intro _; rfl
    | cons a l ih =>
      intro h
      rw [List.find?_cons, List.find?_cons, h a (by simp), ih fun i hi => h i (by simp [hi])]
  exact this _ fun i hi => h i (List.mem_range.1 hi)
theorem TC_FC {a b : List Pt} (a0 : 0 < a.length) (b0 : 0 < b.length) : TC a b = FC a b := by
  have e1 : ∀ i, i < a.length → tcJ a b 1 i = fcJ a b i := fun i hi => find_congr2 fun j hj => by
    unfold icnB
    rw [if_pos rfl, Int.toNat_natCast, Int.toNat_natCast, decide_eq_true (by omega), decide_eq_true (by omega)]; rfl
  have e2 : tcI a b 1 = fcE a b := find_congr2 fun i hi => by rw [e1 i hi]
  have j2 : ∀ i, i < a.length → tcJ a b 2 i = if insB a i b = true then some 0 else none := fun i hi => by
    by_cases h : insB a i b = true
    · rw [if_pos h]
      unfold tcJ; rw [List.find?_range_eq_some]
      refine ⟨?_, List.mem_range.2 b0, fun j hj => by omega⟩
      unfold icnB
      rw [if_neg (by decide), if_pos rfl, h]; rfl
    · rw [if_neg h]
      unfold tcJ; rw [List.find?_eq_none]
      intro j _
      unfold icnB
      rw [if_neg (by decide), if_pos rfl]
      have : insB a i b = false := by simpa using h
      rw [this]; simp
  have e3 : tcI a b 2 = fcA a b := find_congr2 fun i hi => by
    rw [j2 i hi]; by_cases h : insB a i b = true <;> simp [h]
  have j3 : ∀ i, i < a.length → tcJ a b 3 i = if i = 0 then fcA b a else none := fun i hi => by
    by_cases h : i = 0
    · rw [if_pos h]
      subst h
      refine find_congr2 fun j hj => ?_
      unfold icnB
      rw [if_neg (by decide), if_neg (by decide), if_pos rfl]
      simp
    · rw [if_neg h]
      unfold tcJ; rw [List.find?_eq_none]
      intro j _
      unfold icnB
      rw [if_neg (by decide), if_neg (by decide), if_pos rfl, decide_eq_false (by omega)]; simp
  unfold TC FC
  rw [e2, e3]
  cases h1 : fcE a b with
  | some i =>
    have hi : i < a.length := by unfold fcE at h1; rw [List.find?_range_eq_some] at h1; exact List.mem_range.1 h1.2.1
    simp only [e1 i hi]
  | none =>
    simp only
    cases h2 : fcA a b with
    | some i =>
      have hh := h2
      unfold fcA at hh
      rw [List.find?_range_eq_some] at hh
      have hi := List.mem_range.1 hh.2.1
      simp only [j2 i hi, hh.1, if_true, Option.map_some]; rfl
    | none =>
      simp only
      cases h3 : fcA b a with
      | some j =>
        have : tcI a b 3 = some 0 := by
          unfold tcI; rw [List.find?_range_eq_some]
          exact ⟨by rw [j3 0 a0, if_pos rfl, h3]; rfl, List.mem_range.2 a0, fun j hj => by omega⟩
        rw [this]
        simp only [j3 0 a0, if_true, h3]; rfl
      | none =>
        have : tcI a b 3 = none := by
          unfold tcI; rw [List.find?_eq_none]
          intro i hi
          rw [j3 i (List.mem_range.1 hi)]
          by_cases h : i = 0 <;> simp [h, h3]
        rw [this]; rfl
end Go.Geo
namespace Go.Proofs.Yteellikeoiedbaa
set_option maxRecDepth 100000
set_option maxHeartbeats 4000000
set_option linter.unusedSimpArgs false
set_option linter.unusedVariables false
open Go Go.Zv
open Go.Geo
theorem c49 (a b : List Pt) (ha : a.length ≤ 1000000000) (hb : b.length ≤ 1000000000) (i : Nat) (hi : i < a.length) : pc E 49 [.vs (a.map c2), .int .i64 i, .vs (b.map c2)] = some (.bool (beyB (edn a i) b)) := by
  have lp := loop_leave (σ := Unit) (fun S => (K E A49_L0 S).bind (blockR 0 (some []) [6, 7, 21, 28]))
    (fun k _ => ⟨[(0, .vs (a.map c2)), (1, .int .i64 i), (2, .vs (b.map c2)), (7, .int .i64 k)], [], [], 0⟩)
    b (fun _ _ => ()) (fun p => !decide (oriE (edn a i).1 (edn a i).2 p < 0))
    (fun o => o = some (.ex .ret ⟨[(6, .bool false)], [], [], 0⟩))
    (fun _ => some (.ex .nrm ⟨[], [], [], 0⟩))
    (fun x => by
      show (K E A49_L0 _).bind _ = _
      rw [A49_L0_eq]; simp +contextual -implicitDefEqProofs (maxSteps := 2000000) only [go_sem, ↓reduceIte, Nat.reduceAdd, Nat.reduceMul, Nat.reduceSub, Nat.reduceEqDiff, Nat.reduceLeDiff, Nat.reduceDiv, Nat.reduceMod, Nat.reduceBEq, Nat.reduceBNe, reduceCtorEq, Int.reduceLE, Int.reduceLT, Int.reduceToNat, Int.reduceNeg, Nat.reduceLT, Int.reduceEq, Int.reduceSub, Int.reduceAdd, Int.reduceMul, Nat.reducePow, Int.reduceBEq, Int.reduceBNe, Int.reduceMod, A49_L0b, Int.lt_irrefl, List.length_map])
    (fun k p x hk hp => by
      have g3 := get_c2 hp
      obtain ⟨_, g1, g2⟩ := eds_get (edn_get hi)
      have g1 := get_c2 g1
      have g2 := get_c2 g2
      have o2 := c51 a ha i hi
      obtain ⟨_, _, _, m4, m5⟩ := mod_nat hi ha
      have h1 : (k : Int) < b.length := by omega
      have h0 : (0 : Int) ≤ k := by omega
      have i1 : (i : Int) < a.length := by omega
      have i0 : (0 : Int) ≤ i := by omega
      have hw := wr_k (k := k) (by omega)
      have o1 := c53 (edn a i).1.1 (edn a i).1.2 (edn a i).2.1 (edn a i).2.2 p.1 p.2
      unfold oriE
      have sc := sgn_cases (crW (edn a i).1.1 (edn a i).1.2 (edn a i).2.1 (edn a i).2.2 p.1 p.2)
      generalize sgn (crW (edn a i).1.1 (edn a i).1.2 (edn a i).2.1 (edn a i).2.2 p.1 p.2) = s at *
      generalize edn a i = e at *
      refine ⟨fun h => ?_, fun h => ?_⟩
      · have h' : ¬ s < 0 := by simpa using h
        have h2 : ¬ s = -1 := by omega
        have h3 : (s != -1) = true := by simpa using h2
        show (K E A49_L0 _).bind _ = _
        rw [A49_L0_eq]
        simp +contextual -implicitDefEqProofs (maxSteps := 2000000) only [go_sem, ↓reduceIte, Nat.reduceAdd, Nat.reduceMul, Nat.reduceSub, Nat.reduceEqDiff, Nat.reduceLeDiff, Nat.reduceDiv, Nat.reduceMod, Nat.reduceBEq, Nat.reduceBNe, reduceCtorEq, Int.reduceLE, Int.reduceLT, Int.reduceToNat, Int.reduceNeg, Nat.reduceLT, Int.reduceEq, Int.reduceSub, Int.reduceAdd, Int.reduceMul, Nat.reducePow, Int.reduceBEq, Int.reduceBNe, Int.reduceMod, A49_L0b, List.length_map, h0, h1, i0, i1, g1, g2, g3, m4, m5, o2, o1, hw, h2, h3]
      · have h' : s < 0 := by simpa using h
        have h2 : s = -1 := by omega
        subst h2
        show (K E A49_L0 _).bind _ = (K E A49_L0 _).bind _
        conv => lhs; rw [A49_L0_eq]
        simp +contextual -implicitDefEqProofs (maxSteps := 2000000) only [go_sem, ↓reduceIte, Nat.reduceAdd, Nat.reduceMul, Nat.reduceSub, Nat.reduceEqDiff, Nat.reduceLeDiff, Nat.reduceDiv, Nat.reduceMod, Nat.reduceBEq, Nat.reduceBNe, reduceCtorEq, Int.reduceLE, Int.reduceLT, Int.reduceToNat, Int.reduceNeg, Nat.reduceLT, Int.reduceEq, Int.reduceSub, Int.reduceAdd, Int.reduceMul, Nat.reducePow, Int.reduceBEq, Int.reduceBNe, Int.reduceMod, A49_L0b, List.length_map, h0, h1, i0, i1, g1, g2, g3, m4, m5, o2, o1, hw, bne_self_eq_false])
    ()
  simp only [Int.natCast_zero, Int.ofNat_zero] at lp
  have e : (b.any fun p => !decide (oriE (edn a i).1 (edn a i).2 p < 0)) = !beyB (edn a i) b := by unfold beyB; rw [List.all_eq_not_any_not]; simp only [Bool.not_not]
  rw [e] at lp
  cases hb' : beyB (edn a i) b <;> rw [hb'] at lp
  · have lq := lp.1 rfl
    rw [pc_eq]; simp +contextual -implicitDefEqProofs (maxSteps := 2000000) only [go_sem, ↓reduceIte, Nat.reduceAdd, Nat.reduceMul, Nat.reduceSub, Nat.reduceEqDiff, Nat.reduceLeDiff, Nat.reduceDiv, Nat.reduceMod, Nat.reduceBEq, Nat.reduceBNe, reduceCtorEq, Int.reduceLE, Int.reduceLT, Int.reduceToNat, Int.reduceNeg, Nat.reduceLT, Int.reduceEq, Int.reduceSub, Int.reduceAdd, Int.reduceMul, Nat.reducePow, Int.reduceBEq, Int.reduceBNe, Int.reduceMod, E_49, A49, List.length_map, lq]
  · have lq := lp.2 rfl
    rw [pc_eq]; simp +contextual -implicitDefEqProofs (maxSteps := 2000000) only [go_sem, ↓reduceIte, Nat.reduceAdd, Nat.reduceMul, Nat.reduceSub, Nat.reduceEqDiff, Nat.reduceLeDiff, Nat.reduceDiv, Nat.reduceMod, Nat.reduceBEq, Nat.reduceBNe, reduceCtorEq, Int.reduceLE, Int.reduceLT, Int.reduceToNat, Int.reduceNeg, Nat.reduceLT, Int.reduceEq, Int.reduceSub, Int.reduceAdd, Int.reduceMul, Nat.reducePow, Int.reduceBEq, Int.reduceBNe, Int.reduceMod, E_49, A49, List.length_map, lq]
theorem c21 (a b : List Pt) (ha : a.length ≤ 1000000000) (hb : b.length ≤ 1000000000) (o d : Int) : pc E 21 [.vs (a.map c2), .vs (b.map c2), .agg [.int .i64 o, .int .i64 d]] = some (.bool (isepB a b o d)) := by
  have q1 : ∀ i : Nat, d = i → i < a.length → pc E 49 [.vs (a.map c2), .int .i64 d, .vs (b.map c2)] = some (.bool (beyB (edn a d.toNat) b)) := fun i h hi => by subst h; rw [Int.toNat_natCast]; exact c49 a b ha hb i hi
  have q2 : ∀ i : Nat, d = i → i < b.length → pc E 49 [.vs (b.map c2), .int .i64 d, .vs (a.map c2)] = some (.bool (beyB (edn b d.toNat) a)) := fun i h hi => by subst h; rw [Int.toNat_natCast]; exact c49 b a hb ha i hi
  unfold isepB sepAt
  generalize beyB (edn a d.toNat) b = B1 at *
  generalize beyB (edn b d.toNat) a = B2' at *
  by_cases h0 : o = 0
  · subst h0
    rw [if_neg (by decide), decide_eq_true rfl, Bool.true_and]
    by_cases d0 : 0 ≤ d
    · by_cases d1 : d < a.length
      · have q := q1 d.toNat (by omega) (by omega)
        rw [decide_eq_true (⟨d0, d1⟩ : 0 ≤ d ∧ d < a.length), Bool.true_and]
        rw [pc_eq]; simp +contextual -implicitDefEqProofs (maxSteps := 2000000) only [go_sem, ↓reduceIte, Nat.reduceAdd, Nat.reduceMul, Nat.reduceSub, Nat.reduceEqDiff, Nat.reduceLeDiff, Nat.reduceDiv, Nat.reduceMod, Nat.reduceBEq, Nat.reduceBNe, reduceCtorEq, Int.reduceLE, Int.reduceLT, Int.reduceToNat, Int.reduceNeg, Nat.reduceLT, Int.reduceEq, Int.reduceSub, Int.reduceAdd, Int.reduceMul, Nat.reducePow, Int.reduceBEq, Int.reduceBNe, Int.reduceMod, E_21, A21, List.length_map, d0, d1, q, beq_self_eq_true]
      · rw [decide_eq_false (fun h => d1 h.2), Bool.false_and]
        rw [pc_eq]; simp +contextual -implicitDefEqProofs (maxSteps := 2000000) only [go_sem, ↓reduceIte, Nat.reduceAdd, Nat.reduceMul, Nat.reduceSub, Nat.reduceEqDiff, Nat.reduceLeDiff, Nat.reduceDiv, Nat.reduceMod, Nat.reduceBEq, Nat.reduceBNe, reduceCtorEq, Int.reduceLE, Int.reduceLT, Int.reduceToNat, Int.reduceNeg, Nat.reduceLT, Int.reduceEq, Int.reduceSub, Int.reduceAdd, Int.reduceMul, Nat.reducePow, Int.reduceBEq, Int.reduceBNe, Int.reduceMod, E_21, A21, List.length_map, d0, d1, beq_self_eq_true]
    · rw [decide_eq_false (fun h => d0 h.1), Bool.false_and]
      rw [pc_eq]; simp +contextual -implicitDefEqProofs (maxSteps := 2000000) only [go_sem, ↓reduceIte, Nat.reduceAdd, Nat.reduceMul, Nat.reduceSub, Nat.reduceEqDiff, Nat.reduceLeDiff, Nat.reduceDiv, Nat.reduceMod, Nat.reduceBEq, Nat.reduceBNe, reduceCtorEq, Int.reduceLE, Int.reduceLT, Int.reduceToNat, Int.reduceNeg, Nat.reduceLT, Int.reduceEq, Int.reduceSub, Int.reduceAdd, Int.reduceMul, Nat.reducePow, Int.reduceBEq, Int.reduceBNe, Int.reduceMod, E_21, A21, List.length_map, d0, beq_self_eq_true]
  · have h0' : (o == 0) = false := by simpa using h0
    by_cases h1 : o = 1
    · subst h1
      rw [if_pos rfl]
      by_cases d0 : 0 ≤ d
      · by_cases d1 : d < b.length
        · have q := q2 d.toNat (by omega) (by omega)
          rw [decide_eq_true (⟨d0, d1⟩ : 0 ≤ d ∧ d < b.length), Bool.true_and]
          rw [pc_eq]; simp +contextual -implicitDefEqProofs (maxSteps := 2000000) only [go_sem, ↓reduceIte, Nat.reduceAdd, Nat.reduceMul, Nat.reduceSub, Nat.reduceEqDiff, Nat.reduceLeDiff, Nat.reduceDiv, Nat.reduceMod, Nat.reduceBEq, Nat.reduceBNe, reduceCtorEq, Int.reduceLE, Int.reduceLT, Int.reduceToNat, Int.reduceNeg, Nat.reduceLT, Int.reduceEq, Int.reduceSub, Int.reduceAdd, Int.reduceMul, Nat.reducePow, Int.reduceBEq, Int.reduceBNe, Int.reduceMod, E_21, A21, List.length_map, d0, d1, q, beq_self_eq_true]
        · rw [decide_eq_false (fun h => d1 h.2), Bool.false_and]
          rw [pc_eq]; simp +contextual -implicitDefEqProofs (maxSteps := 2000000) only [go_sem, ↓reduceIte, Nat.reduceAdd, Nat.reduceMul, Nat.reduceSub, Nat.reduceEqDiff, Nat.reduceLeDiff, Nat.reduceDiv, Nat.reduceMod, Nat.reduceBEq, Nat.reduceBNe, reduceCtorEq, Int.reduceLE, Int.reduceLT, Int.reduceToNat, Int.reduceNeg, Nat.reduceLT, Int.reduceEq, Int.reduceSub, Int.reduceAdd, Int.reduceMul, Nat.reducePow, Int.reduceBEq, Int.reduceBNe, Int.reduceMod, E_21, A21, List.length_map, d0, d1, beq_self_eq_true]
      · rw [decide_eq_false (fun h => d0 h.1), Bool.false_and]
        rw [pc_eq]; simp +contextual -implicitDefEqProofs (maxSteps := 2000000) only [go_sem, ↓reduceIte, Nat.reduceAdd, Nat.reduceMul, Nat.reduceSub, Nat.reduceEqDiff, Nat.reduceLeDiff, Nat.reduceDiv, Nat.reduceMod, Nat.reduceBEq, Nat.reduceBNe, reduceCtorEq, Int.reduceLE, Int.reduceLT, Int.reduceToNat, Int.reduceNeg, Nat.reduceLT, Int.reduceEq, Int.reduceSub, Int.reduceAdd, Int.reduceMul, Nat.reducePow, Int.reduceBEq, Int.reduceBNe, Int.reduceMod, E_21, A21, List.length_map, d0, beq_self_eq_true]
    · have h1' : (o == 1) = false := by simpa using h1
      rw [if_neg h1, decide_eq_false h0, Bool.false_and]
      rw [pc_eq]; simp +contextual -implicitDefEqProofs (maxSteps := 2000000) only [go_sem, ↓reduceIte, Nat.reduceAdd, Nat.reduceMul, Nat.reduceSub, Nat.reduceEqDiff, Nat.reduceLeDiff, Nat.reduceDiv, Nat.reduceMod, Nat.reduceBEq, Nat.reduceBNe, reduceCtorEq, Int.reduceLE, Int.reduceLT, Int.reduceToNat, Int.reduceNeg, Nat.reduceLT, Int.reduceEq, Int.reduceSub, Int.reduceAdd, Int.reduceMul, Nat.reducePow, Int.reduceBEq, Int.reduceBNe, Int.reduceMod, E_21, A21, List.length_map, h0, h0', h1, h1']
theorem c26 (a b : List Pt) (ha : a.length ≤ 1000000000) (hb : b.length ≤ 1000000000) : pc E 26 [.vs (a.map c2), .vs (b.map c2)] = some (sepV (SE a b)) := by
  have l1 := loop_first (fun S => (K E A26_L1 S).bind (blockR 0 (some [0, 1, 4]) [5, 17]))
    (fun k => ⟨[(0, .vs (a.map c2)), (1, .vs (b.map c2)), (4, .ptr 1024 0), (6, .int .i64 k)], [], [(1024, .box [.int .i64 0, .int .i64 0])], 0⟩)
    a.length (fun i => beyB (edn a i) b)
    (fun i r => r = some (.ex .ret ⟨[(4, .ptr 1024 0), (5, .bool true)], [], [(1024, .box [.int .i64 0, .int .i64 i])], 0⟩))
    (some (.ex .nrm ⟨[(0, .vs (a.map c2)), (1, .vs (b.map c2)), (4, .ptr 1024 0)], [], [(1024, .box [.int .i64 0, .int .i64 0])], 0⟩))
    (by
      show (K E A26_L1 _).bind _ = _
      rw [A26_L1_eq]; simp +contextual -implicitDefEqProofs (maxSteps := 2000000) only [go_sem, ↓reduceIte, Nat.reduceAdd, Nat.reduceMul, Nat.reduceSub, Nat.reduceEqDiff, Nat.reduceLeDiff, Nat.reduceDiv, Nat.reduceMod, Nat.reduceBEq, Nat.reduceBNe, reduceCtorEq, Int.reduceLE, Int.reduceLT, Int.reduceToNat, Int.reduceNeg, Nat.reduceLT, Int.reduceEq, Int.reduceSub, Int.reduceAdd, Int.reduceMul, Nat.reducePow, Int.reduceBEq, Int.reduceBNe, Int.reduceMod, A26_L1b, Int.lt_irrefl, List.length_map])
    (fun k hk => by
      have h1 : (k : Int) < a.length := by omega
      have hw := wr_k (k := k) (by omega)
      have o1 := c49 a b ha hb k hk
      refine ⟨fun h => ?_, fun h => ?_⟩
      · rw [h] at o1
        show (K E A26_L1 _).bind _ = _
        rw [A26_L1_eq]
        simp +contextual -implicitDefEqProofs (maxSteps := 2000000) only [go_sem, ↓reduceIte, Nat.reduceAdd, Nat.reduceMul, Nat.reduceSub, Nat.reduceEqDiff, Nat.reduceLeDiff, Nat.reduceDiv, Nat.reduceMod, Nat.reduceBEq, Nat.reduceBNe, reduceCtorEq, Int.reduceLE, Int.reduceLT, Int.reduceToNat, Int.reduceNeg, Nat.reduceLT, Int.reduceEq, Int.reduceSub, Int.reduceAdd, Int.reduceMul, Nat.reducePow, Int.reduceBEq, Int.reduceBNe, Int.reduceMod, A26_L1b, List.length_map, h1, hw, o1]
      · rw [h] at o1
        show (K E A26_L1 _).bind _ = (K E A26_L1 _).bind _
        conv => lhs; rw [A26_L1_eq]
        simp +contextual -implicitDefEqProofs (maxSteps := 2000000) only [go_sem, ↓reduceIte, Nat.reduceAdd, Nat.reduceMul, Nat.reduceSub, Nat.reduceEqDiff, Nat.reduceLeDiff, Nat.reduceDiv, Nat.reduceMod, Nat.reduceBEq, Nat.reduceBNe, reduceCtorEq, Int.reduceLE, Int.reduceLT, Int.reduceToNat, Int.reduceNeg, Nat.reduceLT, Int.reduceEq, Int.reduceSub, Int.reduceAdd, Int.reduceMul, Nat.reducePow, Int.reduceBEq, Int.reduceBNe, Int.reduceMod, A26_L1b, List.length_map, h1, hw, o1])
  have l0 := loop_first (fun S => (K E A26_L0 S).bind (blockR 2 (some [4]) [5, 29]))
    (fun k => ⟨[(0, .vs (a.map c2)), (1, .vs (b.map c2)), (4, .ptr 1024 0), (7, .int .i64 k)], [], [(1024, .box [.int .i64 0, .int .i64 0])], 0⟩)
    b.length (fun i => beyB (edn b i) a)
    (fun i r => r = some (.ex .ret ⟨[(4, .ptr 1024 0), (5, .bool true)], [], [(1024, .box [.int .i64 1, .int .i64 i])], 0⟩))
    (some (.ex .nrm ⟨[(4, .ptr 1024 0)], [], [(1024, .box [.int .i64 0, .int .i64 0])], 0⟩))
    (by
      show (K E A26_L0 _).bind _ = _
      rw [A26_L0_eq]; simp +contextual -implicitDefEqProofs (maxSteps := 2000000) only [go_sem, ↓reduceIte, Nat.reduceAdd, Nat.reduceMul, Nat.reduceSub, Nat.reduceEqDiff, Nat.reduceLeDiff, Nat.reduceDiv, Nat.reduceMod, Nat.reduceBEq, Nat.reduceBNe, reduceCtorEq, Int.reduceLE, Int.reduceLT, Int.reduceToNat, Int.reduceNeg, Nat.reduceLT, Int.reduceEq, Int.reduceSub, Int.reduceAdd, Int.reduceMul, Nat.reducePow, Int.reduceBEq, Int.reduceBNe, Int.reduceMod, A26_L0b, Int.lt_irrefl, List.length_map])
    (fun k hk => by
      have h1 : (k : Int) < b.length := by omega
      have hw := wr_k (k := k) (by omega)
      have o1 := c49 b a hb ha k hk
      refine ⟨fun h => ?_, fun h => ?_⟩
      · rw [h] at o1
        show (K E A26_L0 _).bind _ = _
        rw [A26_L0_eq]
        simp +contextual -implicitDefEqProofs (maxSteps := 2000000) only [go_sem, ↓reduceIte, Nat.reduceAdd, Nat.reduceMul, Nat.reduceSub, Nat.reduceEqDiff, Nat.reduceLeDiff, Nat.reduceDiv, Nat.reduceMod, Nat.reduceBEq, Nat.reduceBNe, reduceCtorEq, Int.reduceLE, Int.reduceLT, Int.reduceToNat, Int.reduceNeg, Nat.reduceLT, Int.reduceEq, Int.reduceSub, Int.reduceAdd, Int.reduceMul, Nat.reducePow, Int.reduceBEq, Int.reduceBNe, Int.reduceMod, A26_L0b, List.length_map, h1, hw, o1]
      · rw [h] at o1
        show (K E A26_L0 _).bind _ = (K E A26_L0 _).bind _
        conv => lhs; rw [A26_L0_eq]
        simp +contextual -implicitDefEqProofs (maxSteps := 2000000) only [go_sem, ↓reduceIte, Nat.reduceAdd, Nat.reduceMul, Nat.reduceSub, Nat.reduceEqDiff, Nat.reduceLeDiff, Nat.reduceDiv, Nat.reduceMod, Nat.reduceBEq, Nat.reduceBNe, reduceCtorEq, Int.reduceLE, Int.reduceLT, Int.reduceToNat, Int.reduceNeg, Nat.reduceLT, Int.reduceEq, Int.reduceSub, Int.reduceAdd, Int.reduceMul, Nat.reducePow, Int.reduceBEq, Int.reduceBNe, Int.reduceMod, A26_L0b, List.length_map, h1, hw, o1])
  simp only [Int.natCast_zero, Int.ofNat_zero] at l1 l0
  unfold SE seA
  cases e1 : (List.range a.length).find? fun i => beyB (edn a i) b with
  | some i =>
    have r1 := l1.1 i e1
    simp only [sepV]
    rw [pc_eq]; simp +contextual -implicitDefEqProofs (maxSteps := 2000000) only [go_sem, ↓reduceIte, Nat.reduceAdd, Nat.reduceMul, Nat.reduceSub, Nat.reduceEqDiff, Nat.reduceLeDiff, Nat.reduceDiv, Nat.reduceMod, Nat.reduceBEq, Nat.reduceBNe, reduceCtorEq, Int.reduceLE, Int.reduceLT, Int.reduceToNat, Int.reduceNeg, Nat.reduceLT, Int.reduceEq, Int.reduceSub, Int.reduceAdd, Int.reduceMul, Nat.reducePow, Int.reduceBEq, Int.reduceBNe, Int.reduceMod, E_26, A26, List.length_map, r1]
  | none =>
    have r1 := l1.2 e1
    cases e2 : (List.range b.length).find? fun i => beyB (edn b i) a with
    | some i =>
      have r2 := l0.1 i e2
      simp only [sepV, Option.map_some]
      rw [pc_eq]; simp +contextual -implicitDefEqProofs (maxSteps := 2000000) only [go_sem, ↓reduceIte, Nat.reduceAdd, Nat.reduceMul, Nat.reduceSub, Nat.reduceEqDiff, Nat.reduceLeDiff, Nat.reduceDiv, Nat.reduceMod, Nat.reduceBEq, Nat.reduceBNe, reduceCtorEq, Int.reduceLE, Int.reduceLT, Int.reduceToNat, Int.reduceNeg, Nat.reduceLT, Int.reduceEq, Int.reduceSub, Int.reduceAdd, Int.reduceMul, Nat.reducePow, Int.reduceBEq, Int.reduceBNe, Int.reduceMod, E_26, A26, List.length_map, r1, r2]
    | none =>
      have r2 := l0.2 e2
      simp only [sepV, Option.map_none]
      rw [pc_eq]; simp +contextual -implicitDefEqProofs (maxSteps := 2000000) only [go_sem, ↓reduceIte, Nat.reduceAdd, Nat.reduceMul, Nat.reduceSub, Nat.reduceEqDiff, Nat.reduceLeDiff, Nat.reduceDiv, Nat.reduceMod, Nat.reduceBEq, Nat.reduceBNe, reduceCtorEq, Int.reduceLE, Int.reduceLT, Int.reduceToNat, Int.reduceNeg, Nat.reduceLT, Int.reduceEq, Int.reduceSub, Int.reduceAdd, Int.reduceMul, Nat.reducePow, Int.reduceBEq, Int.reduceBNe, Int.reduceMod, E_26, A26, List.length_map, r1, r2]
end Go.Proofs.Yteellikeoiedbaa

namespace Go.Proofs.Yteellikeoiedbaa
set_option maxRecDepth 100000
set_option maxHeartbeats 4000000
set_option linter.unusedSimpArgs false
set_option linter.unusedVariables false
open Go Go.Zv
open Go.Geo
theorem c52 (l : List Pt) (hl : l.length ≤ 12) (hm : l.all mayB = true) (px py : Int) (hp : B2 (px, py)) : pc E 52 [.vs (l.map c2), .agg [.int .i64 px, .int .i64 py]] = some (.int .i64 (locI l (px, py))) := by
  have lp := loop_leave (fun S => (K E A52_L0 S).bind (blockR 0 (some [5]) [4, 6, 7, 8, 17, 21, 25, 42, 63]))
    (fun k (x : Int) => ⟨[(0, .vs (l.map c2)), (3, .ptr 768 0), (5, .int .i64 x), (6, .int .i64 k)], [], [(768, .box [.int .i64 px, .int .i64 py])], 0⟩)
    (eds l) (hasF (px, py)) (onE (px, py)) (fun o => ∃ O' : Heap, o = some (.ex .ret ⟨[(4, .int .i64 0)], [], O', 0⟩))
    (fun x => some (.ex .nrm ⟨[(5, .int .i64 x)], [], [(768, .box [.int .i64 px, .int .i64 py])], 0⟩))
    (fun x => by
      rw [eds_len]
      show (K E A52_L0 _).bind _ = _
      rw [A52_L0_eq]; simp +contextual -implicitDefEqProofs (maxSteps := 2000000) only [go_sem, ↓reduceIte, Nat.reduceAdd, Nat.reduceMul, Nat.reduceSub, Nat.reduceEqDiff, Nat.reduceLeDiff, Nat.reduceDiv, Nat.reduceMod, Nat.reduceBEq, Nat.reduceBNe, reduceCtorEq, Int.reduceLE, Int.reduceLT, Int.reduceToNat, Int.reduceNeg, Nat.reduceLT, Int.reduceEq, Int.reduceSub, Int.reduceAdd, Int.reduceMul, Nat.reducePow, Int.reduceBEq, Int.reduceBNe, Int.reduceMod, A52_L0b, Int.lt_irrefl, List.length_map])
    (fun k e x hk he => by
      have hk' : k < l.length := by rw [eds_len] at hk; exact hk
      rw [edn_get hk'] at he
      cases he
      have g1 := c60 l (by omega) (by omega) k (by omega)
      have g2 := c60 l (by omega) (by omega) (k + 1) (by omega)
      have hw := wr_k (k := k) (by omega)
      have h1 : (k : Int) < l.length := by omega
      unfold edn
      generalize ptn l k = p at *
      generalize ptn l (k + 1) = q at *
      obtain ⟨ax, ay⟩ := p
      obtain ⟨bx, by_⟩ := q
      have o1 := c77 ax ay bx by_ px py
      have o2 := c59 ax ay bx by_ px py
      have o3 := c59 bx by_ ax ay px py
      simp only at g1 g2
      refine ⟨fun h => ?_, fun h => ?_⟩
      · simp only [onE] at h
        rw [h] at o1
        refine ⟨[(2048, .box [.int .i64 bx, .int .i64 by_]), (1792, .box [.int .i64 ax, .int .i64 ay]), (768, .box [.int .i64 px, .int .i64 py])], ?_⟩
        show (K E A52_L0 _).bind _ = _
        rw [A52_L0_eq]
        simp +contextual -implicitDefEqProofs (maxSteps := 2000000) only [go_sem, ↓reduceIte, Nat.reduceAdd, Nat.reduceMul, Nat.reduceSub, Nat.reduceEqDiff, Nat.reduceLeDiff, Nat.reduceDiv, Nat.reduceMod, Nat.reduceBEq, Nat.reduceBNe, reduceCtorEq, Int.reduceLE, Int.reduceLT, Int.reduceToNat, Int.reduceNeg, Nat.reduceLT, Int.reduceEq, Int.reduceSub, Int.reduceAdd, Int.reduceMul, Nat.reducePow, Int.reduceBEq, Int.reduceBNe, Int.reduceMod, A52_L0b, List.length_map, h1, g1, g2, hw, o1]
      · simp only [onE] at h
        rw [h] at o1
        simp only [hasF, cntE]
        show (K E A52_L0 _).bind _ = (K E A52_L0 _).bind _
        conv => lhs; rw [A52_L0_eq]
        by_cases d1 : ay ≤ py
        · have n1 : ¬ py < ay := by omega
          by_cases d2 : py < by_
          · have n2 : ¬ by_ ≤ py := by omega
            by_cases d3 : 0 < crW ax ay bx by_ px py <;> simp +contextual -implicitDefEqProofs (maxSteps := 2000000) only [go_sem, ↓reduceIte, Nat.reduceAdd, Nat.reduceMul, Nat.reduceSub, Nat.reduceEqDiff, Nat.reduceLeDiff, Nat.reduceDiv, Nat.reduceMod, Nat.reduceBEq, Nat.reduceBNe, reduceCtorEq, Int.reduceLE, Int.reduceLT, Int.reduceToNat, Int.reduceNeg, Nat.reduceLT, Int.reduceEq, Int.reduceSub, Int.reduceAdd, Int.reduceMul, Nat.reducePow, Int.reduceBEq, Int.reduceBNe, Int.reduceMod, A52_L0b, List.length_map, h1, g1, g2, hw, o1, o2, o3, d1, d2, d3, n1, n2, w64, decide_true, decide_false, Bool.and_true, Bool.and_false, Bool.or_false, Bool.false_or]
          · have n2 : by_ ≤ py := by omega
            simp +contextual -implicitDefEqProofs (maxSteps := 2000000) only [go_sem, ↓reduceIte, Nat.reduceAdd, Nat.reduceMul, Nat.reduceSub, Nat.reduceEqDiff, Nat.reduceLeDiff, Nat.reduceDiv, Nat.reduceMod, Nat.reduceBEq, Nat.reduceBNe, reduceCtorEq, Int.reduceLE, Int.reduceLT, Int.reduceToNat, Int.reduceNeg, Nat.reduceLT, Int.reduceEq, Int.reduceSub, Int.reduceAdd, Int.reduceMul, Nat.reducePow, Int.reduceBEq, Int.reduceBNe, Int.reduceMod, A52_L0b, List.length_map, h1, g1, g2, hw, o1, o2, o3, d1, d2, n1, n2, w64, decide_true, decide_false, Bool.and_true, Bool.and_false, Bool.false_and, Bool.true_and, Bool.or_false, Bool.false_or]
        · have n1 : py < ay := by omega
          by_cases d2 : py < by_
          · have n2 : ¬ by_ ≤ py := by omega
            simp +contextual -implicitDefEqProofs (maxSteps := 2000000) only [go_sem, ↓reduceIte, Nat.reduceAdd, Nat.reduceMul, Nat.reduceSub, Nat.reduceEqDiff, Nat.reduceLeDiff, Nat.reduceDiv, Nat.reduceMod, Nat.reduceBEq, Nat.reduceBNe, reduceCtorEq, Int.reduceLE, Int.reduceLT, Int.reduceToNat, Int.reduceNeg, Nat.reduceLT, Int.reduceEq, Int.reduceSub, Int.reduceAdd, Int.reduceMul, Nat.reducePow, Int.reduceBEq, Int.reduceBNe, Int.reduceMod, A52_L0b, List.length_map, h1, g1, g2, hw, o1, o2, o3, d1, d2, n1, n2, w64, decide_true, decide_false, Bool.and_true, Bool.and_false, Bool.false_and, Bool.true_and, Bool.or_false, Bool.false_or]
          · have n2 : by_ ≤ py := by omega
            by_cases d3 : 0 < crW bx by_ ax ay px py <;> simp +contextual -implicitDefEqProofs (maxSteps := 2000000) only [go_sem, ↓reduceIte, Nat.reduceAdd, Nat.reduceMul, Nat.reduceSub, Nat.reduceEqDiff, Nat.reduceLeDiff, Nat.reduceDiv, Nat.reduceMod, Nat.reduceBEq, Nat.reduceBNe, reduceCtorEq, Int.reduceLE, Int.reduceLT, Int.reduceToNat, Int.reduceNeg, Nat.reduceLT, Int.reduceEq, Int.reduceSub, Int.reduceAdd, Int.reduceMul, Nat.reducePow, Int.reduceBEq, Int.reduceBNe, Int.reduceMod, A52_L0b, List.length_map, h1, g1, g2, hw, o1, o2, o3, d1, d2, d3, n1, n2, w64, decide_true, decide_false, Bool.and_true, Bool.and_false, Bool.false_and, Bool.true_and, Bool.or_false, Bool.false_or])
    0
  simp only [Int.natCast_zero, Int.ofNat_zero] at lp
  unfold locI
  cases ha : (eds l).any (onE (px, py)) with
  | true =>
    obtain ⟨O', lq⟩ := lp.1 ha
    rw [pc_eq]; simp +contextual -implicitDefEqProofs (maxSteps := 2000000) only [go_sem, ↓reduceIte, Nat.reduceAdd, Nat.reduceMul, Nat.reduceSub, Nat.reduceEqDiff, Nat.reduceLeDiff, Nat.reduceDiv, Nat.reduceMod, Nat.reduceBEq, Nat.reduceBNe, reduceCtorEq, Int.reduceLE, Int.reduceLT, Int.reduceToNat, Int.reduceNeg, Nat.reduceLT, Int.reduceEq, Int.reduceSub, Int.reduceAdd, Int.reduceMul, Nat.reducePow, Int.reduceBEq, Int.reduceBNe, Int.reduceMod, E_52, A52, List.length_map, lq]
  | false =>
    have lq := lp.2 ha
    obtain ⟨h0, hpar⟩ := has_par (px, py) (eds l) (fun e he => cnt_fl hp (eds_B hm he).1 (eds_B hm he).2 (by
      have := List.any_eq_false.1 ha e he
      simpa using this)) 0 false (by omega) (by rw [eds_len]; omega) (by decide)
    rw [hpar]
    generalize (eds l).foldl (hasF (px, py)) 0 = n at *
    have ht : n.tmod 2 = n % 2 := Int.tmod_eq_emod_of_nonneg h0
    by_cases hn : n % 2 = 1
    · rw [pc_eq]; simp +contextual -implicitDefEqProofs (maxSteps := 2000000) only [go_sem, ↓reduceIte, Nat.reduceAdd, Nat.reduceMul, Nat.reduceSub, Nat.reduceEqDiff, Nat.reduceLeDiff, Nat.reduceDiv, Nat.reduceMod, Nat.reduceBEq, Nat.reduceBNe, reduceCtorEq, Int.reduceLE, Int.reduceLT, Int.reduceToNat, Int.reduceNeg, Nat.reduceLT, Int.reduceEq, Int.reduceSub, Int.reduceAdd, Int.reduceMul, Nat.reducePow, Int.reduceBEq, Int.reduceBNe, Int.reduceMod, E_52, A52, List.length_map, lq, ht, hn, beq_self_eq_true, decide_true]
    · have hn' : (n % 2 == 1) = false := by simpa using hn
      rw [pc_eq]; simp +contextual -implicitDefEqProofs (maxSteps := 2000000) only [go_sem, ↓reduceIte, Nat.reduceAdd, Nat.reduceMul, Nat.reduceSub, Nat.reduceEqDiff, Nat.reduceLeDiff, Nat.reduceDiv, Nat.reduceMod, Nat.reduceBEq, Nat.reduceBNe, reduceCtorEq, Int.reduceLE, Int.reduceLT, Int.reduceToNat, Int.reduceNeg, Nat.reduceLT, Int.reduceEq, Int.reduceSub, Int.reduceAdd, Int.reduceMul, Nat.reducePow, Int.reduceBEq, Int.reduceBNe, Int.reduceMod, E_52, A52, List.length_map, lq, ht, hn, hn', decide_false]
theorem c50' (ax ay bx by_ cx cy dx dy : Int) : pc E 50 [.agg [.int .i64 ax, .int .i64 ay], .agg [.int .i64 bx, .int .i64 by_], .agg [.int .i64 cx, .int .i64 cy], .agg [.int .i64 dx, .int .i64 dy]] = some (.bool (cutB ax ay bx by_ cx cy dx dy)) := by
  rw [c50, cut_eq_B]
theorem ge_ne {n : Int} (h : n = 0 ∨ n = 1 ∨ n = -1) : decide (0 ≤ n) = decide (n ≠ -1) := decide_eq_decide.2 (by omega)
theorem c23 (a b : List Pt) (A : Val a) (B : Val b) (k i j : Int) : pc E 23 [.vs (a.map c2), .vs (b.map c2), .agg [.int .i64 k, .int .i64 i, .int .i64 j]] = some (.bool (icnB a b k i j)) := by
  have a12 := A.n12
  have b12 := B.n12
  unfold icnB
  by_cases h1 : k = 1
  · subst h1
    rw [if_pos rfl]
    by_cases i0 : 0 ≤ i
    · by_cases i1 : i < a.length
      · rw [decide_eq_true (⟨i0, i1⟩ : 0 ≤ i ∧ i < a.length), Bool.true_and]
        by_cases j0 : 0 ≤ j
        · by_cases j1 : j < b.length
          · rw [decide_eq_true (⟨j0, j1⟩ : 0 ≤ j ∧ j < b.length), Bool.true_and]
            obtain ⟨m, rfl⟩ : ∃ m : Nat, i = m := ⟨i.toNat, by omega⟩
            obtain ⟨n, rfl⟩ : ∃ n : Nat, j = n := ⟨j.toNat, by omega⟩
            rw [Int.toNat_natCast, Int.toNat_natCast]
            have hm : m < a.length := by omega
            have hn : n < b.length := by omega
            obtain ⟨_, f1, f2⟩ := eds_get (edn_get hm)
            obtain ⟨_, g1, g2⟩ := eds_get (edn_get hn)
            have f1 := get_c2 f1
            have f2 := get_c2 f2
            have g1 := get_c2 g1
            have g2 := get_c2 g2
            have n1 := c51 a (by omega) m hm
            have n2 := c51 b (by omega) n hn
            obtain ⟨_, _, _, m4, m5⟩ := mod_nat hm (by omega)
            obtain ⟨_, _, _, k4, k5⟩ := mod_nat hn (by omega)
            unfold cutE
            have o1 := c50' (edn a m).1.1 (edn a m).1.2 (edn a m).2.1 (edn a m).2.2 (edn b n).1.1 (edn b n).1.2 (edn b n).2.1 (edn b n).2.2
            generalize edn a m = e at *
            generalize edn b n = f at *
            rw [pc_eq]; simp +contextual -implicitDefEqProofs (maxSteps := 2000000) only [go_sem, ↓reduceIte, Nat.reduceAdd, Nat.reduceMul, Nat.reduceSub, Nat.reduceEqDiff, Nat.reduceLeDiff, Nat.reduceDiv, Nat.reduceMod, Nat.reduceBEq, Nat.reduceBNe, reduceCtorEq, Int.reduceLE, Int.reduceLT, Int.reduceToNat, Int.reduceNeg, Nat.reduceLT, Int.reduceEq, Int.reduceSub, Int.reduceAdd, Int.reduceMul, Nat.reducePow, Int.reduceBEq, Int.reduceBNe, Int.reduceMod, E_23, A23, List.length_map, i0, i1, j0, j1, f1, f2, g1, g2, n1, n2, m4, m5, k4, k5, o1, beq_self_eq_true]
          · rw [decide_eq_false (fun h => j1 h.2), Bool.false_and]
            rw [pc_eq]; simp +contextual -implicitDefEqProofs (maxSteps := 2000000) only [go_sem, ↓reduceIte, Nat.reduceAdd, Nat.reduceMul, Nat.reduceSub, Nat.reduceEqDiff, Nat.reduceLeDiff, Nat.reduceDiv, Nat.reduceMod, Nat.reduceBEq, Nat.reduceBNe, reduceCtorEq, Int.reduceLE, Int.reduceLT, Int.reduceToNat, Int.reduceNeg, Nat.reduceLT, Int.reduceEq, Int.reduceSub, Int.reduceAdd, Int.reduceMul, Nat.reducePow, Int.reduceBEq, Int.reduceBNe, Int.reduceMod, E_23, A23, List.length_map, i0, i1, j0, j1, beq_self_eq_true]
        · rw [decide_eq_false (fun h => j0 h.1), Bool.false_and]
          rw [pc_eq]; simp +contextual -implicitDefEqProofs (maxSteps := 2000000) only [go_sem, ↓reduceIte, Nat.reduceAdd, Nat.reduceMul, Nat.reduceSub, Nat.reduceEqDiff, Nat.reduceLeDiff, Nat.reduceDiv, Nat.reduceMod, Nat.reduceBEq, Nat.reduceBNe, reduceCtorEq, Int.reduceLE, Int.reduceLT, Int.reduceToNat, Int.reduceNeg, Nat.reduceLT, Int.reduceEq, Int.reduceSub, Int.reduceAdd, Int.reduceMul, Nat.reducePow, Int.reduceBEq, Int.reduceBNe, Int.reduceMod, E_23, A23, List.length_map, i0, i1, j0, beq_self_eq_true]
      · rw [decide_eq_false (fun h => i1 h.2), Bool.false_and]
        rw [pc_eq]; simp +contextual -implicitDefEqProofs (maxSteps := 2000000) only [go_sem, ↓reduceIte, Nat.reduceAdd, Nat.reduceMul, Nat.reduceSub, Nat.reduceEqDiff, Nat.reduceLeDiff, Nat.reduceDiv, Nat.reduceMod, Nat.reduceBEq, Nat.reduceBNe, reduceCtorEq, Int.reduceLE, Int.reduceLT, Int.reduceToNat, Int.reduceNeg, Nat.reduceLT, Int.reduceEq, Int.reduceSub, Int.reduceAdd, Int.reduceMul, Nat.reducePow, Int.reduceBEq, Int.reduceBNe, Int.reduceMod, E_23, A23, List.length_map, i0, i1, beq_self_eq_true]
    · rw [decide_eq_false (fun h => i0 h.1), Bool.false_and]
      rw [pc_eq]; simp +contextual -implicitDefEqProofs (maxSteps := 2000000) only [go_sem, ↓reduceIte, Nat.reduceAdd, Nat.reduceMul, Nat.reduceSub, Nat.reduceEqDiff, Nat.reduceLeDiff, Nat.reduceDiv, Nat.reduceMod, Nat.reduceBEq, Nat.reduceBNe, reduceCtorEq, Int.reduceLE, Int.reduceLT, Int.reduceToNat, Int.reduceNeg, Nat.reduceLT, Int.reduceEq, Int.reduceSub, Int.reduceAdd, Int.reduceMul, Nat.reducePow, Int.reduceBEq, Int.reduceBNe, Int.reduceMod, E_23, A23, List.length_map, i0, beq_self_eq_true]
  · have h1' : (k == 1) = false := by simpa using h1
    rw [if_neg h1]
    by_cases h2 : k = 2
    · subst h2
      rw [if_pos rfl]
      unfold insB
      by_cases i0 : 0 ≤ i
      · by_cases i1 : i < a.length
        · by_cases j0 : j = 0
          · subst j0
            obtain ⟨m, rfl⟩ : ∃ m : Nat, i = m := ⟨i.toNat, by omega⟩
            rw [Int.toNat_natCast]
            have hm : m < a.length := by omega
            have g := get_c2 (ptn_get hm)
            have o1 := c52 b b12 B.may (ptn a m).1 (ptn a m).2 (ptn_B A.may (by omega) m)
            rw [show ((ptn a m).1, (ptn a m).2) = ptn a m from rfl] at o1
            have lv := ge_ne (loc_vals b (ptn a m))
            rw [← lv]
            generalize locI b (ptn a m) = s at *
            rw [pc_eq]; simp +contextual -implicitDefEqProofs (maxSteps := 2000000) only [go_sem, ↓reduceIte, Nat.reduceAdd, Nat.reduceMul, Nat.reduceSub, Nat.reduceEqDiff, Nat.reduceLeDiff, Nat.reduceDiv, Nat.reduceMod, Nat.reduceBEq, Nat.reduceBNe, reduceCtorEq, Int.reduceLE, Int.reduceLT, Int.reduceToNat, Int.reduceNeg, Nat.reduceLT, Int.reduceEq, Int.reduceSub, Int.reduceAdd, Int.reduceMul, Nat.reducePow, Int.reduceBEq, Int.reduceBNe, Int.reduceMod, E_23, A23, List.length_map, i0, i1, g, o1, beq_self_eq_true, decide_true, Bool.true_and]
          · have j0' : (j == 0) = false := by simpa using j0
            rw [decide_eq_false j0, Bool.false_and]
            rw [pc_eq]; simp +contextual -implicitDefEqProofs (maxSteps := 2000000) only [go_sem, ↓reduceIte, Nat.reduceAdd, Nat.reduceMul, Nat.reduceSub, Nat.reduceEqDiff, Nat.reduceLeDiff, Nat.reduceDiv, Nat.reduceMod, Nat.reduceBEq, Nat.reduceBNe, reduceCtorEq, Int.reduceLE, Int.reduceLT, Int.reduceToNat, Int.reduceNeg, Nat.reduceLT, Int.reduceEq, Int.reduceSub, Int.reduceAdd, Int.reduceMul, Nat.reducePow, Int.reduceBEq, Int.reduceBNe, Int.reduceMod, E_23, A23, List.length_map, i0, i1, j0, j0', beq_self_eq_true]
        · rw [decide_eq_false i1, Bool.false_and, Bool.and_false, Bool.and_false]
          rw [pc_eq]; simp +contextual -implicitDefEqProofs (maxSteps := 2000000) only [go_sem, ↓reduceIte, Nat.reduceAdd, Nat.reduceMul, Nat.reduceSub, Nat.reduceEqDiff, Nat.reduceLeDiff, Nat.reduceDiv, Nat.reduceMod, Nat.reduceBEq, Nat.reduceBNe, reduceCtorEq, Int.reduceLE, Int.reduceLT, Int.reduceToNat, Int.reduceNeg, Nat.reduceLT, Int.reduceEq, Int.reduceSub, Int.reduceAdd, Int.reduceMul, Nat.reducePow, Int.reduceBEq, Int.reduceBNe, Int.reduceMod, E_23, A23, List.length_map, i0, i1, beq_self_eq_true]
      · rw [decide_eq_false i0, Bool.false_and, Bool.and_false]
        rw [pc_eq]; simp +contextual -implicitDefEqProofs (maxSteps := 2000000) only [go_sem, ↓reduceIte, Nat.reduceAdd, Nat.reduceMul, Nat.reduceSub, Nat.reduceEqDiff, Nat.reduceLeDiff, Nat.reduceDiv, Nat.reduceMod, Nat.reduceBEq, Nat.reduceBNe, reduceCtorEq, Int.reduceLE, Int.reduceLT, Int.reduceToNat, Int.reduceNeg, Nat.reduceLT, Int.reduceEq, Int.reduceSub, Int.reduceAdd, Int.reduceMul, Nat.reducePow, Int.reduceBEq, Int.reduceBNe, Int.reduceMod, E_23, A23, List.length_map, i0, beq_self_eq_true]
    · have h2' : (k == 2) = false := by simpa using h2
      rw [if_neg h2]
      by_cases h3 : k = 3
      · subst h3
        rw [if_pos rfl]
        unfold insB
        by_cases j0 : 0 ≤ j
        · by_cases j1 : j < b.length
          · by_cases i0 : i = 0
            · subst i0
              obtain ⟨n, rfl⟩ : ∃ n : Nat, j = n := ⟨j.toNat, by omega⟩
              rw [Int.toNat_natCast]
              have hn : n < b.length := by omega
              have g := get_c2 (ptn_get hn)
              have o1 := c52 a a12 A.may (ptn b n).1 (ptn b n).2 (ptn_B B.may (by omega) n)
              rw [show ((ptn b n).1, (ptn b n).2) = ptn b n from rfl] at o1
              have lv := ge_ne (loc_vals a (ptn b n))
              rw [← lv]
              generalize locI a (ptn b n) = s at *
              rw [pc_eq]; simp +contextual -implicitDefEqProofs (maxSteps := 2000000) only [go_sem, ↓reduceIte, Nat.reduceAdd, Nat.reduceMul, Nat.reduceSub, Nat.reduceEqDiff, Nat.reduceLeDiff, Nat.reduceDiv, Nat.reduceMod, Nat.reduceBEq, Nat.reduceBNe, reduceCtorEq, Int.reduceLE, Int.reduceLT, Int.reduceToNat, Int.reduceNeg, Nat.reduceLT, Int.reduceEq, Int.reduceSub, Int.reduceAdd, Int.reduceMul, Nat.reducePow, Int.reduceBEq, Int.reduceBNe, Int.reduceMod, E_23, A23, List.length_map, j0, j1, g, o1, beq_self_eq_true, decide_true, Bool.true_and]
            · have i0' : (i == 0) = false := by simpa using i0
              rw [decide_eq_false i0, Bool.false_and]
              rw [pc_eq]; simp +contextual -implicitDefEqProofs (maxSteps := 2000000) only [go_sem, ↓reduceIte, Nat.reduceAdd, Nat.reduceMul, Nat.reduceSub, Nat.reduceEqDiff, Nat.reduceLeDiff, Nat.reduceDiv, Nat.reduceMod, Nat.reduceBEq, Nat.reduceBNe, reduceCtorEq, Int.reduceLE, Int.reduceLT, Int.reduceToNat, Int.reduceNeg, Nat.reduceLT, Int.reduceEq, Int.reduceSub, Int.reduceAdd, Int.reduceMul, Nat.reducePow, Int.reduceBEq, Int.reduceBNe, Int.reduceMod, E_23, A23, List.length_map, j0, j1, i0, i0', beq_self_eq_true]
          · rw [decide_eq_false j1, Bool.false_and, Bool.and_false, Bool.and_false]
            rw [pc_eq]; simp +contextual -implicitDefEqProofs (maxSteps := 2000000) only [go_sem, ↓reduceIte, Nat.reduceAdd, Nat.reduceMul, Nat.reduceSub, Nat.reduceEqDiff, Nat.reduceLeDiff, Nat.reduceDiv, Nat.reduceMod, Nat.reduceBEq, Nat.reduceBNe, reduceCtorEq, Int.reduceLE, Int.reduceLT, Int.reduceToNat, Int.reduceNeg, Nat.reduceLT, Int.reduceEq, Int.reduceSub, Int.reduceAdd, Int.reduceMul, Nat.reducePow, Int.reduceBEq, Int.reduceBNe, Int.reduceMod, E_23, A23, List.length_map, j0, j1, beq_self_eq_true]
        · rw [decide_eq_false j0, Bool.false_and, Bool.and_false]
          rw [pc_eq]; simp +contextual -implicitDefEqProofs (maxSteps := 2000000) only [go_sem, ↓reduceIte, Nat.reduceAdd, Nat.reduceMul, Nat.reduceSub, Nat.reduceEqDiff, Nat.reduceLeDiff, Nat.reduceDiv, Nat.reduceMod, Nat.reduceBEq, Nat.reduceBNe, reduceCtorEq, Int.reduceLE, Int.reduceLT, Int.reduceToNat, Int.reduceNeg, Nat.reduceLT, Int.reduceEq, Int.reduceSub, Int.reduceAdd, Int.reduceMul, Nat.reducePow, Int.reduceBEq, Int.reduceBNe, Int.reduceMod, E_23, A23, List.length_map, j0, beq_self_eq_true]
      · have h3' : (k == 3) = false := by simpa using h3
        rw [if_neg h3]
        rw [pc_eq]; simp +contextual -implicitDefEqProofs (maxSteps := 2000000) only [go_sem, ↓reduceIte, Nat.reduceAdd, Nat.reduceMul, Nat.reduceSub, Nat.reduceEqDiff, Nat.reduceLeDiff, Nat.reduceDiv, Nat.reduceMod, Nat.reduceBEq, Nat.reduceBNe, reduceCtorEq, Int.reduceLE, Int.reduceLT, Int.reduceToNat, Int.reduceNeg, Nat.reduceLT, Int.reduceEq, Int.reduceSub, Int.reduceAdd, Int.reduceMul, Nat.reducePow, Int.reduceBEq, Int.reduceBNe, Int.reduceMod, E_23, A23, List.length_map, h1, h1', h2, h2', h3, h3']
end Go.Proofs.Yteellikeoiedbaa

namespace Go.Proofs.Yteellikeoiedbaa
set_option maxRecDepth 100000
set_option maxHeartbeats 4000000
set_option linter.unusedSimpArgs false
set_option linter.unusedVariables false
open Go Go.Zv
open Go.Geo
theorem c44 (x y n : Int) (hx : 0 ≤ x ∧ x ≤ 100) (hy : 0 ≤ y ∧ y ≤ 100) (hn : 0 ≤ n ∧ n ≤ 100) : pc E 44 [.int .i64 x, .int .i64 y, .int .i64 n] = some (.os 2 ((sqL x y n).map c2)) := by
  have w1 : IntKind.i64.wrap (x + n) = x + n := wrap_small (by omega) (by omega)
  have w2 : IntKind.i64.wrap (y + n) = y + n := wrap_small (by omega) (by omega)
  rw [pc_eq]; simp +contextual -implicitDefEqProofs (maxSteps := 2000000) only [go_sem, ↓reduceIte, Nat.reduceAdd, Nat.reduceMul, Nat.reduceSub, Nat.reduceEqDiff, Nat.reduceLeDiff, Nat.reduceDiv, Nat.reduceMod, Nat.reduceBEq, Nat.reduceBNe, reduceCtorEq, Int.reduceLE, Int.reduceLT, Int.reduceToNat, Int.reduceNeg, Nat.reduceLT, Int.reduceEq, Int.reduceSub, Int.reduceAdd, Int.reduceMul, Nat.reducePow, Int.reduceBEq, Int.reduceBNe, Int.reduceMod, E_44, A44, w1, w2, sqL, List.map_cons, List.map_nil, c2]
theorem c15 : pc E 15 [] = some (.bool true) := by
  have s1 := c44 0 0 4 (by omega) (by omega) (by omega)
  have s2 := c44 6 1 2 (by omega) (by omega) (by omega)
  have s3 := c44 4 4 2 (by omega) (by omega) (by omega)
  have s4 := c44 1 1 2 (by omega) (by omega) (by omega)
  have s5 := c44 5 0 2 (by omega) (by omega) (by omega)
  have a1 := h25a
  have a2 := h25b
  have b1 := c17 (sqL 0 0 4) (sqL 4 4 2) (by simp [sqL]) (by simp [sqL])
  have b2 := c17 (sqL 0 0 4) (sqL 1 1 2) (by simp [sqL]) (by simp [sqL])
  have b3 := c17 (sqL 1 1 2) (sqL 0 0 4) (by simp [sqL]) (by simp [sqL])
  have b4 := c17 (sqL 0 0 4) (sqL 5 0 2) (by simp [sqL]) (by simp [sqL])
  have b5 := c19 (sqL 0 0 4) (sqL 0 0 4) (by simp [sqL]) (by simp [sqL])
  rw [h17a] at b1; rw [h17b] at b2; rw [h17c] at b3; rw [h17d] at b4; rw [h17e] at b5
  simp only [conV, Option.isSome_some] at b1 b2 b3 b4 b5
  have d1 := c20 (sqL 0 0 4) (sqL 6 1 2) (by simp [sqL]) (by simp [sqL]) 1 3
  have d2 := c20 (sqL 0 0 4) (sqL 6 1 2) (by simp [sqL]) (by simp [sqL]) 0 0
  have e1 : isepB (sqL 0 0 4) (sqL 6 1 2) 1 3 = true := by kernel_rfl
  have e2 : isepB (sqL 0 0 4) (sqL 6 1 2) 0 0 = false := by kernel_rfl
  rw [e1] at d1; rw [e2] at d2
  have f1 := c22 (sqL 0 0 4) (sqL 4 4 2) (by simp [sqL]) (by simp [sqL]) 2 2 0
  have e3 : icnB (sqL 0 0 4) (sqL 4 4 2) 2 2 0 = true := by kernel_rfl
  rw [e3] at f1
  have n1 : ((sqL 0 0 4).map c2).length = 4 := rfl
  have t1 : List.take 4 ((sqL 0 0 4).map c2) = (sqL 0 0 4).map c2 := rfl
  have n2 : ((sqL 6 1 2).map c2).length = 4 := rfl
  have t2 : List.take 4 ((sqL 6 1 2).map c2) = (sqL 6 1 2).map c2 := rfl
  have n3 : ((sqL 4 4 2).map c2).length = 4 := rfl
  have t3 : List.take 4 ((sqL 4 4 2).map c2) = (sqL 4 4 2).map c2 := rfl
  have n4 : ((sqL 1 1 2).map c2).length = 4 := rfl
  have t4 : List.take 4 ((sqL 1 1 2).map c2) = (sqL 1 1 2).map c2 := rfl
  have n5 : ((sqL 5 0 2).map c2).length = 4 := rfl
  have t5 : List.take 4 ((sqL 5 0 2).map c2) = (sqL 5 0 2).map c2 := rfl
  generalize (sqL 0 0 4).map c2 = q1 at *
  generalize (sqL 6 1 2).map c2 = q2 at *
  generalize (sqL 4 4 2).map c2 = q3 at *
  generalize (sqL 1 1 2).map c2 = q4 at *
  generalize (sqL 5 0 2).map c2 = q5 at *
  rw [pc_eq]; simp +contextual -implicitDefEqProofs (maxSteps := 2000000) only [go_sem, ↓reduceIte, Nat.reduceAdd, Nat.reduceMul, Nat.reduceSub, Nat.reduceEqDiff, Nat.reduceLeDiff, Nat.reduceDiv, Nat.reduceMod, Nat.reduceBEq, Nat.reduceBNe, reduceCtorEq, Int.reduceLE, Int.reduceLT, Int.reduceToNat, Int.reduceNeg, Nat.reduceLT, Int.reduceEq, Int.reduceSub, Int.reduceAdd, Int.reduceMul, Nat.reducePow, Int.reduceBEq, Int.reduceBNe, Int.reduceMod, E_15, A15, s1, s2, s3, s4, s5, a1, a2, b1, b2, b3, b4, b5, d1, d2, f1, beq_self_eq_true, n1, n2, n3, n4, n5, t1, t2, t3, t4, t5]
end Go.Proofs.Yteellikeoiedbaa

namespace Go.Proofs.Yteellikeoiedbaa
set_option maxRecDepth 100000
set_option maxHeartbeats 4000000
set_option linter.unusedSimpArgs false
set_option linter.unusedVariables false
open Go Go.Zv
open Go.Geo
abbrev O18 (k i j : Int) : Heap := [(1024, .box [.int .i64 k, .int .i64 i, .int .i64 j])]
theorem j18 (a b : List Pt) (A : Val a) (B : Val b) (k : Int) (i : Nat) :
    (∀ j, tcJ a b k i = some j → (K E A18_L0 ⟨[(0, .vs (a.map c2)), (1, .vs (b.map c2)), (4, .ptr 1024 0), (6, .int .i64 k), (7, .int .i64 i), (8, .int .i64 0)], [], O18 0 0 0, 0⟩).bind (blockR 4 (some [0, 1, 4, 6, 7]) [5, 8, 9, 33]) = some (.ex .ret ⟨[(4, .ptr 1024 0), (5, .bool true)], [], O18 k i j, 0⟩)) ∧
    (tcJ a b k i = none → (K E A18_L0 ⟨[(0, .vs (a.map c2)), (1, .vs (b.map c2)), (4, .ptr 1024 0), (6, .int .i64 k), (7, .int .i64 i), (8, .int .i64 0)], [], O18 0 0 0, 0⟩).bind (blockR 4 (some [0, 1, 4, 6, 7]) [5, 8, 9, 33]) = some (.ex .nrm ⟨[(0, .vs (a.map c2)), (1, .vs (b.map c2)), (4, .ptr 1024 0), (6, .int .i64 k), (7, .int .i64 i)], [], O18 0 0 0, 0⟩)) := by
  have b12 := B.n12
  have lp := loop_first (fun S => (K E A18_L0 S).bind (blockR 4 (some [0, 1, 4, 6, 7]) [5, 8, 9, 33]))
    (fun j => ⟨[(0, .vs (a.map c2)), (1, .vs (b.map c2)), (4, .ptr 1024 0), (6, .int .i64 k), (7, .int .i64 i), (8, .int .i64 j)], [], O18 0 0 0, 0⟩)
    b.length (fun j => icnB a b k i j)
    (fun j o => o = some (.ex .ret ⟨[(4, .ptr 1024 0), (5, .bool true)], [], O18 k i j, 0⟩))
    (some (.ex .nrm ⟨[(0, .vs (a.map c2)), (1, .vs (b.map c2)), (4, .ptr 1024 0), (6, .int .i64 k), (7, .int .i64 i)], [], O18 0 0 0, 0⟩))
    (by
      show (K E A18_L0 _).bind _ = _
      rw [A18_L0_eq]; simp +contextual -implicitDefEqProofs (maxSteps := 2000000) only [go_sem, ↓reduceIte, Nat.reduceAdd, Nat.reduceMul, Nat.reduceSub, Nat.reduceEqDiff, Nat.reduceLeDiff, Nat.reduceDiv, Nat.reduceMod, Nat.reduceBEq, Nat.reduceBNe, reduceCtorEq, Int.reduceLE, Int.reduceLT, Int.reduceToNat, Int.reduceNeg, Nat.reduceLT, Int.reduceEq, Int.reduceSub, Int.reduceAdd, Int.reduceMul, Nat.reducePow, Int.reduceBEq, Int.reduceBNe, Int.reduceMod, A18_L0b, Int.lt_irrefl, List.length_map])
    (fun j hj => by
      have h1 : (j : Int) < b.length := by omega
      have hw := wr_k (k := j) (by omega)
      have o1 := c23 a b A B k i j
      refine ⟨fun h => ?_, fun h => ?_⟩
      · rw [h] at o1
        show (K E A18_L0 _).bind _ = _
        rw [A18_L0_eq]
        simp +contextual -implicitDefEqProofs (maxSteps := 2000000) only [go_sem, ↓reduceIte, Nat.reduceAdd, Nat.reduceMul, Nat.reduceSub, Nat.reduceEqDiff, Nat.reduceLeDiff, Nat.reduceDiv, Nat.reduceMod, Nat.reduceBEq, Nat.reduceBNe, reduceCtorEq, Int.reduceLE, Int.reduceLT, Int.reduceToNat, Int.reduceNeg, Nat.reduceLT, Int.reduceEq, Int.reduceSub, Int.reduceAdd, Int.reduceMul, Nat.reducePow, Int.reduceBEq, Int.reduceBNe, Int.reduceMod, O18, A18_L0b, List.length_map, h1, hw, o1]
      · rw [h] at o1
        show (K E A18_L0 _).bind _ = (K E A18_L0 _).bind _
        conv => lhs; rw [A18_L0_eq]
        simp +contextual -implicitDefEqProofs (maxSteps := 2000000) only [go_sem, ↓reduceIte, Nat.reduceAdd, Nat.reduceMul, Nat.reduceSub, Nat.reduceEqDiff, Nat.reduceLeDiff, Nat.reduceDiv, Nat.reduceMod, Nat.reduceBEq, Nat.reduceBNe, reduceCtorEq, Int.reduceLE, Int.reduceLT, Int.reduceToNat, Int.reduceNeg, Nat.reduceLT, Int.reduceEq, Int.reduceSub, Int.reduceAdd, Int.reduceMul, Nat.reducePow, Int.reduceBEq, Int.reduceBNe, Int.reduceMod, O18, A18_L0b, List.length_map, h1, hw, o1])
  simp only [Int.natCast_zero, Int.ofNat_zero] at lp
  exact lp
theorem i18 (a b : List Pt) (A : Val a) (B : Val b) (k : Int) :
    (∀ i, tcI a b k = some i → ∀ j, tcJ a b k i = some j → (K E A18_L1 ⟨[(0, .vs (a.map c2)), (1, .vs (b.map c2)), (4, .ptr 1024 0), (6, .int .i64 k), (7, .int .i64 0)], [], O18 0 0 0, 0⟩).bind (blockR 2 (some [0, 1, 4, 6]) [5, 7, 8, 9, 33]) = some (.ex .ret ⟨[(4, .ptr 1024 0), (5, .bool true)], [], O18 k i j, 0⟩)) ∧
    (tcI a b k = none → (K E A18_L1 ⟨[(0, .vs (a.map c2)), (1, .vs (b.map c2)), (4, .ptr 1024 0), (6, .int .i64 k), (7, .int .i64 0)], [], O18 0 0 0, 0⟩).bind (blockR 2 (some [0, 1, 4, 6]) [5, 7, 8, 9, 33]) = some (.ex .nrm ⟨[(0, .vs (a.map c2)), (1, .vs (b.map c2)), (4, .ptr 1024 0), (6, .int .i64 k)], [], O18 0 0 0, 0⟩)) := by
  have a12 := A.n12
  have lp := loop_first (fun S => (K E A18_L1 S).bind (blockR 2 (some [0, 1, 4, 6]) [5, 7, 8, 9, 33]))
    (fun i => ⟨[(0, .vs (a.map c2)), (1, .vs (b.map c2)), (4, .ptr 1024 0), (6, .int .i64 k), (7, .int .i64 i)], [], O18 0 0 0, 0⟩)
    a.length (fun i => (tcJ a b k i).isSome)
    (fun i o => ∀ j, tcJ a b k i = some j → o = some (.ex .ret ⟨[(4, .ptr 1024 0), (5, .bool true)], [], O18 k i j, 0⟩))
    (some (.ex .nrm ⟨[(0, .vs (a.map c2)), (1, .vs (b.map c2)), (4, .ptr 1024 0), (6, .int .i64 k)], [], O18 0 0 0, 0⟩))
    (by
      show (K E A18_L1 _).bind _ = _
      rw [A18_L1_eq]; simp +contextual -implicitDefEqProofs (maxSteps := 2000000) only [go_sem, ↓reduceIte, Nat.reduceAdd, Nat.reduceMul, Nat.reduceSub, Nat.reduceEqDiff, Nat.reduceLeDiff, Nat.reduceDiv, Nat.reduceMod, Nat.reduceBEq, Nat.reduceBNe, reduceCtorEq, Int.reduceLE, Int.reduceLT, Int.reduceToNat, Int.reduceNeg, Nat.reduceLT, Int.reduceEq, Int.reduceSub, Int.reduceAdd, Int.reduceMul, Nat.reducePow, Int.reduceBEq, Int.reduceBNe, Int.reduceMod, A18_L1b, Int.lt_irrefl, List.length_map])
    (fun i hi => by
      have h1 : (i : Int) < a.length := by omega
      have hw := wr_k (k := i) (by omega)
      have q := j18 a b A B k i
      simp only [O18] at q
      refine ⟨fun h j hj => ?_, fun h => ?_⟩
      · have q := q.1 j hj
        show (K E A18_L1 _).bind _ = _
        rw [A18_L1_eq]
        simp +contextual -implicitDefEqProofs (maxSteps := 2000000) only [go_sem, ↓reduceIte, Nat.reduceAdd, Nat.reduceMul, Nat.reduceSub, Nat.reduceEqDiff, Nat.reduceLeDiff, Nat.reduceDiv, Nat.reduceMod, Nat.reduceBEq, Nat.reduceBNe, reduceCtorEq, Int.reduceLE, Int.reduceLT, Int.reduceToNat, Int.reduceNeg, Nat.reduceLT, Int.reduceEq, Int.reduceSub, Int.reduceAdd, Int.reduceMul, Nat.reducePow, Int.reduceBEq, Int.reduceBNe, Int.reduceMod, O18, A18_L1b, List.length_map, h1, hw, q]
      · have q := q.2 (by simpa using h)
        show (K E A18_L1 _).bind _ = (K E A18_L1 _).bind _
        conv => lhs; rw [A18_L1_eq]
        simp +contextual -implicitDefEqProofs (maxSteps := 2000000) only [go_sem, ↓reduceIte, Nat.reduceAdd, Nat.reduceMul, Nat.reduceSub, Nat.reduceEqDiff, Nat.reduceLeDiff, Nat.reduceDiv, Nat.reduceMod, Nat.reduceBEq, Nat.reduceBNe, reduceCtorEq, Int.reduceLE, Int.reduceLT, Int.reduceToNat, Int.reduceNeg, Nat.reduceLT, Int.reduceEq, Int.reduceSub, Int.reduceAdd, Int.reduceMul, Nat.reducePow, Int.reduceBEq, Int.reduceBNe, Int.reduceMod, O18, A18_L1b, List.length_map, h1, hw, q])
  simp only [Int.natCast_zero, Int.ofNat_zero] at lp
  exact lp
theorem c18 (a b : List Pt) (A : Val a) (B : Val b) : pc E 18 [.vs (a.map c2), .vs (b.map c2)] = some (conV (FC a b)) := by
  have a3 := A.n3
  have b3 := B.n3
  rw [← TC_FC (by omega) (by omega)]
  have q1 := i18 a b A B 1
  have q2 := i18 a b A B 2
  have q3 := i18 a b A B 3
  simp only [O18] at q1 q2 q3
  have ex : ∀ k i, tcI a b k = some i → ∃ j, tcJ a b k i = some j := fun k i h => by
    unfold tcI at h
    rw [List.find?_range_eq_some] at h
    exact Option.isSome_iff_exists.1 h.1
  unfold TC
  cases h1 : tcI a b 1 with
  | some i =>
    obtain ⟨j, hj⟩ := ex 1 i h1
    have r := q1.1 i h1 j hj
    simp only [hj, Option.map_some, conV]
    rw [pc_eq]; simp +contextual -implicitDefEqProofs (maxSteps := 2000000) only [go_sem, ↓reduceIte, Nat.reduceAdd, Nat.reduceMul, Nat.reduceSub, Nat.reduceEqDiff, Nat.reduceLeDiff, Nat.reduceDiv, Nat.reduceMod, Nat.reduceBEq, Nat.reduceBNe, reduceCtorEq, Int.reduceLE, Int.reduceLT, Int.reduceToNat, Int.reduceNeg, Nat.reduceLT, Int.reduceEq, Int.reduceSub, Int.reduceAdd, Int.reduceMul, Nat.reducePow, Int.reduceBEq, Int.reduceBNe, Int.reduceMod, E_18, A18, A18_L2_eq, A18_L2b, r]
  | none =>
    have r1 := q1.2 h1
    simp only
    cases h2 : tcI a b 2 with
    | some i =>
      obtain ⟨j, hj⟩ := ex 2 i h2
      have r := q2.1 i h2 j hj
      simp only [hj, Option.map_some, conV]
      rw [pc_eq]; simp +contextual -implicitDefEqProofs (maxSteps := 2000000) only [go_sem, ↓reduceIte, Nat.reduceAdd, Nat.reduceMul, Nat.reduceSub, Nat.reduceEqDiff, Nat.reduceLeDiff, Nat.reduceDiv, Nat.reduceMod, Nat.reduceBEq, Nat.reduceBNe, reduceCtorEq, Int.reduceLE, Int.reduceLT, Int.reduceToNat, Int.reduceNeg, Nat.reduceLT, Int.reduceEq, Int.reduceSub, Int.reduceAdd, Int.reduceMul, Nat.reducePow, Int.reduceBEq, Int.reduceBNe, Int.reduceMod, E_18, A18, A18_L2_eq, A18_L2b, r1, r]
    | none =>
      have r2 := q2.2 h2
      simp only
      cases h3 : tcI a b 3 with
      | some i =>
        obtain ⟨j, hj⟩ := ex 3 i h3
        have r := q3.1 i h3 j hj
        simp only [hj, Option.map_some, conV]
        rw [pc_eq]; simp +contextual -implicitDefEqProofs (maxSteps := 2000000) only [go_sem, ↓reduceIte, Nat.reduceAdd, Nat.reduceMul, Nat.reduceSub, Nat.reduceEqDiff, Nat.reduceLeDiff, Nat.reduceDiv, Nat.reduceMod, Nat.reduceBEq, Nat.reduceBNe, reduceCtorEq, Int.reduceLE, Int.reduceLT, Int.reduceToNat, Int.reduceNeg, Nat.reduceLT, Int.reduceEq, Int.reduceSub, Int.reduceAdd, Int.reduceMul, Nat.reducePow, Int.reduceBEq, Int.reduceBNe, Int.reduceMod, E_18, A18, A18_L2_eq, A18_L2b, r1, r2, r]
      | none =>
        have r3 := q3.2 h3
        simp only [conV]
        rw [pc_eq]; simp +contextual -implicitDefEqProofs (maxSteps := 2000000) only [go_sem, ↓reduceIte, Nat.reduceAdd, Nat.reduceMul, Nat.reduceSub, Nat.reduceEqDiff, Nat.reduceLeDiff, Nat.reduceDiv, Nat.reduceMod, Nat.reduceBEq, Nat.reduceBNe, reduceCtorEq, Int.reduceLE, Int.reduceLT, Int.reduceToNat, Int.reduceNeg, Nat.reduceLT, Int.reduceEq, Int.reduceSub, Int.reduceAdd, Int.reduceMul, Nat.reducePow, Int.reduceBEq, Int.reduceBNe, Int.reduceMod, E_18, A18, A18_L2_eq, A18_L2b, r1, r2, r3]
theorem law3 (a b : List Pt) (o d k i j : Int) : pc E 3 [.vs (a.map c2), .vs (b.map c2), .agg [.int .i64 o, .int .i64 d], .agg [.int .i64 k, .int .i64 i, .int .i64 j]] = some (.bool true) := by
  have fa := c16 a
  have fb := c16 b
  cases hA : valB a with
  | false => rw [hA] at fa; rw [pc_eq]; simp +contextual -implicitDefEqProofs (maxSteps := 2000000) only [go_sem, ↓reduceIte, Nat.reduceAdd, Nat.reduceMul, Nat.reduceSub, Nat.reduceEqDiff, Nat.reduceLeDiff, Nat.reduceDiv, Nat.reduceMod, Nat.reduceBEq, Nat.reduceBNe, reduceCtorEq, Int.reduceLE, Int.reduceLT, Int.reduceToNat, Int.reduceNeg, Nat.reduceLT, Int.reduceEq, Int.reduceSub, Int.reduceAdd, Int.reduceMul, Nat.reducePow, Int.reduceBEq, Int.reduceBNe, Int.reduceMod, E_3, A3, c15, fa]
  | true =>
    rw [hA] at fa
    cases hB : valB b with
    | false => rw [hB] at fb; rw [pc_eq]; simp +contextual -implicitDefEqProofs (maxSteps := 2000000) only [go_sem, ↓reduceIte, Nat.reduceAdd, Nat.reduceMul, Nat.reduceSub, Nat.reduceEqDiff, Nat.reduceLeDiff, Nat.reduceDiv, Nat.reduceMod, Nat.reduceBEq, Nat.reduceBNe, reduceCtorEq, Int.reduceLE, Int.reduceLT, Int.reduceToNat, Int.reduceNeg, Nat.reduceLT, Int.reduceEq, Int.reduceSub, Int.reduceAdd, Int.reduceMul, Nat.reducePow, Int.reduceBEq, Int.reduceBNe, Int.reduceMod, E_3, A3, c15, fa, fb]
    | true =>
      rw [hB] at fb
      have A := val_iff.1 hA
      have B := val_iff.1 hB
      have a12 := A.n12
      have b12 := B.n12
      have f1 := c17 a b (by omega) (by omega)
      have f2 := c18 a b A B
      have p1 := c19 a b (by omega) (by omega)
      have s1 := c20 a b (by omega) (by omega) o d
      have s2 := c21 a b (by omega) (by omega) o d
      have t1 := c22 a b (by omega) (by omega) k i j
      have t2 := c23 a b A B k i j
      have v1 := c24 a (by omega)
      have v2 := c24 b (by omega)
      have u1 := c25 a b (by omega) (by omega)
      have u2 := c26 a b (by omega) (by omega)
      generalize icnB a b k i j = ic at *
      generalize isepB a b o d = is at *
      generalize FC a b = F at *
      generalize SE a b = S at *
      generalize cvxB a = ca at *
      generalize cvxB b = cb at *
      cases F with
      | none =>
        simp only [conV, Option.isSome_none] at f1 f2 p1
        cases ca
        · rw [pc_eq]; simp +contextual -implicitDefEqProofs (maxSteps := 2000000) only [go_sem, ↓reduceIte, Nat.reduceAdd, Nat.reduceMul, Nat.reduceSub, Nat.reduceEqDiff, Nat.reduceLeDiff, Nat.reduceDiv, Nat.reduceMod, Nat.reduceBEq, Nat.reduceBNe, reduceCtorEq, Int.reduceLE, Int.reduceLT, Int.reduceToNat, Int.reduceNeg, Nat.reduceLT, Int.reduceEq, Int.reduceSub, Int.reduceAdd, Int.reduceMul, Nat.reducePow, Int.reduceBEq, Int.reduceBNe, Int.reduceMod, E_3, A3, c15, fa, fb, f1, f2, p1, s1, s2, t1, t2, v1, bne_self_eq_false, beq_self_eq_true]
        · cases cb
          · rw [pc_eq]; simp +contextual -implicitDefEqProofs (maxSteps := 2000000) only [go_sem, ↓reduceIte, Nat.reduceAdd, Nat.reduceMul, Nat.reduceSub, Nat.reduceEqDiff, Nat.reduceLeDiff, Nat.reduceDiv, Nat.reduceMod, Nat.reduceBEq, Nat.reduceBNe, reduceCtorEq, Int.reduceLE, Int.reduceLT, Int.reduceToNat, Int.reduceNeg, Nat.reduceLT, Int.reduceEq, Int.reduceSub, Int.reduceAdd, Int.reduceMul, Nat.reducePow, Int.reduceBEq, Int.reduceBNe, Int.reduceMod, E_3, A3, c15, fa, fb, f1, f2, p1, s1, s2, t1, t2, v1, v2, bne_self_eq_false, beq_self_eq_true]
          · cases S with
            | none =>
              simp only [sepV] at u1 u2
              rw [pc_eq]; simp +contextual -implicitDefEqProofs (maxSteps := 2000000) only [go_sem, ↓reduceIte, Nat.reduceAdd, Nat.reduceMul, Nat.reduceSub, Nat.reduceEqDiff, Nat.reduceLeDiff, Nat.reduceDiv, Nat.reduceMod, Nat.reduceBEq, Nat.reduceBNe, reduceCtorEq, Int.reduceLE, Int.reduceLT, Int.reduceToNat, Int.reduceNeg, Nat.reduceLT, Int.reduceEq, Int.reduceSub, Int.reduceAdd, Int.reduceMul, Nat.reducePow, Int.reduceBEq, Int.reduceBNe, Int.reduceMod, E_3, A3, c15, fa, fb, f1, f2, p1, s1, s2, t1, t2, v1, v2, u1, u2, bne_self_eq_false, beq_self_eq_true]
            | some q =>
              obtain ⟨q1, q2⟩ := q
              simp only [sepV] at u1 u2
              rw [pc_eq]; simp +contextual -implicitDefEqProofs (maxSteps := 2000000) only [go_sem, ↓reduceIte, Nat.reduceAdd, Nat.reduceMul, Nat.reduceSub, Nat.reduceEqDiff, Nat.reduceLeDiff, Nat.reduceDiv, Nat.reduceMod, Nat.reduceBEq, Nat.reduceBNe, reduceCtorEq, Int.reduceLE, Int.reduceLT, Int.reduceToNat, Int.reduceNeg, Nat.reduceLT, Int.reduceEq, Int.reduceSub, Int.reduceAdd, Int.reduceMul, Nat.reducePow, Int.reduceBEq, Int.reduceBNe, Int.reduceMod, E_3, A3, c15, fa, fb, f1, f2, p1, s1, s2, t1, t2, v1, v2, u1, u2, bne_self_eq_false, beq_self_eq_true]
      | some w =>
        obtain ⟨w1, w2, w3⟩ := w
        simp only [conV, Option.isSome_some] at f1 f2 p1
        cases ca
        · rw [pc_eq]; simp +contextual -implicitDefEqProofs (maxSteps := 2000000) only [go_sem, ↓reduceIte, Nat.reduceAdd, Nat.reduceMul, Nat.reduceSub, Nat.reduceEqDiff, Nat.reduceLeDiff, Nat.reduceDiv, Nat.reduceMod, Nat.reduceBEq, Nat.reduceBNe, reduceCtorEq, Int.reduceLE, Int.reduceLT, Int.reduceToNat, Int.reduceNeg, Nat.reduceLT, Int.reduceEq, Int.reduceSub, Int.reduceAdd, Int.reduceMul, Nat.reducePow, Int.reduceBEq, Int.reduceBNe, Int.reduceMod, E_3, A3, c15, fa, fb, f1, f2, p1, s1, s2, t1, t2, v1, bne_self_eq_false, beq_self_eq_true]
        · cases cb
          · rw [pc_eq]; simp +contextual -implicitDefEqProofs (maxSteps := 2000000) only [go_sem, ↓reduceIte, Nat.reduceAdd, Nat.reduceMul, Nat.reduceSub, Nat.reduceEqDiff, Nat.reduceLeDiff, Nat.reduceDiv, Nat.reduceMod, Nat.reduceBEq, Nat.reduceBNe, reduceCtorEq, Int.reduceLE, Int.reduceLT, Int.reduceToNat, Int.reduceNeg, Nat.reduceLT, Int.reduceEq, Int.reduceSub, Int.reduceAdd, Int.reduceMul, Nat.reducePow, Int.reduceBEq, Int.reduceBNe, Int.reduceMod, E_3, A3, c15, fa, fb, f1, f2, p1, s1, s2, t1, t2, v1, v2, bne_self_eq_false, beq_self_eq_true]
          · cases S with
            | none =>
              simp only [sepV] at u1 u2
              rw [pc_eq]; simp +contextual -implicitDefEqProofs (maxSteps := 2000000) only [go_sem, ↓reduceIte, Nat.reduceAdd, Nat.reduceMul, Nat.reduceSub, Nat.reduceEqDiff, Nat.reduceLeDiff, Nat.reduceDiv, Nat.reduceMod, Nat.reduceBEq, Nat.reduceBNe, reduceCtorEq, Int.reduceLE, Int.reduceLT, Int.reduceToNat, Int.reduceNeg, Nat.reduceLT, Int.reduceEq, Int.reduceSub, Int.reduceAdd, Int.reduceMul, Nat.reducePow, Int.reduceBEq, Int.reduceBNe, Int.reduceMod, E_3, A3, c15, fa, fb, f1, f2, p1, s1, s2, t1, t2, v1, v2, u1, u2, bne_self_eq_false, beq_self_eq_true]
            | some q =>
              obtain ⟨q1, q2⟩ := q
              simp only [sepV] at u1 u2
              rw [pc_eq]; simp +contextual -implicitDefEqProofs (maxSteps := 2000000) only [go_sem, ↓reduceIte, Nat.reduceAdd, Nat.reduceMul, Nat.reduceSub, Nat.reduceEqDiff, Nat.reduceLeDiff, Nat.reduceDiv, Nat.reduceMod, Nat.reduceBEq, Nat.reduceBNe, reduceCtorEq, Int.reduceLE, Int.reduceLT, Int.reduceToNat, Int.reduceNeg, Nat.reduceLT, Int.reduceEq, Int.reduceSub, Int.reduceAdd, Int.reduceMul, Nat.reducePow, Int.reduceBEq, Int.reduceBNe, Int.reduceMod, E_3, A3, c15, fa, fb, f1, f2, p1, s1, s2, t1, t2, v1, v2, u1, u2, bne_self_eq_false, beq_self_eq_true]
end Go.Proofs.Yteellikeoiedbaa
