/- Part of the proof: the evaluation of the program's code and its tie to the machine, or what functions of the program compute over it. -/
import Derived.Test.YteellikeoiedbaaPart2
namespace Go.Proofs.Yteellikeoiedbaa
set_option maxRecDepth 100000
set_option maxHeartbeats 4000000
set_option linter.unusedSimpArgs false
set_option linter.unusedVariables false
open Go Go.Zv
open Go.Geo
theorem shr1 (n : Int) : shf .shr .i64 n 1 = some (.int .i64 (n / 2)) := by
  unfold shf
  rw [if_neg (by decide)]
  have : (2 : Int) ^ (min (Int.toNat 1) IntKind.i64.bits) = 2 := by decide
  simp only [this]
  rw [Int.fdiv_eq_ediv_of_nonneg _ (by decide)]
theorem c20 (a b : List Pt) (ha : a.length ≤ 1000000000) (hb : b.length ≤ 1000000000) (o d : Int) : pc E 20 [.vs (a.map c2), .vs (b.map c2), .agg [.int .i64 o, .int .i64 d]] = some (.bool (isepB a b o d)) := by
  have g1 := c47 a ha d
  have g2 := c47 b hb d
  have k1 := c48 b hb (edn a d.toNat).1.1 (edn a d.toNat).1.2 (edn a d.toNat).2.1 (edn a d.toNat).2.2
  have k2 := c48 a ha (edn b d.toNat).1.1 (edn b d.toNat).1.2 (edn b d.toNat).2.1 (edn b d.toNat).2.2
  unfold isepB sepAt
  rw [show (((edn a d.toNat).1.1, (edn a d.toNat).1.2), ((edn a d.toNat).2.1, (edn a d.toNat).2.2)) = edn a d.toNat from rfl] at k1
  rw [show (((edn b d.toNat).1.1, (edn b d.toNat).1.2), ((edn b d.toNat).2.1, (edn b d.toNat).2.2)) = edn b d.toNat from rfl] at k2
  generalize beyB (edn a d.toNat) b = B1 at *
  generalize beyB (edn b d.toNat) a = B2' at *
  have sh := shr1 o
  have w1 : shf .shr .i64 1 1 = some (.int .i64 0) := shr1 1
  by_cases h1 : o = 1
  · subst h1
    rw [if_pos rfl]
    by_cases h2 : 0 ≤ d ∧ d < b.length
    · rw [if_pos h2] at g2
      rw [decide_eq_true h2, Bool.true_and]
      rw [pc_eq]; simp +contextual -implicitDefEqProofs (maxSteps := 2000000) only [go_sem, ↓reduceIte, Nat.reduceAdd, Nat.reduceMul, Nat.reduceSub, Nat.reduceEqDiff, Nat.reduceLeDiff, Nat.reduceDiv, Nat.reduceMod, Nat.reduceBEq, Nat.reduceBNe, reduceCtorEq, Int.reduceLE, Int.reduceLT, Int.reduceToNat, Int.reduceNeg, Nat.reduceLT, Int.reduceEq, Int.reduceSub, Int.reduceAdd, Int.reduceMul, Nat.reducePow, Int.reduceBEq, Int.reduceBNe, Int.reduceMod, E_20, A20, g2, k2, w1, beq_self_eq_true]
    · rw [if_neg h2] at g2
      rw [decide_eq_false h2, Bool.false_and]
      rw [pc_eq]; simp +contextual -implicitDefEqProofs (maxSteps := 2000000) only [go_sem, ↓reduceIte, Nat.reduceAdd, Nat.reduceMul, Nat.reduceSub, Nat.reduceEqDiff, Nat.reduceLeDiff, Nat.reduceDiv, Nat.reduceMod, Nat.reduceBEq, Nat.reduceBNe, reduceCtorEq, Int.reduceLE, Int.reduceLT, Int.reduceToNat, Int.reduceNeg, Nat.reduceLT, Int.reduceEq, Int.reduceSub, Int.reduceAdd, Int.reduceMul, Nat.reducePow, Int.reduceBEq, Int.reduceBNe, Int.reduceMod, E_20, A20, g2, w1, beq_self_eq_true]
  · have h1' : (o == 1) = false := by simpa using h1
    rw [if_neg h1]
    by_cases h2 : 0 ≤ d ∧ d < a.length
    · rw [if_pos h2] at g1
      rw [decide_eq_true h2, Bool.true_and]
      by_cases h3 : o = 0
      · subst h3
        have w0 : shf .shr .i64 0 1 = some (.int .i64 0) := shr1 0
        rw [pc_eq]; simp +contextual -implicitDefEqProofs (maxSteps := 2000000) only [go_sem, ↓reduceIte, Nat.reduceAdd, Nat.reduceMul, Nat.reduceSub, Nat.reduceEqDiff, Nat.reduceLeDiff, Nat.reduceDiv, Nat.reduceMod, Nat.reduceBEq, Nat.reduceBNe, reduceCtorEq, Int.reduceLE, Int.reduceLT, Int.reduceToNat, Int.reduceNeg, Nat.reduceLT, Int.reduceEq, Int.reduceSub, Int.reduceAdd, Int.reduceMul, Nat.reducePow, Int.reduceBEq, Int.reduceBNe, Int.reduceMod, E_20, A20, g1, k1, w0, h1, h1', beq_self_eq_true, decide_true, Bool.true_and]
      · have h4 : ¬ o / 2 = 0 := by omega
        have h4' : (o / 2 == 0) = false := by simpa using h4
        rw [pc_eq]; simp +contextual -implicitDefEqProofs (maxSteps := 2000000) only [go_sem, ↓reduceIte, Nat.reduceAdd, Nat.reduceMul, Nat.reduceSub, Nat.reduceEqDiff, Nat.reduceLeDiff, Nat.reduceDiv, Nat.reduceMod, Nat.reduceBEq, Nat.reduceBNe, reduceCtorEq, Int.reduceLE, Int.reduceLT, Int.reduceToNat, Int.reduceNeg, Nat.reduceLT, Int.reduceEq, Int.reduceSub, Int.reduceAdd, Int.reduceMul, Nat.reducePow, Int.reduceBEq, Int.reduceBNe, Int.reduceMod, E_20, A20, g1, k1, sh, h1, h1', h3, h4, h4', decide_false, Bool.false_and]
    · rw [if_neg h2] at g1
      rw [decide_eq_false h2, Bool.false_and, Bool.and_false]
      rw [pc_eq]; simp +contextual -implicitDefEqProofs (maxSteps := 2000000) only [go_sem, ↓reduceIte, Nat.reduceAdd, Nat.reduceMul, Nat.reduceSub, Nat.reduceEqDiff, Nat.reduceLeDiff, Nat.reduceDiv, Nat.reduceMod, Nat.reduceBEq, Nat.reduceBNe, reduceCtorEq, Int.reduceLE, Int.reduceLT, Int.reduceToNat, Int.reduceNeg, Nat.reduceLT, Int.reduceEq, Int.reduceSub, Int.reduceAdd, Int.reduceMul, Nat.reducePow, Int.reduceBEq, Int.reduceBNe, Int.reduceMod, E_20, A20, g1, h1, h1']
theorem c22 (a b : List Pt) (ha : a.length ≤ 1000000000) (hb : b.length ≤ 1000000000) (k i j : Int) : pc E 22 [.vs (a.map c2), .vs (b.map c2), .agg [.int .i64 k, .int .i64 i, .int .i64 j]] = some (.bool (icnB a b k i j)) := by
  have g1 := c47 a ha i
  have g2 := c47 b hb j
  have o1 := c27 (edn a i.toNat).1.1 (edn a i.toNat).1.2 (edn a i.toNat).2.1 (edn a i.toNat).2.2 (edn b j.toNat).1.1 (edn b j.toNat).1.2 (edn b j.toNat).2.1 (edn b j.toNat).2.2
  have o2 := c46 a b hb i
  have o3 := c46 b a ha j
  unfold icnB
  have hc : cutE (edn a i.toNat) (edn b j.toNat) = cutB (edn a i.toNat).1.1 (edn a i.toNat).1.2 (edn a i.toNat).2.1 (edn a i.toNat).2.2 (edn b j.toNat).1.1 (edn b j.toNat).1.2 (edn b j.toNat).2.1 (edn b j.toNat).2.2 := rfl
  rw [hc]
  generalize cutB (edn a i.toNat).1.1 (edn a i.toNat).1.2 (edn a i.toNat).2.1 (edn a i.toNat).2.2 (edn b j.toNat).1.1 (edn b j.toNat).1.2 (edn b j.toNat).2.1 (edn b j.toNat).2.2 = cc at *
  generalize insB a i b = B1 at *
  generalize insB b j a = B2' at *
  generalize edn a i.toNat = e at *
  generalize edn b j.toNat = f at *
  by_cases h1 : k = 1
  · subst h1
    rw [if_pos rfl]
    by_cases h2 : 0 ≤ i ∧ i < a.length
    · rw [if_pos h2] at g1
      rw [decide_eq_true h2, Bool.true_and]
      by_cases h3 : 0 ≤ j ∧ j < b.length
      · rw [if_pos h3] at g2
        rw [decide_eq_true h3, Bool.true_and]
        rw [pc_eq]; simp +contextual -implicitDefEqProofs (maxSteps := 2000000) only [go_sem, ↓reduceIte, Nat.reduceAdd, Nat.reduceMul, Nat.reduceSub, Nat.reduceEqDiff, Nat.reduceLeDiff, Nat.reduceDiv, Nat.reduceMod, Nat.reduceBEq, Nat.reduceBNe, reduceCtorEq, Int.reduceLE, Int.reduceLT, Int.reduceToNat, Int.reduceNeg, Nat.reduceLT, Int.reduceEq, Int.reduceSub, Int.reduceAdd, Int.reduceMul, Nat.reducePow, Int.reduceBEq, Int.reduceBNe, Int.reduceMod, E_22, A22, g1, g2, o1, beq_self_eq_true]
      · rw [if_neg h3] at g2
        rw [decide_eq_false h3, Bool.false_and]
        rw [pc_eq]; simp +contextual -implicitDefEqProofs (maxSteps := 2000000) only [go_sem, ↓reduceIte, Nat.reduceAdd, Nat.reduceMul, Nat.reduceSub, Nat.reduceEqDiff, Nat.reduceLeDiff, Nat.reduceDiv, Nat.reduceMod, Nat.reduceBEq, Nat.reduceBNe, reduceCtorEq, Int.reduceLE, Int.reduceLT, Int.reduceToNat, Int.reduceNeg, Nat.reduceLT, Int.reduceEq, Int.reduceSub, Int.reduceAdd, Int.reduceMul, Nat.reducePow, Int.reduceBEq, Int.reduceBNe, Int.reduceMod, E_22, A22, g1, g2, beq_self_eq_true]
    · rw [if_neg h2] at g1
      rw [decide_eq_false h2, Bool.false_and]
      by_cases h3 : 0 ≤ j ∧ j < b.length
      · rw [if_pos h3] at g2
        rw [pc_eq]; simp +contextual -implicitDefEqProofs (maxSteps := 2000000) only [go_sem, ↓reduceIte, Nat.reduceAdd, Nat.reduceMul, Nat.reduceSub, Nat.reduceEqDiff, Nat.reduceLeDiff, Nat.reduceDiv, Nat.reduceMod, Nat.reduceBEq, Nat.reduceBNe, reduceCtorEq, Int.reduceLE, Int.reduceLT, Int.reduceToNat, Int.reduceNeg, Nat.reduceLT, Int.reduceEq, Int.reduceSub, Int.reduceAdd, Int.reduceMul, Nat.reducePow, Int.reduceBEq, Int.reduceBNe, Int.reduceMod, E_22, A22, g1, g2, beq_self_eq_true]
      · rw [if_neg h3] at g2
        rw [pc_eq]; simp +contextual -implicitDefEqProofs (maxSteps := 2000000) only [go_sem, ↓reduceIte, Nat.reduceAdd, Nat.reduceMul, Nat.reduceSub, Nat.reduceEqDiff, Nat.reduceLeDiff, Nat.reduceDiv, Nat.reduceMod, Nat.reduceBEq, Nat.reduceBNe, reduceCtorEq, Int.reduceLE, Int.reduceLT, Int.reduceToNat, Int.reduceNeg, Nat.reduceLT, Int.reduceEq, Int.reduceSub, Int.reduceAdd, Int.reduceMul, Nat.reducePow, Int.reduceBEq, Int.reduceBNe, Int.reduceMod, E_22, A22, g1, g2, beq_self_eq_true]
  · have h1' : (k == 1) = false := by simpa using h1
    rw [if_neg h1]
    by_cases h2 : k = 2
    · subst h2
      rw [if_pos rfl]
      by_cases h3 : j = 0
      · subst h3
        rw [decide_eq_true rfl, Bool.true_and]
        rw [pc_eq]; simp +contextual -implicitDefEqProofs (maxSteps := 2000000) only [go_sem, ↓reduceIte, Nat.reduceAdd, Nat.reduceMul, Nat.reduceSub, Nat.reduceEqDiff, Nat.reduceLeDiff, Nat.reduceDiv, Nat.reduceMod, Nat.reduceBEq, Nat.reduceBNe, reduceCtorEq, Int.reduceLE, Int.reduceLT, Int.reduceToNat, Int.reduceNeg, Nat.reduceLT, Int.reduceEq, Int.reduceSub, Int.reduceAdd, Int.reduceMul, Nat.reducePow, Int.reduceBEq, Int.reduceBNe, Int.reduceMod, E_22, A22, o2, beq_self_eq_true]
      · have h3' : (j == 0) = false := by simpa using h3
        rw [decide_eq_false h3, Bool.false_and]
        rw [pc_eq]; simp +contextual -implicitDefEqProofs (maxSteps := 2000000) only [go_sem, ↓reduceIte, Nat.reduceAdd, Nat.reduceMul, Nat.reduceSub, Nat.reduceEqDiff, Nat.reduceLeDiff, Nat.reduceDiv, Nat.reduceMod, Nat.reduceBEq, Nat.reduceBNe, reduceCtorEq, Int.reduceLE, Int.reduceLT, Int.reduceToNat, Int.reduceNeg, Nat.reduceLT, Int.reduceEq, Int.reduceSub, Int.reduceAdd, Int.reduceMul, Nat.reducePow, Int.reduceBEq, Int.reduceBNe, Int.reduceMod, E_22, A22, h3, h3', beq_self_eq_true]
    · have h2' : (k == 2) = false := by simpa using h2
      rw [if_neg h2]
      by_cases h4 : k = 3
      · subst h4
        rw [if_pos rfl]
        by_cases h3 : i = 0
        · subst h3
          rw [decide_eq_true rfl, Bool.true_and]
          rw [pc_eq]; simp +contextual -implicitDefEqProofs (maxSteps := 2000000) only [go_sem, ↓reduceIte, Nat.reduceAdd, Nat.reduceMul, Nat.reduceSub, Nat.reduceEqDiff, Nat.reduceLeDiff, Nat.reduceDiv, Nat.reduceMod, Nat.reduceBEq, Nat.reduceBNe, reduceCtorEq, Int.reduceLE, Int.reduceLT, Int.reduceToNat, Int.reduceNeg, Nat.reduceLT, Int.reduceEq, Int.reduceSub, Int.reduceAdd, Int.reduceMul, Nat.reducePow, Int.reduceBEq, Int.reduceBNe, Int.reduceMod, E_22, A22, o3, beq_self_eq_true]
        · have h3' : (i == 0) = false := by simpa using h3
          rw [decide_eq_false h3, Bool.false_and]
          rw [pc_eq]; simp +contextual -implicitDefEqProofs (maxSteps := 2000000) only [go_sem, ↓reduceIte, Nat.reduceAdd, Nat.reduceMul, Nat.reduceSub, Nat.reduceEqDiff, Nat.reduceLeDiff, Nat.reduceDiv, Nat.reduceMod, Nat.reduceBEq, Nat.reduceBNe, reduceCtorEq, Int.reduceLE, Int.reduceLT, Int.reduceToNat, Int.reduceNeg, Nat.reduceLT, Int.reduceEq, Int.reduceSub, Int.reduceAdd, Int.reduceMul, Nat.reducePow, Int.reduceBEq, Int.reduceBNe, Int.reduceMod, E_22, A22, h3, h3', beq_self_eq_true]
      · have h4' : (k == 3) = false := by simpa using h4
        rw [if_neg h4]
        rw [pc_eq]; simp +contextual -implicitDefEqProofs (maxSteps := 2000000) only [go_sem, ↓reduceIte, Nat.reduceAdd, Nat.reduceMul, Nat.reduceSub, Nat.reduceEqDiff, Nat.reduceLeDiff, Nat.reduceDiv, Nat.reduceMod, Nat.reduceBEq, Nat.reduceBNe, reduceCtorEq, Int.reduceLE, Int.reduceLT, Int.reduceToNat, Int.reduceNeg, Nat.reduceLT, Int.reduceEq, Int.reduceSub, Int.reduceAdd, Int.reduceMul, Nat.reducePow, Int.reduceBEq, Int.reduceBNe, Int.reduceMod, E_22, A22, h1, h1', h2, h2', h4, h4']
theorem c16 (l : List Pt) : pc E 16 [.vs (l.map c2)] = some (.bool (valB l)) := by
  have h := c30 l
  by_cases k1 : (l.length : Int) ≤ 12
  · rw [pc_eq]; simp +contextual -implicitDefEqProofs (maxSteps := 2000000) only [go_sem, ↓reduceIte, Nat.reduceAdd, Nat.reduceMul, Nat.reduceSub, Nat.reduceEqDiff, Nat.reduceLeDiff, Nat.reduceDiv, Nat.reduceMod, Nat.reduceBEq, Nat.reduceBNe, reduceCtorEq, Int.reduceLE, Int.reduceLT, Int.reduceToNat, Int.reduceNeg, Nat.reduceLT, Int.reduceEq, Int.reduceSub, Int.reduceAdd, Int.reduceMul, Nat.reducePow, Int.reduceBEq, Int.reduceBNe, Int.reduceMod, E_16, A16, List.length_map, k1, h]
  · have hv : valB l = false := by
      cases hb : valB l with
      | false => rfl
      | true => have := (val_iff.1 hb).n12; omega
    rw [hv]
    rw [pc_eq]; simp +contextual -implicitDefEqProofs (maxSteps := 2000000) only [go_sem, ↓reduceIte, Nat.reduceAdd, Nat.reduceMul, Nat.reduceSub, Nat.reduceEqDiff, Nat.reduceLeDiff, Nat.reduceDiv, Nat.reduceMod, Nat.reduceBEq, Nat.reduceBNe, reduceCtorEq, Int.reduceLE, Int.reduceLT, Int.reduceToNat, Int.reduceNeg, Nat.reduceLT, Int.reduceEq, Int.reduceSub, Int.reduceAdd, Int.reduceMul, Nat.reducePow, Int.reduceBEq, Int.reduceBNe, Int.reduceMod, E_16, A16, List.length_map, k1, h]
theorem c51 (l : List Pt) (hl : l.length ≤ 1000000000) (k : Nat) (hk : k < l.length) : pc E 51 [.vs (l.map c2), .int .i64 k] = some (.int .i64 ((k + 1) % l.length : Nat)) := by
  obtain ⟨m1, m2, m3, m4, m5⟩ := mod_nat hk hl
  have hw := wr_k (k := k) (by omega)
  rw [pc_eq]; simp +contextual -implicitDefEqProofs (maxSteps := 2000000) only [go_sem, ↓reduceIte, Nat.reduceAdd, Nat.reduceMul, Nat.reduceSub, Nat.reduceEqDiff, Nat.reduceLeDiff, Nat.reduceDiv, Nat.reduceMod, Nat.reduceBEq, Nat.reduceBNe, reduceCtorEq, Int.reduceLE, Int.reduceLT, Int.reduceToNat, Int.reduceNeg, Nat.reduceLT, Int.reduceEq, Int.reduceSub, Int.reduceAdd, Int.reduceMul, Nat.reducePow, Int.reduceBEq, Int.reduceBNe, Int.reduceMod, E_51, A51, List.length_map, m1, m2, m3, hw]
theorem in24 (l : List Pt) (hl : l.length ≤ 1000000000) (i : Nat) (hi : i < l.length) :
    ((List.range l.length).any (rgtE l i) = true → (K E A24_L0 ⟨[(0, .vs (l.map c2)), (3, .int .i64 i), (4, .int .i64 0)], [], [], 0⟩).bind (blockR 2 (some [0, 3]) [2, 4, 24, 31]) = some (.ex .ret ⟨[(2, .bool false)], [], [], 0⟩)) ∧
    ((List.range l.length).any (rgtE l i) = false → (K E A24_L0 ⟨[(0, .vs (l.map c2)), (3, .int .i64 i), (4, .int .i64 0)], [], [], 0⟩).bind (blockR 2 (some [0, 3]) [2, 4, 24, 31]) = some (.ex .nrm ⟨[(0, .vs (l.map c2)), (3, .int .i64 i)], [], [], 0⟩)) := by
  have lp := loop_leave (σ := Unit) (fun S => (K E A24_L0 S).bind (blockR 2 (some [0, 3]) [2, 4, 24, 31]))
    (fun k _ => ⟨[(0, .vs (l.map c2)), (3, .int .i64 i), (4, .int .i64 k)], [], [], 0⟩)
    (List.range l.length) (fun _ _ => ()) (rgtE l i)
    (fun o => o = some (.ex .ret ⟨[(2, .bool false)], [], [], 0⟩))
    (fun _ => some (.ex .nrm ⟨[(0, .vs (l.map c2)), (3, .int .i64 i)], [], [], 0⟩))
    (fun x => by
      rw [List.length_range]
      show (K E A24_L0 _).bind _ = _
      rw [A24_L0_eq]; simp +contextual -implicitDefEqProofs (maxSteps := 2000000) only [go_sem, ↓reduceIte, Nat.reduceAdd, Nat.reduceMul, Nat.reduceSub, Nat.reduceEqDiff, Nat.reduceLeDiff, Nat.reduceDiv, Nat.reduceMod, Nat.reduceBEq, Nat.reduceBNe, reduceCtorEq, Int.reduceLE, Int.reduceLT, Int.reduceToNat, Int.reduceNeg, Nat.reduceLT, Int.reduceEq, Int.reduceSub, Int.reduceAdd, Int.reduceMul, Nat.reducePow, Int.reduceBEq, Int.reduceBNe, Int.reduceMod, A24_L0b, Int.lt_irrefl, List.length_map])
    (fun k k' x hk he => by
      rw [List.length_range] at hk
      rw [range_get hk] at he
      cases he
      have g1 := get_c2 (ptn_get hi)
      have g2 := get_c2 (ptn_mod (l := l) (k := i + 1) (by omega))
      have g3 := get_c2 (ptn_get hk)
      have o2 := c51 l hl i hi
      obtain ⟨_, _, _, m4, m5⟩ := mod_nat hi hl
      have h1 : (k : Int) < l.length := by omega
      have h0 : (0 : Int) ≤ k := by omega
      have i1 : (i : Int) < l.length := by omega
      have i0 : (0 : Int) ≤ i := by omega
      have hw := wr_k (k := k) (by omega)
      have o1 := c53 (ptn l i).1 (ptn l i).2 (ptn l (i + 1)).1 (ptn l (i + 1)).2 (ptn l k).1 (ptn l k).2
      unfold rgtE oriE
      generalize sgn (crW (ptn l i).1 (ptn l i).2 (ptn l (i + 1)).1 (ptn l (i + 1)).2 (ptn l k).1 (ptn l k).2) = s at *
      generalize ptn l i = p1 at *
      generalize ptn l (i + 1) = p2 at *
      generalize ptn l k = p3 at *
      refine ⟨fun h => ?_, fun h => ?_⟩
      · have h' := of_decide_eq_true h
        show (K E A24_L0 _).bind _ = _
        rw [A24_L0_eq]
        simp +contextual -implicitDefEqProofs (maxSteps := 2000000) only [go_sem, ↓reduceIte, Nat.reduceAdd, Nat.reduceMul, Nat.reduceSub, Nat.reduceEqDiff, Nat.reduceLeDiff, Nat.reduceDiv, Nat.reduceMod, Nat.reduceBEq, Nat.reduceBNe, reduceCtorEq, Int.reduceLE, Int.reduceLT, Int.reduceToNat, Int.reduceNeg, Nat.reduceLT, Int.reduceEq, Int.reduceSub, Int.reduceAdd, Int.reduceMul, Nat.reducePow, Int.reduceBEq, Int.reduceBNe, Int.reduceMod, A24_L0b, List.length_map, h0, h1, i0, i1, g1, g2, g3, m4, m5, o2, o1, hw, h']
      · have h' := of_decide_eq_false h
        show (K E A24_L0 _).bind _ = (K E A24_L0 _).bind _
        conv => lhs; rw [A24_L0_eq]
        simp +contextual -implicitDefEqProofs (maxSteps := 2000000) only [go_sem, ↓reduceIte, Nat.reduceAdd, Nat.reduceMul, Nat.reduceSub, Nat.reduceEqDiff, Nat.reduceLeDiff, Nat.reduceDiv, Nat.reduceMod, Nat.reduceBEq, Nat.reduceBNe, reduceCtorEq, Int.reduceLE, Int.reduceLT, Int.reduceToNat, Int.reduceNeg, Nat.reduceLT, Int.reduceEq, Int.reduceSub, Int.reduceAdd, Int.reduceMul, Nat.reducePow, Int.reduceBEq, Int.reduceBNe, Int.reduceMod, A24_L0b, List.length_map, h0, h1, i0, i1, g1, g2, g3, m4, m5, o2, o1, hw, h'])
    ()
  simp only [Int.natCast_zero, Int.ofNat_zero] at lp
  exact lp
theorem c24 (l : List Pt) (hl : l.length ≤ 1000000000) : pc E 24 [.vs (l.map c2)] = some (.bool (cvxB l)) := by
  have lp := loop_leave (σ := Unit) (fun S => (K E A24_L1 S).bind (blockR 0 (some []) [2, 3, 4, 24, 31]))
    (fun k _ => ⟨[(0, .vs (l.map c2)), (3, .int .i64 k)], [], [], 0⟩)
    (List.range l.length) (fun _ _ => ()) (fun i => (List.range l.length).any (rgtE l i))
    (fun o => o = some (.ex .ret ⟨[(2, .bool false)], [], [], 0⟩))
    (fun _ => some (.ex .nrm ⟨[], [], [], 0⟩))
    (fun x => by
      rw [List.length_range]
      show (K E A24_L1 _).bind _ = _
      rw [A24_L1_eq]; simp +contextual -implicitDefEqProofs (maxSteps := 2000000) only [go_sem, ↓reduceIte, Nat.reduceAdd, Nat.reduceMul, Nat.reduceSub, Nat.reduceEqDiff, Nat.reduceLeDiff, Nat.reduceDiv, Nat.reduceMod, Nat.reduceBEq, Nat.reduceBNe, reduceCtorEq, Int.reduceLE, Int.reduceLT, Int.reduceToNat, Int.reduceNeg, Nat.reduceLT, Int.reduceEq, Int.reduceSub, Int.reduceAdd, Int.reduceMul, Nat.reducePow, Int.reduceBEq, Int.reduceBNe, Int.reduceMod, A24_L1b, Int.lt_irrefl, List.length_map])
    (fun i i' x hi he => by
      rw [List.length_range] at hi
      rw [range_get hi] at he
      cases he
      have h1 : (i : Int) < l.length := by omega
      have hw := wr_k (k := i) (by omega)
      have q := in24 l hl i hi
      refine ⟨fun h => ?_, fun h => ?_⟩
      · have q := q.1 h
        show (K E A24_L1 _).bind _ = _
        rw [A24_L1_eq]
        simp +contextual -implicitDefEqProofs (maxSteps := 2000000) only [go_sem, ↓reduceIte, Nat.reduceAdd, Nat.reduceMul, Nat.reduceSub, Nat.reduceEqDiff, Nat.reduceLeDiff, Nat.reduceDiv, Nat.reduceMod, Nat.reduceBEq, Nat.reduceBNe, reduceCtorEq, Int.reduceLE, Int.reduceLT, Int.reduceToNat, Int.reduceNeg, Nat.reduceLT, Int.reduceEq, Int.reduceSub, Int.reduceAdd, Int.reduceMul, Nat.reducePow, Int.reduceBEq, Int.reduceBNe, Int.reduceMod, A24_L1b, List.length_map, h1, hw, q]
      · have q := q.2 h
        show (K E A24_L1 _).bind _ = (K E A24_L1 _).bind _
        conv => lhs; rw [A24_L1_eq]
        simp +contextual -implicitDefEqProofs (maxSteps := 2000000) only [go_sem, ↓reduceIte, Nat.reduceAdd, Nat.reduceMul, Nat.reduceSub, Nat.reduceEqDiff, Nat.reduceLeDiff, Nat.reduceDiv, Nat.reduceMod, Nat.reduceBEq, Nat.reduceBNe, reduceCtorEq, Int.reduceLE, Int.reduceLT, Int.reduceToNat, Int.reduceNeg, Nat.reduceLT, Int.reduceEq, Int.reduceSub, Int.reduceAdd, Int.reduceMul, Nat.reducePow, Int.reduceBEq, Int.reduceBNe, Int.reduceMod, A24_L1b, List.length_map, h1, hw, q])
    ()
  simp only [Int.natCast_zero, Int.ofNat_zero] at lp
  unfold cvxB
  cases ha : (List.range l.length).any fun i => (List.range l.length).any (rgtE l i)
  · have lq := lp.2 ha
    rw [pc_eq]; simp +contextual -implicitDefEqProofs (maxSteps := 2000000) only [go_sem, ↓reduceIte, Nat.reduceAdd, Nat.reduceMul, Nat.reduceSub, Nat.reduceEqDiff, Nat.reduceLeDiff, Nat.reduceDiv, Nat.reduceMod, Nat.reduceBEq, Nat.reduceBNe, reduceCtorEq, Int.reduceLE, Int.reduceLT, Int.reduceToNat, Int.reduceNeg, Nat.reduceLT, Int.reduceEq, Int.reduceSub, Int.reduceAdd, Int.reduceMul, Nat.reducePow, Int.reduceBEq, Int.reduceBNe, Int.reduceMod, E_24, A24, List.length_map, lq]
  · have lq := lp.1 ha
    rw [pc_eq]; simp +contextual -implicitDefEqProofs (maxSteps := 2000000) only [go_sem, ↓reduceIte, Nat.reduceAdd, Nat.reduceMul, Nat.reduceSub, Nat.reduceEqDiff, Nat.reduceLeDiff, Nat.reduceDiv, Nat.reduceMod, Nat.reduceBEq, Nat.reduceBNe, reduceCtorEq, Int.reduceLE, Int.reduceLT, Int.reduceToNat, Int.reduceNeg, Nat.reduceLT, Int.reduceEq, Int.reduceSub, Int.reduceAdd, Int.reduceMul, Nat.reducePow, Int.reduceBEq, Int.reduceBNe, Int.reduceMod, E_24, A24, List.length_map, lq]
end Go.Proofs.Yteellikeoiedbaa

namespace Go.Proofs.Yteellikeoiedbaa
set_option maxRecDepth 100000
set_option maxHeartbeats 4000000
set_option linter.unusedSimpArgs false
set_option linter.unusedVariables false
open Go Go.Zv
open Go.Geo
theorem c44 (x y n : Int) (hx : 0 ≤ x ∧ x ≤ 100) (hy : 0 ≤ y ∧ y ≤ 100) (hn : 0 ≤ n ∧ n ≤ 100) : pc E 44 [.int .i64 x, .int .i64 y, .int .i64 n] = some (.os 2 ((sqL x y n).map c2)) := by
  have w1 : IntKind.i64.wrap (x + n) = x + n := wrap_small (by omega) (by omega)
  have w2 : IntKind.i64.wrap (y + n) = y + n := wrap_small (by omega) (by omega)
  rw [pc_eq]; simp +contextual -implicitDefEqProofs (maxSteps := 2000000) only [go_sem, ↓reduceIte, Nat.reduceAdd, Nat.reduceMul, Nat.reduceSub, Nat.reduceEqDiff, Nat.reduceLeDiff, Nat.reduceDiv, Nat.reduceMod, Nat.reduceBEq, Nat.reduceBNe, reduceCtorEq, Int.reduceLE, Int.reduceLT, Int.reduceToNat, Int.reduceNeg, Nat.reduceLT, Int.reduceEq, Int.reduceSub, Int.reduceAdd, Int.reduceMul, Nat.reducePow, Int.reduceBEq, Int.reduceBNe, Int.reduceMod, E_44, A44, w1, w2, sqL, List.map_cons, List.map_nil, c2]
theorem c15 : pc E 15 [] = some (.bool true) := by
  have s1 := c44 0 0 4 (by omega) (by omega) (by omega)
  have s2 := c44 6 1 2 (by omega) (by omega) (by omega)
  have s3 := c44 4 4 2 (by omega) (by omega) (by omega)
  have s4 := c44 1 1 2 (by omega) (by omega) (by omega)
  have s5 := c44 5 0 2 (by omega) (by omega) (by omega)
  have a1 := h25a
  have a2 := h25b
  have b1 := c17 (sqL 0 0 4) (sqL 4 4 2) (by simp [sqL]) (by simp [sqL])
  have b2 := c17 (sqL 0 0 4) (sqL 1 1 2) (by simp [sqL]) (by simp [sqL])
  have b3 := c17 (sqL 1 1 2) (sqL 0 0 4) (by simp [sqL]) (by simp [sqL])
  have b4 := c17 (sqL 0 0 4) (sqL 5 0 2) (by simp [sqL]) (by simp [sqL])
  have b5 := c19 (sqL 0 0 4) (sqL 0 0 4) (by simp [sqL]) (by simp [sqL])
  rw [h17a] at b1; rw [h17b] at b2; rw [h17c] at b3; rw [h17d] at b4; rw [h17e] at b5
  simp only [conV, Option.isSome_some] at b1 b2 b3 b4 b5
  have d1 := c20 (sqL 0 0 4) (sqL 6 1 2) (by simp [sqL]) (by simp [sqL]) 1 3
  have d2 := c20 (sqL 0 0 4) (sqL 6 1 2) (by simp [sqL]) (by simp [sqL]) 0 0
  have e1 : isepB (sqL 0 0 4) (sqL 6 1 2) 1 3 = true := by kernel_rfl
  have e2 : isepB (sqL 0 0 4) (sqL 6 1 2) 0 0 = false := by kernel_rfl
  rw [e1] at d1; rw [e2] at d2
  have f1 := c22 (sqL 0 0 4) (sqL 4 4 2) (by simp [sqL]) (by simp [sqL]) 2 2 0
  have e3 : icnB (sqL 0 0 4) (sqL 4 4 2) 2 2 0 = true := by kernel_rfl
  rw [e3] at f1
  have n1 : ((sqL 0 0 4).map c2).length = 4 := rfl
  have t1 : List.take 4 ((sqL 0 0 4).map c2) = (sqL 0 0 4).map c2 := rfl
  have n2 : ((sqL 6 1 2).map c2).length = 4 := rfl
  have t2 : List.take 4 ((sqL 6 1 2).map c2) = (sqL 6 1 2).map c2 := rfl
  have n3 : ((sqL 4 4 2).map c2).length = 4 := rfl
  have t3 : List.take 4 ((sqL 4 4 2).map c2) = (sqL 4 4 2).map c2 := rfl
  have n4 : ((sqL 1 1 2).map c2).length = 4 := rfl
  have t4 : List.take 4 ((sqL 1 1 2).map c2) = (sqL 1 1 2).map c2 := rfl
  have n5 : ((sqL 5 0 2).map c2).length = 4 := rfl
  have t5 : List.take 4 ((sqL 5 0 2).map c2) = (sqL 5 0 2).map c2 := rfl
  generalize (sqL 0 0 4).map c2 = q1 at *
  generalize (sqL 6 1 2).map c2 = q2 at *
  generalize (sqL 4 4 2).map c2 = q3 at *
  generalize (sqL 1 1 2).map c2 = q4 at *
  generalize (sqL 5 0 2).map c2 = q5 at *
  rw [pc_eq]; simp +contextual -implicitDefEqProofs (maxSteps := 2000000) only [go_sem, ↓reduceIte, Nat.reduceAdd, Nat.reduceMul, Nat.reduceSub, Nat.reduceEqDiff, Nat.reduceLeDiff, Nat.reduceDiv, Nat.reduceMod, Nat.reduceBEq, Nat.reduceBNe, reduceCtorEq, Int.reduceLE, Int.reduceLT, Int.reduceToNat, Int.reduceNeg, Nat.reduceLT, Int.reduceEq, Int.reduceSub, Int.reduceAdd, Int.reduceMul, Nat.reducePow, Int.reduceBEq, Int.reduceBNe, Int.reduceMod, E_15, A15, s1, s2, s3, s4, s5, a1, a2, b1, b2, b3, b4, b5, d1, d2, f1, beq_self_eq_true, n1, n2, n3, n4, n5, t1, t2, t3, t4, t5]
end Go.Proofs.Yteellikeoiedbaa

namespace Go.Geo
set_option maxRecDepth 100000
set_option maxHeartbeats 4000000
set_option linter.unusedSimpArgs false
set_option linter.unusedVariables false
open Go Go.Zv
def seA (a b : List Pt) : Option Nat := (List.range a.length).find? fun i => beyB (edn a i) b
/-- the first separating edge -/
def SE (a b : List Pt) : Option (Int × Int) :=
  match seA a b with
  | some i => some (0, (i : Int))
  | none => Option.map (fun i : Nat => ((1 : Int), (i : Int))) (seA b a)
end Go.Geo
namespace Go.Proofs.Yteellikeoiedbaa
set_option maxRecDepth 100000
set_option maxHeartbeats 4000000
set_option linter.unusedSimpArgs false
set_option linter.unusedVariables false
open Go Go.Zv
open Go.Geo
def sepV : Option (Int × Int) → LV
  | some (o, i) => .tup [.agg [.int .i64 o, .int .i64 i], .bool true]
  | none => .tup [.agg [.int .i64 0, .int .i64 0], .bool false]
abbrev FR25 (a b p : List Pt) (o : Int) : Env := [(0, .vs (a.map c2)), (1, .vs (b.map c2)), (4, .ptr 1024 0), (5, .ptr 1280 0), (6, .ptr 1536 0), (8, .ptr 2048 0), (13, .agg [.vs (a.map c2), .vs (b.map c2)]), (14, .int .i64 o), (24, .fn (Fn.func 73) [] [.fp [.vs (p.map c2)]])]
abbrev OO25 (a b p q : List Pt) (o : Int) (st : LSt) (pe : AEx) (ok : Bool) (s0 s1 : Int) : Heap := [(1024000, .loop (FR25 a b p o) [25, 26] A25_R0a A25_R0b st pe), (2048, .box [.vs (q.map c2)]), (2049, .row 2 []), (1536, .box [.int .i64 o]), (1280, .box [.bool ok]), (1024, .box [.int .i64 s0, .int .i64 s1])]
theorem in25 (a b p q : List Pt) (hp : p.length ≤ 1000000000) (hq : q.length ≤ 1000000000) (o : Int) :
    (∀ i, seA p q = some i → (K E A73_L0 ⟨[(0, .yl 1024000), (1, .fp [.vs (p.map c2)]), (5, .vs (p.map c2)), (6, .int .i64 p.length), (7, .int .i64 0)], [FR25 a b p o, [(0, .yl 1024000)]], OO25 a b p q o .ready .nrm false 0 0, 1⟩).bind (blockR 0 (some []) [3, 4, 24]) =
      some (.ex .ret ⟨[(0, .yl 1024000), (1, .fp [.vs (p.map c2)]), (5, .vs (p.map c2)), (6, .int .i64 p.length), (7, .int .i64 i), (25, .bool true)], [FR25 a b p o, [(0, .yl 1024000)]], OO25 a b p q o .done .ret true o i, 1⟩)) ∧
    (seA p q = none → (K E A73_L0 ⟨[(0, .yl 1024000), (1, .fp [.vs (p.map c2)]), (5, .vs (p.map c2)), (6, .int .i64 p.length), (7, .int .i64 0)], [FR25 a b p o, [(0, .yl 1024000)]], OO25 a b p q o .ready .nrm false 0 0, 1⟩).bind (blockR 0 (some []) [3, 4, 24]) =
      some (.ex .nrm ⟨[], [FR25 a b p o, [(0, .yl 1024000)]], OO25 a b p q o .ready .nrm false 0 0, 1⟩)) := by
  have lp := loop_first (fun S => (K E A73_L0 S).bind (blockR 0 (some []) [3, 4, 24]))
    (fun k => ⟨[(0, .yl 1024000), (1, .fp [.vs (p.map c2)]), (5, .vs (p.map c2)), (6, .int .i64 p.length), (7, .int .i64 k)], [FR25 a b p o, [(0, .yl 1024000)]], OO25 a b p q o .ready .nrm false 0 0, 1⟩)
    p.length (fun i => beyB (edn p i) q)
    (fun i r => r = some (.ex .ret ⟨[(0, .yl 1024000), (1, .fp [.vs (p.map c2)]), (5, .vs (p.map c2)), (6, .int .i64 p.length), (7, .int .i64 i), (25, .bool true)], [FR25 a b p o, [(0, .yl 1024000)]], OO25 a b p q o .done .ret true o i, 1⟩))
    (some (.ex .nrm ⟨[], [FR25 a b p o, [(0, .yl 1024000)]], OO25 a b p q o .ready .nrm false 0 0, 1⟩))
    (by
      show (K E A73_L0 _).bind _ = _
      rw [A73_L0_eq]; simp +contextual -implicitDefEqProofs (maxSteps := 2000000) only [go_sem, ↓reduceIte, Nat.reduceAdd, Nat.reduceMul, Nat.reduceSub, Nat.reduceEqDiff, Nat.reduceLeDiff, Nat.reduceDiv, Nat.reduceMod, Nat.reduceBEq, Nat.reduceBNe, reduceCtorEq, Int.reduceLE, Int.reduceLT, Int.reduceToNat, Int.reduceNeg, Nat.reduceLT, Int.reduceEq, Int.reduceSub, Int.reduceAdd, Int.reduceMul, Nat.reducePow, Int.reduceBEq, Int.reduceBNe, Int.reduceMod, A73_L0b, Int.lt_irrefl])
    (fun k hk => by
      obtain ⟨_, g1, g2⟩ := eds_get (edn_get hk)
      have g1 := get_c2 g1
      have g2 := get_c2 g2
      obtain ⟨m1, m2, m3, m4, m5⟩ := mod_nat hk hp
      have hw := wr_k (k := k) (by omega)
      have h1 : (k : Int) < p.length := by omega
      have h0 : (0 : Int) ≤ k := by omega
      generalize edn p k = e at *
      obtain ⟨⟨ax, ay⟩, ⟨bx, by_⟩⟩ := e
      have o1 := c48 q hq ax ay bx by_
      refine ⟨fun hb => ?_, fun hb => ?_⟩
      · rw [hb] at o1
        show (K E A73_L0 _).bind _ = _
        rw [A73_L0_eq]
        simp +contextual -implicitDefEqProofs (maxSteps := 2000000) only [go_sem, ↓reduceIte, Nat.reduceAdd, Nat.reduceMul, Nat.reduceSub, Nat.reduceEqDiff, Nat.reduceLeDiff, Nat.reduceDiv, Nat.reduceMod, Nat.reduceBEq, Nat.reduceBNe, reduceCtorEq, Int.reduceLE, Int.reduceLT, Int.reduceToNat, Int.reduceNeg, Nat.reduceLT, Int.reduceEq, Int.reduceSub, Int.reduceAdd, Int.reduceMul, Nat.reducePow, Int.reduceBEq, Int.reduceBNe, Int.reduceMod, OO25, FR25, A73_L0b, A25_R0a, A25_R0b, List.length_map, h0, h1, g1, g2, m1, m2, m3, m4, m5, hw, o1]
      · rw [hb] at o1
        show (K E A73_L0 _).bind _ = (K E A73_L0 _).bind _
        conv => lhs; rw [A73_L0_eq]
        simp +contextual -implicitDefEqProofs (maxSteps := 2000000) only [go_sem, ↓reduceIte, Nat.reduceAdd, Nat.reduceMul, Nat.reduceSub, Nat.reduceEqDiff, Nat.reduceLeDiff, Nat.reduceDiv, Nat.reduceMod, Nat.reduceBEq, Nat.reduceBNe, reduceCtorEq, Int.reduceLE, Int.reduceLT, Int.reduceToNat, Int.reduceNeg, Nat.reduceLT, Int.reduceEq, Int.reduceSub, Int.reduceAdd, Int.reduceMul, Nat.reducePow, Int.reduceBEq, Int.reduceBNe, Int.reduceMod, OO25, FR25, A73_L0b, A25_R0a, A25_R0b, List.length_map, h0, h1, g1, g2, m1, m2, m3, m4, m5, hw, o1])
  simp only [Int.natCast_zero, Int.ofNat_zero] at lp
  exact lp
theorem c25 (a b : List Pt) (ha : a.length ≤ 1000000000) (hb : b.length ≤ 1000000000) : pc E 25 [.vs (a.map c2), .vs (b.map c2)] = some (sepV (SE a b)) := by
  have h1 := c45 a
  have h2 := c45 b
  have q1 := in25 a b a b ha hb 0
  have q2 := in25 a b b a hb ha 1
  simp only [FR25, OO25] at q1 q2
  unfold SE
  cases e1 : seA a b with
  | some i =>
    have r1 := q1.1 i e1
    simp only [sepV]
    rw [pc_eq]; simp +contextual -implicitDefEqProofs (maxSteps := 2000000) only [go_sem, ↓reduceIte, Nat.reduceAdd, Nat.reduceMul, Nat.reduceSub, Nat.reduceEqDiff, Nat.reduceLeDiff, Nat.reduceDiv, Nat.reduceMod, Nat.reduceBEq, Nat.reduceBNe, reduceCtorEq, Int.reduceLE, Int.reduceLT, Int.reduceToNat, Int.reduceNeg, Nat.reduceLT, Int.reduceEq, Int.reduceSub, Int.reduceAdd, Int.reduceMul, Nat.reducePow, Int.reduceBEq, Int.reduceBNe, Int.reduceMod, E_25, A25, A25_L1_eq, A25_L1b, h1, h2, E_73, A73, A25_R0, List.length_map, r1]
  | none =>
    have r1 := q1.2 e1
    cases e2 : seA b a with
    | some i =>
      have r2 := q2.1 i e2
      simp only [sepV, Option.map_some]
      rw [pc_eq]; simp +contextual -implicitDefEqProofs (maxSteps := 2000000) only [go_sem, ↓reduceIte, Nat.reduceAdd, Nat.reduceMul, Nat.reduceSub, Nat.reduceEqDiff, Nat.reduceLeDiff, Nat.reduceDiv, Nat.reduceMod, Nat.reduceBEq, Nat.reduceBNe, reduceCtorEq, Int.reduceLE, Int.reduceLT, Int.reduceToNat, Int.reduceNeg, Nat.reduceLT, Int.reduceEq, Int.reduceSub, Int.reduceAdd, Int.reduceMul, Nat.reducePow, Int.reduceBEq, Int.reduceBNe, Int.reduceMod, E_25, A25, A25_L1_eq, A25_L1b, h1, h2, E_73, A73, A25_R0, List.length_map, r1, r2]
    | none =>
      have r2 := q2.2 e2
      simp only [sepV, Option.map_none]
      rw [pc_eq]; simp +contextual -implicitDefEqProofs (maxSteps := 2000000) only [go_sem, ↓reduceIte, Nat.reduceAdd, Nat.reduceMul, Nat.reduceSub, Nat.reduceEqDiff, Nat.reduceLeDiff, Nat.reduceDiv, Nat.reduceMod, Nat.reduceBEq, Nat.reduceBNe, reduceCtorEq, Int.reduceLE, Int.reduceLT, Int.reduceToNat, Int.reduceNeg, Nat.reduceLT, Int.reduceEq, Int.reduceSub, Int.reduceAdd, Int.reduceMul, Nat.reducePow, Int.reduceBEq, Int.reduceBNe, Int.reduceMod, E_25, A25, A25_L1_eq, A25_L1b, h1, h2, E_73, A73, A25_R0, List.length_map, r1, r2]
end Go.Proofs.Yteellikeoiedbaa

namespace Go.Geo
set_option maxRecDepth 100000
set_option maxHeartbeats 4000000
set_option linter.unusedSimpArgs false
set_option linter.unusedVariables false
open Go Go.Zv
/-! a polygon cut in two -/
section
variable {a : List Pt} {k : Nat}
def cut1 (a : List Pt) (k : Nat) : List Pt := a.take (k + 1)
def cut2 (a : List Pt) (k : Nat) : List Pt := ptn a 0 :: a.drop k
theorem cut1_len (hk : k + 1 ≤ a.length) : (cut1 a k).length = k + 1 := by unfold cut1; rw [List.length_take]; omega
theorem cut2_len (hk : k ≤ a.length) : (cut2 a k).length = a.length - k + 1 := by unfold cut2; rw [List.length_cons, List.length_drop]
theorem ptn_eq_of {l m : List Pt} {i j : Nat} (hi : i < l.length) (hj : j < m.length) (h : l[i]? = m[j]?) : ptn l i = ptn m j := by
  rw [ptn_get hi, ptn_get hj] at h; simpa using h
theorem cut1_ptn (hk : k + 1 ≤ a.length) {j : Nat} (hj : j ≤ k) : ptn (cut1 a k) j = ptn a j :=
  ptn_eq_of (by rw [cut1_len hk]; omega) (by omega) (by unfold cut1; rw [List.getElem?_take, if_pos (by omega)])
theorem cut1_ptn' (hk : k + 1 ≤ a.length) : ptn (cut1 a k) (k + 1) = ptn a 0 := by
  have := ptn_per (cut1 a k) 0
  rw [cut1_len hk, Nat.zero_add] at this
  rw [this, cut1_ptn hk (by omega)]
theorem cut2_ptn0 (hk : k < a.length) : ptn (cut2 a k) 0 = ptn a 0 := by
  have h1 := ptn_get (l := cut2 a k) (k := 0) (by rw [cut2_len (by omega)]; omega)
  unfold cut2 at h1 ⊢
  simpa using h1.symm
theorem cut2_ptn (hk : k < a.length) {j : Nat} (hj : k + j < a.length) : ptn (cut2 a k) (j + 1) = ptn a (k + j) :=
  ptn_eq_of (by rw [cut2_len (by omega)]; omega) hj (by unfold cut2; rw [List.getElem?_cons_succ, List.getElem?_drop])
theorem cut2_ptn' (hk : k < a.length) : ptn (cut2 a k) (a.length - k + 1) = ptn a 0 := by
  have := ptn_per (cut2 a k) 0
  rw [cut2_len (by omega), Nat.zero_add] at this
  rw [this, cut2_ptn0 hk]
theorem ptn_n (a : List Pt) : ptn a a.length = ptn a 0 := by have := ptn_per a 0; rwa [Nat.zero_add] at this
theorem eds_cut1 (hk : k + 1 ≤ a.length) : eds (cut1 a k) = (List.range k).map (edn a) ++ [(ptn a k, ptn a 0)] := by
  rw [eds_range, cut1_len hk, List.range_succ, List.map_append]
  congr 1
  · refine List.map_congr_left fun j hj => ?_
    have := List.mem_range.1 hj
    unfold edn; rw [cut1_ptn hk (by omega), cut1_ptn hk (by omega)]
  · simp only [List.map_cons, List.map_nil, edn]; rw [cut1_ptn hk (by omega), cut1_ptn' hk]
theorem eds_cut2 (hk : k < a.length) : eds (cut2 a k) = (ptn a 0, ptn a k) :: (List.range (a.length - k)).map (fun j => edn a (k + j)) := by
  rw [eds_range, cut2_len (by omega), List.range_succ_eq_map, List.map_cons, List.map_map]
  congr 1
  · unfold edn; rw [cut2_ptn0 hk]
    have := cut2_ptn hk (j := 0) (by omega)
    rw [this]; rfl
  · refine List.map_congr_left fun j hj => ?_
    have hj := List.mem_range.1 hj
    simp only [Function.comp_apply, edn]
    rw [show j.succ = j + 1 from rfl, cut2_ptn hk (by omega)]
    by_cases e : k + (j + 1) < a.length
    · rw [cut2_ptn hk (j := j + 1) e]; rfl
    · rw [show j + 1 + 1 = a.length - k + 1 by omega, cut2_ptn' hk, show k + j + 1 = a.length by omega, ptn_n]
theorem eds_cut (hk : k ≤ a.length) : eds a = (List.range k).map (edn a) ++ (List.range (a.length - k)).map (fun j => edn a (k + j)) := by
  rw [eds_range]
  conv => lhs; rw [show a.length = k + (a.length - k) by omega]
  rw [List.range_add, List.map_append, List.map_map]; rfl
/-- what counts an edge and its opposite to nothing -/
theorem cut_sum (hk : k + 1 ≤ a.length) (F : Pt × Pt → Int) (hF : ∀ p q, F (q, p) = -F (p, q)) : ((eds (cut1 a k)).map F).sum + ((eds (cut2 a k)).map F).sum = ((eds a).map F).sum := by
  rw [eds_cut1 hk, eds_cut2 (by omega), eds_cut (k := k) (by omega)]
  simp only [List.map_append, List.sum_append, List.map_cons, List.sum_cons, List.map_nil, List.sum_nil]
  rw [hF (ptn a 0) (ptn a k)]
  omega
theorem cut_area (hk : k + 1 ≤ a.length) : w64 (areaW (cut1 a k) + areaW (cut2 a k)) = areaW a := by
  rw [areaW_sum, areaW_sum, areaW_sum, w64_add, w64_add', cut_sum hk dE (fun p q => by unfold dE; simp only; grind)]
theorem cut_wn (hk : k + 1 ≤ a.length) (d x : Q2) : wn d x ((eds (cut1 a k)).map qe) + wn d x ((eds (cut2 a k)).map qe) = wn d x ((eds a).map qe) := by
  unfold wn
  rw [List.map_map, List.map_map, List.map_map]
  exact cut_sum hk _ (fun p q => by simp only [Function.comp_apply, qe]; exact hit_neg ..)
theorem wn_rev {d x : Q2} {l : List Pt} (h : Val l) {i : Nat} {s : Rat} (s0 : 0 < s) (s1 : s < 1) (hx : x = onp (pqf l i) (pqf l (i + 1)) s) (hd : d = sq (pqf l i) (pqf l (i + 1))) : wn d x ((eds l).map qe) = 0 := by
  have hs := simp_of h.n3 h.may h.sim
  have hL := Lc_val h
  rw [eds_chn, ← wn_base hs d x i, split1 hs i, wn_cons]
  have hg := f_ne hs i
  have hdg : d = (-(sq (pqf l (i + 1)) (pqf l i)).1, -(sq (pqf l (i + 1)) (pqf l i)).2) := by
    rw [hd]; refine Prod.ext ?_ ?_ <;> simp only [sq] <;> grind
  have e1 : hit d (sq (edg (pqf l) i).1 x) (sq (edg (pqf l) i).2 x) = 0 := by
    simp only [edg]
    have k1 : xq d (sq (pqf l i) x) = 0 := by rw [hx, hd]; unfold xq sq onp; grind
    have k2 : xq d (sq (pqf l (i + 1)) x) = 0 := by rw [hx, hd]; unfold xq sq onp; grind
    have z0 : ¬ (0 : Rat) < 0 := by grind
    unfold hit; rw [k1, k2]; simp only [z0, if_false]
  rw [e1]
  -- a direction to the right of the edge
  have hr : 0 < xq ((sq (pqf l (i + 1)) (pqf l i)).2, -(sq (pqf l (i + 1)) (pqf l i)).1) (sq (pqf l (i + 1)) (pqf l i)) := by
    have := dq_pos hg
    unfold dq at this; unfold xq; grind
  have hN := N_right hs s0 s1 hx hr
  have hdr : 0 < xq d ((sq (pqf l (i + 1)) (pqf l i)).2, -(sq (pqf l (i + 1)) (pqf l i)).1) := by
    have := dq_pos hg
    rw [hdg]
    unfold dq at this; unfold xq; grind
  have hon : OnE x (edg (pqf l) i) := by rw [hx]; exact on_of_param (by grind) (by grind)
  have k1 : xq (sq (pqf l (i + 1)) (pqf l i)) (sq x (pqf l i)) = 0 := by rw [hx]; unfold xq sq onp; grind
  have dd := dq_pos hg
  have j1 : dq (sq (pqf l (i + 1)) (pqf l i)) (sq x (pqf l i)) = s * dq (sq (pqf l (i + 1)) (pqf l i)) (sq (pqf l (i + 1)) (pqf l i)) := by rw [hx]; unfold dq sq onp; grind
  have j2 : dq (sq (pqf l (i + 1)) (pqf l i)) (sq (pqf l (i + 1)) x) = (1 - s) * dq (sq (pqf l (i + 1)) (pqf l i)) (sq (pqf l (i + 1)) (pqf l i)) := by rw [hx]; unfold dq sq onp; grind
  have x0 : x ≠ pqf l i := fun e => by
    rw [e, sq_self] at j1
    have := Rat.mul_pos s0 dd
    rw [← e] at j1
    have z : dq (sq (pqf l (i + 1)) x) (0, 0) = 0 := by unfold dq; grind
    rw [← e] at this
    grind
  have x1 : x ≠ pqf l (i + 1) := fun e => by
    rw [e, sq_self] at j2
    have := Rat.mul_pos (show 0 < 1 - s by grind) dd
    have z : dq (sq (pqf l (i + 1)) (pqf l i)) (0, 0) = 0 := by unfold dq; grind
    grind
  have hoff : ∀ g ∈ chn (pqf l) (i + 1) (l.length - 1), ¬ OnE x g := fun g hg => by
    obtain ⟨m, hm, rfl⟩ := mem_chn.1 hg
    exact inner_off hs hon x0 x1 m hm
  have hw := wn_wedge (N_path hs i) hdr hoff
  have z1 : xq d (sq (pqf l i) x) = 0 := by rw [hx, hd]; unfold xq sq onp; grind
  have z2 : xq d (sq (pqf l (i + 1)) x) = 0 := by rw [hx, hd]; unfold xq sq onp; grind
  have z0 : ¬ (0 : Rat) < 0 := by grind
  unfold Wd at hw
  rw [z1, z2] at hw
  simp only [z0, if_false] at hw
  rw [hN, hL] at hw
  omega
/-- on a half-open edge, in its direction -/
theorem wn_edge {x : Q2} {l : List Pt} (h : Val l) {i : Nat} {s : Rat} (s0 : 0 ≤ s) (s1 : s < 1) (hx : x = onp (pqf l i) (pqf l (i + 1)) s) : wn (sq (pqf l (i + 1)) (pqf l i)) x ((eds l).map qe) = 1 := by
  have hs := simp_of h.n3 h.may h.sim
  rw [eds_chn, ← wn_base hs _ x i, Lc_eq hs s0 s1 hx, Lc_const hs, Lc_val h]
end
end Go.Geo

namespace Go.Geo
set_option maxRecDepth 100000
set_option maxHeartbeats 4000000
set_option linter.unusedSimpArgs false
set_option linter.unusedVariables false
open Go Go.Zv
theorem loc3 {l : List Pt} (V : Val l) {x : Pt} (hx : B2 x) : ((∃ e ∈ eds l, OnE (qp x) (qe e)) ∧ locI l x = 0) ∨ ((∀ e ∈ eds l, ¬ OnE (qp x) (qe e)) ∧ (∀ d : Q2, d ≠ (0, 0) → wn d (qp x) ((eds l).map qe) = 1) ∧ locI l x = 1) ∨ ((∀ e ∈ eds l, ¬ OnE (qp x) (qe e)) ∧ (∀ d : Q2, d ≠ (0, 0) → wn d (qp x) ((eds l).map qe) = 0) ∧ locI l x = -1) := by
  have hl := locI_wn V.may hx
  cases ho : (eds l).any (onE x) with
  | true =>
    left
    rw [ho] at hl
    rw [List.any_eq_true] at ho
    obtain ⟨e, he, h⟩ := ho
    exact ⟨⟨e, he, (onE_meets hx (eds_B V.may he).1 (eds_B V.may he).2).1 h⟩, by simpa using hl⟩
  | false =>
    right
    have hoff := (off_iff V.may hx).1 ho
    rw [ho] at hl
    simp only [Bool.false_eq_true, if_false] at hl
    have hall : ∀ d : Q2, d ≠ (0, 0) → wn d (qp x) ((eds l).map qe) = wn (1, 0) (qp x) ((eds l).map qe) := fun d hd => wn_dir (eds_path l) hd d10 fun g hg => by
      obtain ⟨e, he, rfl⟩ := List.mem_map.1 hg
      exact hoff e he
    rcases wind_val V hoff d10 with h | h
    · right; refine ⟨hoff, fun d hd => by rw [hall d hd, h], ?_⟩
      rw [hl, h]; decide
    · left; refine ⟨hoff, fun d hd => by rw [hall d hd, h], ?_⟩
      rw [hl, h]; decide
theorem half_edge {l : List Pt} {x : Q2} (h : ∃ e ∈ eds l, OnE x (qe e)) : ∃ i s, i < l.length ∧ 0 ≤ s ∧ s < 1 ∧ x = onp (pqf l i) (pqf l (i + 1)) s := by
  obtain ⟨e, he, ho⟩ := h
  rw [eds_range, List.mem_map] at he
  obtain ⟨i, hi, rfl⟩ := he
  have hi := List.mem_range.1 hi
  obtain ⟨s, s0, s1, hs⟩ := on_param ho
  by_cases e : s = 1
  · refine ⟨(i + 1) % l.length, 0, Nat.mod_lt _ (by omega), by grind, by grind, ?_⟩
    rw [onp0, hs, e, onp1]
    unfold pqf
    rw [mod_of_per (ptn l) l.length (ptn_per l) (i + 1)]; rfl
  · exact ⟨i, s, hi, s0, by grind, hs⟩
theorem on_swap {x p q : Q2} (h : OnE x (p, q)) : OnE x (q, p) := by
  unfold OnE OnV at *
  simp only at *
  obtain ⟨h1, h2⟩ := h
  have e1 : xq (sq q x) (sq p x) = -xq (sq p x) (sq q x) := xq_swap _ _
  have e2 : dq (sq q x) (sq p x) = dq (sq p x) (sq q x) := by unfold dq; grind
  rw [e1, e2]; exact ⟨by grind, h2⟩
theorem edn_mem {l : List Pt} {i : Nat} (h : i < l.length) : edn l i ∈ eds l := List.mem_of_getElem? (edn_get h)
theorem on_at {l : List Pt} {i : Nat} {s : Rat} {x : Q2} (h : i < l.length) (s0 : 0 ≤ s) (s1 : s < 1) (hx : x = onp (pqf l i) (pqf l (i + 1)) s) : ∃ e ∈ eds l, OnE x (qe e) :=
  ⟨edn l i, edn_mem h, by rw [hx]; exact on_of_param s0 (by grind)⟩
theorem cut_loc {a : List Pt} {k : Nat} (V : Val a) (hk : 2 ≤ k) (hk2 : k + 2 ≤ a.length) (V1 : Val (cut1 a k)) (V2 : Val (cut2 a k)) {x : Pt} (hx : B2 x) :
    (locI (cut1 a k) x = 1 → locI (cut2 a k) x = -1) ∧ (locI (cut2 a k) x = 1 → locI (cut1 a k) x = -1) ∧ (0 ≤ locI a x ↔ 0 ≤ locI (cut1 a k) x ∨ 0 ≤ locI (cut2 a k) x) := by
  have L := loc3 V hx
  have L1 := loc3 V1 hx
  have L2 := loc3 V2 hx
  have hsum := fun d => cut_wn (a := a) (k := k) (by omega) d (qp x)
  have p1 : ∀ j, j ≤ k → pqf (cut1 a k) j = pqf a j := fun j hj => by unfold pqf; rw [cut1_ptn (by omega) hj]
  have p1' : pqf (cut1 a k) (k + 1) = pqf a 0 := by unfold pqf; rw [cut1_ptn' (by omega)]
  have p20 : pqf (cut2 a k) 0 = pqf a 0 := by unfold pqf; rw [cut2_ptn0 (by omega)]
  have p2 : ∀ j, k + j < a.length → pqf (cut2 a k) (j + 1) = pqf a (k + j) := fun j hj => by unfold pqf; rw [cut2_ptn (by omega) hj]
  have p2' : pqf (cut2 a k) (a.length - k + 1) = pqf a a.length := by unfold pqf; rw [cut2_ptn' (by omega), ptn_n]
  have ne := fun i => f_ne (simp_of V.n3 V.may V.sim) i
  by_cases hon : ∃ e ∈ eds a, OnE (qp x) (qe e)
  · obtain ⟨i, s, hi, s0, s1, hxe⟩ := half_edge hon
    have hA := wn_edge V s0 s1 hxe
    have hl0 : locI a x = 0 := by
      rcases L with ⟨_, h⟩ | ⟨h, _⟩ | ⟨h, _⟩
      · exact h
      · obtain ⟨e, he, ho⟩ := hon; exact absurd ho (h e he)
      · obtain ⟨e, he, ho⟩ := hon; exact absurd ho (h e he)
    by_cases hik : i < k
    · have hx1 : qp x = onp (pqf (cut1 a k) i) (pqf (cut1 a k) (i + 1)) s := by rw [p1 i (by omega), p1 (i + 1) (by omega)]; exact hxe
      have on1 := on_at (l := cut1 a k) (i := i) (by rw [cut1_len (by omega)]; omega) s0 s1 hx1
      have hB := wn_edge V1 s0 s1 hx1
      rw [p1 i (by omega), p1 (i + 1) (by omega)] at hB
      have l1 : locI (cut1 a k) x = 0 := by
        obtain ⟨e, he, ho⟩ := on1
        rcases L1 with ⟨_, h⟩ | ⟨h, _⟩ | ⟨h, _⟩
        · exact h
        · exact absurd ho (h e he)
        · exact absurd ho (h e he)
      have l2 : locI (cut2 a k) x ≠ 1 := by
        rcases L2 with ⟨_, h⟩ | ⟨_, h, _⟩ | ⟨_, _, h⟩
        · omega
        · have := h _ (ne i)
          have := hsum (sq (pqf a (i + 1)) (pqf a i))
          omega
        · omega
      rw [hl0, l1]
      exact ⟨by omega, fun h => absurd h l2, by omega⟩
    · have q1 : pqf (cut2 a k) (i - k + 1) = pqf a i := by rw [p2 (i - k) (by omega)]; congr 1; omega
      have q2 : pqf (cut2 a k) (i - k + 1 + 1) = pqf a (i + 1) := by
        by_cases e : i + 1 < a.length
        · rw [p2 (i - k + 1) (by omega)]; congr 1; omega
        · rw [show i - k + 1 + 1 = a.length - k + 1 by omega, p2']; congr 1; omega
      have hx1 : qp x = onp (pqf (cut2 a k) (i - k + 1)) (pqf (cut2 a k) (i - k + 1 + 1)) s := by rw [q1, q2]; exact hxe
      have on1 := on_at (l := cut2 a k) (i := i - k + 1) (by rw [cut2_len (by omega)]; omega) s0 s1 hx1
      have hB := wn_edge V2 s0 s1 hx1
      rw [q1, q2] at hB
      have l2 : locI (cut2 a k) x = 0 := by
        obtain ⟨e, he, ho⟩ := on1
        rcases L2 with ⟨_, h⟩ | ⟨h, _⟩ | ⟨h, _⟩
        · exact h
        · exact absurd ho (h e he)
        · exact absurd ho (h e he)
      have l1 : locI (cut1 a k) x ≠ 1 := by
        rcases L1 with ⟨_, h⟩ | ⟨_, h, _⟩ | ⟨_, _, h⟩
        · omega
        · have := h _ (ne i)
          have := hsum (sq (pqf a (i + 1)) (pqf a i))
          omega
        · omega
      rw [hl0, l2]
      exact ⟨fun h => absurd h l1, by omega, by omega⟩
  · have hoff : ∀ e ∈ eds a, ¬ OnE (qp x) (qe e) := fun e he ho => hon ⟨e, he, ho⟩
    have c0 : qp x ≠ pqf a 0 := fun e => hoff _ (edn_mem (i := 0) (by omega)) (by rw [e]; exact on_left _ _)
    have ck : qp x ≠ pqf a k := fun e => hoff _ (edn_mem (i := k) (by omega)) (by rw [e]; exact on_left _ _)
    by_cases hc : OnE (qp x) (pqf a k, pqf a 0)
    · obtain ⟨s, s0, s1, hs⟩ := on_param hc
      have t0 : 0 < s := by
        refine Classical.byContradiction fun h => ck ?_
        have : s = 0 := by grind
        rw [hs, this, onp0]
      have t1 : s < 1 := by
        refine Classical.byContradiction fun h => c0 ?_
        have : s = 1 := by grind
        rw [hs, this, onp1]
      have hx1 : qp x = onp (pqf (cut1 a k) k) (pqf (cut1 a k) (k + 1)) s := by rw [p1 k (by omega), p1']; exact hs
      have q1 : pqf (cut2 a k) 1 = pqf a k := by have := p2 0 (by omega); simpa using this
      have hx2 : qp x = onp (pqf (cut2 a k) 0) (pqf (cut2 a k) (0 + 1)) (1 - s) := by
        rw [p20, Nat.zero_add, q1, hs]; refine Prod.ext ?_ ?_ <;> simp only [onp] <;> grind
      have on1 := on_at (l := cut1 a k) (i := k) (by rw [cut1_len (by omega)]; omega) s0 t1 hx1
      have on2 := on_at (l := cut2 a k) (i := 0) (by rw [cut2_len (by omega)]; omega) (by grind) (by grind) hx2
      have hA := wn_edge V1 s0 t1 hx1
      have hB := wn_rev V2 (i := 0) (s := 1 - s) (by grind) (by grind) hx2 rfl
      rw [p1 k (by omega), p1'] at hA
      rw [p20, Nat.zero_add, q1] at hB
      have hs2 := hsum (sq (pqf a 0) (pqf a k))
      rw [hA, hB] at hs2
      have l1 : locI (cut1 a k) x = 0 := by
        obtain ⟨e, he, ho⟩ := on1
        rcases L1 with ⟨_, h⟩ | ⟨h, _⟩ | ⟨h, _⟩
        · exact h
        · exact absurd ho (h e he)
        · exact absurd ho (h e he)
      have l2 : locI (cut2 a k) x = 0 := by
        obtain ⟨e, he, ho⟩ := on2
        rcases L2 with ⟨_, h⟩ | ⟨h, _⟩ | ⟨h, _⟩
        · exact h
        · exact absurd ho (h e he)
        · exact absurd ho (h e he)
      have hne : sq (pqf a 0) (pqf a k) ≠ (0, 0) := by
        refine sq_ne fun e => ck ?_
        rw [hs, e]; refine Prod.ext ?_ ?_ <;> simp only [onp] <;> grind
      have lA : locI a x = 1 := by
        rcases L with ⟨h, _⟩ | ⟨_, _, h⟩ | ⟨_, h, _⟩
        · exact absurd h hon
        · exact h
        · have := h _ hne; omega
      rw [lA, l1, l2]
      exact ⟨by omega, by omega, by omega⟩
    · have off1 : ∀ e ∈ eds (cut1 a k), ¬ OnE (qp x) (qe e) := fun e he ho => by
        rw [eds_cut1 (by omega), List.mem_append] at he
        rcases he with he | he
        · obtain ⟨j, hj, rfl⟩ := List.mem_map.1 he
          have := List.mem_range.1 hj
          exact hoff _ (edn_mem (by omega)) ho
        · simp only [List.mem_singleton] at he
          subst he
          exact hc ho
      have off2 : ∀ e ∈ eds (cut2 a k), ¬ OnE (qp x) (qe e) := fun e he ho => by
        rw [eds_cut2 (by omega), List.mem_cons] at he
        rcases he with rfl | he
        · exact hc (on_swap ho)
        · obtain ⟨j, hj, rfl⟩ := List.mem_map.1 he
          have := List.mem_range.1 hj
          exact hoff _ (edn_mem (by omega)) ho
      have hs := hsum (1, 0)
      rcases L with ⟨h, _⟩ | ⟨_, w, l⟩ | ⟨_, w, l⟩
      · exact absurd h hon
      all_goals
        rcases L1 with ⟨⟨e, he, ho⟩, _⟩ | ⟨_, w1, l1⟩ | ⟨_, w1, l1⟩
        · exact absurd ho (off1 e he)
        all_goals
          rcases L2 with ⟨⟨e, he, ho⟩, _⟩ | ⟨_, w2, l2⟩ | ⟨_, w2, l2⟩
          · exact absurd ho (off2 e he)
          all_goals
            have u := w _ d10
            have u1 := w1 _ d10
            have u2 := w2 _ d10
            rw [l, l1, l2]
            omega
end Go.Geo

namespace Go.Geo
set_option maxRecDepth 100000
set_option maxHeartbeats 4000000
set_option linter.unusedSimpArgs false
set_option linter.unusedVariables false
open Go Go.Zv
theorem find_some {n : Nat} {P : Nat → Bool} : ((List.range n).find? P).isSome = (List.range n).any P := by
  rw [Bool.eq_iff_iff, List.find?_isSome, List.any_eq_true]
theorem FC_isSome (a b : List Pt) : (FC a b).isSome = ((List.range a.length).any (fun i => (List.range b.length).any fun j => cutE (edn a i) (edn b j)) || ((List.range a.length).any (fun i => insB a i b) || (List.range b.length).any (fun j => insB b j a))) := by
  have e1 : (fcE a b).isSome = (List.range a.length).any (fun i => (List.range b.length).any fun j => cutE (edn a i) (edn b j)) := by
    unfold fcE; rw [find_some]
    exact any_congr2 fun i _ => by unfold fcJ; rw [find_some]
  have e2 : (fcA a b).isSome = (List.range a.length).any (fun i => insB a i b) := by unfold fcA; rw [find_some]
  have e3 : (fcA b a).isSome = (List.range b.length).any (fun i => insB b i a) := by unfold fcA; rw [find_some]
  rw [← e1, ← e2, ← e3]
  unfold FC
  cases h1 : fcE a b with
  | some i =>
    have : (fcJ a b i).isSome = true := by
      unfold fcE at h1
      rw [List.find?_range_eq_some] at h1
      exact h1.1
    simp [this]
  | none =>
    cases h2 : fcA a b with
    | some i => simp
    | none => simp
theorem cutE_comm' {a b : List Pt} (ha : a.all mayB = true) (hb : b.all mayB = true) (a0 : 0 < a.length) (b0 : 0 < b.length) (i j : Nat) : cutE (edn b j) (edn a i) = cutE (edn a i) (edn b j) := by
  have h1 := ptn_B ha a0 i
  have h2 := ptn_B ha a0 (i + 1)
  have h3 := ptn_B hb b0 j
  have h4 := ptn_B hb b0 (j + 1)
  unfold edn cutE; exact cut_s2 (B8_of h1 h2 h3 h4)
theorem cutE_sw {a b c d : Pt} (ha : B2 a) (hb : B2 b) (hc : B2 c) (hd : B2 d) : cutE (c, d) (a, b) = cutE (a, b) (c, d) := by
  unfold cutE; exact cut_s2 (B8_of ha hb hc hd)
theorem any_swap {n m : Nat} (f : Nat → Nat → Bool) : ((List.range n).any fun i => (List.range m).any (f i)) = (List.range m).any fun j => (List.range n).any fun i => f i j := by
  rw [Bool.eq_iff_iff]
  simp only [List.any_eq_true]
  exact ⟨fun ⟨i, hi, j, hj, h⟩ => ⟨j, hj, i, hi, h⟩, fun ⟨j, hj, i, hi, h⟩ => ⟨i, hi, j, hj, h⟩⟩
theorem FC_comm {a b : List Pt} (A : Val a) (B : Val b) : (FC a b).isSome = (FC b a).isSome := by
  have a3 := A.n3
  have b3 := B.n3
  rw [FC_isSome, FC_isSome, any_swap]
  have : ((List.range b.length).any fun j => (List.range a.length).any fun i => cutE (edn a i) (edn b j)) = (List.range b.length).any fun j => (List.range a.length).any fun i => cutE (edn b j) (edn a i) :=
    any_congr2 fun j _ => any_congr2 fun i _ => (cutE_comm' A.may B.may (by omega) (by omega) i j).symm
  rw [this]
  cases ((List.range b.length).any fun j => (List.range a.length).any fun i => cutE (edn b j) (edn a i)) <;> cases ((List.range a.length).any fun i => insB a i b) <;> cases ((List.range b.length).any fun j => insB b j a) <;> rfl
theorem icn_comm {a b : List Pt} (A : Val a) (B : Val b) (k i j : Int) : icnB a b k i j = icnB b a (if k = 2 then 3 else if k = 3 then 2 else k) j i := by
  have a3 := A.n3
  have b3 := B.n3
  unfold icnB
  by_cases h1 : k = 1
  · subst h1
    rw [if_pos rfl]
    simp only [show ¬ (1 : Int) = 2 from by decide, show ¬ (1 : Int) = 3 from by decide, if_false, if_true]
    rw [cutE_comm' A.may B.may (by omega) (by omega)]
    cases decide (0 ≤ i ∧ i < a.length) <;> cases decide (0 ≤ j ∧ j < b.length) <;> rfl
  · by_cases h2 : k = 2
    · subst h2; simp
    · by_cases h3 : k = 3
      · subst h3; simp
      · simp [h1, h2, h3]
theorem isep_comm (a b : List Pt) (o d : Int) (h : 0 ≤ o ∧ o ≤ 1) : isepB a b o d = isepB b a (1 - o) d := by
  rcases (show o = 0 ∨ o = 1 by omega) with rfl | rfl
  · simp [isepB]
  · simp [isepB]
/-! separation -/
theorem cr_lin (P Q x : Pt) (y : Pt) : xq (sq (qp Q) (qp P)) (sq (qp y) (qp x)) = ((cr P.1 P.2 Q.1 Q.2 y.1 y.2 - cr P.1 P.2 Q.1 Q.2 x.1 x.2 : Int) : Rat) := by
  rw [Rat.intCast_sub, ← xq_int, ← xq_int]; unfold xq sq; grind
theorem sep_no {a b : List Pt} (A : Val a) (B : Val b) {P Q : Pt} (hP : B2 P) (hQ : B2 Q) (h1 : ∀ p ∈ a, 0 ≤ cr P.1 P.2 Q.1 Q.2 p.1 p.2) (h2 : ∀ q ∈ b, cr P.1 P.2 Q.1 Q.2 q.1 q.2 < 0) :
    (∀ e ∈ eds a, ∀ f ∈ eds b, cutE e f = false) ∧ (∀ p ∈ a, locI b p = -1) ∧ ∀ q ∈ b, locI a q = -1 := by
  have b3 := B.n3
  have hd : sq (qp Q) (qp P) ≠ (0, 0) := by
    intro e
    have hq := h2 _ (ptn_mem (l := b) 0 (by omega))
    have := xq_int P Q (ptn b 0)
    rw [e] at this
    have z : xq (0, 0) (sq (qp (ptn b 0)) (qp P)) = 0 := by unfold xq; grind
    rw [z] at this
    have := Rat.intCast_neg_iff.2 hq
    grind
  refine ⟨fun e he f hf => ?_, fun p hp => ?_, fun q hq => ?_⟩
  · cases hc : cutE e f with
    | false => rfl
    | true =>
      exfalso
      obtain ⟨e1, e2⟩ := eds_B A.may he
      obtain ⟨f1, f2⟩ := eds_B B.may hf
      obtain ⟨z, z1, z2⟩ := (cut_meets e1 e2 f1 f2).1 hc
      obtain ⟨m1, m2⟩ := eds_mem he
      obtain ⟨m3, m4⟩ := eds_mem hf
      obtain ⟨s, s0, s1, hs⟩ := on_param z1
      obtain ⟨t, t0, t1, ht⟩ := on_param z2
      have k1 := Rat.intCast_nonneg.2 (h1 _ m1)
      have k2 := Rat.intCast_nonneg.2 (h1 _ m2)
      have k3 := Rat.intCast_neg_iff.2 (h2 _ m3)
      have k4 := Rat.intCast_neg_iff.2 (h2 _ m4)
      rw [← xq_int] at k1 k2 k3 k4
      have w1 : xq (sq (qp Q) (qp P)) (sq z (qp P)) = (1 - s) * xq (sq (qp Q) (qp P)) (sq (qp e.1) (qp P)) + s * xq (sq (qp Q) (qp P)) (sq (qp e.2) (qp P)) := by rw [hs]; unfold xq sq onp; grind
      have w2 : xq (sq (qp Q) (qp P)) (sq z (qp P)) = (1 - t) * xq (sq (qp Q) (qp P)) (sq (qp f.1) (qp P)) + t * xq (sq (qp Q) (qp P)) (sq (qp f.2) (qp P)) := by rw [ht]; unfold xq sq onp; grind
      have n1 := Rat.mul_nonneg (show 0 ≤ 1 - s by grind) k1
      have n2 := Rat.mul_nonneg s0 k2
      have n3 : xq (sq (qp Q) (qp P)) (sq z (qp P)) < 0 := by
        rw [w2]
        by_cases ht0 : t = 0
        · rw [ht0]; grind
        · have n3 := Rat.mul_nonneg (show 0 ≤ 1 - t by grind) (show 0 ≤ -xq (sq (qp Q) (qp P)) (sq (qp f.1) (qp P)) by grind)
          have n4 := Rat.mul_pos (show 0 < t by grind) (show 0 < -xq (sq (qp Q) (qp P)) (sq (qp f.2) (qp P)) by grind)
          grind
      rw [w1] at n3
      grind
  · refine loc_side B.may (mayB_B2 (List.all_eq_true.1 A.may _ hp)) hd fun q hq => ?_
    rw [cr_lin, Rat.intCast_neg_iff]
    have := h1 p hp; have := h2 q hq; omega
  · refine loc_side' A.may (mayB_B2 (List.all_eq_true.1 B.may _ hq)) hd fun p hp => ?_
    rw [cr_lin, Rat.intCast_pos]
    have := h1 p hp; have := h2 q hq; omega
theorem ori_sgn {P Q x : Pt} (hP : B2 P) (hQ : B2 Q) (hx : B2 x) : oriE P Q x < 0 ↔ cr P.1 P.2 Q.1 Q.2 x.1 x.2 < 0 := by
  unfold oriE
  rw [crW_B hP.1 hP.2 hQ.1 hQ.2 hx.1 hx.2]
  unfold sgn; repeat' split
  all_goals omega
theorem sepAt_no {a b : List Pt} (A : Val a) (B : Val b) (hc : cvxB a = true) {d : Int} (h : sepAt a b d = true) : (∀ e ∈ eds a, ∀ f ∈ eds b, cutE e f = false) ∧ (∀ p ∈ a, locI b p = -1) ∧ ∀ q ∈ b, locI a q = -1 := by
  have a3 := A.n3
  unfold sepAt at h
  rw [Bool.and_eq_true, decide_eq_true_eq] at h
  obtain ⟨hd, hb⟩ := h
  have b1 := ptn_B A.may (by omega) d.toNat
  have b2 := ptn_B A.may (by omega) (d.toNat + 1)
  refine sep_no A B b1 b2 (fun p hp => ?_) fun q hq => ?_
  · unfold cvxB at hc
    rw [Bool.not_eq_true', List.any_eq_false] at hc
    have h1 := hc d.toNat (List.mem_range.2 (by omega))
    rw [Bool.not_eq_true, List.any_eq_false] at h1
    obtain ⟨k, hk, rfl⟩ := List.getElem_of_mem hp
    have h2 := h1 k (List.mem_range.2 hk)
    have e : a[k] = ptn a k := by
      have := ptn_get hk
      rw [List.getElem?_eq_getElem hk] at this
      simpa using this
    unfold rgtE at h2
    rw [decide_eq_true_eq, ori_sgn b1 b2 (ptn_B A.may (by omega) k)] at h2
    rw [e]; omega
  · unfold beyB at hb
    have := List.all_eq_true.1 hb q hq
    rw [decide_eq_true_eq] at this
    exact (ori_sgn b1 b2 (mayB_B2 (List.all_eq_true.1 B.may _ hq))).1 this
theorem ins_false {a b : List Pt} {i : Int} (h : ∀ p ∈ a, locI b p = -1) : insB a i b = false := by
  unfold insB
  by_cases h1 : 0 ≤ i
  · by_cases h2 : i < a.length
    · have := h _ (List.mem_of_getElem? (ptn_get (l := a) (k := i.toNat) (by omega)))
      simp [this]
    · simp [h2]
  · simp [h1]
theorem no_contact {a b : List Pt} (h1 : ∀ e ∈ eds a, ∀ f ∈ eds b, cutE e f = false) (h2 : ∀ p ∈ a, locI b p = -1) (h3 : ∀ q ∈ b, locI a q = -1) : (FC a b).isSome = false ∧ ∀ k i j, icnB a b k i j = false := by
  constructor
  · rw [FC_isSome]
    simp only [Bool.or_eq_false_iff, List.any_eq_false]
    refine ⟨fun i hi h => ?_, fun i _ => by rw [ins_false h2]; simp, fun i _ => by rw [ins_false h3]; simp⟩
    rw [List.any_eq_true] at h
    obtain ⟨j, hj, h⟩ := h
    rw [h1 _ (edn_mem (List.mem_range.1 hi)) _ (edn_mem (List.mem_range.1 hj))] at h
    cases h
  · intro k i j
    unfold icnB
    by_cases k1 : k = 1
    · rw [if_pos k1]
      by_cases hi : 0 ≤ i ∧ i < a.length
      · by_cases hj : 0 ≤ j ∧ j < b.length
        · rw [h1 _ (edn_mem (l := a) (i := i.toNat) (by omega)) _ (edn_mem (l := b) (i := j.toNat) (by omega))]; simp
        · simp [hj]
      · simp [hi]
    · rw [if_neg k1, ins_false h2, ins_false h3]; simp
theorem isep_no {a b : List Pt} (A : Val a) (B : Val b) {o d : Int} (ca : o = 0 → cvxB a = true) (cb : o = 1 → cvxB b = true) (h : isepB a b o d = true) : (FC a b).isSome = false ∧ ∀ k i j, icnB a b k i j = false := by
  unfold isepB at h
  by_cases ho : o = 1
  · rw [if_pos ho] at h
    obtain ⟨h1, h2, h3⟩ := sepAt_no B A (cb ho) h
    refine no_contact (fun e he f hf => ?_) h3 h2
    obtain ⟨e1, e2⟩ := eds_B A.may he
    obtain ⟨f1, f2⟩ := eds_B B.may hf
    have := cutE_sw f1 f2 e1 e2
    rw [show (e.1, e.2) = e from rfl, show (f.1, f.2) = f from rfl] at this
    rw [this]; exact h1 f hf e he
  · rw [if_neg ho, Bool.and_eq_true, decide_eq_true_eq] at h
    obtain ⟨h1, h2, h3⟩ := sepAt_no A B (ca h.1) h.2
    exact no_contact h1 h2 h3
/-! the criterion -/
theorem loc_same {a b : List Pt} (A : Val a) (B : Val b) (h : ∀ i j, i < a.length → j < b.length → cutE (edn a i) (edn b j) = false) : ∀ i, i < a.length → locI b (ptn a i) = locI b (ptn a 0) := by
  have a3 := A.n3
  have b3 := B.n3
  intro i
  induction i with
  | zero => intro _; rfl
  | succ i ih =>
    intro hi
    rw [← ih (by omega)]
    refine ((loc_walk B.may (ptn_B A.may (by omega) i) (ptn_B A.may (by omega) (i + 1)) fun e he => ?_).1).symm
    rw [eds_range, List.mem_map] at he
    obtain ⟨j, hj, rfl⟩ := he
    have hj := List.mem_range.1 hj
    have := cutE_comm' A.may B.may (by omega) (by omega) i j
    show cutE (edn b j) (edn a i) = false
    rw [this]; exact h i j (by omega) hj
theorem loc_vals (l : List Pt) (p : Pt) : locI l p = 0 ∨ locI l p = 1 ∨ locI l p = -1 := by
  unfold locI; split
  · exact .inl rfl
  · split
    · exact .inr (.inl rfl)
    · exact .inr (.inr rfl)
theorem criterion {a b : List Pt} (A : Val a) (B : Val b) : (FC a b).isSome = ((List.range a.length).any (fun i => (List.range b.length).any fun j => cutE (edn a i) (edn b j)) || (decide (0 ≤ locI b (ptn a 0)) || decide (0 ≤ locI a (ptn b 0)))) := by
  have a3 := A.n3
  have b3 := B.n3
  rw [FC_isSome]
  cases hc : (List.range a.length).any (fun i => (List.range b.length).any fun j => cutE (edn a i) (edn b j)) with
  | true => rfl
  | false =>
    have hn : ∀ i j, i < a.length → j < b.length → cutE (edn a i) (edn b j) = false := fun i j hi hj => by
      have h1 := List.any_eq_false.1 hc i (List.mem_range.2 hi)
      rw [Bool.not_eq_true] at h1
      have h2 := List.any_eq_false.1 h1 j (List.mem_range.2 hj)
      simpa using h2
    have key : ∀ {a b : List Pt}, Val a → Val b → (∀ i j, i < a.length → j < b.length → cutE (edn a i) (edn b j) = false) → (List.range a.length).any (fun i => insB a i b) = decide (0 ≤ locI b (ptn a 0)) := by
      intro a b A B hn
      have a3 := A.n3
      have hs := loc_same A B hn
      have lv := loc_vals b (ptn a 0)
      rw [Bool.eq_iff_iff, List.any_eq_true, decide_eq_true_eq]
      constructor
      · rintro ⟨i, hi, h⟩
        have hi := List.mem_range.1 hi
        unfold insB at h
        simp only [Bool.and_eq_true, decide_eq_true_eq] at h
        have := h.2.2
        rw [Int.toNat_natCast, hs i hi] at this
        omega
      · intro h
        refine ⟨0, List.mem_range.2 (by omega), ?_⟩
        unfold insB
        simp only [Bool.and_eq_true, decide_eq_true_eq]
        refine ⟨by omega, by omega, ?_⟩
        show locI b (ptn a 0) ≠ -1
        omega
    rw [key A B hn, key B A fun i j hi hj => by rw [cutE_comm' A.may B.may (by omega) (by omega)]; exact hn j i hj hi]
end Go.Geo

namespace Go.Geo
set_option maxRecDepth 100000
set_option maxHeartbeats 4000000
set_option linter.unusedSimpArgs false
set_option linter.unusedVariables false
open Go Go.Zv
/-! half-planes with a common point -/
theorem helly1 (l : List (Rat × Rat)) (h : ∀ p ∈ l, ∀ q ∈ l, ∃ t, 0 ≤ p.1 + p.2 * t ∧ 0 ≤ q.1 + q.2 * t) : ∃ t, ∀ p ∈ l, 0 ≤ p.1 + p.2 * t := by
  induction l with
  | nil => exact ⟨0, fun p hp => by cases hp⟩
  | cons n l ih =>
    obtain ⟨t0, h0⟩ := ih fun p hp q hq => h p (by simp [hp]) q (by simp [hq])
    by_cases hn : 0 ≤ n.1 + n.2 * t0
    · refine ⟨t0, fun p hp => ?_⟩
      rcases List.mem_cons.1 hp with rfl | hp
      · exact hn
      · exact h0 p hp
    · have hb : n.2 ≠ 0 := fun e => by
        obtain ⟨t, ht, _⟩ := h n (by simp) n (by simp)
        rw [e] at hn ht; grind
      have hi := r_inv hb
      refine ⟨-n.1 * n.2⁻¹, fun p hp => ?_⟩
      have hc : n.1 + n.2 * (-n.1 * n.2⁻¹) = 0 := by generalize n.2⁻¹ = M at *; grind
      rcases List.mem_cons.1 hp with rfl | hp
      · rw [hc]; exact Rat.le_refl
      · obtain ⟨t, t1, t2⟩ := h p (by simp [hp]) n (by simp)
        have p0 := h0 p hp
        generalize -n.1 * n.2⁻¹ = c at *
        -- c lies between t0 and t
        have hne : n.2 * (t - t0) ≠ 0 := by grind
        have hpos : 0 < (n.2 * (t - t0))⁻¹ := Rat.inv_pos.2 (by grind)
        have hi2 := r_inv hne
        have q1 := Rat.mul_nonneg (show 0 ≤ n.1 + n.2 * t by grind) (show 0 ≤ (n.2 * (t - t0))⁻¹ by grind)
        have q2 := Rat.mul_nonneg (show 0 ≤ -(n.1 + n.2 * t0) by grind) (show 0 ≤ (n.2 * (t - t0))⁻¹ by grind)
        have m1 := Rat.mul_nonneg q1 p0
        have m2 := Rat.mul_nonneg q2 t1
        have e : p.1 + p.2 * c = (n.1 + n.2 * t) * (n.2 * (t - t0))⁻¹ * (p.1 + p.2 * t0) + -(n.1 + n.2 * t0) * (n.2 * (t - t0))⁻¹ * (p.1 + p.2 * t) := by
          have hcn : n.1 = -(n.2 * c) := by grind
          have : n.2 * ((p.1 + p.2 * c) * (t - t0)) = (n.1 + n.2 * t) * (p.1 + p.2 * t0) + -(n.1 + n.2 * t0) * (p.1 + p.2 * t) := by rw [hcn]; grind
          generalize (n.2 * (t - t0))⁻¹ = M at *
          grind
        rw [e]; grind
/-- a half-plane -/
structure HP where
  a : Rat
  b : Rat
  c : Rat
def HP.at (h : HP) (z : Q2) : Rat := h.a + h.b * z.1 + h.c * z.2
theorem HP.onp (h : HP) (x y : Q2) (s : Rat) : h.at (Go.Geo.onp x y s) = (1 - s) * h.at x + s * h.at y := by
  unfold HP.at Go.Geo.onp; simp only; grind
theorem HP.conv (h : HP) {x y : Q2} {s : Rat} (s0 : 0 ≤ s) (s1 : s ≤ 1) (hx : 0 ≤ h.at x) (hy : 0 ≤ h.at y) : 0 ≤ h.at (Go.Geo.onp x y s) := by
  rw [h.onp]
  have := Rat.mul_nonneg (show 0 ≤ 1 - s by grind) hx
  have := Rat.mul_nonneg s0 hy
  grind
theorem helly2 (l : List HP) (h : ∀ p ∈ l, ∀ q ∈ l, ∀ r ∈ l, ∃ z, 0 ≤ p.at z ∧ 0 ≤ q.at z ∧ 0 ≤ r.at z) : ∃ z, ∀ p ∈ l, 0 ≤ p.at z := by
  induction l with
  | nil => exact ⟨(0, 0), fun p hp => by cases hp⟩
  | cons n l ih =>
    obtain ⟨z0, h0⟩ := ih fun p hp q hq r hr => h p (by simp [hp]) q (by simp [hq]) r (by simp [hr])
    by_cases hn : 0 ≤ n.at z0
    · refine ⟨z0, fun p hp => ?_⟩
      rcases List.mem_cons.1 hp with rfl | hp
      · exact hn
      · exact h0 p hp
    · have hN : 0 < n.b * n.b + n.c * n.c := by
        by_cases e1 : n.b = 0
        · have e2 : n.c ≠ 0 := fun e2 => by
            obtain ⟨z, hz, _⟩ := h n (by simp) n (by simp) n (by simp)
            unfold HP.at at hn hz
            rw [e1, e2] at hn hz; grind
          have := r_sq_pos e2; have := r_sq_nn n.b; grind
        · have := r_sq_pos e1; have := r_sq_nn n.c; grind
      have hi := r_inv (x := n.b * n.b + n.c * n.c) (by grind)
      generalize hM : (n.b * n.b + n.c * n.c)⁻¹ = M at *
      -- a point of the border line and its direction (-c, b)
      have line : ∀ v : Q2, n.at v = 0 → ∃ t : Rat, v = (-n.a * n.b * M + t * -n.c, -n.a * n.c * M + t * n.b) := fun v hv => by
        refine ⟨(v.2 * n.b - v.1 * n.c) * M, ?_⟩
        unfold HP.at at hv
        refine Prod.ext ?_ ?_ <;> simp only <;> grind
      obtain ⟨t, ht⟩ := helly1 (l.map fun p => (p.at (-n.a * n.b * M, -n.a * n.c * M), p.b * -n.c + p.c * n.b)) (fun p' hp' q' hq' => by
        obtain ⟨p, hp, rfl⟩ := List.mem_map.1 hp'
        obtain ⟨q, hq, rfl⟩ := List.mem_map.1 hq'
        obtain ⟨u, u1, u2, u3⟩ := h p (by simp [hp]) q (by simp [hq]) n (by simp)
        have hne : n.at u - n.at z0 ≠ 0 := by grind
        have hpos : 0 < (n.at u - n.at z0)⁻¹ := Rat.inv_pos.2 (by grind)
        have hi2 := r_inv hne
        have s0 := Rat.mul_nonneg (show 0 ≤ -n.at z0 by grind) (show 0 ≤ (n.at u - n.at z0)⁻¹ by grind)
        have s1' := Rat.mul_nonneg u3 (show 0 ≤ (n.at u - n.at z0)⁻¹ by grind)
        have hs : -n.at z0 * (n.at u - n.at z0)⁻¹ ≤ 1 := by
          generalize (n.at u - n.at z0)⁻¹ = K at *; grind
        have hv : n.at (Go.Geo.onp z0 u (-n.at z0 * (n.at u - n.at z0)⁻¹)) = 0 := by
          rw [n.onp]; generalize (n.at u - n.at z0)⁻¹ = K at *; grind
        have k1 := p.conv s0 hs (h0 p hp) u1
        have k2 := q.conv s0 hs (h0 q hq) u2
        obtain ⟨t, ht⟩ := line _ hv
        rw [ht] at k1 k2
        refine ⟨t, ?_, ?_⟩
        · unfold HP.at at k1 ⊢; simp only at k1 ⊢; grind
        · unfold HP.at at k2 ⊢; simp only at k2 ⊢; grind)
      refine ⟨(-n.a * n.b * M + t * -n.c, -n.a * n.c * M + t * n.b), fun p hp => ?_⟩
      rcases List.mem_cons.1 hp with rfl | hp
      · have : p.at (-p.a * p.b * M + t * -p.c, -p.a * p.c * M + t * p.b) = 0 := by unfold HP.at; simp only; grind
        rw [this]; exact Rat.le_refl
      · have := ht _ (List.mem_map.2 ⟨p, hp, rfl⟩)
        unfold HP.at at this ⊢; simp only at this ⊢; grind
/-! convex polygons -/
def eHP (e : Pt × Pt) : HP := ⟨((e.2.2 - e.1.2) * e.1.1 - (e.2.1 - e.1.1) * e.1.2 : Rat), -((e.2.2 : Rat) - e.1.2), ((e.2.1 : Rat) - e.1.1)⟩
theorem eHP_at (e : Pt × Pt) (z : Q2) : (eHP e).at z = xq (sq (qp e.2) (qp e.1)) (sq z (qp e.1)) := by
  unfold eHP HP.at xq sq qp; simp only; grind
theorem eHP_pt (e : Pt × Pt) (p : Pt) : (eHP e).at (qp p) = ((cr e.1.1 e.1.2 e.2.1 e.2.2 p.1 p.2 : Int) : Rat) := by rw [eHP_at, xq_int]
structure Cvx (l : List Pt) : Prop where
  val : Val l
  left : ∀ e ∈ eds l, ∀ p ∈ l, 0 ≤ cr e.1.1 e.1.2 e.2.1 e.2.2 p.1 p.2
theorem cvx_of {l : List Pt} (V : Val l) (h : cvxB l = true) : Cvx l := ⟨V, fun e he p hp => by
  have n3 := V.n3
  rw [eds_range, List.mem_map] at he
  obtain ⟨i, hi, rfl⟩ := he
  unfold cvxB at h
  rw [Bool.not_eq_true', List.any_eq_false] at h
  have h1 := h i hi
  rw [Bool.not_eq_true, List.any_eq_false] at h1
  obtain ⟨k, hk, rfl⟩ := List.getElem_of_mem hp
  have h2 := h1 k (List.mem_range.2 hk)
  have e : l[k] = ptn l k := by
    have := ptn_get hk
    rw [List.getElem?_eq_getElem hk] at this
    simpa using this
  unfold rgtE at h2
  rw [decide_eq_true_eq, ori_sgn (ptn_B V.may (by omega) i) (ptn_B V.may (by omega) (i + 1)) (ptn_B V.may (by omega) k)] at h2
  rw [e]; unfold edn; simp only; omega⟩
section
variable {l : List Pt}
def inC (l : List Pt) (z : Q2) : Prop := ∀ e ∈ eds l, 0 ≤ (eHP e).at z
theorem Cvx.corner (C : Cvx l) {p : Pt} (hp : p ∈ l) : inC l (qp p) := fun e he => by
  rw [eHP_pt]; exact Rat.intCast_nonneg.2 (C.left e he p hp)
/-- strictly inside: the winding number is 1 -/
theorem Cvx.inner (C : Cvx l) {z d : Q2} (h : ∀ e ∈ eds l, 0 < (eHP e).at z) (hd : d ≠ (0, 0)) : wn d z ((eds l).map qe) = 1 := by
  have n3 := C.val.n3
  have hc : ∀ e ∈ eds l, 0 < xq (sq (qp e.1) z) (sq (qp e.2) z) := fun e he => by
    have := h e he
    rw [eHP_at] at this
    have e1 : xq (sq (qp e.1) z) (sq (qp e.2) z) = xq (sq (qp e.2) (qp e.1)) (sq z (qp e.1)) := by unfold xq sq; grind
    rw [e1]; exact this
  have hoff : ∀ e ∈ eds l, ¬ OnE z (qe e) := fun e he ho => by
    have := hc e he
    have h0 := ho.1
    unfold qe at h0; simp only at h0
    rw [h0] at this; grind
  have h0 := hc _ (edn_mem (l := l) (i := 0) (by omega))
  unfold edn at h0; simp only at h0
  have hd0 : sq (qp (ptn l 0)) z ≠ (0, 0) := fun e => by rw [e] at h0; unfold xq at h0; grind
  have hp0 := eds_path l
  rw [wn_dir hp0 hd hd0 (fun g hg => by
    obtain ⟨e, he, rfl⟩ := List.mem_map.1 hg
    exact hoff e he)]
  have nn : ∀ e ∈ eds l, 0 ≤ hit (sq (qp (ptn l 0)) z) (sq (qp e.1) z) (sq (qp e.2) z) := fun e he => by
    have := hc e he
    have hn : ¬ xq (sq (qp e.1) z) (sq (qp e.2) z) < 0 := by grind
    unfold hit
    simp only [this, hn, if_true, if_false]
    repeat' split
    all_goals decide
  have one : hit (sq (qp (ptn l 0)) z) (sq (qp (ptn l 0)) z) (sq (qp (ptn l 1)) z) = 1 := by
    have z0 : xq (sq (qp (ptn l 0)) z) (sq (qp (ptn l 0)) z) = 0 := by unfold xq; grind
    have z1 : ¬ (0 : Rat) < 0 := by grind
    unfold hit
    rw [z0]
    simp only [z1, if_false]
    rw [if_pos h0, if_pos h0]
  have ge : 1 ≤ wn (sq (qp (ptn l 0)) z) z ((eds l).map qe) := by
    have e1 : eds l = edn l 0 :: (List.range (l.length - 1)).map (fun k => edn l (k + 1)) := by
      rw [eds_range]
      obtain ⟨m, hm⟩ : ∃ m, l.length = m + 1 := ⟨l.length - 1, by omega⟩
      rw [hm, List.range_succ_eq_map, List.map_cons, List.map_map]; rfl
    have hs : ∀ m : List (Pt × Pt), (∀ e ∈ m, 0 ≤ hit (sq (qp (ptn l 0)) z) (sq (qp e.1) z) (sq (qp e.2) z)) → 0 ≤ wn (sq (qp (ptn l 0)) z) z (m.map qe) := by
      intro m
      induction m with
      | nil => intro _; simp [wn]
      | cons e m ih =>
        intro h
        rw [List.map_cons, wn_cons]
        have := h e (by simp)
        have := ih fun f hf => h f (by simp [hf])
        show 0 ≤ hit _ (sq (qp e.1) z) (sq (qp e.2) z) + _
        omega
    have := hs ((List.range (l.length - 1)).map (fun k => edn l (k + 1))) (fun e he => nn e (by rw [e1]; simp [he]))
    rw [e1, List.map_cons, wn_cons]
    show 1 ≤ hit _ (sq (qp (ptn l 0)) z) (sq (qp (ptn l 1)) z) + _
    rw [one]; omega
  rcases wind_val C.val hoff hd0 with h | h <;> omega
/-- in the polygon: inside or on an edge -/
theorem Cvx.closed (C : Cvx l) {z : Q2} (h : inC l z) : (∀ e ∈ eds l, 0 < (eHP e).at z) ∨ ∃ e ∈ eds l, OnE z (qe e) := by
  have n3 := C.val.n3
  by_cases hs : ∀ e ∈ eds l, 0 < (eHP e).at z
  · exact .inl hs
  · right
    have hS := simp_of C.val.n3 C.val.may C.val.sim
    have hz : ∃ i, i < l.length ∧ (eHP (edn l i)).at z = 0 := by
      refine Classical.byContradiction fun hn => hs fun e he => ?_
      have h0 := h e he
      rw [eds_range, List.mem_map] at he
      obtain ⟨i, hi, rfl⟩ := he
      have : (eHP (edn l i)).at z ≠ 0 := fun e => hn ⟨i, List.mem_range.1 hi, e⟩
      grind
    obtain ⟨i, hi, h0⟩ := hz
    have hall : ∀ j, 0 ≤ (eHP (edn l j)).at z := fun j => by
      have e : edn l j = edn l (j % l.length) := (mod_of_per (edn l) l.length (edn_per l) j).symm
      rw [e]; exact h _ (edn_mem (Nat.mod_lt _ (by omega)))
    -- turns are to the left
    have turn : ∀ j, 0 < xq (sq (pqf l (j + 1)) (pqf l j)) (sq (pqf l (j + 2)) (pqf l (j + 1))) := fun j => by
      have hn := hS.nc j
      have hm : edn l (j % l.length) ∈ eds l := edn_mem (Nat.mod_lt _ (by omega))
      rw [mod_of_per (edn l) l.length (edn_per l) j] at hm
      have := Rat.intCast_nonneg.2 (C.left _ hm (ptn l (j + 2)) (ptn_mem (j + 2) (by omega)))
      unfold edn at this; simp only at this
      rw [← xq_int] at this
      have e : xq (sq (pqf l (j + 1)) (pqf l j)) (sq (pqf l (j + 2)) (pqf l (j + 1))) = xq (sq (qp (ptn l (j + 1))) (qp (ptn l j))) (sq (qp (ptn l (j + 2))) (qp (ptn l j))) := by unfold pqf xq sq; grind
      rw [e] at hn ⊢; grind
    obtain ⟨m, hm⟩ : ∃ m, i + l.length = m + 1 := ⟨i + l.length - 1, by omega⟩
    have hper : edn l (m + 1) = edn l i := by rw [← hm, edn_per]
    have t1 := turn m
    have t2 := turn (m + 1)
    have a1 := hall m
    have a2 := hall (m + 2)
    rw [← hper, eHP_at] at h0
    rw [eHP_at] at a1 a2
    have hne := f_ne hS (m + 1)
    have hN := dq_pos hne
    have hI := r_inv (x := dq (sq (pqf l (m + 1 + 1)) (pqf l (m + 1))) (sq (pqf l (m + 1 + 1)) (pqf l (m + 1)))) (by grind)
    refine ⟨edn l i, edn_mem hi, ?_⟩
    rw [← hper]
    show OnE z (pqf l (m + 1), pqf l (m + 1 + 1))
    have hz : ∃ t : Rat, z = onp (pqf l (m + 1)) (pqf l (m + 1 + 1)) t := by
      refine ⟨dq (sq z (pqf l (m + 1))) (sq (pqf l (m + 1 + 1)) (pqf l (m + 1))) * (dq (sq (pqf l (m + 1 + 1)) (pqf l (m + 1))) (sq (pqf l (m + 1 + 1)) (pqf l (m + 1))))⁻¹, ?_⟩
      have hx : xq (sq (pqf l (m + 1 + 1)) (pqf l (m + 1))) (sq z (pqf l (m + 1))) = 0 := h0
      generalize pqf l (m + 1) = P at *
      generalize pqf l (m + 1 + 1) = Q at *
      have i1 : dq (sq Q P) (sq Q P) * (z.1 - P.1) = dq (sq z P) (sq Q P) * (Q.1 - P.1) := by unfold dq sq; unfold xq sq at hx; grind
      have i2 : dq (sq Q P) (sq Q P) * (z.2 - P.2) = dq (sq z P) (sq Q P) * (Q.2 - P.2) := by unfold dq sq; unfold xq sq at hx; grind
      generalize dq (sq Q P) (sq Q P) = N at *
      generalize dq (sq z P) (sq Q P) = k at *
      generalize N⁻¹ = M at *
      refine Prod.ext ?_ ?_ <;> simp only [onp] <;> grind
    obtain ⟨t, ht⟩ := hz
    have e1 : xq (sq (qp (edn l m).2) (qp (edn l m).1)) (sq z (qp (edn l m).1)) = t * xq (sq (pqf l (m + 1)) (pqf l m)) (sq (pqf l (m + 2)) (pqf l (m + 1))) := by
      rw [ht]; unfold edn pqf xq sq onp; simp only; grind
    have e2 : xq (sq (qp (edn l (m + 2)).2) (qp (edn l (m + 2)).1)) (sq z (qp (edn l (m + 2)).1)) = (1 - t) * xq (sq (pqf l (m + 1 + 1)) (pqf l (m + 1))) (sq (pqf l (m + 1 + 2)) (pqf l (m + 1 + 1))) := by
      rw [ht]; unfold edn pqf xq sq onp; simp only; grind
    rw [e1] at a1
    rw [e2] at a2
    have t0 : 0 ≤ t := by
      refine Classical.byContradiction fun hn => ?_
      have := Rat.mul_pos (show 0 < -t by grind) t1
      grind
    have tt1 : t ≤ 1 := by
      refine Classical.byContradiction fun hn => ?_
      have := Rat.mul_pos (show 0 < t - 1 by grind) t2
      grind
    rw [ht]; exact on_of_param t0 tt1
end
/-! two convex polygons: apart by an edge, or in contact -/
theorem sat_edge {a b : List Pt} (A : Cvx a) (B : Cvx b) (hcut : ∀ e ∈ eds a, ∀ f ∈ eds b, cutE e f = false) (hq : ∀ q ∈ b, locI a q = -1) {z : Q2} (hz : inC a z) {f : Pt × Pt} (hf : f ∈ eds b) (ho : OnE z (qe f)) : False := by
  have noMeet : ∀ e ∈ eds a, ¬ Meets (qp e.1) (qp e.2) (qp f.1) (qp f.2) := fun e he hm => by
    have := (cut_meets (eds_B A.val.may he).1 (eds_B A.val.may he).2 (eds_B B.val.may hf).1 (eds_B B.val.may hf).2).2 hm
    have h2 := hcut e he f hf
    rw [show e = (e.1, e.2) from rfl, show f = (f.1, f.2) from rfl, this] at h2
    cases h2
  rcases A.closed hz with hs | ⟨e, he, hoe⟩
  · have w1 := A.inner hs d10
    obtain ⟨t, t0, t1, ht⟩ := on_param ho
    have walk := wn_walk (x := z) (y := qp f.1) (eds_path a) d10 (fun g hg => by
      obtain ⟨e, he, rfl⟩ := List.mem_map.1 hg
      rintro ⟨v, v1, v2⟩
      refine noMeet e he ⟨v, v1, ?_⟩
      obtain ⟨s, s0, s1, hs⟩ := on_param v2
      have : v = onp (qp f.1) (qp f.2) ((1 - s) * t) := by
        rw [hs, ht]; refine Prod.ext ?_ ?_ <;> simp only [onp, qe] <;> grind
      rw [this]
      have m0 := Rat.mul_nonneg (show 0 ≤ 1 - s by grind) t0
      have m1 := Rat.mul_nonneg s0 t0
      exact on_of_param m0 (by grind))
    rw [w1] at walk
    have hl := hq f.1 (eds_mem hf).1
    rcases loc3 A.val (eds_B B.val.may hf).1 with ⟨_, h⟩ | ⟨_, _, h⟩ | ⟨_, h, _⟩
    · omega
    · omega
    · have := h _ d10; omega
  · exact noMeet e he ⟨z, hoe, ho⟩
theorem sat {a b : List Pt} (A : Cvx a) (B : Cvx b) (h1 : ∀ e ∈ eds a, beyB e b = false) (h2 : ∀ e ∈ eds b, beyB e a = false) : (FC a b).isSome = true := by
  refine Classical.byContradiction fun hc => ?_
  have hc : (FC a b).isSome = false := by simpa using hc
  have a3 := A.val.n3
  have b3 := B.val.n3
  rw [FC_isSome] at hc
  simp only [Bool.or_eq_false_iff, List.any_eq_false] at hc
  obtain ⟨c1, c2, c3⟩ := hc
  have hcut : ∀ e ∈ eds a, ∀ f ∈ eds b, cutE e f = false := fun e he f hf => by
    rw [eds_range, List.mem_map] at he hf
    obtain ⟨i, hi, rfl⟩ := he
    obtain ⟨j, hj, rfl⟩ := hf
    have := c1 i hi
    rw [Bool.not_eq_true, List.any_eq_false] at this
    have := this j hj
    simpa using this
  have out : ∀ {a b : List Pt}, (∀ i ∈ List.range a.length, ¬ insB a i b = true) → ∀ p ∈ a, locI b p = -1 := by
    intro a b h p hp
    obtain ⟨k, hk, rfl⟩ := List.getElem_of_mem hp
    have := h k (List.mem_range.2 hk)
    have e : a[k] = ptn a k := by
      have := ptn_get hk
      rw [List.getElem?_eq_getElem hk] at this
      simpa using this
    unfold insB at this
    simp only [Bool.and_eq_true, decide_eq_true_eq, Int.toNat_natCast] at this
    rw [e]
    refine Classical.byContradiction fun hn => this ⟨by omega, by omega, hn⟩
  have hp := out c2
  have hq := out c3
  have hcut' : ∀ e ∈ eds b, ∀ f ∈ eds a, cutE e f = false := fun e he f hf => by
    obtain ⟨e1, e2⟩ := eds_B B.val.may he
    obtain ⟨f1, f2⟩ := eds_B A.val.may hf
    have := cutE_sw f1 f2 e1 e2
    rw [show (e.1, e.2) = e from rfl, show (f.1, f.2) = f from rfl] at this
    rw [this]; exact hcut f hf e he
  -- a corner of a not to the right of an edge of b
  have wit : ∀ {a b : List Pt}, Cvx a → Cvx b → (∀ e ∈ eds b, beyB e a = false) → ∀ e ∈ eds b, ∃ z, inC a z ∧ 0 ≤ (eHP e).at z := by
    intro a b A B h e he
    have := h e he
    unfold beyB at this
    rw [List.all_eq_false] at this
    obtain ⟨p, hp, hn⟩ := this
    rw [decide_eq_true_eq, ori_sgn (eds_B B.val.may he).1 (eds_B B.val.may he).2 (mayB_B2 (List.all_eq_true.1 A.val.may _ hp))] at hn
    exact ⟨qp p, A.corner hp, by rw [eHP_pt]; exact Rat.intCast_nonneg.2 (by omega)⟩
  have wa : ∃ z, inC a z := ⟨_, A.corner (ptn_mem 0 (by omega))⟩
  have wb : ∃ z, inC b z := ⟨_, B.corner (ptn_mem 0 (by omega))⟩
  obtain ⟨z, hz⟩ := helly2 ((eds a).map eHP ++ (eds b).map eHP) (fun p hp q hq r hr => by
    simp only [List.mem_append, List.mem_map] at hp hq hr
    rcases hp with ⟨e, he, rfl⟩ | ⟨e, he, rfl⟩ <;> rcases hq with ⟨f, hf, rfl⟩ | ⟨f, hf, rfl⟩ <;> rcases hr with ⟨g, hg, rfl⟩ | ⟨g, hg, rfl⟩
    · obtain ⟨z, hz⟩ := wa; exact ⟨z, hz _ he, hz _ hf, hz _ hg⟩
    · obtain ⟨z, hz, h⟩ := wit A B h2 g hg; exact ⟨z, hz _ he, hz _ hf, h⟩
    · obtain ⟨z, hz, h⟩ := wit A B h2 f hf; exact ⟨z, hz _ he, h, hz _ hg⟩
    · obtain ⟨z, hz, h⟩ := wit B A h1 e he; exact ⟨z, h, hz _ hf, hz _ hg⟩
    · obtain ⟨z, hz, h⟩ := wit A B h2 e he; exact ⟨z, h, hz _ hf, hz _ hg⟩
    · obtain ⟨z, hz, h⟩ := wit B A h1 f hf; exact ⟨z, hz _ he, h, hz _ hg⟩
    · obtain ⟨z, hz, h⟩ := wit B A h1 g hg; exact ⟨z, hz _ he, hz _ hf, h⟩
    · obtain ⟨z, hz⟩ := wb; exact ⟨z, hz _ he, hz _ hf, hz _ hg⟩)
  have za : inC a z := fun e he => hz _ (by simp only [List.mem_append, List.mem_map]; exact .inl ⟨e, he, rfl⟩)
  have zb : inC b z := fun e he => hz _ (by simp only [List.mem_append, List.mem_map]; exact .inr ⟨e, he, rfl⟩)
  rcases A.closed za with sa | ⟨e, he, ho⟩
  · rcases B.closed zb with sb | ⟨f, hf, ho⟩
    · -- inside both: on the way to a corner of a
      by_cases hm : ∃ f ∈ eds b, Meets (qp f.1) (qp f.2) z (qp (ptn a 0))
      · obtain ⟨f, hf, v, v1, v2⟩ := hm
        obtain ⟨s, s0, s1, hs⟩ := on_param v2
        refine sat_edge A B hcut hq (z := v) (fun e he => ?_) hf v1
        rw [hs]
        exact (eHP e).conv s0 s1 (za e he) (A.corner (ptn_mem 0 (by omega)) e he)
      · have w1 := B.inner sb d10
        have walk := wn_walk (x := z) (y := qp (ptn a 0)) (eds_path b) d10 (fun g hg => by
          obtain ⟨f, hf, rfl⟩ := List.mem_map.1 hg
          exact fun h => hm ⟨f, hf, h⟩)
        rw [w1] at walk
        have hl := hp (ptn a 0) (ptn_mem 0 (by omega))
        rcases loc3 B.val (ptn_B A.val.may (by omega) 0) with ⟨_, h⟩ | ⟨_, _, h⟩ | ⟨_, h, _⟩
        · omega
        · omega
        · have := h _ d10; omega
    · exact sat_edge A B hcut hq za hf ho
  · exact sat_edge B A hcut' hp zb he ho
end Go.Geo

namespace Go.Geo
set_option maxRecDepth 100000
set_option maxHeartbeats 4000000
set_option linter.unusedSimpArgs false
set_option linter.unusedVariables false
open Go Go.Zv
theorem seA_some {a b : List Pt} {i : Nat} (h : seA a b = some i) : sepAt a b i = true := by
  unfold seA at h
  rw [List.find?_range_eq_some] at h
  obtain ⟨h1, h2, _⟩ := h
  have := List.mem_range.1 h2
  unfold sepAt
  rw [Bool.and_eq_true, decide_eq_true_eq, Int.toNat_natCast]
  exact ⟨by omega, h1⟩
theorem seA_none {a b : List Pt} (h : seA a b = none) : ∀ e ∈ eds a, beyB e b = false := by
  unfold seA at h
  rw [List.find?_eq_none] at h
  intro e he
  rw [eds_range, List.mem_map] at he
  obtain ⟨i, hi, rfl⟩ := he
  simpa using h i hi
theorem FC_icn {a b : List Pt} {k i j : Int} (h : FC a b = some (k, i, j)) : icnB a b k i j = true := by
  have ins : ∀ {a b : List Pt} {i : Nat}, fcA a b = some i → insB a i b = true := fun h => by
    unfold fcA at h; rw [List.find?_range_eq_some] at h; exact h.1
  unfold FC at h
  cases h1 : fcE a b with
  | some i' =>
    rw [h1] at h
    simp only at h
    have hE := h1
    unfold fcE at hE
    rw [List.find?_range_eq_some] at hE
    obtain ⟨hs, hr, _⟩ := hE
    obtain ⟨j', hj⟩ := Option.isSome_iff_exists.1 hs
    rw [hj] at h
    simp only [Option.map_some, Option.some.injEq, Prod.mk.injEq] at h
    obtain ⟨rfl, rfl, rfl⟩ := h
    unfold fcJ at hj
    rw [List.find?_range_eq_some] at hj
    obtain ⟨hc, hr2, _⟩ := hj
    have b1 := List.mem_range.1 hr
    have b2 := List.mem_range.1 hr2
    unfold icnB
    rw [if_pos rfl, Int.toNat_natCast, Int.toNat_natCast, hc, decide_eq_true (by omega), decide_eq_true (by omega)]; rfl
  | none =>
    rw [h1] at h
    simp only at h
    cases h2 : fcA a b with
    | some i' =>
      rw [h2] at h
      simp only [Option.some.injEq, Prod.mk.injEq] at h
      obtain ⟨rfl, rfl, rfl⟩ := h
      unfold icnB
      rw [if_neg (by decide), if_pos rfl, ins h2]; rfl
    | none =>
      rw [h2] at h
      simp only at h
      cases h3 : fcA b a with
      | none => rw [h3] at h; cases h
      | some j' =>
        rw [h3] at h
        simp only [Option.map_some, Option.some.injEq, Prod.mk.injEq] at h
        obtain ⟨rfl, rfl, rfl⟩ := h
        unfold icnB
        rw [if_neg (by decide), if_neg (by decide), if_pos rfl, ins h3]; rfl
end Go.Geo
namespace Go.Proofs.Yteellikeoiedbaa
set_option maxRecDepth 100000
set_option maxHeartbeats 4000000
set_option linter.unusedSimpArgs false
set_option linter.unusedVariables false
open Go Go.Zv
open Go.Geo
theorem law4 (a b : List Pt) : pc E 4 [.vs (a.map c2), .vs (b.map c2)] = some (.bool true) := by
  have fa := c16 a
  have fb := c16 b
  cases hA : valB a with
  | false => rw [hA] at fa; rw [pc_eq]; simp +contextual -implicitDefEqProofs (maxSteps := 2000000) only [go_sem, ↓reduceIte, Nat.reduceAdd, Nat.reduceMul, Nat.reduceSub, Nat.reduceEqDiff, Nat.reduceLeDiff, Nat.reduceDiv, Nat.reduceMod, Nat.reduceBEq, Nat.reduceBNe, reduceCtorEq, Int.reduceLE, Int.reduceLT, Int.reduceToNat, Int.reduceNeg, Nat.reduceLT, Int.reduceEq, Int.reduceSub, Int.reduceAdd, Int.reduceMul, Nat.reducePow, Int.reduceBEq, Int.reduceBNe, Int.reduceMod, E_4, A4, c15, fa]
  | true =>
    rw [hA] at fa
    cases hB : valB b with
    | false => rw [hB] at fb; rw [pc_eq]; simp +contextual -implicitDefEqProofs (maxSteps := 2000000) only [go_sem, ↓reduceIte, Nat.reduceAdd, Nat.reduceMul, Nat.reduceSub, Nat.reduceEqDiff, Nat.reduceLeDiff, Nat.reduceDiv, Nat.reduceMod, Nat.reduceBEq, Nat.reduceBNe, reduceCtorEq, Int.reduceLE, Int.reduceLT, Int.reduceToNat, Int.reduceNeg, Nat.reduceLT, Int.reduceEq, Int.reduceSub, Int.reduceAdd, Int.reduceMul, Nat.reducePow, Int.reduceBEq, Int.reduceBNe, Int.reduceMod, E_4, A4, c15, fa, fb]
    | true =>
      rw [hB] at fb
      have A := val_iff.1 hA
      have B := val_iff.1 hB
      have a12 := A.n12
      have b12 := B.n12
      have a3 := A.n3
      have v1 := c24 a (by omega)
      have v2 := c24 b (by omega)
      cases hca : cvxB a with
      | false => rw [hca] at v1; rw [pc_eq]; simp +contextual -implicitDefEqProofs (maxSteps := 2000000) only [go_sem, ↓reduceIte, Nat.reduceAdd, Nat.reduceMul, Nat.reduceSub, Nat.reduceEqDiff, Nat.reduceLeDiff, Nat.reduceDiv, Nat.reduceMod, Nat.reduceBEq, Nat.reduceBNe, reduceCtorEq, Int.reduceLE, Int.reduceLT, Int.reduceToNat, Int.reduceNeg, Nat.reduceLT, Int.reduceEq, Int.reduceSub, Int.reduceAdd, Int.reduceMul, Nat.reducePow, Int.reduceBEq, Int.reduceBNe, Int.reduceMod, E_4, A4, c15, fa, fb, v1]
      | true =>
        rw [hca] at v1
        cases hcb : cvxB b with
        | false => rw [hcb] at v2; rw [pc_eq]; simp +contextual -implicitDefEqProofs (maxSteps := 2000000) only [go_sem, ↓reduceIte, Nat.reduceAdd, Nat.reduceMul, Nat.reduceSub, Nat.reduceEqDiff, Nat.reduceLeDiff, Nat.reduceDiv, Nat.reduceMod, Nat.reduceBEq, Nat.reduceBNe, reduceCtorEq, Int.reduceLE, Int.reduceLT, Int.reduceToNat, Int.reduceNeg, Nat.reduceLT, Int.reduceEq, Int.reduceSub, Int.reduceAdd, Int.reduceMul, Nat.reducePow, Int.reduceBEq, Int.reduceBNe, Int.reduceMod, E_4, A4, c15, fa, fb, v1, v2]
        | true =>
          rw [hcb] at v2
          have s1 := c25 a b (by omega) (by omega)
          have f1 := c17 a b (by omega) (by omega)
          have p1 := c19 a b (by omega) (by omega)
          have yes : ∀ o i, isepB a b o i = true → SE a b = some (o, i) → pc E 4 [.vs (a.map c2), .vs (b.map c2)] = some (.bool true) := by
            intro o i hs hse
            have no := (isep_no A B (fun _ => hca) (fun _ => hcb) hs).1
            have hn : FC a b = none := by simpa using no
            have k1 := c20 a b (by omega) (by omega) o i
            have k2 := c22 a b (by omega) (by omega) 0 0 0
            have k3 : icnB a b 0 0 0 = false := by simp [icnB]
            rw [hs] at k1
            rw [k3] at k2
            rw [hse] at s1
            rw [hn] at f1 p1
            simp only [sepV, conV, Option.isSome_none] at s1 f1 p1
            rw [pc_eq]; simp +contextual -implicitDefEqProofs (maxSteps := 2000000) only [go_sem, ↓reduceIte, Nat.reduceAdd, Nat.reduceMul, Nat.reduceSub, Nat.reduceEqDiff, Nat.reduceLeDiff, Nat.reduceDiv, Nat.reduceMod, Nat.reduceBEq, Nat.reduceBNe, reduceCtorEq, Int.reduceLE, Int.reduceLT, Int.reduceToNat, Int.reduceNeg, Nat.reduceLT, Int.reduceEq, Int.reduceSub, Int.reduceAdd, Int.reduceMul, Nat.reducePow, Int.reduceBEq, Int.reduceBNe, Int.reduceMod, E_4, A4, c15, fa, fb, v1, v2, s1, f1, p1, k1, k2, bne_self_eq_false, beq_self_eq_true]
          cases e1 : seA a b with
          | some i =>
            refine yes 0 i ?_ ?_
            · unfold isepB; rw [if_neg (by decide), seA_some e1]; rfl
            · unfold SE; rw [e1]
          | none =>
            cases e2 : seA b a with
            | some i =>
              refine yes 1 i ?_ ?_
              · unfold isepB; rw [if_pos rfl, seA_some e2]
              · unfold SE; rw [e1, e2]; rfl
            | none =>
              have hse : SE a b = none := by unfold SE; rw [e1, e2]; rfl
              have hsat := sat (cvx_of A hca) (cvx_of B hcb) (seA_none e1) (seA_none e2)
              obtain ⟨⟨k, i, j⟩, hfc⟩ := Option.isSome_iff_exists.1 hsat
              have hic := FC_icn hfc
              have k1 := c20 a b (by omega) (by omega) 0 0
              have k2 := c22 a b (by omega) (by omega) k i j
              have hns : isepB a b 0 0 = false := by
                unfold isepB sepAt
                rw [if_neg (by decide)]
                rw [seA_none e1 _ (edn_mem (l := a) (i := (0 : Int).toNat) (by omega))]; simp
              rw [hns] at k1
              rw [hic] at k2
              rw [hse] at s1
              rw [hfc] at f1 p1
              simp only [sepV, conV, Option.isSome_some] at s1 f1 p1
              rw [pc_eq]; simp +contextual -implicitDefEqProofs (maxSteps := 2000000) only [go_sem, ↓reduceIte, Nat.reduceAdd, Nat.reduceMul, Nat.reduceSub, Nat.reduceEqDiff, Nat.reduceLeDiff, Nat.reduceDiv, Nat.reduceMod, Nat.reduceBEq, Nat.reduceBNe, reduceCtorEq, Int.reduceLE, Int.reduceLT, Int.reduceToNat, Int.reduceNeg, Nat.reduceLT, Int.reduceEq, Int.reduceSub, Int.reduceAdd, Int.reduceMul, Nat.reducePow, Int.reduceBEq, Int.reduceBNe, Int.reduceMod, E_4, A4, c15, fa, fb, v1, v2, s1, f1, p1, k1, k2, bne_self_eq_false, beq_self_eq_true]
end Go.Proofs.Yteellikeoiedbaa
