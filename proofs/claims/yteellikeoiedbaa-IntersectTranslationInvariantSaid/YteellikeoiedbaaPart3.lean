/- Part of the proof: the evaluation of the program's code and its tie to the machine, or what functions of the program compute over it. -/
import Derived.Test.YteellikeoiedbaaPart2
namespace Go.Proofs.Yteellikeoiedbaa
set_option maxRecDepth 100000
set_option maxHeartbeats 4000000
set_option linter.unusedSimpArgs false
set_option linter.unusedVariables false
open Go Go.Zv
open Go.Geo
theorem shr1 (n : Int) : shf .shr .i64 n 1 = some (.int .i64 (n / 2)) := by
  unfold shf
  rw [if_neg (by decide)]
  have : (2 : Int) ^ (min (Int.toNat 1) IntKind.i64.bits) = 2 := by decide
  simp only [this]
  rw [Int.fdiv_eq_ediv_of_nonneg _ (by decide)]
theorem c20 (a b : List Pt) (ha : a.length ≤ 1000000000) (hb : b.length ≤ 1000000000) (o d : Int) : pc E 20 [.vs (a.map c2), .vs (b.map c2), .agg [.int .i64 o, .int .i64 d]] = some (.bool (isepB a b o d)) := by
  have g1 := c47 a ha d
  have g2 := c47 b hb d
  have k1 := c48 b hb (edn a d.toNat).1.1 (edn a d.toNat).1.2 (edn a d.toNat).2.1 (edn a d.toNat).2.2
  have k2 := c48 a ha (edn b d.toNat).1.1 (edn b d.toNat).1.2 (edn b d.toNat).2.1 (edn b d.toNat).2.2
  unfold isepB sepAt
  rw [show (((edn a d.toNat).1.1, (edn a d.toNat).1.2), ((edn a d.toNat).2.1, (edn a d.toNat).2.2)) = edn a d.toNat from rfl] at k1
  rw [show (((edn b d.toNat).1.1, (edn b d.toNat).1.2), ((edn b d.toNat).2.1, (edn b d.toNat).2.2)) = edn b d.toNat from rfl] at k2
  generalize beyB (edn a d.toNat) b = B1 at *
  generalize beyB (edn b d.toNat) a = B2' at *
  have sh := shr1 o
  have w1 : shf .shr .i64 1 1 = some (.int .i64 0) := shr1 1
  by_cases h1 : o = 1
  · subst h1
    rw [if_pos rfl]
    by_cases h2 : 0 ≤ d ∧ d < b.length
    · rw [if_pos h2] at g2
      rw [decide_eq_true h2, Bool.true_and]
      rw [pc_eq]; simp +contextual -implicitDefEqProofs (maxSteps := 2000000) only [go_sem, ↓reduceIte, Nat.reduceAdd, Nat.reduceMul, Nat.reduceSub, Nat.reduceEqDiff, Nat.reduceLeDiff, Nat.reduceDiv, Nat.reduceMod, Nat.reduceBEq, Nat.reduceBNe, reduceCtorEq, Int.reduceLE, Int.reduceLT, Int.reduceToNat, Int.reduceNeg, Nat.reduceLT, Int.reduceEq, Int.reduceSub, Int.reduceAdd, Int.reduceMul, Nat.reducePow, Int.reduceBEq, Int.reduceBNe, Int.reduceMod, E_20, A20, g2, k2, w1, beq_self_eq_true]
    · rw [if_neg h2] at g2
      rw [decide_eq_false h2, Bool.false_and]
      rw [pc_eq]; simp +contextual -implicitDefEqProofs (maxSteps := 2000000) only [go_sem, ↓reduceIte, Nat.reduceAdd, Nat.reduceMul, Nat.reduceSub, Nat.reduceEqDiff, Nat.reduceLeDiff, Nat.reduceDiv, Nat.reduceMod, Nat.reduceBEq, Nat.reduceBNe, reduceCtorEq, Int.reduceLE, Int.reduceLT, Int.reduceToNat, Int.reduceNeg, Nat.reduceLT, Int.reduceEq, Int.reduceSub, Int.reduceAdd, Int.reduceMul, Nat.reducePow, Int.reduceBEq, Int.reduceBNe, Int.reduceMod, E_20, A20, g2, w1, beq_self_eq_true]
  · have h1' : (o == 1) = false := by simpa using h1
    rw [if_neg h1]
    by_cases h2 : 0 ≤ d ∧ d < a.length
    · rw [if_pos h2] at g1
      rw [decide_eq_true h2, Bool.true_and]
      by_cases h3 : o = 0
      · subst h3
        have w0 : shf .shr .i64 0 1 = some (.int .i64 0) := shr1 0
        rw [pc_eq]; simp +contextual -implicitDefEqProofs (maxSteps := 2000000) only [go_sem, ↓reduceIte, Nat.reduceAdd, Nat.reduceMul, Nat.reduceSub, Nat.reduceEqDiff, Nat.reduceLeDiff, Nat.reduceDiv, Nat.reduceMod, Nat.reduceBEq, Nat.reduceBNe, reduceCtorEq, Int.reduceLE, Int.reduceLT, Int.reduceToNat, Int.reduceNeg, Nat.reduceLT, Int.reduceEq, Int.reduceSub, Int.reduceAdd, Int.reduceMul, Nat.reducePow, Int.reduceBEq, Int.reduceBNe, Int.reduceMod, E_20, A20, g1, k1, w0, h1, h1', beq_self_eq_true, decide_true, Bool.true_and]
      · have h4 : ¬ o / 2 = 0 := by omega
        have h4' : (o / 2 == 0) = false := by simpa using h4
        rw [pc_eq]; simp +contextual -implicitDefEqProofs (maxSteps := 2000000) only [go_sem, ↓reduceIte, Nat.reduceAdd, Nat.reduceMul, Nat.reduceSub, Nat.reduceEqDiff, Nat.reduceLeDiff, Nat.reduceDiv, Nat.reduceMod, Nat.reduceBEq, Nat.reduceBNe, reduceCtorEq, Int.reduceLE, Int.reduceLT, Int.reduceToNat, Int.reduceNeg, Nat.reduceLT, Int.reduceEq, Int.reduceSub, Int.reduceAdd, Int.reduceMul, Nat.reducePow, Int.reduceBEq, Int.reduceBNe, Int.reduceMod, E_20, A20, g1, k1, sh, h1, h1', h3, h4, h4', decide_false, Bool.false_and]
    · rw [if_neg h2] at g1
      rw [decide_eq_false h2, Bool.false_and, Bool.and_false]
      rw [pc_eq]; simp +contextual -implicitDefEqProofs (maxSteps := 2000000) only [go_sem, ↓reduceIte, Nat.reduceAdd, Nat.reduceMul, Nat.reduceSub, Nat.reduceEqDiff, Nat.reduceLeDiff, Nat.reduceDiv, Nat.reduceMod, Nat.reduceBEq, Nat.reduceBNe, reduceCtorEq, Int.reduceLE, Int.reduceLT, Int.reduceToNat, Int.reduceNeg, Nat.reduceLT, Int.reduceEq, Int.reduceSub, Int.reduceAdd, Int.reduceMul, Nat.reducePow, Int.reduceBEq, Int.reduceBNe, Int.reduceMod, E_20, A20, g1, h1, h1']
theorem c22 (a b : List Pt) (ha : a.length ≤ 1000000000) (hb : b.length ≤ 1000000000) (k i j : Int) : pc E 22 [.vs (a.map c2), .vs (b.map c2), .agg [.int .i64 k, .int .i64 i, .int .i64 j]] = some (.bool (icnB a b k i j)) := by
  have g1 := c47 a ha i
  have g2 := c47 b hb j
  have o1 := c27 (edn a i.toNat).1.1 (edn a i.toNat).1.2 (edn a i.toNat).2.1 (edn a i.toNat).2.2 (edn b j.toNat).1.1 (edn b j.toNat).1.2 (edn b j.toNat).2.1 (edn b j.toNat).2.2
  have o2 := c46 a b hb i
  have o3 := c46 b a ha j
  unfold icnB
  have hc : cutE (edn a i.toNat) (edn b j.toNat) = cutB (edn a i.toNat).1.1 (edn a i.toNat).1.2 (edn a i.toNat).2.1 (edn a i.toNat).2.2 (edn b j.toNat).1.1 (edn b j.toNat).1.2 (edn b j.toNat).2.1 (edn b j.toNat).2.2 := rfl
  rw [hc]
  generalize cutB (edn a i.toNat).1.1 (edn a i.toNat).1.2 (edn a i.toNat).2.1 (edn a i.toNat).2.2 (edn b j.toNat).1.1 (edn b j.toNat).1.2 (edn b j.toNat).2.1 (edn b j.toNat).2.2 = cc at *
  generalize insB a i b = B1 at *
  generalize insB b j a = B2' at *
  generalize edn a i.toNat = e at *
  generalize edn b j.toNat = f at *
  by_cases h1 : k = 1
  · subst h1
    rw [if_pos rfl]
    by_cases h2 : 0 ≤ i ∧ i < a.length
    · rw [if_pos h2] at g1
      rw [decide_eq_true h2, Bool.true_and]
      by_cases h3 : 0 ≤ j ∧ j < b.length
      · rw [if_pos h3] at g2
        rw [decide_eq_true h3, Bool.true_and]
        rw [pc_eq]; simp +contextual -implicitDefEqProofs (maxSteps := 2000000) only [go_sem, ↓reduceIte, Nat.reduceAdd, Nat.reduceMul, Nat.reduceSub, Nat.reduceEqDiff, Nat.reduceLeDiff, Nat.reduceDiv, Nat.reduceMod, Nat.reduceBEq, Nat.reduceBNe, reduceCtorEq, Int.reduceLE, Int.reduceLT, Int.reduceToNat, Int.reduceNeg, Nat.reduceLT, Int.reduceEq, Int.reduceSub, Int.reduceAdd, Int.reduceMul, Nat.reducePow, Int.reduceBEq, Int.reduceBNe, Int.reduceMod, E_22, A22, g1, g2, o1, beq_self_eq_true]
      · rw [if_neg h3] at g2
        rw [decide_eq_false h3, Bool.false_and]
        rw [pc_eq]; simp +contextual -implicitDefEqProofs (maxSteps := 2000000) only [go_sem, ↓reduceIte, Nat.reduceAdd, Nat.reduceMul, Nat.reduceSub, Nat.reduceEqDiff, Nat.reduceLeDiff, Nat.reduceDiv, Nat.reduceMod, Nat.reduceBEq, Nat.reduceBNe, reduceCtorEq, Int.reduceLE, Int.reduceLT, Int.reduceToNat, Int.reduceNeg, Nat.reduceLT, Int.reduceEq, Int.reduceSub, Int.reduceAdd, Int.reduceMul, Nat.reducePow, Int.reduceBEq, Int.reduceBNe, Int.reduceMod, E_22, A22, g1, g2, beq_self_eq_true]
    · rw [if_neg h2] at g1
      rw [decide_eq_false h2, Bool.false_and]
      by_cases h3 : 0 ≤ j ∧ j < b.length
      · rw [if_pos h3] at g2
        rw [pc_eq]; simp +contextual -implicitDefEqProofs (maxSteps := 2000000) only [go_sem, ↓reduceIte, Nat.reduceAdd, Nat.reduceMul, Nat.reduceSub, Nat.reduceEqDiff, Nat.reduceLeDiff, Nat.reduceDiv, Nat.reduceMod, Nat.reduceBEq, Nat.reduceBNe, reduceCtorEq, Int.reduceLE, Int.reduceLT, Int.reduceToNat, Int.reduceNeg, Nat.reduceLT, Int.reduceEq, Int.reduceSub, Int.reduceAdd, Int.reduceMul, Nat.reducePow, Int.reduceBEq, Int.reduceBNe, Int.reduceMod, E_22, A22, g1, g2, beq_self_eq_true]
      · rw [if_neg h3] at g2
        rw [pc_eq]; simp +contextual -implicitDefEqProofs (maxSteps := 2000000) only [go_sem, ↓reduceIte, Nat.reduceAdd, Nat.reduceMul, Nat.reduceSub, Nat.reduceEqDiff, Nat.reduceLeDiff, Nat.reduceDiv, Nat.reduceMod, Nat.reduceBEq, Nat.reduceBNe, reduceCtorEq, Int.reduceLE, Int.reduceLT, Int.reduceToNat, Int.reduceNeg, Nat.reduceLT, Int.reduceEq, Int.reduceSub, Int.reduceAdd, Int.reduceMul, Nat.reducePow, Int.reduceBEq, Int.reduceBNe, Int.reduceMod, E_22, A22, g1, g2, beq_self_eq_true]
  · have h1' : (k == 1) = false := by simpa using h1
    rw [if_neg h1]
    by_cases h2 : k = 2
    · subst h2
      rw [if_pos rfl]
      by_cases h3 : j = 0
      · subst h3
        rw [decide_eq_true rfl, Bool.true_and]
        rw [pc_eq]; simp +contextual -implicitDefEqProofs (maxSteps := 2000000) only [go_sem, ↓reduceIte, Nat.reduceAdd, Nat.reduceMul, Nat.reduceSub, Nat.reduceEqDiff, Nat.reduceLeDiff, Nat.reduceDiv, Nat.reduceMod, Nat.reduceBEq, Nat.reduceBNe, reduceCtorEq, Int.reduceLE, Int.reduceLT, Int.reduceToNat, Int.reduceNeg, Nat.reduceLT, Int.reduceEq, Int.reduceSub, Int.reduceAdd, Int.reduceMul, Nat.reducePow, Int.reduceBEq, Int.reduceBNe, Int.reduceMod, E_22, A22, o2, beq_self_eq_true]
      · have h3' : (j == 0) = false := by simpa using h3
        rw [decide_eq_false h3, Bool.false_and]
        rw [pc_eq]; simp +contextual -implicitDefEqProofs (maxSteps := 2000000) only [go_sem, ↓reduceIte, Nat.reduceAdd, Nat.reduceMul, Nat.reduceSub, Nat.reduceEqDiff, Nat.reduceLeDiff, Nat.reduceDiv, Nat.reduceMod, Nat.reduceBEq, Nat.reduceBNe, reduceCtorEq, Int.reduceLE, Int.reduceLT, Int.reduceToNat, Int.reduceNeg, Nat.reduceLT, Int.reduceEq, Int.reduceSub, Int.reduceAdd, Int.reduceMul, Nat.reducePow, Int.reduceBEq, Int.reduceBNe, Int.reduceMod, E_22, A22, h3, h3', beq_self_eq_true]
    · have h2' : (k == 2) = false := by simpa using h2
      rw [if_neg h2]
      by_cases h4 : k = 3
      · subst h4
        rw [if_pos rfl]
        by_cases h3 : i = 0
        · subst h3
          rw [decide_eq_true rfl, Bool.true_and]
          rw [pc_eq]; simp +contextual -implicitDefEqProofs (maxSteps := 2000000) only [go_sem, ↓reduceIte, Nat.reduceAdd, Nat.reduceMul, Nat.reduceSub, Nat.reduceEqDiff, Nat.reduceLeDiff, Nat.reduceDiv, Nat.reduceMod, Nat.reduceBEq, Nat.reduceBNe, reduceCtorEq, Int.reduceLE, Int.reduceLT, Int.reduceToNat, Int.reduceNeg, Nat.reduceLT, Int.reduceEq, Int.reduceSub, Int.reduceAdd, Int.reduceMul, Nat.reducePow, Int.reduceBEq, Int.reduceBNe, Int.reduceMod, E_22, A22, o3, beq_self_eq_true]
        · have h3' : (i == 0) = false := by simpa using h3
          rw [decide_eq_false h3, Bool.false_and]
          rw [pc_eq]; simp +contextual -implicitDefEqProofs (maxSteps := 2000000) only [go_sem, ↓reduceIte, Nat.reduceAdd, Nat.reduceMul, Nat.reduceSub, Nat.reduceEqDiff, Nat.reduceLeDiff, Nat.reduceDiv, Nat.reduceMod, Nat.reduceBEq, Nat.reduceBNe, reduceCtorEq, Int.reduceLE, Int.reduceLT, Int.reduceToNat, Int.reduceNeg, Nat.reduceLT, Int.reduceEq, Int.reduceSub, Int.reduceAdd, Int.reduceMul, Nat.reducePow, Int.reduceBEq, Int.reduceBNe, Int.reduceMod, E_22, A22, h3, h3', beq_self_eq_true]
      · have h4' : (k == 3) = false := by simpa using h4
        rw [if_neg h4]
        rw [pc_eq]; simp +contextual -implicitDefEqProofs (maxSteps := 2000000) only [go_sem, ↓reduceIte, Nat.reduceAdd, Nat.reduceMul, Nat.reduceSub, Nat.reduceEqDiff, Nat.reduceLeDiff, Nat.reduceDiv, Nat.reduceMod, Nat.reduceBEq, Nat.reduceBNe, reduceCtorEq, Int.reduceLE, Int.reduceLT, Int.reduceToNat, Int.reduceNeg, Nat.reduceLT, Int.reduceEq, Int.reduceSub, Int.reduceAdd, Int.reduceMul, Nat.reducePow, Int.reduceBEq, Int.reduceBNe, Int.reduceMod, E_22, A22, h1, h1', h2, h2', h4, h4']
theorem c16 (l : List Pt) : pc E 16 [.vs (l.map c2)] = some (.bool (valB l)) := by
  have h := c30 l
  by_cases k1 : (l.length : Int) ≤ 12
  · rw [pc_eq]; simp +contextual -implicitDefEqProofs (maxSteps := 2000000) only [go_sem, ↓reduceIte, Nat.reduceAdd, Nat.reduceMul, Nat.reduceSub, Nat.reduceEqDiff, Nat.reduceLeDiff, Nat.reduceDiv, Nat.reduceMod, Nat.reduceBEq, Nat.reduceBNe, reduceCtorEq, Int.reduceLE, Int.reduceLT, Int.reduceToNat, Int.reduceNeg, Nat.reduceLT, Int.reduceEq, Int.reduceSub, Int.reduceAdd, Int.reduceMul, Nat.reducePow, Int.reduceBEq, Int.reduceBNe, Int.reduceMod, E_16, A16, List.length_map, k1, h]
  · have hv : valB l = false := by
      cases hb : valB l with
      | false => rfl
      | true => have := (val_iff.1 hb).n12; omega
    rw [hv]
    rw [pc_eq]; simp +contextual -implicitDefEqProofs (maxSteps := 2000000) only [go_sem, ↓reduceIte, Nat.reduceAdd, Nat.reduceMul, Nat.reduceSub, Nat.reduceEqDiff, Nat.reduceLeDiff, Nat.reduceDiv, Nat.reduceMod, Nat.reduceBEq, Nat.reduceBNe, reduceCtorEq, Int.reduceLE, Int.reduceLT, Int.reduceToNat, Int.reduceNeg, Nat.reduceLT, Int.reduceEq, Int.reduceSub, Int.reduceAdd, Int.reduceMul, Nat.reducePow, Int.reduceBEq, Int.reduceBNe, Int.reduceMod, E_16, A16, List.length_map, k1, h]
theorem c51 (l : List Pt) (hl : l.length ≤ 1000000000) (k : Nat) (hk : k < l.length) : pc E 51 [.vs (l.map c2), .int .i64 k] = some (.int .i64 ((k + 1) % l.length : Nat)) := by
  obtain ⟨m1, m2, m3, m4, m5⟩ := mod_nat hk hl
  have hw := wr_k (k := k) (by omega)
  rw [pc_eq]; simp +contextual -implicitDefEqProofs (maxSteps := 2000000) only [go_sem, ↓reduceIte, Nat.reduceAdd, Nat.reduceMul, Nat.reduceSub, Nat.reduceEqDiff, Nat.reduceLeDiff, Nat.reduceDiv, Nat.reduceMod, Nat.reduceBEq, Nat.reduceBNe, reduceCtorEq, Int.reduceLE, Int.reduceLT, Int.reduceToNat, Int.reduceNeg, Nat.reduceLT, Int.reduceEq, Int.reduceSub, Int.reduceAdd, Int.reduceMul, Nat.reducePow, Int.reduceBEq, Int.reduceBNe, Int.reduceMod, E_51, A51, List.length_map, m1, m2, m3, hw]
theorem in24 (l : List Pt) (hl : l.length ≤ 1000000000) (i : Nat) (hi : i < l.length) :
    ((List.range l.length).any (rgtE l i) = true → (K E A24_L0 ⟨[(0, .vs (l.map c2)), (3, .int .i64 i), (4, .int .i64 0)], [], [], 0⟩).bind (blockR 2 (some [0, 3]) [2, 4, 24, 31]) = some (.ex .ret ⟨[(2, .bool false)], [], [], 0⟩)) ∧
    ((List.range l.length).any (rgtE l i) = false → (K E A24_L0 ⟨[(0, .vs (l.map c2)), (3, .int .i64 i), (4, .int .i64 0)], [], [], 0⟩).bind (blockR 2 (some [0, 3]) [2, 4, 24, 31]) = some (.ex .nrm ⟨[(0, .vs (l.map c2)), (3, .int .i64 i)], [], [], 0⟩)) := by
  have lp := loop_leave (σ := Unit) (fun S => (K E A24_L0 S).bind (blockR 2 (some [0, 3]) [2, 4, 24, 31]))
    (fun k _ => ⟨[(0, .vs (l.map c2)), (3, .int .i64 i), (4, .int .i64 k)], [], [], 0⟩)
    (List.range l.length) (fun _ _ => ()) (rgtE l i)
    (fun o => o = some (.ex .ret ⟨[(2, .bool false)], [], [], 0⟩))
    (fun _ => some (.ex .nrm ⟨[(0, .vs (l.map c2)), (3, .int .i64 i)], [], [], 0⟩))
    (fun x => by
      rw [List.length_range]
      show (K E A24_L0 _).bind _ = _
      rw [A24_L0_eq]; simp +contextual -implicitDefEqProofs (maxSteps := 2000000) only [go_sem, ↓reduceIte, Nat.reduceAdd, Nat.reduceMul, Nat.reduceSub, Nat.reduceEqDiff, Nat.reduceLeDiff, Nat.reduceDiv, Nat.reduceMod, Nat.reduceBEq, Nat.reduceBNe, reduceCtorEq, Int.reduceLE, Int.reduceLT, Int.reduceToNat, Int.reduceNeg, Nat.reduceLT, Int.reduceEq, Int.reduceSub, Int.reduceAdd, Int.reduceMul, Nat.reducePow, Int.reduceBEq, Int.reduceBNe, Int.reduceMod, A24_L0b, Int.lt_irrefl, List.length_map])
    (fun k k' x hk he => by
      rw [List.length_range] at hk
      rw [range_get hk] at he
      cases he
      have g1 := get_c2 (ptn_get hi)
      have g2 := get_c2 (ptn_mod (l := l) (k := i + 1) (by omega))
      have g3 := get_c2 (ptn_get hk)
      have o2 := c51 l hl i hi
      obtain ⟨_, _, _, m4, m5⟩ := mod_nat hi hl
      have h1 : (k : Int) < l.length := by omega
      have h0 : (0 : Int) ≤ k := by omega
      have i1 : (i : Int) < l.length := by omega
      have i0 : (0 : Int) ≤ i := by omega
      have hw := wr_k (k := k) (by omega)
      have o1 := c53 (ptn l i).1 (ptn l i).2 (ptn l (i + 1)).1 (ptn l (i + 1)).2 (ptn l k).1 (ptn l k).2
      unfold rgtE oriE
      generalize sgn (crW (ptn l i).1 (ptn l i).2 (ptn l (i + 1)).1 (ptn l (i + 1)).2 (ptn l k).1 (ptn l k).2) = s at *
      generalize ptn l i = p1 at *
      generalize ptn l (i + 1) = p2 at *
      generalize ptn l k = p3 at *
      refine ⟨fun h => ?_, fun h => ?_⟩
      · have h' := of_decide_eq_true h
        show (K E A24_L0 _).bind _ = _
        rw [A24_L0_eq]
        simp +contextual -implicitDefEqProofs (maxSteps := 2000000) only [go_sem, ↓reduceIte, Nat.reduceAdd, Nat.reduceMul, Nat.reduceSub, Nat.reduceEqDiff, Nat.reduceLeDiff, Nat.reduceDiv, Nat.reduceMod, Nat.reduceBEq, Nat.reduceBNe, reduceCtorEq, Int.reduceLE, Int.reduceLT, Int.reduceToNat, Int.reduceNeg, Nat.reduceLT, Int.reduceEq, Int.reduceSub, Int.reduceAdd, Int.reduceMul, Nat.reducePow, Int.reduceBEq, Int.reduceBNe, Int.reduceMod, A24_L0b, List.length_map, h0, h1, i0, i1, g1, g2, g3, m4, m5, o2, o1, hw, h']
      · have h' := of_decide_eq_false h
        show (K E A24_L0 _).bind _ = (K E A24_L0 _).bind _
        conv => lhs; rw [A24_L0_eq]
        simp +contextual -implicitDefEqProofs (maxSteps := 2000000) only [go_sem, ↓reduceIte, Nat.reduceAdd, Nat.reduceMul, Nat.reduceSub, Nat.reduceEqDiff, Nat.reduceLeDiff, Nat.reduceDiv, Nat.reduceMod, Nat.reduceBEq, Nat.reduceBNe, reduceCtorEq, Int.reduceLE, Int.reduceLT, Int.reduceToNat, Int.reduceNeg, Nat.reduceLT, Int.reduceEq, Int.reduceSub, Int.reduceAdd, Int.reduceMul, Nat.reducePow, Int.reduceBEq, Int.reduceBNe, Int.reduceMod, A24_L0b, List.length_map, h0, h1, i0, i1, g1, g2, g3, m4, m5, o2, o1, hw, h'])
    ()
  simp only [Int.natCast_zero, Int.ofNat_zero] at lp
  exact lp
theorem c24 (l : List Pt) (hl : l.length ≤ 1000000000) : pc E 24 [.vs (l.map c2)] = some (.bool (cvxB l)) := by
  have lp := loop_leave (σ := Unit) (fun S => (K E A24_L1 S).bind (blockR 0 (some []) [2, 3, 4, 24, 31]))
    (fun k _ => ⟨[(0, .vs (l.map c2)), (3, .int .i64 k)], [], [], 0⟩)
    (List.range l.length) (fun _ _ => ()) (fun i => (List.range l.length).any (rgtE l i))
    (fun o => o = some (.ex .ret ⟨[(2, .bool false)], [], [], 0⟩))
    (fun _ => some (.ex .nrm ⟨[], [], [], 0⟩))
    (fun x => by
      rw [List.length_range]
      show (K E A24_L1 _).bind _ = _
      rw [A24_L1_eq]; simp +contextual -implicitDefEqProofs (maxSteps := 2000000) only [go_sem, ↓reduceIte, Nat.reduceAdd, Nat.reduceMul, Nat.reduceSub, Nat.reduceEqDiff, Nat.reduceLeDiff, Nat.reduceDiv, Nat.reduceMod, Nat.reduceBEq, Nat.reduceBNe, reduceCtorEq, Int.reduceLE, Int.reduceLT, Int.reduceToNat, Int.reduceNeg, Nat.reduceLT, Int.reduceEq, Int.reduceSub, Int.reduceAdd, Int.reduceMul, Nat.reducePow, Int.reduceBEq, Int.reduceBNe, Int.reduceMod, A24_L1b, Int.lt_irrefl, List.length_map])
    (fun i i' x hi he => by
      rw [List.length_range] at hi
      rw [range_get hi] at he
      cases he
      have h1 : (i : Int) < l.length := by omega
      have hw := wr_k (k := i) (by omega)
      have q := in24 l hl i hi
      refine ⟨fun h => ?_, fun h => ?_⟩
      · have q := q.1 h
        show (K E A24_L1 _).bind _ = _
        rw [A24_L1_eq]
        simp +contextual -implicitDefEqProofs (maxSteps := 2000000) only [go_sem, ↓reduceIte, Nat.reduceAdd, Nat.reduceMul, Nat.reduceSub, Nat.reduceEqDiff, Nat.reduceLeDiff, Nat.reduceDiv, Nat.reduceMod, Nat.reduceBEq, Nat.reduceBNe, reduceCtorEq, Int.reduceLE, Int.reduceLT, Int.reduceToNat, Int.reduceNeg, Nat.reduceLT, Int.reduceEq, Int.reduceSub, Int.reduceAdd, Int.reduceMul, Nat.reducePow, Int.reduceBEq, Int.reduceBNe, Int.reduceMod, A24_L1b, List.length_map, h1, hw, q]
      · have q := q.2 h
        show (K E A24_L1 _).bind _ = (K E A24_L1 _).bind _
        conv => lhs; rw [A24_L1_eq]
        simp +contextual -implicitDefEqProofs (maxSteps := 2000000) only [go_sem, ↓reduceIte, Nat.reduceAdd, Nat.reduceMul, Nat.reduceSub, Nat.reduceEqDiff, Nat.reduceLeDiff, Nat.reduceDiv, Nat.reduceMod, Nat.reduceBEq, Nat.reduceBNe, reduceCtorEq, Int.reduceLE, Int.reduceLT, Int.reduceToNat, Int.reduceNeg, Nat.reduceLT, Int.reduceEq, Int.reduceSub, Int.reduceAdd, Int.reduceMul, Nat.reducePow, Int.reduceBEq, Int.reduceBNe, Int.reduceMod, A24_L1b, List.length_map, h1, hw, q])
    ()
  simp only [Int.natCast_zero, Int.ofNat_zero] at lp
  unfold cvxB
  cases ha : (List.range l.length).any fun i => (List.range l.length).any (rgtE l i)
  · have lq := lp.2 ha
    rw [pc_eq]; simp +contextual -implicitDefEqProofs (maxSteps := 2000000) only [go_sem, ↓reduceIte, Nat.reduceAdd, Nat.reduceMul, Nat.reduceSub, Nat.reduceEqDiff, Nat.reduceLeDiff, Nat.reduceDiv, Nat.reduceMod, Nat.reduceBEq, Nat.reduceBNe, reduceCtorEq, Int.reduceLE, Int.reduceLT, Int.reduceToNat, Int.reduceNeg, Nat.reduceLT, Int.reduceEq, Int.reduceSub, Int.reduceAdd, Int.reduceMul, Nat.reducePow, Int.reduceBEq, Int.reduceBNe, Int.reduceMod, E_24, A24, List.length_map, lq]
  · have lq := lp.1 ha
    rw [pc_eq]; simp +contextual -implicitDefEqProofs (maxSteps := 2000000) only [go_sem, ↓reduceIte, Nat.reduceAdd, Nat.reduceMul, Nat.reduceSub, Nat.reduceEqDiff, Nat.reduceLeDiff, Nat.reduceDiv, Nat.reduceMod, Nat.reduceBEq, Nat.reduceBNe, reduceCtorEq, Int.reduceLE, Int.reduceLT, Int.reduceToNat, Int.reduceNeg, Nat.reduceLT, Int.reduceEq, Int.reduceSub, Int.reduceAdd, Int.reduceMul, Nat.reducePow, Int.reduceBEq, Int.reduceBNe, Int.reduceMod, E_24, A24, List.length_map, lq]
end Go.Proofs.Yteellikeoiedbaa

namespace Go.Proofs.Yteellikeoiedbaa
set_option maxRecDepth 100000
set_option maxHeartbeats 4000000
set_option linter.unusedSimpArgs false
set_option linter.unusedVariables false
open Go Go.Zv
open Go.Geo
theorem c44 (x y n : Int) (hx : 0 ≤ x ∧ x ≤ 100) (hy : 0 ≤ y ∧ y ≤ 100) (hn : 0 ≤ n ∧ n ≤ 100) : pc E 44 [.int .i64 x, .int .i64 y, .int .i64 n] = some (.os 2 ((sqL x y n).map c2)) := by
  have w1 : IntKind.i64.wrap (x + n) = x + n := wrap_small (by omega) (by omega)
  have w2 : IntKind.i64.wrap (y + n) = y + n := wrap_small (by omega) (by omega)
  rw [pc_eq]; simp +contextual -implicitDefEqProofs (maxSteps := 2000000) only [go_sem, ↓reduceIte, Nat.reduceAdd, Nat.reduceMul, Nat.reduceSub, Nat.reduceEqDiff, Nat.reduceLeDiff, Nat.reduceDiv, Nat.reduceMod, Nat.reduceBEq, Nat.reduceBNe, reduceCtorEq, Int.reduceLE, Int.reduceLT, Int.reduceToNat, Int.reduceNeg, Nat.reduceLT, Int.reduceEq, Int.reduceSub, Int.reduceAdd, Int.reduceMul, Nat.reducePow, Int.reduceBEq, Int.reduceBNe, Int.reduceMod, E_44, A44, w1, w2, sqL, List.map_cons, List.map_nil, c2]
theorem c15 : pc E 15 [] = some (.bool true) := by
  have s1 := c44 0 0 4 (by omega) (by omega) (by omega)
  have s2 := c44 6 1 2 (by omega) (by omega) (by omega)
  have s3 := c44 4 4 2 (by omega) (by omega) (by omega)
  have s4 := c44 1 1 2 (by omega) (by omega) (by omega)
  have s5 := c44 5 0 2 (by omega) (by omega) (by omega)
  have a1 := h25a
  have a2 := h25b
  have b1 := c17 (sqL 0 0 4) (sqL 4 4 2) (by simp [sqL]) (by simp [sqL])
  have b2 := c17 (sqL 0 0 4) (sqL 1 1 2) (by simp [sqL]) (by simp [sqL])
  have b3 := c17 (sqL 1 1 2) (sqL 0 0 4) (by simp [sqL]) (by simp [sqL])
  have b4 := c17 (sqL 0 0 4) (sqL 5 0 2) (by simp [sqL]) (by simp [sqL])
  have b5 := c19 (sqL 0 0 4) (sqL 0 0 4) (by simp [sqL]) (by simp [sqL])
  rw [h17a] at b1; rw [h17b] at b2; rw [h17c] at b3; rw [h17d] at b4; rw [h17e] at b5
  simp only [conV, Option.isSome_some] at b1 b2 b3 b4 b5
  have d1 := c20 (sqL 0 0 4) (sqL 6 1 2) (by simp [sqL]) (by simp [sqL]) 1 3
  have d2 := c20 (sqL 0 0 4) (sqL 6 1 2) (by simp [sqL]) (by simp [sqL]) 0 0
  have e1 : isepB (sqL 0 0 4) (sqL 6 1 2) 1 3 = true := by kernel_rfl
  have e2 : isepB (sqL 0 0 4) (sqL 6 1 2) 0 0 = false := by kernel_rfl
  rw [e1] at d1; rw [e2] at d2
  have f1 := c22 (sqL 0 0 4) (sqL 4 4 2) (by simp [sqL]) (by simp [sqL]) 2 2 0
  have e3 : icnB (sqL 0 0 4) (sqL 4 4 2) 2 2 0 = true := by kernel_rfl
  rw [e3] at f1
  have n1 : ((sqL 0 0 4).map c2).length = 4 := rfl
  have t1 : List.take 4 ((sqL 0 0 4).map c2) = (sqL 0 0 4).map c2 := rfl
  have n2 : ((sqL 6 1 2).map c2).length = 4 := rfl
  have t2 : List.take 4 ((sqL 6 1 2).map c2) = (sqL 6 1 2).map c2 := rfl
  have n3 : ((sqL 4 4 2).map c2).length = 4 := rfl
  have t3 : List.take 4 ((sqL 4 4 2).map c2) = (sqL 4 4 2).map c2 := rfl
  have n4 : ((sqL 1 1 2).map c2).length = 4 := rfl
  have t4 : List.take 4 ((sqL 1 1 2).map c2) = (sqL 1 1 2).map c2 := rfl
  have n5 : ((sqL 5 0 2).map c2).length = 4 := rfl
  have t5 : List.take 4 ((sqL 5 0 2).map c2) = (sqL 5 0 2).map c2 := rfl
  generalize (sqL 0 0 4).map c2 = q1 at *
  generalize (sqL 6 1 2).map c2 = q2 at *
  generalize (sqL 4 4 2).map c2 = q3 at *
  generalize (sqL 1 1 2).map c2 = q4 at *
  generalize (sqL 5 0 2).map c2 = q5 at *
  rw [pc_eq]; simp +contextual -implicitDefEqProofs (maxSteps := 2000000) only [go_sem, ↓reduceIte, Nat.reduceAdd, Nat.reduceMul, Nat.reduceSub, Nat.reduceEqDiff, Nat.reduceLeDiff, Nat.reduceDiv, Nat.reduceMod, Nat.reduceBEq, Nat.reduceBNe, reduceCtorEq, Int.reduceLE, Int.reduceLT, Int.reduceToNat, Int.reduceNeg, Nat.reduceLT, Int.reduceEq, Int.reduceSub, Int.reduceAdd, Int.reduceMul, Nat.reducePow, Int.reduceBEq, Int.reduceBNe, Int.reduceMod, E_15, A15, s1, s2, s3, s4, s5, a1, a2, b1, b2, b3, b4, b5, d1, d2, f1, beq_self_eq_true, n1, n2, n3, n4, n5, t1, t2, t3, t4, t5]
end Go.Proofs.Yteellikeoiedbaa

namespace Go.Geo
set_option maxRecDepth 100000
set_option maxHeartbeats 4000000
set_option linter.unusedSimpArgs false
set_option linter.unusedVariables false
open Go Go.Zv
/-! a polygon cut in two -/
section
variable {a : List Pt} {k : Nat}
def cut1 (a : List Pt) (k : Nat) : List Pt := a.take (k + 1)
def cut2 (a : List Pt) (k : Nat) : List Pt := ptn a 0 :: a.drop k
theorem cut1_len (hk : k + 1 ≤ a.length) : (cut1 a k).length = k + 1 := by unfold cut1; rw [List.length_take]; omega
theorem cut2_len (hk : k ≤ a.length) : (cut2 a k).length = a.length - k + 1 := by unfold cut2; rw [List.length_cons, List.length_drop]
theorem ptn_eq_of {l m : List Pt} {i j : Nat} (hi : i < l.length) (hj : j < m.length) (h : l[i]? = m[j]?) : ptn l i = ptn m j := by
  rw [ptn_get hi, ptn_get hj] at h; simpa using h
theorem cut1_ptn (hk : k + 1 ≤ a.length) {j : Nat} (hj : j ≤ k) : ptn (cut1 a k) j = ptn a j :=
  ptn_eq_of (by rw [cut1_len hk]; omega) (by omega) (by unfold cut1; rw [List.getElem?_take, if_pos (by omega)])
theorem cut1_ptn' (hk : k + 1 ≤ a.length) : ptn (cut1 a k) (k + 1) = ptn a 0 := by
  have := ptn_per (cut1 a k) 0
  rw [cut1_len hk, Nat.zero_add] at this
  rw [this, cut1_ptn hk (by omega)]
theorem cut2_ptn0 (hk : k < a.length) : ptn (cut2 a k) 0 = ptn a 0 := by
  have h1 := ptn_get (l := cut2 a k) (k := 0) (by rw [cut2_len (by omega)]; omega)
  unfold cut2 at h1 ⊢
  simpa using h1.symm
theorem cut2_ptn (hk : k < a.length) {j : Nat} (hj : k + j < a.length) : ptn (cut2 a k) (j + 1) = ptn a (k + j) :=
  ptn_eq_of (by rw [cut2_len (by omega)]; omega) hj (by unfold cut2; rw [List.getElem?_cons_succ, List.getElem?_drop])
theorem cut2_ptn' (hk : k < a.length) : ptn (cut2 a k) (a.length - k + 1) = ptn a 0 := by
  have := ptn_per (cut2 a k) 0
  rw [cut2_len (by omega), Nat.zero_add] at this
  rw [this, cut2_ptn0 hk]
theorem ptn_n (a : List Pt) : ptn a a.length = ptn a 0 := by have := ptn_per a 0; rwa [Nat.zero_add] at this
theorem eds_cut1 (hk : k + 1 ≤ a.length) : eds (cut1 a k) = (List.range k).map (edn a) ++ [(ptn a k, ptn a 0)] := by
  rw [eds_range, cut1_len hk, List.range_succ, List.map_append]
  congr 1
  · refine List.map_congr_left fun j hj => ?_
    have := List.mem_range.1 hj
    unfold edn; rw [cut1_ptn hk (by omega), cut1_ptn hk (by omega)]
  · simp only [List.map_cons, List.map_nil, edn]; rw [cut1_ptn hk (by omega), cut1_ptn' hk]
theorem eds_cut2 (hk : k < a.length) : eds (cut2 a k) = (ptn a 0, ptn a k) :: (List.range (a.length - k)).map (fun j => edn a (k + j)) := by
  rw [eds_range, cut2_len (by omega), List.range_succ_eq_map, List.map_cons, List.map_map]
  congr 1
  · unfold edn; rw [cut2_ptn0 hk]
    have := cut2_ptn hk (j := 0) (by omega)
    rw [this]; rfl
  · refine List.map_congr_left fun j hj => ?_
    have hj := List.mem_range.1 hj
    simp only [Function.comp_apply, edn]
    rw [show j.succ = j + 1 from rfl, cut2_ptn hk (by omega)]
    by_cases e : k + (j + 1) < a.length
    · rw [cut2_ptn hk (j := j + 1) e]; rfl
    · rw [show j + 1 + 1 = a.length - k + 1 by omega, cut2_ptn' hk, show k + j + 1 = a.length by omega, ptn_n]
theorem eds_cut (hk : k ≤ a.length) : eds a = (List.range k).map (edn a) ++ (List.range (a.length - k)).map (fun j => edn a (k + j)) := by
  rw [eds_range]
  conv => lhs; rw [show a.length = k + (a.length - k) by omega]
  rw [List.range_add, List.map_append, List.map_map]; rfl
/-- what counts an edge and its opposite to nothing -/
theorem cut_sum (hk : k + 1 ≤ a.length) (F : Pt × Pt → Int) (hF : ∀ p q, F (q, p) = -F (p, q)) : ((eds (cut1 a k)).map F).sum + ((eds (cut2 a k)).map F).sum = ((eds a).map F).sum := by
  rw [eds_cut1 hk, eds_cut2 (by omega), eds_cut (k := k) (by omega)]
  simp only [List.map_append, List.sum_append, List.map_cons, List.sum_cons, List.map_nil, List.sum_nil]
  rw [hF (ptn a 0) (ptn a k)]
  omega
theorem cut_area (hk : k + 1 ≤ a.length) : w64 (areaW (cut1 a k) + areaW (cut2 a k)) = areaW a := by
  rw [areaW_sum, areaW_sum, areaW_sum, w64_add, w64_add', cut_sum hk dE (fun p q => by unfold dE; simp only; grind)]
theorem cut_wn (hk : k + 1 ≤ a.length) (d x : Q2) : wn d x ((eds (cut1 a k)).map qe) + wn d x ((eds (cut2 a k)).map qe) = wn d x ((eds a).map qe) := by
  unfold wn
  rw [List.map_map, List.map_map, List.map_map]
  exact cut_sum hk _ (fun p q => by simp only [Function.comp_apply, qe]; exact hit_neg ..)
theorem wn_rev {d x : Q2} {l : List Pt} (h : Val l) {i : Nat} {s : Rat} (s0 : 0 < s) (s1 : s < 1) (hx : x = onp (pqf l i) (pqf l (i + 1)) s) (hd : d = sq (pqf l i) (pqf l (i + 1))) : wn d x ((eds l).map qe) = 0 := by
  have hs := simp_of h.n3 h.may h.sim
  have hL := Lc_val h
  rw [eds_chn, ← wn_base hs d x i, split1 hs i, wn_cons]
  have hg := f_ne hs i
  have hdg : d = (-(sq (pqf l (i + 1)) (pqf l i)).1, -(sq (pqf l (i + 1)) (pqf l i)).2) := by
    rw [hd]; refine Prod.ext ?_ ?_ <;> simp only [sq] <;> grind
  have e1 : hit d (sq (edg (pqf l) i).1 x) (sq (edg (pqf l) i).2 x) = 0 := by
    simp only [edg]
    have k1 : xq d (sq (pqf l i) x) = 0 := by rw [hx, hd]; unfold xq sq onp; grind
    have k2 : xq d (sq (pqf l (i + 1)) x) = 0 := by rw [hx, hd]; unfold xq sq onp; grind
    have z0 : ¬ (0 : Rat) < 0 := by grind
    unfold hit; rw [k1, k2]; simp only [z0, if_false]
  rw [e1]
  -- a direction to the right of the edge
  have hr : 0 < xq ((sq (pqf l (i + 1)) (pqf l i)).2, -(sq (pqf l (i + 1)) (pqf l i)).1) (sq (pqf l (i + 1)) (pqf l i)) := by
    have := dq_pos hg
    unfold dq at this; unfold xq; grind
  have hN := N_right hs s0 s1 hx hr
  have hdr : 0 < xq d ((sq (pqf l (i + 1)) (pqf l i)).2, -(sq (pqf l (i + 1)) (pqf l i)).1) := by
    have := dq_pos hg
    rw [hdg]
    unfold dq at this; unfold xq; grind
  have hon : OnE x (edg (pqf l) i) := by rw [hx]; exact on_of_param (by grind) (by grind)
  have k1 : xq (sq (pqf l (i + 1)) (pqf l i)) (sq x (pqf l i)) = 0 := by rw [hx]; unfold xq sq onp; grind
  have dd := dq_pos hg
  have j1 : dq (sq (pqf l (i + 1)) (pqf l i)) (sq x (pqf l i)) = s * dq (sq (pqf l (i + 1)) (pqf l i)) (sq (pqf l (i + 1)) (pqf l i)) := by rw [hx]; unfold dq sq onp; grind
  have j2 : dq (sq (pqf l (i + 1)) (pqf l i)) (sq (pqf l (i + 1)) x) = (1 - s) * dq (sq (pqf l (i + 1)) (pqf l i)) (sq (pqf l (i + 1)) (pqf l i)) := by rw [hx]; unfold dq sq onp; grind
  have x0 : x ≠ pqf l i := fun e => by
    rw [e, sq_self] at j1
    have := Rat.mul_pos s0 dd
    rw [← e] at j1
    have z : dq (sq (pqf l (i + 1)) x) (0, 0) = 0 := by unfold dq; grind
    rw [← e] at this
    grind
  have x1 : x ≠ pqf l (i + 1) := fun e => by
    rw [e, sq_self] at j2
    have := Rat.mul_pos (show 0 < 1 - s by grind) dd
    have z : dq (sq (pqf l (i + 1)) (pqf l i)) (0, 0) = 0 := by unfold dq; grind
    grind
  have hoff : ∀ g ∈ chn (pqf l) (i + 1) (l.length - 1), ¬ OnE x g := fun g hg => by
    obtain ⟨m, hm, rfl⟩ := mem_chn.1 hg
    exact inner_off hs hon x0 x1 m hm
  have hw := wn_wedge (N_path hs i) hdr hoff
  have z1 : xq d (sq (pqf l i) x) = 0 := by rw [hx, hd]; unfold xq sq onp; grind
  have z2 : xq d (sq (pqf l (i + 1)) x) = 0 := by rw [hx, hd]; unfold xq sq onp; grind
  have z0 : ¬ (0 : Rat) < 0 := by grind
  unfold Wd at hw
  rw [z1, z2] at hw
  simp only [z0, if_false] at hw
  rw [hN, hL] at hw
  omega
/-- on a half-open edge, in its direction -/
theorem wn_edge {x : Q2} {l : List Pt} (h : Val l) {i : Nat} {s : Rat} (s0 : 0 ≤ s) (s1 : s < 1) (hx : x = onp (pqf l i) (pqf l (i + 1)) s) : wn (sq (pqf l (i + 1)) (pqf l i)) x ((eds l).map qe) = 1 := by
  have hs := simp_of h.n3 h.may h.sim
  rw [eds_chn, ← wn_base hs _ x i, Lc_eq hs s0 s1 hx, Lc_const hs, Lc_val h]
end
end Go.Geo

namespace Go.Geo
set_option maxRecDepth 100000
set_option maxHeartbeats 4000000
set_option linter.unusedSimpArgs false
set_option linter.unusedVariables false
open Go Go.Zv
theorem loc3 {l : List Pt} (V : Val l) {x : Pt} (hx : B2 x) : ((∃ e ∈ eds l, OnE (qp x) (qe e)) ∧ locI l x = 0) ∨ ((∀ e ∈ eds l, ¬ OnE (qp x) (qe e)) ∧ (∀ d : Q2, d ≠ (0, 0) → wn d (qp x) ((eds l).map qe) = 1) ∧ locI l x = 1) ∨ ((∀ e ∈ eds l, ¬ OnE (qp x) (qe e)) ∧ (∀ d : Q2, d ≠ (0, 0) → wn d (qp x) ((eds l).map qe) = 0) ∧ locI l x = -1) := by
  have hl := locI_wn V.may hx
  cases ho : (eds l).any (onE x) with
  | true =>
    left
    rw [ho] at hl
    rw [List.any_eq_true] at ho
    obtain ⟨e, he, h⟩ := ho
    exact ⟨⟨e, he, (onE_meets hx (eds_B V.may he).1 (eds_B V.may he).2).1 h⟩, by simpa using hl⟩
  | false =>
    right
    have hoff := (off_iff V.may hx).1 ho
    rw [ho] at hl
    simp only [Bool.false_eq_true, if_false] at hl
    have hall : ∀ d : Q2, d ≠ (0, 0) → wn d (qp x) ((eds l).map qe) = wn (1, 0) (qp x) ((eds l).map qe) := fun d hd => wn_dir (eds_path l) hd d10 fun g hg => by
      obtain ⟨e, he, rfl⟩ := List.mem_map.1 hg
      exact hoff e he
    rcases wind_val V hoff d10 with h | h
    · right; refine ⟨hoff, fun d hd => by rw [hall d hd, h], ?_⟩
      rw [hl, h]; decide
    · left; refine ⟨hoff, fun d hd => by rw [hall d hd, h], ?_⟩
      rw [hl, h]; decide
theorem half_edge {l : List Pt} {x : Q2} (h : ∃ e ∈ eds l, OnE x (qe e)) : ∃ i s, i < l.length ∧ 0 ≤ s ∧ s < 1 ∧ x = onp (pqf l i) (pqf l (i + 1)) s := by
  obtain ⟨e, he, ho⟩ := h
  rw [eds_range, List.mem_map] at he
  obtain ⟨i, hi, rfl⟩ := he
  have hi := List.mem_range.1 hi
  obtain ⟨s, s0, s1, hs⟩ := on_param ho
  by_cases e : s = 1
  · refine ⟨(i + 1) % l.length, 0, Nat.mod_lt _ (by omega), by grind, by grind, ?_⟩
    rw [onp0, hs, e, onp1]
    unfold pqf
    rw [mod_of_per (ptn l) l.length (ptn_per l) (i + 1)]; rfl
  · exact ⟨i, s, hi, s0, by grind, hs⟩
theorem on_swap {x p q : Q2} (h : OnE x (p, q)) : OnE x (q, p) := by
  unfold OnE OnV at *
  simp only at *
  obtain ⟨h1, h2⟩ := h
  have e1 : xq (sq q x) (sq p x) = -xq (sq p x) (sq q x) := xq_swap _ _
  have e2 : dq (sq q x) (sq p x) = dq (sq p x) (sq q x) := by unfold dq; grind
  rw [e1, e2]; exact ⟨by grind, h2⟩
theorem edn_mem {l : List Pt} {i : Nat} (h : i < l.length) : edn l i ∈ eds l := List.mem_of_getElem? (edn_get h)
theorem on_at {l : List Pt} {i : Nat} {s : Rat} {x : Q2} (h : i < l.length) (s0 : 0 ≤ s) (s1 : s < 1) (hx : x = onp (pqf l i) (pqf l (i + 1)) s) : ∃ e ∈ eds l, OnE x (qe e) :=
  ⟨edn l i, edn_mem h, by rw [hx]; exact on_of_param s0 (by grind)⟩
theorem cut_loc {a : List Pt} {k : Nat} (V : Val a) (hk : 2 ≤ k) (hk2 : k + 2 ≤ a.length) (V1 : Val (cut1 a k)) (V2 : Val (cut2 a k)) {x : Pt} (hx : B2 x) :
    (locI (cut1 a k) x = 1 → locI (cut2 a k) x = -1) ∧ (locI (cut2 a k) x = 1 → locI (cut1 a k) x = -1) ∧ (0 ≤ locI a x ↔ 0 ≤ locI (cut1 a k) x ∨ 0 ≤ locI (cut2 a k) x) := by
  have L := loc3 V hx
  have L1 := loc3 V1 hx
  have L2 := loc3 V2 hx
  have hsum := fun d => cut_wn (a := a) (k := k) (by omega) d (qp x)
  have p1 : ∀ j, j ≤ k → pqf (cut1 a k) j = pqf a j := fun j hj => by unfold pqf; rw [cut1_ptn (by omega) hj]
  have p1' : pqf (cut1 a k) (k + 1) = pqf a 0 := by unfold pqf; rw [cut1_ptn' (by omega)]
  have p20 : pqf (cut2 a k) 0 = pqf a 0 := by unfold pqf; rw [cut2_ptn0 (by omega)]
  have p2 : ∀ j, k + j < a.length → pqf (cut2 a k) (j + 1) = pqf a (k + j) := fun j hj => by unfold pqf; rw [cut2_ptn (by omega) hj]
  have p2' : pqf (cut2 a k) (a.length - k + 1) = pqf a a.length := by unfold pqf; rw [cut2_ptn' (by omega), ptn_n]
  have ne := fun i => f_ne (simp_of V.n3 V.may V.sim) i
  by_cases hon : ∃ e ∈ eds a, OnE (qp x) (qe e)
  · obtain ⟨i, s, hi, s0, s1, hxe⟩ := half_edge hon
    have hA := wn_edge V s0 s1 hxe
    have hl0 : locI a x = 0 := by
      rcases L with ⟨_, h⟩ | ⟨h, _⟩ | ⟨h, _⟩
      · exact h
      · obtain ⟨e, he, ho⟩ := hon; exact absurd ho (h e he)
      · obtain ⟨e, he, ho⟩ := hon; exact absurd ho (h e he)
    by_cases hik : i < k
    · have hx1 : qp x = onp (pqf (cut1 a k) i) (pqf (cut1 a k) (i + 1)) s := by rw [p1 i (by omega), p1 (i + 1) (by omega)]; exact hxe
      have on1 := on_at (l := cut1 a k) (i := i) (by rw [cut1_len (by omega)]; omega) s0 s1 hx1
      have hB := wn_edge V1 s0 s1 hx1
      rw [p1 i (by omega), p1 (i + 1) (by omega)] at hB
      have l1 : locI (cut1 a k) x = 0 := by
        obtain ⟨e, he, ho⟩ := on1
        rcases L1 with ⟨_, h⟩ | ⟨h, _⟩ | ⟨h, _⟩
        · exact h
        · exact absurd ho (h e he)
        · exact absurd ho (h e he)
      have l2 : locI (cut2 a k) x ≠ 1 := by
        rcases L2 with ⟨_, h⟩ | ⟨_, h, _⟩ | ⟨_, _, h⟩
        · omega
        · have := h _ (ne i)
          have := hsum (sq (pqf a (i + 1)) (pqf a i))
          omega
        · omega
      rw [hl0, l1]
      exact ⟨by omega, fun h => absurd h l2, by omega⟩
    · have q1 : pqf (cut2 a k) (i - k + 1) = pqf a i := by rw [p2 (i - k) (by omega)]; congr 1; omega
      have q2 : pqf (cut2 a k) (i - k + 1 + 1) = pqf a (i + 1) := by
        by_cases e : i + 1 < a.length
        · rw [p2 (i - k + 1) (by omega)]; congr 1; omega
        · rw [show i - k + 1 + 1 = a.length - k + 1 by omega, p2']; congr 1; omega
      have hx1 : qp x = onp (pqf (cut2 a k) (i - k + 1)) (pqf (cut2 a k) (i - k + 1 + 1)) s := by rw [q1, q2]; exact hxe
      have on1 := on_at (l := cut2 a k) (i := i - k + 1) (by rw [cut2_len (by omega)]; omega) s0 s1 hx1
      have hB := wn_edge V2 s0 s1 hx1
      rw [q1, q2] at hB
      have l2 : locI (cut2 a k) x = 0 := by
        obtain ⟨e, he, ho⟩ := on1
        rcases L2 with ⟨_, h⟩ | ⟨h, _⟩ | ⟨h, _⟩
        · exact h
        · exact absurd ho (h e he)
        · exact absurd ho (h e he)
      have l1 : locI (cut1 a k) x ≠ 1 := by
        rcases L1 with ⟨_, h⟩ | ⟨_, h, _⟩ | ⟨_, _, h⟩
        · omega
        · have := h _ (ne i)
          have := hsum (sq (pqf a (i + 1)) (pqf a i))
          omega
        · omega
      rw [hl0, l2]
      exact ⟨fun h => absurd h l1, by omega, by omega⟩
  · have hoff : ∀ e ∈ eds a, ¬ OnE (qp x) (qe e) := fun e he ho => hon ⟨e, he, ho⟩
    have c0 : qp x ≠ pqf a 0 := fun e => hoff _ (edn_mem (i := 0) (by omega)) (by rw [e]; exact on_left _ _)
    have ck : qp x ≠ pqf a k := fun e => hoff _ (edn_mem (i := k) (by omega)) (by rw [e]; exact on_left _ _)
    by_cases hc : OnE (qp x) (pqf a k, pqf a 0)
    · obtain ⟨s, s0, s1, hs⟩ := on_param hc
      have t0 : 0 < s := by
        refine Classical.byContradiction fun h => ck ?_
        have : s = 0 := by grind
        rw [hs, this, onp0]
      have t1 : s < 1 := by
        refine Classical.byContradiction fun h => c0 ?_
        have : s = 1 := by grind
        rw [hs, this, onp1]
      have hx1 : qp x = onp (pqf (cut1 a k) k) (pqf (cut1 a k) (k + 1)) s := by rw [p1 k (by omega), p1']; exact hs
      have q1 : pqf (cut2 a k) 1 = pqf a k := by have := p2 0 (by omega); simpa using this
      have hx2 : qp x = onp (pqf (cut2 a k) 0) (pqf (cut2 a k) (0 + 1)) (1 - s) := by
        rw [p20, Nat.zero_add, q1, hs]; refine Prod.ext ?_ ?_ <;> simp only [onp] <;> grind
      have on1 := on_at (l := cut1 a k) (i := k) (by rw [cut1_len (by omega)]; omega) s0 t1 hx1
      have on2 := on_at (l := cut2 a k) (i := 0) (by rw [cut2_len (by omega)]; omega) (by grind) (by grind) hx2
      have hA := wn_edge V1 s0 t1 hx1
      have hB := wn_rev V2 (i := 0) (s := 1 - s) (by grind) (by grind) hx2 rfl
      rw [p1 k (by omega), p1'] at hA
      rw [p20, Nat.zero_add, q1] at hB
      have hs2 := hsum (sq (pqf a 0) (pqf a k))
      rw [hA, hB] at hs2
      have l1 : locI (cut1 a k) x = 0 := by
        obtain ⟨e, he, ho⟩ := on1
        rcases L1 with ⟨_, h⟩ | ⟨h, _⟩ | ⟨h, _⟩
        · exact h
        · exact absurd ho (h e he)
        · exact absurd ho (h e he)
      have l2 : locI (cut2 a k) x = 0 := by
        obtain ⟨e, he, ho⟩ := on2
        rcases L2 with ⟨_, h⟩ | ⟨h, _⟩ | ⟨h, _⟩
        · exact h
        · exact absurd ho (h e he)
        · exact absurd ho (h e he)
      have hne : sq (pqf a 0) (pqf a k) ≠ (0, 0) := by
        refine sq_ne fun e => ck ?_
        rw [hs, e]; refine Prod.ext ?_ ?_ <;> simp only [onp] <;> grind
      have lA : locI a x = 1 := by
        rcases L with ⟨h, _⟩ | ⟨_, _, h⟩ | ⟨_, h, _⟩
        · exact absurd h hon
        · exact h
        · have := h _ hne; omega
      rw [lA, l1, l2]
      exact ⟨by omega, by omega, by omega⟩
    · have off1 : ∀ e ∈ eds (cut1 a k), ¬ OnE (qp x) (qe e) := fun e he ho => by
        rw [eds_cut1 (by omega), List.mem_append] at he
        rcases he with he | he
        · obtain ⟨j, hj, rfl⟩ := List.mem_map.1 he
          have := List.mem_range.1 hj
          exact hoff _ (edn_mem (by omega)) ho
        · simp only [List.mem_singleton] at he
          subst he
          exact hc ho
      have off2 : ∀ e ∈ eds (cut2 a k), ¬ OnE (qp x) (qe e) := fun e he ho => by
        rw [eds_cut2 (by omega), List.mem_cons] at he
        rcases he with rfl | he
        · exact hc (on_swap ho)
        · obtain ⟨j, hj, rfl⟩ := List.mem_map.1 he
          have := List.mem_range.1 hj
          exact hoff _ (edn_mem (by omega)) ho
      have hs := hsum (1, 0)
      rcases L with ⟨h, _⟩ | ⟨_, w, l⟩ | ⟨_, w, l⟩
      · exact absurd h hon
      all_goals
        rcases L1 with ⟨⟨e, he, ho⟩, _⟩ | ⟨_, w1, l1⟩ | ⟨_, w1, l1⟩
        · exact absurd ho (off1 e he)
        all_goals
          rcases L2 with ⟨⟨e, he, ho⟩, _⟩ | ⟨_, w2, l2⟩ | ⟨_, w2, l2⟩
          · exact absurd ho (off2 e he)
          all_goals
            have u := w _ d10
            have u1 := w1 _ d10
            have u2 := w2 _ d10
            rw [l, l1, l2]
            omega
end Go.Geo

namespace Go.Geo
set_option maxRecDepth 100000
set_option maxHeartbeats 4000000
set_option linter.unusedSimpArgs false
set_option linter.unusedVariables false
open Go Go.Zv
theorem find_some {n : Nat} {P : Nat → Bool} : ((List.range n).find? P).isSome = (List.range n).any P := by
  rw [Bool.eq_iff_iff, List.find?_isSome, List.any_eq_true]
theorem FC_isSome (a b : List Pt) : (FC a b).isSome = ((List.range a.length).any (fun i => (List.range b.length).any fun j => cutE (edn a i) (edn b j)) || ((List.range a.length).any (fun i => insB a i b) || (List.range b.length).any (fun j => insB b j a))) := by
  have e1 : (fcE a b).isSome = (List.range a.length).any (fun i => (List.range b.length).any fun j => cutE (edn a i) (edn b j)) := by
    unfold fcE; rw [find_some]
    exact any_congr2 fun i _ => by unfold fcJ; rw [find_some]
  have e2 : (fcA a b).isSome = (List.range a.length).any (fun i => insB a i b) := by unfold fcA; rw [find_some]
  have e3 : (fcA b a).isSome = (List.range b.length).any (fun i => insB b i a) := by unfold fcA; rw [find_some]
  rw [← e1, ← e2, ← e3]
  unfold FC
  cases h1 : fcE a b with
  | some i =>
    have : (fcJ a b i).isSome = true := by
      unfold fcE at h1
      rw [List.find?_range_eq_some] at h1
      exact h1.1
    simp [this]
  | none =>
    cases h2 : fcA a b with
    | some i => simp
    | none => simp
theorem cutE_comm' {a b : List Pt} (ha : a.all mayB = true) (hb : b.all mayB = true) (a0 : 0 < a.length) (b0 : 0 < b.length) (i j : Nat) : cutE (edn b j) (edn a i) = cutE (edn a i) (edn b j) := by
  have h1 := ptn_B ha a0 i
  have h2 := ptn_B ha a0 (i + 1)
  have h3 := ptn_B hb b0 j
  have h4 := ptn_B hb b0 (j + 1)
  unfold edn cutE; exact cut_s2 (B8_of h1 h2 h3 h4)
theorem cutE_sw {a b c d : Pt} (ha : B2 a) (hb : B2 b) (hc : B2 c) (hd : B2 d) : cutE (c, d) (a, b) = cutE (a, b) (c, d) := by
  unfold cutE; exact cut_s2 (B8_of ha hb hc hd)
theorem any_swap {n m : Nat} (f : Nat → Nat → Bool) : ((List.range n).any fun i => (List.range m).any (f i)) = (List.range m).any fun j => (List.range n).any fun i => f i j := by
  rw [Bool.eq_iff_iff]
  simp only [List.any_eq_true]
  exact ⟨fun ⟨i, hi, j, hj, h⟩ => ⟨j, hj, i, hi, h⟩, fun ⟨j, hj, i, hi, h⟩ => ⟨i, hi, j, hj, h⟩⟩
theorem FC_comm {a b : List Pt} (A : Val a) (B : Val b) : (FC a b).isSome = (FC b a).isSome := by
  have a3 := A.n3
  have b3 := B.n3
  rw [FC_isSome, FC_isSome, any_swap]
  have : ((List.range b.length).any fun j => (List.range a.length).any fun i => cutE (edn a i) (edn b j)) = (List.range b.length).any fun j => (List.range a.length).any fun i => cutE (edn b j) (edn a i) :=
    any_congr2 fun j _ => any_congr2 fun i _ => (cutE_comm' A.may B.may (by omega) (by omega) i j).symm
  rw [this]
  cases ((List.range b.length).any fun j => (List.range a.length).any fun i => cutE (edn b j) (edn a i)) <;> cases ((List.range a.length).any fun i => insB a i b) <;> cases ((List.range b.length).any fun j => insB b j a) <;> rfl
theorem icn_comm {a b : List Pt} (A : Val a) (B : Val b) (k i j : Int) : icnB a b k i j = icnB b a (if k = 2 then 3 else if k = 3 then 2 else k) j i := by
  have a3 := A.n3
  have b3 := B.n3
  unfold icnB
  by_cases h1 : k = 1
  · subst h1
    rw [if_pos rfl]
    simp only [show ¬ (1 : Int) = 2 from by decide, show ¬ (1 : Int) = 3 from by decide, if_false, if_true]
    rw [cutE_comm' A.may B.may (by omega) (by omega)]
    cases decide (0 ≤ i ∧ i < a.length) <;> cases decide (0 ≤ j ∧ j < b.length) <;> rfl
  · by_cases h2 : k = 2
    · subst h2; simp
    · by_cases h3 : k = 3
      · subst h3; simp
      · simp [h1, h2, h3]
theorem isep_comm (a b : List Pt) (o d : Int) (h : 0 ≤ o ∧ o ≤ 1) : isepB a b o d = isepB b a (1 - o) d := by
  rcases (show o = 0 ∨ o = 1 by omega) with rfl | rfl
  · simp [isepB]
  · simp [isepB]
/-! separation -/
theorem cr_lin (P Q x : Pt) (y : Pt) : xq (sq (qp Q) (qp P)) (sq (qp y) (qp x)) = ((cr P.1 P.2 Q.1 Q.2 y.1 y.2 - cr P.1 P.2 Q.1 Q.2 x.1 x.2 : Int) : Rat) := by
  rw [Rat.intCast_sub, ← xq_int, ← xq_int]; unfold xq sq; grind
theorem sep_no {a b : List Pt} (A : Val a) (B : Val b) {P Q : Pt} (hP : B2 P) (hQ : B2 Q) (h1 : ∀ p ∈ a, 0 ≤ cr P.1 P.2 Q.1 Q.2 p.1 p.2) (h2 : ∀ q ∈ b, cr P.1 P.2 Q.1 Q.2 q.1 q.2 < 0) :
    (∀ e ∈ eds a, ∀ f ∈ eds b, cutE e f = false) ∧ (∀ p ∈ a, locI b p = -1) ∧ ∀ q ∈ b, locI a q = -1 := by
  have b3 := B.n3
  have hd : sq (qp Q) (qp P) ≠ (0, 0) := by
    intro e
    have hq := h2 _ (ptn_mem (l := b) 0 (by omega))
    have := xq_int P Q (ptn b 0)
    rw [e] at this
    have z : xq (0, 0) (sq (qp (ptn b 0)) (qp P)) = 0 := by unfold xq; grind
    rw [z] at this
    have := Rat.intCast_neg_iff.2 hq
    grind
  refine ⟨fun e he f hf => ?_, fun p hp => ?_, fun q hq => ?_⟩
  · cases hc : cutE e f with
    | false => rfl
    | true =>
      exfalso
      obtain ⟨e1, e2⟩ := eds_B A.may he
      obtain ⟨f1, f2⟩ := eds_B B.may hf
      obtain ⟨z, z1, z2⟩ := (cut_meets e1 e2 f1 f2).1 hc
      obtain ⟨m1, m2⟩ := eds_mem he
      obtain ⟨m3, m4⟩ := eds_mem hf
      obtain ⟨s, s0, s1, hs⟩ := on_param z1
      obtain ⟨t, t0, t1, ht⟩ := on_param z2
      have k1 := Rat.intCast_nonneg.2 (h1 _ m1)
      have k2 := Rat.intCast_nonneg.2 (h1 _ m2)
      have k3 := Rat.intCast_neg_iff.2 (h2 _ m3)
      have k4 := Rat.intCast_neg_iff.2 (h2 _ m4)
      rw [← xq_int] at k1 k2 k3 k4
      have w1 : xq (sq (qp Q) (qp P)) (sq z (qp P)) = (1 - s) * xq (sq (qp Q) (qp P)) (sq (qp e.1) (qp P)) + s * xq (sq (qp Q) (qp P)) (sq (qp e.2) (qp P)) := by rw [hs]; unfold xq sq onp; grind
      have w2 : xq (sq (qp Q) (qp P)) (sq z (qp P)) = (1 - t) * xq (sq (qp Q) (qp P)) (sq (qp f.1) (qp P)) + t * xq (sq (qp Q) (qp P)) (sq (qp f.2) (qp P)) := by rw [ht]; unfold xq sq onp; grind
      have n1 := Rat.mul_nonneg (show 0 ≤ 1 - s by grind) k1
      have n2 := Rat.mul_nonneg s0 k2
      have n3 : xq (sq (qp Q) (qp P)) (sq z (qp P)) < 0 := by
        rw [w2]
        by_cases ht0 : t = 0
        · rw [ht0]; grind
        · have n3 := Rat.mul_nonneg (show 0 ≤ 1 - t by grind) (show 0 ≤ -xq (sq (qp Q) (qp P)) (sq (qp f.1) (qp P)) by grind)
          have n4 := Rat.mul_pos (show 0 < t by grind) (show 0 < -xq (sq (qp Q) (qp P)) (sq (qp f.2) (qp P)) by grind)
          grind
      rw [w1] at n3
      grind
  · refine loc_side B.may (mayB_B2 (List.all_eq_true.1 A.may _ hp)) hd fun q hq => ?_
    rw [cr_lin, Rat.intCast_neg_iff]
    have := h1 p hp; have := h2 q hq; omega
  · refine loc_side' A.may (mayB_B2 (List.all_eq_true.1 B.may _ hq)) hd fun p hp => ?_
    rw [cr_lin, Rat.intCast_pos]
    have := h1 p hp; have := h2 q hq; omega
theorem ori_sgn {P Q x : Pt} (hP : B2 P) (hQ : B2 Q) (hx : B2 x) : oriE P Q x < 0 ↔ cr P.1 P.2 Q.1 Q.2 x.1 x.2 < 0 := by
  unfold oriE
  rw [crW_B hP.1 hP.2 hQ.1 hQ.2 hx.1 hx.2]
  unfold sgn; repeat' split
  all_goals omega
theorem sepAt_no {a b : List Pt} (A : Val a) (B : Val b) (hc : cvxB a = true) {d : Int} (h : sepAt a b d = true) : (∀ e ∈ eds a, ∀ f ∈ eds b, cutE e f = false) ∧ (∀ p ∈ a, locI b p = -1) ∧ ∀ q ∈ b, locI a q = -1 := by
  have a3 := A.n3
  unfold sepAt at h
  rw [Bool.and_eq_true, decide_eq_true_eq] at h
  obtain ⟨hd, hb⟩ := h
  have b1 := ptn_B A.may (by omega) d.toNat
  have b2 := ptn_B A.may (by omega) (d.toNat + 1)
  refine sep_no A B b1 b2 (fun p hp => ?_) fun q hq => ?_
  · unfold cvxB at hc
    rw [Bool.not_eq_true', List.any_eq_false] at hc
    have h1 := hc d.toNat (List.mem_range.2 (by omega))
    rw [Bool.not_eq_true, List.any_eq_false] at h1
    obtain ⟨k, hk, rfl⟩ := List.getElem_of_mem hp
    have h2 := h1 k (List.mem_range.2 hk)
    have e : a[k] = ptn a k := by
      have := ptn_get hk
      rw [List.getElem?_eq_getElem hk] at this
      simpa using this
    unfold rgtE at h2
    rw [decide_eq_true_eq, ori_sgn b1 b2 (ptn_B A.may (by omega) k)] at h2
    rw [e]; omega
  · unfold beyB at hb
    have := List.all_eq_true.1 hb q hq
    rw [decide_eq_true_eq] at this
    exact (ori_sgn b1 b2 (mayB_B2 (List.all_eq_true.1 B.may _ hq))).1 this
theorem ins_false {a b : List Pt} {i : Int} (h : ∀ p ∈ a, locI b p = -1) : insB a i b = false := by
  unfold insB
  by_cases h1 : 0 ≤ i
  · by_cases h2 : i < a.length
    · have := h _ (List.mem_of_getElem? (ptn_get (l := a) (k := i.toNat) (by omega)))
      simp [this]
    · simp [h2]
  · simp [h1]
theorem no_contact {a b : List Pt} (h1 : ∀ e ∈ eds a, ∀ f ∈ eds b, cutE e f = false) (h2 : ∀ p ∈ a, locI b p = -1) (h3 : ∀ q ∈ b, locI a q = -1) : (FC a b).isSome = false ∧ ∀ k i j, icnB a b k i j = false := by
  constructor
  · rw [FC_isSome]
    simp only [Bool.or_eq_false_iff, List.any_eq_false]
    refine ⟨fun i hi h => ?_, fun i _ => by rw [ins_false h2]; simp, fun i _ => by rw [ins_false h3]; simp⟩
    rw [List.any_eq_true] at h
    obtain ⟨j, hj, h⟩ := h
    rw [h1 _ (edn_mem (List.mem_range.1 hi)) _ (edn_mem (List.mem_range.1 hj))] at h
    cases h
  · intro k i j
    unfold icnB
    by_cases k1 : k = 1
    · rw [if_pos k1]
      by_cases hi : 0 ≤ i ∧ i < a.length
      · by_cases hj : 0 ≤ j ∧ j < b.length
        · rw [h1 _ (edn_mem (l := a) (i := i.toNat) (by omega)) _ (edn_mem (l := b) (i := j.toNat) (by omega))]; simp
        · simp [hj]
      · simp [hi]
    · rw [if_neg k1, ins_false h2, ins_false h3]; simp
theorem isep_no {a b : List Pt} (A : Val a) (B : Val b) {o d : Int} (ca : o = 0 → cvxB a = true) (cb : o = 1 → cvxB b = true) (h : isepB a b o d = true) : (FC a b).isSome = false ∧ ∀ k i j, icnB a b k i j = false := by
  unfold isepB at h
  by_cases ho : o = 1
  · rw [if_pos ho] at h
    obtain ⟨h1, h2, h3⟩ := sepAt_no B A (cb ho) h
    refine no_contact (fun e he f hf => ?_) h3 h2
    obtain ⟨e1, e2⟩ := eds_B A.may he
    obtain ⟨f1, f2⟩ := eds_B B.may hf
    have := cutE_sw f1 f2 e1 e2
    rw [show (e.1, e.2) = e from rfl, show (f.1, f.2) = f from rfl] at this
    rw [this]; exact h1 f hf e he
  · rw [if_neg ho, Bool.and_eq_true, decide_eq_true_eq] at h
    obtain ⟨h1, h2, h3⟩ := sepAt_no A B (ca h.1) h.2
    exact no_contact h1 h2 h3
/-! the criterion -/
theorem loc_same {a b : List Pt} (A : Val a) (B : Val b) (h : ∀ i j, i < a.length → j < b.length → cutE (edn a i) (edn b j) = false) : ∀ i, i < a.length → locI b (ptn a i) = locI b (ptn a 0) := by
  have a3 := A.n3
  have b3 := B.n3
  intro i
  induction i with
  | zero => intro _; rfl
  | succ i ih =>
    intro hi
    rw [← ih (by omega)]
    refine ((loc_walk B.may (ptn_B A.may (by omega) i) (ptn_B A.may (by omega) (i + 1)) fun e he => ?_).1).symm
    rw [eds_range, List.mem_map] at he
    obtain ⟨j, hj, rfl⟩ := he
    have hj := List.mem_range.1 hj
    have := cutE_comm' A.may B.may (by omega) (by omega) i j
    show cutE (edn b j) (edn a i) = false
    rw [this]; exact h i j (by omega) hj
theorem loc_vals (l : List Pt) (p : Pt) : locI l p = 0 ∨ locI l p = 1 ∨ locI l p = -1 := by
  unfold locI; split
  · exact .inl rfl
  · split
    · exact .inr (.inl rfl)
    · exact .inr (.inr rfl)
theorem criterion {a b : List Pt} (A : Val a) (B : Val b) : (FC a b).isSome = ((List.range a.length).any (fun i => (List.range b.length).any fun j => cutE (edn a i) (edn b j)) || (decide (0 ≤ locI b (ptn a 0)) || decide (0 ≤ locI a (ptn b 0)))) := by
  have a3 := A.n3
  have b3 := B.n3
  rw [FC_isSome]
  cases hc : (List.range a.length).any (fun i => (List.range b.length).any fun j => cutE (edn a i) (edn b j)) with
  | true => rfl
  | false =>
    have hn : ∀ i j, i < a.length → j < b.length → cutE (edn a i) (edn b j) = false := fun i j hi hj => by
      have h1 := List.any_eq_false.1 hc i (List.mem_range.2 hi)
      rw [Bool.not_eq_true] at h1
      have h2 := List.any_eq_false.1 h1 j (List.mem_range.2 hj)
      simpa using h2
    have key : ∀ {a b : List Pt}, Val a → Val b → (∀ i j, i < a.length → j < b.length → cutE (edn a i) (edn b j) = false) → (List.range a.length).any (fun i => insB a i b) = decide (0 ≤ locI b (ptn a 0)) := by
      intro a b A B hn
      have a3 := A.n3
      have hs := loc_same A B hn
      have lv := loc_vals b (ptn a 0)
      rw [Bool.eq_iff_iff, List.any_eq_true, decide_eq_true_eq]
      constructor
      · rintro ⟨i, hi, h⟩
        have hi := List.mem_range.1 hi
        unfold insB at h
        simp only [Bool.and_eq_true, decide_eq_true_eq] at h
        have := h.2.2
        rw [Int.toNat_natCast, hs i hi] at this
        omega
      · intro h
        refine ⟨0, List.mem_range.2 (by omega), ?_⟩
        unfold insB
        simp only [Bool.and_eq_true, decide_eq_true_eq]
        refine ⟨by omega, by omega, ?_⟩
        show locI b (ptn a 0) ≠ -1
        omega
    rw [key A B hn, key B A fun i j hi hj => by rw [cutE_comm' A.may B.may (by omega) (by omega)]; exact hn j i hj hi]
end Go.Geo

namespace Go.Geo
set_option maxRecDepth 100000
set_option maxHeartbeats 4000000
set_option linter.unusedSimpArgs false
set_option linter.unusedVariables false
open Go Go.Zv
def shM8 (m : Pt) : Mot := ⟨1, 0, m.1, m.2, by grind⟩
def shP8 (m p : Pt) : Pt := (p.1 + m.1, p.2 + m.2)
theorem shP8_mot (m p : Pt) : qp (shP8 m p) = (shM8 m).app (qp p) := by
  refine Prod.ext ?_ ?_ <;> simp only [qp, shP8, shM8, Mot.app, Rat.intCast_add] <;> grind
theorem find_congr {n : Nat} {f g : Nat → Bool} (h : ∀ i, i < n → f i = g i) : (List.range n).find? f = (List.range n).find? g := by
  have : ∀ l : List Nat, (∀ i ∈ l, f i = g i) → l.find? f = l.find? g := by
    intro l
    induction l with
    | nil => intro _; rfl
    | cons a l ih =>
      intro h
      rw [List.find?_cons, List.find?_cons, h a (by simp), ih fun i hi => h i (by simp [hi])]
  exact this _ fun i hi => h i (List.mem_range.1 hi)
theorem FC_moved {a b : List Pt} {M : Mot} {f : Pt → Pt} (ha : Moved M f a) (hb : Moved M f b) (a0 : 0 < a.length) (b0 : 0 < b.length) : FC (a.map f) (b.map f) = FC a b := by
  have ba := ptn_B ha.may a0
  have bb := ptn_B hb.may b0
  have ba' := ptn_B ha.may' (by rw [ha.len]; exact a0)
  have bb' := ptn_B hb.may' (by rw [hb.len]; exact b0)
  have hcut : ∀ i j, cutE (edn (a.map f) i) (edn (b.map f) j) = cutE (edn a i) (edn b j) := fun i j => by
    unfold edn
    rw [Bool.eq_iff_iff, cut_meets (ba' _) (ba' _) (bb' _) (bb' _), cut_meets (ba _) (ba _) (bb _) (bb _), ha.pt a0, ha.pt a0, hb.pt b0, hb.pt b0, M.meets_app]
  have ins : ∀ {a b : List Pt}, Moved M f a → Moved M f b → 0 < a.length → ∀ i : Nat, i < a.length → insB (a.map f) i (b.map f) = insB a i b := by
    intro a b ha hb a0 i hi
    unfold insB
    rw [ha.len, Int.toNat_natCast, ptn_map f a0]
    have hm := ptn_mem (l := a) i a0
    have := hb.loc (p := ptn a i) (ptn_B ha.may a0 i) (by
      have := ptn_B ha.may' (by rw [ha.len]; exact a0) i
      rw [ptn_map f a0] at this
      exact this) (ha.mv _ hm)
    rw [this]
  have e1 : ∀ i, fcJ (a.map f) (b.map f) i = fcJ a b i := fun i => by
    unfold fcJ; rw [hb.len]; exact find_congr fun j _ => hcut i j
  have e2 : fcE (a.map f) (b.map f) = fcE a b := by
    unfold fcE; rw [ha.len]; exact find_congr fun i _ => by rw [e1]
  have e3 : fcA (a.map f) (b.map f) = fcA a b := by
    unfold fcA; rw [ha.len]; exact find_congr fun i hi => ins ha hb a0 i hi
  have e4 : fcA (b.map f) (a.map f) = fcA b a := by
    unfold fcA; rw [hb.len]; exact find_congr fun i hi => ins hb ha b0 i hi
  unfold FC
  rw [e2, e3, e4]
  cases fcE a b with
  | some i => simp only [e1]
  | none => rfl
theorem FC_self {a : List Pt} (A : Val a) : FC a a = some (1, 0, 0) := by
  have a3 := A.n3
  have hc : cutE (edn a 0) (edn a 0) = true := by
    have b0 := ptn_B A.may (by omega) 0
    have b1 := ptn_B A.may (by omega) 1
    unfold edn cutE
    exact cut_end (B8_of b0 b1 b0 b1)
  have e1 : fcJ a a 0 = some 0 := by
    unfold fcJ; rw [List.find?_range_eq_some]
    exact ⟨hc, List.mem_range.2 (by omega), fun j hj => by omega⟩
  have e2 : fcE a a = some 0 := by
    unfold fcE; rw [List.find?_range_eq_some]
    exact ⟨by rw [e1]; rfl, List.mem_range.2 (by omega), fun j hj => by omega⟩
  unfold FC
  rw [e2]; simp only [e1]; rfl
end Go.Geo
namespace Go.Proofs.Yteellikeoiedbaa
set_option maxRecDepth 100000
set_option maxHeartbeats 4000000
set_option linter.unusedSimpArgs false
set_option linter.unusedVariables false
open Go Go.Zv
open Go.Geo
theorem c29 (l : List Pt) (hl : l.length ≤ 12) (hm : l.all mayB = true) (mx my : Int) (hx : -32768 ≤ mx ∧ mx ≤ 32767) (hy : -32768 ≤ my ∧ my ≤ 32767) : pc E 29 [.vs (l.map c2), .agg [.int .i64 mx, .int .i64 my]] = some (.os 2 ((l.map (shP8 (mx, my))).map c2)) := by
  have lp := loop_idx (σ := Unit) (fun S => (K E A29_L0 S).bind (blockR 0 (some [5]) [6, 32]))
    (fun k _ => ⟨[(0, .vs (l.map c2)), (3, .ptr 768 0), (5, .bs 1792 0 ((l.take k).map fun q => c2 (shP8 (mx, my) q)).length), (6, .int .i64 k)], [], [(1792, .row 2 ((l.take k).map fun q => c2 (shP8 (mx, my) q))), (1024, .row 2 []), (768, .box [.int .i64 mx, .int .i64 my])], 0⟩)
    l.length (fun _ _ => True)
    (fun _ _ => some (.ex .nrm ⟨[(5, .bs 1792 0 (l.map fun q => c2 (shP8 (mx, my) q)).length)], [], [(1792, .row 2 (l.map fun q => c2 (shP8 (mx, my) q))), (1024, .row 2 []), (768, .box [.int .i64 mx, .int .i64 my])], 0⟩))
    (fun _ _ => by
      show (K E A29_L0 _).bind _ = _
      rw [List.take_length, A29_L0_eq]; simp +contextual -implicitDefEqProofs (maxSteps := 2000000) only [go_sem, ↓reduceIte, Nat.reduceAdd, Nat.reduceMul, Nat.reduceSub, Nat.reduceEqDiff, Nat.reduceLeDiff, Nat.reduceDiv, Nat.reduceMod, Nat.reduceBEq, Nat.reduceBNe, reduceCtorEq, Int.reduceLE, Int.reduceLT, Int.reduceToNat, Int.reduceNeg, Nat.reduceLT, Int.reduceEq, Int.reduceSub, Int.reduceAdd, Int.reduceMul, Nat.reducePow, Int.reduceBEq, Int.reduceBNe, Int.reduceMod, A29_L0b, Int.lt_irrefl, List.length_map])
    (fun k x hk _ => .inr ⟨(), trivial, by
      have hget : l[k]? = some (l[k]'hk) := List.getElem?_eq_getElem _
      have ht : l.take (k + 1) = l.take k ++ [l[k]'hk] := by rw [List.take_add_one, hget]; rfl
      have hmem : l[k]'hk ∈ l := List.getElem_mem hk
      rw [ht, List.map_append]
      generalize l[k]'hk = q at *
      have g1 := get_c2 hget
      have h1 : (k : Int) < l.length := by omega
      have h0 : (0 : Int) ≤ k := by omega
      have hw := wr_k (k := k) (by omega)
      have hq := mayB_B (List.all_eq_true.1 hm q hmem)
      obtain ⟨qx, qy⟩ := q
      simp only at hq
      have w1 : IntKind.i64.wrap (qx + mx) = qx + mx := wrap_small (by omega) (by omega)
      have w2 : IntKind.i64.wrap (qy + my) = qy + my := wrap_small (by omega) (by omega)
      have hr : ((l.take k).map (fun q => c2 (shP8 (mx, my) q))).length ≤ 999999999 := by rw [List.length_map, List.length_take]; omega
      generalize (l.take k).map (fun q => c2 (shP8 (mx, my) q)) = rows at *
      show (K E A29_L0 _).bind _ = (K E A29_L0 _).bind _
      conv => lhs; rw [A29_L0_eq]
      simp +contextual -implicitDefEqProofs (maxSteps := 2000000) only [go_sem, ↓reduceIte, Nat.reduceAdd, Nat.reduceMul, Nat.reduceSub, Nat.reduceEqDiff, Nat.reduceLeDiff, Nat.reduceDiv, Nat.reduceMod, Nat.reduceBEq, Nat.reduceBNe, reduceCtorEq, Int.reduceLE, Int.reduceLT, Int.reduceToNat, Int.reduceNeg, Nat.reduceLT, Int.reduceEq, Int.reduceSub, Int.reduceAdd, Int.reduceMul, Nat.reducePow, Int.reduceBEq, Int.reduceBNe, Int.reduceMod, A29_L0b, List.length_map, h0, h1, g1, hw, hr, w1, w2, shP8, c2, List.map_cons, List.map_nil, List.length_append], rfl⟩) 0 () (by omega) trivial
  simp only [Int.natCast_zero, Int.ofNat_zero, List.take_zero, List.map_nil, List.length_nil] at lp
  have e : (l.map (shP8 (mx, my))).map c2 = l.map fun q => c2 (shP8 (mx, my) q) := by rw [List.map_map]; rfl
  rw [e]
  have ht : List.take l.length (l.map fun q => c2 (shP8 (mx, my) q)) = l.map fun q => c2 (shP8 (mx, my) q) := List.take_of_length_le (by simp)
  rw [pc_eq]; simp +contextual -implicitDefEqProofs (maxSteps := 2000000) only [go_sem, ↓reduceIte, Nat.reduceAdd, Nat.reduceMul, Nat.reduceSub, Nat.reduceEqDiff, Nat.reduceLeDiff, Nat.reduceDiv, Nat.reduceMod, Nat.reduceBEq, Nat.reduceBNe, reduceCtorEq, Int.reduceLE, Int.reduceLT, Int.reduceToNat, Int.reduceNeg, Nat.reduceLT, Int.reduceEq, Int.reduceSub, Int.reduceAdd, Int.reduceMul, Nat.reducePow, Int.reduceBEq, Int.reduceBNe, Int.reduceMod, ht, E_29, A29, List.length_map, lp]
theorem law8 (a b : List Pt) (x : Int) (nx : IntKind.i16.min ≤ x ∧ x ≤ IntKind.i16.max) (y : Int) (ny : IntKind.i16.min ≤ y ∧ y ≤ IntKind.i16.max) : pc E 8 [.vs (a.map c2), .vs (b.map c2), .int .i16 x, .int .i16 y] = some (.bool true) := by
  have e1 : IntKind.i16.min = -32768 := rfl
  have e2 : IntKind.i16.max = 32767 := rfl
  rw [e1, e2] at nx ny
  have fa := c16 a
  have fb := c16 b
  cases hA : valB a with
  | false => rw [hA] at fa; rw [pc_eq]; simp +contextual -implicitDefEqProofs (maxSteps := 2000000) only [go_sem, ↓reduceIte, Nat.reduceAdd, Nat.reduceMul, Nat.reduceSub, Nat.reduceEqDiff, Nat.reduceLeDiff, Nat.reduceDiv, Nat.reduceMod, Nat.reduceBEq, Nat.reduceBNe, reduceCtorEq, Int.reduceLE, Int.reduceLT, Int.reduceToNat, Int.reduceNeg, Nat.reduceLT, Int.reduceEq, Int.reduceSub, Int.reduceAdd, Int.reduceMul, Nat.reducePow, Int.reduceBEq, Int.reduceBNe, Int.reduceMod, E_8, A8, c15, fa]
  | true =>
    rw [hA] at fa
    cases hB : valB b with
    | false => rw [hB] at fb; rw [pc_eq]; simp +contextual -implicitDefEqProofs (maxSteps := 2000000) only [go_sem, ↓reduceIte, Nat.reduceAdd, Nat.reduceMul, Nat.reduceSub, Nat.reduceEqDiff, Nat.reduceLeDiff, Nat.reduceDiv, Nat.reduceMod, Nat.reduceBEq, Nat.reduceBNe, reduceCtorEq, Int.reduceLE, Int.reduceLT, Int.reduceToNat, Int.reduceNeg, Nat.reduceLT, Int.reduceEq, Int.reduceSub, Int.reduceAdd, Int.reduceMul, Nat.reducePow, Int.reduceBEq, Int.reduceBNe, Int.reduceMod, E_8, A8, c15, fa, fb]
    | true =>
      rw [hB] at fb
      have A := val_iff.1 hA
      have B := val_iff.1 hB
      have a12 := A.n12
      have b12 := B.n12
      have a3 := A.n3
      have b3 := B.n3
      have w1 : IntKind.i64.wrap x = x := wrap_small (by omega) (by omega)
      have w2 : IntKind.i64.wrap y = y := wrap_small (by omega) (by omega)
      have m1 := c29 a a12 A.may x y nx ny
      have m2 := c29 b b12 B.may x y nx ny
      have r1 := c30 (a.map (shP8 (x, y)))
      have r2 := c30 (b.map (shP8 (x, y)))
      have q1 := c17 a a (by omega) (by omega)
      rw [FC_self A] at q1
      simp only [conV] at q1
      have la : (a.map (shP8 (x, y))).length = a.length := List.length_map ..
      have lb : (b.map (shP8 (x, y))).length = b.length := List.length_map ..
      have ta : List.take a.length ((a.map (shP8 (x, y))).map c2) = (a.map (shP8 (x, y))).map c2 := List.take_of_length_le (by simp)
      have tb : List.take b.length ((b.map (shP8 (x, y))).map c2) = (b.map (shP8 (x, y))).map c2 := List.take_of_length_le (by simp)
      cases hC : valB (a.map (shP8 (x, y))) with
      | false =>
        rw [hC] at r1
        rw [pc_eq]; simp +contextual -implicitDefEqProofs (maxSteps := 2000000) only [go_sem, ↓reduceIte, Nat.reduceAdd, Nat.reduceMul, Nat.reduceSub, Nat.reduceEqDiff, Nat.reduceLeDiff, Nat.reduceDiv, Nat.reduceMod, Nat.reduceBEq, Nat.reduceBNe, reduceCtorEq, Int.reduceLE, Int.reduceLT, Int.reduceToNat, Int.reduceNeg, Nat.reduceLT, Int.reduceEq, Int.reduceSub, Int.reduceAdd, Int.reduceMul, Nat.reducePow, Int.reduceBEq, Int.reduceBNe, Int.reduceMod, E_8, A8, c15, fa, fb, w1, w2, m1, m2, r1, q1, la, lb, ta, tb, List.length_map, beq_self_eq_true, bne_self_eq_false]
      | true =>
        rw [hC] at r1
        cases hD : valB (b.map (shP8 (x, y))) with
        | false =>
          rw [hD] at r2
          rw [pc_eq]; simp +contextual -implicitDefEqProofs (maxSteps := 2000000) only [go_sem, ↓reduceIte, Nat.reduceAdd, Nat.reduceMul, Nat.reduceSub, Nat.reduceEqDiff, Nat.reduceLeDiff, Nat.reduceDiv, Nat.reduceMod, Nat.reduceBEq, Nat.reduceBNe, reduceCtorEq, Int.reduceLE, Int.reduceLT, Int.reduceToNat, Int.reduceNeg, Nat.reduceLT, Int.reduceEq, Int.reduceSub, Int.reduceAdd, Int.reduceMul, Nat.reducePow, Int.reduceBEq, Int.reduceBNe, Int.reduceMod, E_8, A8, c15, fa, fb, w1, w2, m1, m2, r1, r2, q1, la, lb, ta, tb, List.length_map, beq_self_eq_true, bne_self_eq_false]
        | true =>
          rw [hD] at r2
          have q2 := c17 a b (by omega) (by omega)
          have q3 := c17 (a.map (shP8 (x, y))) (b.map (shP8 (x, y))) (by rw [la]; omega) (by rw [lb]; omega)
          rw [FC_moved (M := shM8 (x, y)) ⟨A.may, (val_iff.1 hC).may, fun p _ => shP8_mot _ p⟩ ⟨B.may, (val_iff.1 hD).may, fun p _ => shP8_mot _ p⟩ (by omega) (by omega)] at q3
          generalize a.map (shP8 (x, y)) = cc at *
          generalize b.map (shP8 (x, y)) = dd at *
          generalize FC a b = F at *
          cases F with
          | none =>
            simp only [conV] at q2 q3
            rw [pc_eq]; simp +contextual -implicitDefEqProofs (maxSteps := 2000000) only [go_sem, ↓reduceIte, Nat.reduceAdd, Nat.reduceMul, Nat.reduceSub, Nat.reduceEqDiff, Nat.reduceLeDiff, Nat.reduceDiv, Nat.reduceMod, Nat.reduceBEq, Nat.reduceBNe, reduceCtorEq, Int.reduceLE, Int.reduceLT, Int.reduceToNat, Int.reduceNeg, Nat.reduceLT, Int.reduceEq, Int.reduceSub, Int.reduceAdd, Int.reduceMul, Nat.reducePow, Int.reduceBEq, Int.reduceBNe, Int.reduceMod, E_8, A8, c15, fa, fb, w1, w2, m1, m2, r1, r2, q1, q2, q3, la, lb, ta, tb, List.length_map, beq_self_eq_true, bne_self_eq_false]
          | some t =>
            obtain ⟨k, i, j⟩ := t
            simp only [conV] at q2 q3
            rw [pc_eq]; simp +contextual -implicitDefEqProofs (maxSteps := 2000000) only [go_sem, ↓reduceIte, Nat.reduceAdd, Nat.reduceMul, Nat.reduceSub, Nat.reduceEqDiff, Nat.reduceLeDiff, Nat.reduceDiv, Nat.reduceMod, Nat.reduceBEq, Nat.reduceBNe, reduceCtorEq, Int.reduceLE, Int.reduceLT, Int.reduceToNat, Int.reduceNeg, Nat.reduceLT, Int.reduceEq, Int.reduceSub, Int.reduceAdd, Int.reduceMul, Nat.reducePow, Int.reduceBEq, Int.reduceBNe, Int.reduceMod, E_8, A8, c15, fa, fb, w1, w2, m1, m2, r1, r2, q1, q2, q3, la, lb, ta, tb, List.length_map, beq_self_eq_true, bne_self_eq_false]
end Go.Proofs.Yteellikeoiedbaa
