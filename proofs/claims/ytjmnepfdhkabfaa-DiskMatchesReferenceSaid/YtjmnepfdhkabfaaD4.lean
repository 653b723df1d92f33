/- Part of the proof: what functions of the program compute, over the evaluation that the engine's texts tie to the machine. -/
import Derived.Test.YtjmnepfdhkabfaaD3
namespace Go.Proofs.Ytjmnepfdhkabfaa
set_option maxRecDepth 100000
set_option maxHeartbeats 4000000
set_option linter.unusedSimpArgs false
set_option linter.unusedVariables false
open Go Go.Zv
def zs : List UInt8 := List.replicate 64 0
theorem zs_len : zs.length = 64 := by simp [zs]
theorem zs_row : List.replicate 64 [LV.int .u8 0] = zs.map b1 := by simp [zs, b1]
def fresh (n k : Nat) : List (List UInt8) := List.replicate k zs ++ List.replicate (n - k) []
theorem fresh_len {n k : Nat} (h : k ≤ n) : (fresh n k).length = n := by simp [fresh]; omega
theorem fresh_set {n k : Nat} (h : k < n) : ((fresh n k).map s1).set k [bv zs] = (fresh n (k + 1)).map s1 := by
  have e : (fresh n k).set k zs = fresh n (k + 1) := by
    apply List.ext_getElem?
    intro j
    unfold fresh
    rw [List.getElem?_set]
    simp only [List.getElem?_append, List.length_replicate, List.getElem?_replicate, List.length_append]
    repeat' split
    all_goals (first | omega | rfl)
  rw [← e, List.map_set]; rfl
theorem new_loop (n : Nat) (hn : n ≤ 64) : ∀ (j k : Nat), k + j = n →
    (K E A17_L0 ⟨[(2, .ptr 512 0), (4, .ptr 1024 0), (18, .int .i64 n), (19, .int .i64 k)], [], [(1024, .box [.bs 3584 0 n, .int .i64 (-1), .int .i64 0, .bool false]),
                          (1025, .row 1 []), (3584, .row 1 ((fresh n k).map s1)),
                          (512, .box [.bs 513 0 0, .int .i64 0, .int .i64 0, .bool false]),
                          (513, .row 1 [])], 0⟩).bind (blockR 0 (some [2, 4]) [5, 25]) =
    some (.ex .nrm ⟨[(2, .ptr 512 0), (4, .ptr 1024 0)], [], [(1024, .box [.bs 3584 0 n, .int .i64 (-1), .int .i64 0, .bool false]),
                          (1025, .row 1 []), (3584, .row 1 ((fresh n n).map s1)),
                          (512, .box [.bs 513 0 0, .int .i64 0, .int .i64 0, .bool false]),
                          (513, .row 1 [])], 0⟩)
  | 0, k, h => by
    have hk : k = n := by omega
    subst hk
    rw [A17_L0_eq]
    simp +contextual -implicitDefEqProofs (maxSteps := 2000000) only [go_sem, ↓reduceIte, Nat.reduceAdd, Nat.reduceMul, Nat.reduceSub, Nat.reduceEqDiff, Nat.reduceLeDiff, Nat.reduceDiv, Nat.reduceMod, Nat.reduceBEq, Nat.reduceBNe, reduceCtorEq, Int.reduceLE, Int.reduceLT, Int.reduceToNat, Int.reduceNeg, Nat.reduceLT, Int.reduceEq, Int.reduceSub, Int.reduceAdd, Int.reduceMul, Nat.reducePow, A17_L0b, Int.lt_irrefl]
  | j + 1, k, h => by
    have hk : (k : Int) < n := by omega
    have hw := wr_succ (n := k) (by omega)
    have h0 : (0 : Int) ≤ (k : Int) := by omega
    have hfs := fresh_set (n := n) (k := k) (by omega)
    have hget : (fresh n k)[k]? = some [] := by
      unfold fresh
      rw [List.getElem?_append_right (by simp)]
      simp only [List.length_replicate, Nat.sub_self, List.getElem?_replicate]
      rw [if_pos (by omega)]
    have hg := get_s1 hget
    have ih := new_loop n hn j (k + 1) (by omega)
    have tz : (zs.map b1).take 64 = zs.map b1 := List.take_of_length_le (by simp [zs])
    rw [show bv zs = .vs (List.replicate 64 [LV.int .u8 0]) from by rw [zs_row]] at hfs
    simp only [List.replicate_succ, List.replicate_zero] at hfs
    rw [A17_L0_eq]
    simp +contextual -implicitDefEqProofs (maxSteps := 2000000) only [go_sem, ↓reduceIte, Nat.reduceAdd, Nat.reduceMul, Nat.reduceSub, Nat.reduceEqDiff, Nat.reduceLeDiff, Nat.reduceDiv, Nat.reduceMod, Nat.reduceBEq, Nat.reduceBNe, reduceCtorEq, Int.reduceLE, Int.reduceLT, Int.reduceToNat, Int.reduceNeg, Nat.reduceLT, Int.reduceEq, Int.reduceSub, Int.reduceAdd, Int.reduceMul, Nat.reducePow, A17_L0b, hk, hw, h0, hg, hfs, ih, zs_len, List.length_map, tz]
def mk (n : Nat) : Dsk := ⟨List.replicate n zs, -1, 0, false⟩
theorem c17 (n : Nat) (h1 : 1 ≤ n) (h2 : n ≤ 64) : pc E 17 [.int .i64 n] = some (.tup [dv (mk n), .int .i64 0]) := by
  have g1 : ¬ ((n : Int) < 1) := by omega
  have g2 : ¬ ((64 : Int) < n) := by omega
  have g3 : 0 ≤ (n : Int) := by omega
  have g4 : (n : Int) ≤ 1000000000 := by omega
  have nl := new_loop n h2 n 0 (by omega)
  have e0 : (fresh n 0).map s1 = List.replicate n [.vs []] := by simp [fresh, s1]
  have e1 : fresh n n = List.replicate n zs := by simp [fresh]
  rw [e0, e1] at nl
  simp only [Int.natCast_zero, Int.ofNat_zero] at nl
  have tk : ((List.replicate n zs).map s1).take n = (List.replicate n zs).map s1 := List.take_of_length_le (by simp)
  rw [pc_eq]; simp +contextual -implicitDefEqProofs (maxSteps := 2000000) only [go_sem, ↓reduceIte, Nat.reduceAdd, Nat.reduceMul, Nat.reduceSub, Nat.reduceEqDiff, Nat.reduceLeDiff, Nat.reduceDiv, Nat.reduceMod, Nat.reduceBEq, Nat.reduceBNe, reduceCtorEq, Int.reduceLE, Int.reduceLT, Int.reduceToNat, Int.reduceNeg, Nat.reduceLT, Int.reduceEq, Int.reduceSub, Int.reduceAdd, Int.reduceMul, Nat.reducePow, E_17, A17, g1, g2, g3, g4, List.length_replicate, Int.le_refl, nl, List.length_map, Nat.le_refl, tk, mk]
theorem c17b (n : Int) (h : n < 1 ∨ 64 < n) : pc E 17 [.int .i64 n] = some (.tup [.agg [sv [], .int .i64 0, .int .i64 0, .bool false], .int .i64 1]) := by
  by_cases h1 : n < 1
  · rw [pc_eq]; simp +contextual -implicitDefEqProofs (maxSteps := 2000000) only [go_sem, ↓reduceIte, Nat.reduceAdd, Nat.reduceMul, Nat.reduceSub, Nat.reduceEqDiff, Nat.reduceLeDiff, Nat.reduceDiv, Nat.reduceMod, Nat.reduceBEq, Nat.reduceBNe, reduceCtorEq, Int.reduceLE, Int.reduceLT, Int.reduceToNat, Int.reduceNeg, Nat.reduceLT, Int.reduceEq, Int.reduceSub, Int.reduceAdd, Int.reduceMul, Nat.reducePow, E_17, A17, h1, List.map_nil]; rfl
  · have h2 : 64 < n := by omega
    rw [pc_eq]; simp +contextual -implicitDefEqProofs (maxSteps := 2000000) only [go_sem, ↓reduceIte, Nat.reduceAdd, Nat.reduceMul, Nat.reduceSub, Nat.reduceEqDiff, Nat.reduceLeDiff, Nat.reduceDiv, Nat.reduceMod, Nat.reduceBEq, Nat.reduceBNe, reduceCtorEq, Int.reduceLE, Int.reduceLT, Int.reduceToNat, Int.reduceNeg, Nat.reduceLT, Int.reduceEq, Int.reduceSub, Int.reduceAdd, Int.reduceMul, Nat.reducePow, E_17, A17, h1, h2, List.map_nil]; rfl
def reps (k : Nat) : List (List UInt8) := List.replicate k zs
theorem reps_len (k : Nat) : (reps k).length = k := by simp [reps]
theorem new_loop' (n : Nat) (hn : n ≤ 64) : ∀ (j k : Nat), k + j = n →
    (K E A18_L0 ⟨[(0, .int .i64 n), (2, .ptr 512 0), (4, .ptr 1024 0), (5, .int .i64 k)], [], [(1025, .row 1 ((reps k).map s1)),
                        (1024, .box [.bs 1025 0 k, .int .i64 (-1), .int .i64 0, .bool false]),
                        (512, .box [.bs 513 0 0, .int .i64 0, .int .i64 0, .bool false]),
                        (513, .row 1 [])], 0⟩).bind (blockR 0 (some [2, 4]) [5, 21, 22, 23]) =
    some (.ex .nrm ⟨[(2, .ptr 512 0), (4, .ptr 1024 0)], [], [(1025, .row 1 ((reps n).map s1)),
                        (1024, .box [.bs 1025 0 n, .int .i64 (-1), .int .i64 0, .bool false]),
                        (512, .box [.bs 513 0 0, .int .i64 0, .int .i64 0, .bool false]),
                        (513, .row 1 [])], 0⟩)
  | 0, k, h => by
    have hk : k = n := by omega
    subst hk
    rw [A18_L0_eq]
    simp +contextual -implicitDefEqProofs (maxSteps := 2000000) only [go_sem, ↓reduceIte, Nat.reduceAdd, Nat.reduceMul, Nat.reduceSub, Nat.reduceEqDiff, Nat.reduceLeDiff, Nat.reduceDiv, Nat.reduceMod, Nat.reduceBEq, Nat.reduceBNe, reduceCtorEq, Int.reduceLE, Int.reduceLT, Int.reduceToNat, Int.reduceNeg, Nat.reduceLT, Int.reduceEq, Int.reduceSub, Int.reduceAdd, Int.reduceMul, Nat.reducePow, A18_L0b, Int.lt_irrefl]
  | j + 1, k, h => by
    have hk : (k : Int) < n := by omega
    have hw := wr_succ (n := k) (by omega)
    have hb : k + 1 ≤ 1000000000 := by omega
    have ht : ((reps k).map s1).take k = (reps k).map s1 := List.take_of_length_le (by simp [reps])
    have hfs : (reps k).map s1 ++ [[bv zs]] = (reps (k + 1)).map s1 := by simp [reps, List.replicate_succ', s1]
    rw [show bv zs = .vs (List.replicate 64 [LV.int .u8 0]) from by rw [zs_row]] at hfs
    rw [List.replicate_succ (n := 63), List.replicate_succ (n := 62)] at hfs
    simp only [List.replicate_succ (a := [LV.int .u8 0]), List.replicate_zero] at hfs
    have ih := new_loop' n hn j (k + 1) (by omega)
    rw [A18_L0_eq]
    simp +contextual -implicitDefEqProofs (maxSteps := 2000000) only [go_sem, ↓reduceIte, Nat.reduceAdd, Nat.reduceMul, Nat.reduceSub, Nat.reduceEqDiff, Nat.reduceLeDiff, Nat.reduceDiv, Nat.reduceMod, Nat.reduceBEq, Nat.reduceBNe, reduceCtorEq, Int.reduceLE, Int.reduceLT, Int.reduceToNat, Int.reduceNeg, Nat.reduceLT, Int.reduceEq, Int.reduceSub, Int.reduceAdd, Int.reduceMul, Nat.reducePow, A18_L0b, hk, hw, hb, ht, hfs, ih, List.length_map, reps_len]
theorem c18 (n : Nat) (h1 : 1 ≤ n) (h2 : n ≤ 64) : pc E 18 [.int .i64 n] = some (.tup [dv (mk n), .int .i64 0]) := by
  have g1 : ¬ ((n : Int) < 1) := by omega
  have g2 : ¬ ((64 : Int) < n) := by omega
  have nl := new_loop' n h2 n 0 (by omega)
  rw [show (reps 0).map s1 = [] from rfl] at nl
  simp only [Int.natCast_zero, Int.ofNat_zero] at nl
  have tk : ((reps n).map s1).take n = (reps n).map s1 := List.take_of_length_le (by simp [reps])
  have e : mk n = ⟨reps n, -1, 0, false⟩ := rfl
  rw [e]
  rw [pc_eq]; simp +contextual -implicitDefEqProofs (maxSteps := 2000000) only [go_sem, ↓reduceIte, Nat.reduceAdd, Nat.reduceMul, Nat.reduceSub, Nat.reduceEqDiff, Nat.reduceLeDiff, Nat.reduceDiv, Nat.reduceMod, Nat.reduceBEq, Nat.reduceBNe, reduceCtorEq, Int.reduceLE, Int.reduceLT, Int.reduceToNat, Int.reduceNeg, Nat.reduceLT, Int.reduceEq, Int.reduceSub, Int.reduceAdd, Int.reduceMul, Nat.reducePow, E_18, A18, g1, g2, nl, List.length_map, Nat.le_refl, tk, reps_len]
theorem c18b (n : Int) (h : n < 1 ∨ 64 < n) : pc E 18 [.int .i64 n] = some (.tup [.agg [sv [], .int .i64 0, .int .i64 0, .bool false], .int .i64 1]) := by
  by_cases h1 : n < 1
  · rw [pc_eq]; simp +contextual -implicitDefEqProofs (maxSteps := 2000000) only [go_sem, ↓reduceIte, Nat.reduceAdd, Nat.reduceMul, Nat.reduceSub, Nat.reduceEqDiff, Nat.reduceLeDiff, Nat.reduceDiv, Nat.reduceMod, Nat.reduceBEq, Nat.reduceBNe, reduceCtorEq, Int.reduceLE, Int.reduceLT, Int.reduceToNat, Int.reduceNeg, Nat.reduceLT, Int.reduceEq, Int.reduceSub, Int.reduceAdd, Int.reduceMul, Nat.reducePow, E_18, A18, h1, List.map_nil]; rfl
  · have h2 : 64 < n := by omega
    rw [pc_eq]; simp +contextual -implicitDefEqProofs (maxSteps := 2000000) only [go_sem, ↓reduceIte, Nat.reduceAdd, Nat.reduceMul, Nat.reduceSub, Nat.reduceEqDiff, Nat.reduceLeDiff, Nat.reduceDiv, Nat.reduceMod, Nat.reduceBEq, Nat.reduceBNe, reduceCtorEq, Int.reduceLE, Int.reduceLT, Int.reduceToNat, Int.reduceNeg, Nat.reduceLT, Int.reduceEq, Int.reduceSub, Int.reduceAdd, Int.reduceMul, Nat.reducePow, E_18, A18, h1, h2, List.map_nil]; rfl
end Go.Proofs.Ytjmnepfdhkabfaa
