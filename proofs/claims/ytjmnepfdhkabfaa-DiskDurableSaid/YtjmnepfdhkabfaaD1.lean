/- Part of the proof: what functions of the program compute, over the evaluation that the engine's texts tie to the machine. -/
import Derived.Test.YtjmnepfdhkabfaaDA
namespace Go.Proofs.Ytjmnepfdhkabfaa
set_option maxRecDepth 100000
set_option maxHeartbeats 4000000
set_option linter.unusedSimpArgs false
set_option linter.unusedVariables false
open Go Go.Zv
def b1 (b : UInt8) : List LV := [.int .u8 b.toNat]
abbrev bv (s : List UInt8) : LV := .vs (s.map b1)
def s1 (s : List UInt8) : List LV := [bv s]
abbrev sv (l : List (List UInt8)) : LV := .vs (l.map s1)
structure Dsk where
  sec : List (List UInt8)
  fuse : Int
  torn : Int
  down : Bool
abbrev dv (d : Dsk) : LV := .agg [sv d.sec, .int .i64 d.fuse, .int .i64 d.torn, .bool d.down]
theorem b2s_b1 (a : List UInt8) : b2sK (a.map b1) = some (.str a) := by
  have h : ∀ a : List UInt8, bytesOf (a.map b1) = some a := fun a => by
    induction a with
    | nil => rfl
    | cons x a ih =>
      show (byte1 (b1 x)).bind _ = _
      rw [show byte1 (b1 x) = some x from by simp [b1, byte1]]
      simp only [Option.bind_some]
      rw [ih]; rfl
  unfold b2sK; rw [h]; rfl
theorem c27 (a b : List UInt8) : pc E 27 [bv a, bv b] = some (.bool (a == b)) := by
  rw [pc_eq]; simp +contextual -implicitDefEqProofs (maxSteps := 2000000) only [go_sem, ↓reduceIte, Nat.reduceAdd, Nat.reduceMul, Nat.reduceSub, Nat.reduceEqDiff, Nat.reduceLeDiff, Nat.reduceDiv, Nat.reduceMod, Nat.reduceBEq, reduceCtorEq, Int.reduceLE, Int.reduceLT, Int.reduceToNat, Int.reduceNeg, Nat.reduceLT, Int.reduceEq, Int.reduceSub, Int.reduceAdd, Int.reduceMul, Nat.reducePow, E_27, A27, b2s_b1]
theorem c53 (s : List (List UInt8)) (f t : Int) (w : Bool) (i : Int) : pc E 53 [.agg [sv s, .int .i64 f, .int .i64 t, .bool w], .int .i64 i] = some (.bool (decide (0 ≤ i ∧ i < s.length))) := by
  rw [pc_eq]; simp +contextual -implicitDefEqProofs (maxSteps := 2000000) only [go_sem, ↓reduceIte, Nat.reduceAdd, Nat.reduceMul, Nat.reduceSub, Nat.reduceEqDiff, Nat.reduceLeDiff, Nat.reduceDiv, Nat.reduceMod, Nat.reduceBEq, reduceCtorEq, Int.reduceLE, Int.reduceLT, Int.reduceToNat, Int.reduceNeg, Nat.reduceLT, Int.reduceEq, Int.reduceSub, Int.reduceAdd, Int.reduceMul, Nat.reducePow, E_53, A53, List.length_map]
  by_cases h : 0 ≤ i <;> simp [h]
theorem c30 (s : List (List UInt8)) (f t : Int) (w : Bool) : pc E 30 [.agg [sv s, .int .i64 f, .int .i64 t, .bool w]] = some (.agg [sv s, .int .i64 f, .int .i64 t, .bool false]) := by
  rw [pc_eq]; simp +contextual -implicitDefEqProofs (maxSteps := 2000000) only [go_sem, ↓reduceIte, Nat.reduceAdd, Nat.reduceMul, Nat.reduceSub, Nat.reduceEqDiff, Nat.reduceLeDiff, Nat.reduceDiv, Nat.reduceMod, Nat.reduceBEq, reduceCtorEq, Int.reduceLE, Int.reduceLT, Int.reduceToNat, Int.reduceNeg, Nat.reduceLT, Int.reduceEq, Int.reduceSub, Int.reduceAdd, Int.reduceMul, Nat.reducePow, E_30, A30]
theorem c51 (s : List (List UInt8)) (f t : Int) (w : Bool) : pc E 51 [.agg [sv s, .int .i64 f, .int .i64 t, .bool w]] = some (.agg [sv s, .int .i64 f, .int .i64 t, .bool false]) := by
  rw [pc_eq]; simp +contextual -implicitDefEqProofs (maxSteps := 2000000) only [go_sem, ↓reduceIte, Nat.reduceAdd, Nat.reduceMul, Nat.reduceSub, Nat.reduceEqDiff, Nat.reduceLeDiff, Nat.reduceDiv, Nat.reduceMod, Nat.reduceBEq, reduceCtorEq, Int.reduceLE, Int.reduceLT, Int.reduceToNat, Int.reduceNeg, Nat.reduceLT, Int.reduceEq, Int.reduceSub, Int.reduceAdd, Int.reduceMul, Nat.reducePow, E_51, A51]
theorem get_s1 {l : List (List UInt8)} {i : Nat} {p : List UInt8} (h : l[i]? = some p) : (l.map s1)[i]? = some [bv p] := by
  rw [List.getElem?_map, h]; rfl
/-- what Read answers -/
def rdv (s : List (List UInt8)) (w : Bool) (i : Int) : LV :=
  if w = true then .tup [.os 1 [], .int .i64 300] else
  if 0 ≤ i ∧ i < s.length then .tup [bv (s[i.toNat]?.getD []), .int .i64 0] else .tup [.os 1 [], .int .i64 1]
theorem c25 (s : List (List UInt8)) (f t : Int) (w : Bool) (i : Int) : pc E 25 [.agg [sv s, .int .i64 f, .int .i64 t, .bool w], .int .i64 i] = some (rdv s w i) := by
  cases w with
  | true => rw [pc_eq]; simp +contextual -implicitDefEqProofs (maxSteps := 2000000) only [go_sem, ↓reduceIte, Nat.reduceAdd, Nat.reduceMul, Nat.reduceSub, Nat.reduceEqDiff, Nat.reduceLeDiff, Nat.reduceDiv, Nat.reduceMod, Nat.reduceBEq, reduceCtorEq, Int.reduceLE, Int.reduceLT, Int.reduceToNat, Int.reduceNeg, Nat.reduceLT, Int.reduceEq, Int.reduceSub, Int.reduceAdd, Int.reduceMul, Nat.reducePow, E_25, A25, rdv]
  | false =>
    by_cases h : 0 ≤ i ∧ i < s.length
    · have hget : s[i.toNat]? = some (s[i.toNat]'(by omega)) := List.getElem?_eq_getElem _
      have hg := get_s1 hget
      rw [pc_eq]; simp +contextual -implicitDefEqProofs (maxSteps := 2000000) only [go_sem, ↓reduceIte, Nat.reduceAdd, Nat.reduceMul, Nat.reduceSub, Nat.reduceEqDiff, Nat.reduceLeDiff, Nat.reduceDiv, Nat.reduceMod, Nat.reduceBEq, reduceCtorEq, Int.reduceLE, Int.reduceLT, Int.reduceToNat, Int.reduceNeg, Nat.reduceLT, Int.reduceEq, Int.reduceSub, Int.reduceAdd, Int.reduceMul, Nat.reducePow, E_25, A25, rdv, c53, h, h.1, h.2, hg, hget, List.length_map]
    · rw [pc_eq]; simp +contextual -implicitDefEqProofs (maxSteps := 2000000) only [go_sem, ↓reduceIte, Nat.reduceAdd, Nat.reduceMul, Nat.reduceSub, Nat.reduceEqDiff, Nat.reduceLeDiff, Nat.reduceDiv, Nat.reduceMod, Nat.reduceBEq, reduceCtorEq, Int.reduceLE, Int.reduceLT, Int.reduceToNat, Int.reduceNeg, Nat.reduceLT, Int.reduceEq, Int.reduceSub, Int.reduceAdd, Int.reduceMul, Nat.reducePow, E_25, A25, rdv, c53, h]
theorem c26 (s : List (List UInt8)) (f t : Int) (w : Bool) (i : Int) : pc E 26 [.agg [sv s, .int .i64 f, .int .i64 t, .bool w], .int .i64 i] = some (rdv s w i) := by
  cases w with
  | true => rw [pc_eq]; simp +contextual -implicitDefEqProofs (maxSteps := 2000000) only [go_sem, ↓reduceIte, Nat.reduceAdd, Nat.reduceMul, Nat.reduceSub, Nat.reduceEqDiff, Nat.reduceLeDiff, Nat.reduceDiv, Nat.reduceMod, Nat.reduceBEq, reduceCtorEq, Int.reduceLE, Int.reduceLT, Int.reduceToNat, Int.reduceNeg, Nat.reduceLT, Int.reduceEq, Int.reduceSub, Int.reduceAdd, Int.reduceMul, Nat.reducePow, E_26, A26, rdv]
  | false =>
    by_cases h1 : i < 0
    · have h : ¬ (0 ≤ i ∧ i < s.length) := by omega
      rw [pc_eq]; simp +contextual -implicitDefEqProofs (maxSteps := 2000000) only [go_sem, ↓reduceIte, Nat.reduceAdd, Nat.reduceMul, Nat.reduceSub, Nat.reduceEqDiff, Nat.reduceLeDiff, Nat.reduceDiv, Nat.reduceMod, Nat.reduceBEq, reduceCtorEq, Int.reduceLE, Int.reduceLT, Int.reduceToNat, Int.reduceNeg, Nat.reduceLT, Int.reduceEq, Int.reduceSub, Int.reduceAdd, Int.reduceMul, Nat.reducePow, E_26, A26, rdv, h, h1, List.length_map]
    · by_cases h2 : (s.length : Int) ≤ i
      · have h : ¬ (0 ≤ i ∧ i < s.length) := by omega
        rw [pc_eq]; simp +contextual -implicitDefEqProofs (maxSteps := 2000000) only [go_sem, ↓reduceIte, Nat.reduceAdd, Nat.reduceMul, Nat.reduceSub, Nat.reduceEqDiff, Nat.reduceLeDiff, Nat.reduceDiv, Nat.reduceMod, Nat.reduceBEq, reduceCtorEq, Int.reduceLE, Int.reduceLT, Int.reduceToNat, Int.reduceNeg, Nat.reduceLT, Int.reduceEq, Int.reduceSub, Int.reduceAdd, Int.reduceMul, Nat.reducePow, E_26, A26, rdv, h, h1, h2, List.length_map]
      · have h : (0 ≤ i ∧ i < s.length) := by omega
        have hget : s[i.toNat]? = some (s[i.toNat]'(by omega)) := List.getElem?_eq_getElem _
        have hg := get_s1 hget
        rw [pc_eq]; simp +contextual -implicitDefEqProofs (maxSteps := 2000000) only [go_sem, ↓reduceIte, Nat.reduceAdd, Nat.reduceMul, Nat.reduceSub, Nat.reduceEqDiff, Nat.reduceLeDiff, Nat.reduceDiv, Nat.reduceMod, Nat.reduceBEq, reduceCtorEq, Int.reduceLE, Int.reduceLT, Int.reduceToNat, Int.reduceNeg, Nat.reduceLT, Int.reduceEq, Int.reduceSub, Int.reduceAdd, Int.reduceMul, Nat.reducePow, E_26, A26, rdv, h, h.1, h.2, h1, h2, hg, hget, List.length_map]
theorem all_b1 (l : List UInt8) : ((l.map b1).all fun x => x.length == 1) = true := by simp [b1]
theorem all_s1 (l : List (List UInt8)) : ((l.map s1).all fun x => x.length == 1) = true := by simp [s1]
theorem take_b1 (l : List UInt8) : (l.map b1).take l.length = l.map b1 := List.take_of_length_le (by simp)
theorem take_s1 (l : List (List UInt8)) : (l.map s1).take l.length = l.map s1 := List.take_of_length_le (by simp)
theorem c57 (l : List UInt8) (h0 : l ≠ []) (h1 : l.length ≤ 1000000000) : pc E 57 [bv l] = some (.os 1 (l.map b1)) := by
  have h2 : (l.map b1).isEmpty = false := by simp [h0]
  rw [pc_eq]; simp +contextual -implicitDefEqProofs (maxSteps := 2000000) only [go_sem, ↓reduceIte, Nat.reduceAdd, Nat.reduceMul, Nat.reduceSub, Nat.reduceEqDiff, Nat.reduceLeDiff, Nat.reduceDiv, Nat.reduceMod, Nat.reduceBEq, reduceCtorEq, Int.reduceLE, Int.reduceLT, Int.reduceToNat, Int.reduceNeg, Nat.reduceLT, Int.reduceEq, Int.reduceSub, Int.reduceAdd, Int.reduceMul, Nat.reducePow, E_57, A57, List.length_map, h2, all_b1, take_b1, h1]
theorem c81 (l : List (List UInt8)) (h0 : l ≠ []) (h1 : l.length ≤ 1000000000) : pc E 81 [sv l] = some (.os 1 (l.map s1)) := by
  have h2 : (l.map s1).isEmpty = false := by simp [h0]
  rw [pc_eq]; simp +contextual -implicitDefEqProofs (maxSteps := 2000000) only [go_sem, ↓reduceIte, Nat.reduceAdd, Nat.reduceMul, Nat.reduceSub, Nat.reduceEqDiff, Nat.reduceLeDiff, Nat.reduceDiv, Nat.reduceMod, Nat.reduceBEq, reduceCtorEq, Int.reduceLE, Int.reduceLT, Int.reduceToNat, Int.reduceNeg, Nat.reduceLT, Int.reduceEq, Int.reduceSub, Int.reduceAdd, Int.reduceMul, Nat.reducePow, E_81, A81, List.length_map, h2, all_s1, take_s1, h1]
theorem c58 (l : List (List UInt8)) (i : Nat) (x : List UInt8) (hi : i < l.length) (h1 : l.length ≤ 1000000000) : pc E 58 [sv l, .int .i64 i, bv x] = some (.os 1 ((l.set i x).map s1)) := by
  have h0 : l ≠ [] := fun h => by subst h; simp at hi
  have h2 : (i : Int) < l.length := by omega
  have h3 : (0 : Int) ≤ i := by omega
  have e : (l.map s1).set i [.vs (x.map b1)] = (l.set i x).map s1 := by rw [List.map_set]; rfl
  have e2 : ((l.set i x).map s1).take l.length = (l.set i x).map s1 := List.take_of_length_le (by simp)
  have hget : l[i]? = some (l[i]'hi) := List.getElem?_eq_getElem _
  have hg := get_s1 hget
  rw [pc_eq]; simp +contextual -implicitDefEqProofs (maxSteps := 2000000) only [go_sem, ↓reduceIte, Nat.reduceAdd, Nat.reduceMul, Nat.reduceSub, Nat.reduceEqDiff, Nat.reduceLeDiff, Nat.reduceDiv, Nat.reduceMod, Nat.reduceBEq, reduceCtorEq, Int.reduceLE, Int.reduceLT, Int.reduceToNat, Int.reduceNeg, Nat.reduceLT, Int.reduceEq, Int.reduceSub, Int.reduceAdd, Int.reduceMul, Nat.reducePow, E_58, A58, List.length_map, c81 l h0 h1, h2, h3, hg, e, e2, Nat.le_refl, List.length_set]
end Go.Proofs.Ytjmnepfdhkabfaa
