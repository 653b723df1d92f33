/- Part of the proof: what functions of the program compute, over the evaluation that the engine's texts tie to the machine. -/
import Derived.Test.YtjmnepfdhkabfaaD1
namespace Go.Proofs.Ytjmnepfdhkabfaa
set_option maxRecDepth 100000
set_option maxHeartbeats 4000000
set_option linter.unusedSimpArgs false
set_option linter.unusedVariables false
open Go Go.Zv
theorem c29a (s : List (List UInt8)) (f t : Int) (i : Int) (x : List UInt8) : pc E 29 [.agg [sv s, .int .i64 f, .int .i64 t, .bool true], .int .i64 i, bv x] = some (.tup [.agg [sv s, .int .i64 f, .int .i64 t, .bool true], .int .i64 300]) := by
  rw [pc_eq]; simp +contextual -implicitDefEqProofs (maxSteps := 2000000) only [go_sem, ↓reduceIte, Nat.reduceAdd, Nat.reduceMul, Nat.reduceSub, Nat.reduceEqDiff, Nat.reduceLeDiff, Nat.reduceDiv, Nat.reduceMod, Nat.reduceBEq, Nat.reduceBNe, reduceCtorEq, Int.reduceLE, Int.reduceLT, Int.reduceToNat, Int.reduceNeg, Nat.reduceLT, Int.reduceEq, Int.reduceSub, Int.reduceAdd, Int.reduceMul, Nat.reducePow, E_29, A29, E_56, A56, A56_L0_eq, A56_L0b, E_54, A54, E_55, A55, c53]
theorem c29b (s : List (List UInt8)) (f t : Int) (i : Int) (x : List UInt8) (h : ¬ (0 ≤ i ∧ i < s.length)) : pc E 29 [.agg [sv s, .int .i64 f, .int .i64 t, .bool false], .int .i64 i, bv x] = some (.tup [.agg [sv s, .int .i64 f, .int .i64 t, .bool false], .int .i64 1]) := by
  rw [pc_eq]; simp +contextual -implicitDefEqProofs (maxSteps := 2000000) only [go_sem, ↓reduceIte, Nat.reduceAdd, Nat.reduceMul, Nat.reduceSub, Nat.reduceEqDiff, Nat.reduceLeDiff, Nat.reduceDiv, Nat.reduceMod, Nat.reduceBEq, Nat.reduceBNe, reduceCtorEq, Int.reduceLE, Int.reduceLT, Int.reduceToNat, Int.reduceNeg, Nat.reduceLT, Int.reduceEq, Int.reduceSub, Int.reduceAdd, Int.reduceMul, Nat.reducePow, E_29, A29, E_56, A56, A56_L0_eq, A56_L0b, E_54, A54, E_55, A55, c53, h]
theorem c29c (s : List (List UInt8)) (f t : Int) (i : Int) (x : List UInt8) (h : (0 ≤ i ∧ i < s.length)) (hx : (64 : Int) < x.length) : pc E 29 [.agg [sv s, .int .i64 f, .int .i64 t, .bool false], .int .i64 i, bv x] = some (.tup [.agg [sv s, .int .i64 f, .int .i64 t, .bool false], .int .i64 1]) := by
  rw [pc_eq]; simp +contextual -implicitDefEqProofs (maxSteps := 2000000) only [go_sem, ↓reduceIte, Nat.reduceAdd, Nat.reduceMul, Nat.reduceSub, Nat.reduceEqDiff, Nat.reduceLeDiff, Nat.reduceDiv, Nat.reduceMod, Nat.reduceBEq, Nat.reduceBNe, reduceCtorEq, Int.reduceLE, Int.reduceLT, Int.reduceToNat, Int.reduceNeg, Nat.reduceLT, Int.reduceEq, Int.reduceSub, Int.reduceAdd, Int.reduceMul, Nat.reducePow, E_29, A29, E_56, A56, A56_L0_eq, A56_L0b, E_54, A54, E_55, A55, c53, h, hx, List.length_map]
/-- a sector with new bytes at its beginning -/
def over (x p : List UInt8) : List UInt8 := x ++ p.drop x.length
theorem over_len {x p : List UInt8} (h : x.length ≤ p.length) : (over x p).length = p.length := by simp [over]; omega
theorem over_row {x p : List UInt8} (h : x.length ≤ p.length) : List.take (min x.length p.length) (x.map b1) ++ List.drop (min x.length p.length) (p.map b1) = (over x p).map b1 := by
  rw [Nat.min_eq_left h, take_b1]; simp [over]
theorem c29d (s : List (List UInt8)) (f t : Int) (i : Nat) (x : List UInt8) (p : List UInt8) (hp : s[i]? = some p) (hpl : p.length = 64) (hs : s.length ≤ 64) (hx : x.length ≤ 64) (hf : f ≠ 1) (hf1 : ¬ f > 1) : pc E 29 [.agg [sv s, .int .i64 f, .int .i64 t, .bool false], .int .i64 i, bv x] = some (.tup [.agg [sv (s.set i (over x p)), .int .i64 f, .int .i64 t, .bool false], .int .i64 0]) := by
  have hi := (List.getElem?_eq_some_iff.1 hp).1
  have h : 0 ≤ (i : Int) ∧ (i : Int) < s.length := by omega
  have hx2 : ¬ ((64 : Int) < x.length) := by omega
  have hg := get_s1 hp
  have h57 := c57 p (by intro h; subst h; simp at hpl) (by omega)
  have hle : x.length ≤ p.length := by omega
  have o1 := over_row hle
  have o2 := over_len hle
  have o3 : ((over x p).map b1).take p.length = (over x p).map b1 := List.take_of_length_le (by simp [o2])
  have h58 := c58 s i (over x p) hi (by omega)
  have tk : ((s.set i (over x p)).map s1).take s.length = (s.set i (over x p)).map s1 := List.take_of_length_le (by simp)
  rw [pc_eq]; simp +contextual -implicitDefEqProofs (maxSteps := 2000000) only [go_sem, ↓reduceIte, Nat.reduceAdd, Nat.reduceMul, Nat.reduceSub, Nat.reduceEqDiff, Nat.reduceLeDiff, Nat.reduceDiv, Nat.reduceMod, Nat.reduceBEq, Nat.reduceBNe, reduceCtorEq, Int.reduceLE, Int.reduceLT, Int.reduceToNat, Int.reduceNeg, Nat.reduceLT, Int.reduceEq, Int.reduceSub, Int.reduceAdd, Int.reduceMul, Nat.reducePow, E_29, A29, E_56, A56, A56_L0_eq, A56_L0b, E_54, A54, E_55, A55, c53, h, h.1, h.2, hx2, List.length_map, hf, hf1, hg, h57, beq_eq_false_iff_ne.2 hf, all_b1, o1, o2, o3, h58, Nat.le_refl, tk, List.length_set, ite_self]
theorem c29e (s : List (List UInt8)) (f t : Int) (i : Nat) (x : List UInt8) (p : List UInt8) (hp : s[i]? = some p) (hpl : p.length = 64) (hs : s.length ≤ 64) (hx : x.length ≤ 64) (hf : f ≠ 1) (hf1 : f > 1) (hf2 : f ≤ 9223372036854775807) : pc E 29 [.agg [sv s, .int .i64 f, .int .i64 t, .bool false], .int .i64 i, bv x] = some (.tup [.agg [sv (s.set i (over x p)), .int .i64 (f - 1), .int .i64 t, .bool false], .int .i64 0]) := by
  have hi := (List.getElem?_eq_some_iff.1 hp).1
  have h : 0 ≤ (i : Int) ∧ (i : Int) < s.length := by omega
  have hx2 : ¬ ((64 : Int) < x.length) := by omega
  have hg := get_s1 hp
  have h57 := c57 p (by intro h; subst h; simp at hpl) (by omega)
  have hle : x.length ≤ p.length := by omega
  have o1 := over_row hle
  have o2 := over_len hle
  have o3 : ((over x p).map b1).take p.length = (over x p).map b1 := List.take_of_length_le (by simp [o2])
  have h58 := c58 s i (over x p) hi (by omega)
  have tk : ((s.set i (over x p)).map s1).take s.length = (s.set i (over x p)).map s1 := List.take_of_length_le (by simp)
  have w1 : IntKind.i64.wrap (f - 1) = f - 1 := wrap_small (by omega) (by omega)
  rw [pc_eq]; simp +contextual -implicitDefEqProofs (maxSteps := 2000000) only [go_sem, ↓reduceIte, Nat.reduceAdd, Nat.reduceMul, Nat.reduceSub, Nat.reduceEqDiff, Nat.reduceLeDiff, Nat.reduceDiv, Nat.reduceMod, Nat.reduceBEq, Nat.reduceBNe, reduceCtorEq, Int.reduceLE, Int.reduceLT, Int.reduceToNat, Int.reduceNeg, Nat.reduceLT, Int.reduceEq, Int.reduceSub, Int.reduceAdd, Int.reduceMul, Nat.reducePow, E_29, A29, E_56, A56, A56_L0_eq, A56_L0b, E_54, A54, E_55, A55, c53, h, h.1, h.2, hx2, List.length_map, hf, hf1, hg, h57, beq_eq_false_iff_ne.2 hf, all_b1, o1, o2, o3, h58, Nat.le_refl, tk, List.length_set, w1, ite_self]
theorem c29f (s : List (List UInt8)) (t : Int) (i : Nat) (x : List UInt8) (p : List UInt8) (hp : s[i]? = some p) (hpl : p.length = 64) (hs : s.length ≤ 64) (hx : x.length ≤ 64) (ht : 0 ≤ t) : pc E 29 [.agg [sv s, .int .i64 1, .int .i64 t, .bool false], .int .i64 i, bv x] = some (.tup [.agg [sv (s.set i (over (x.take t.toNat) p)), .int .i64 (-1), .int .i64 0, .bool true], .int .i64 300]) := by
  have hi := (List.getElem?_eq_some_iff.1 hp).1
  have h : 0 ≤ (i : Int) ∧ (i : Int) < s.length := by omega
  have hx2 : ¬ ((64 : Int) < x.length) := by omega
  have hg := get_s1 hp
  have h57 := c57 p (by intro h; subst h; simp at hpl) (by omega)
  have hle : (x.take t.toNat).length ≤ p.length := by rw [List.length_take]; omega
  have o1 := over_row hle
  have o2 := over_len hle
  have o3 : ((over (x.take t.toNat) p).map b1).take p.length = (over (x.take t.toNat) p).map b1 := List.take_of_length_le (by simp [o2])
  have h58 := c58 s i (over (x.take t.toNat) p) hi (by omega)
  have tk : ((s.set i (over (x.take t.toNat) p)).map s1).take s.length = (s.set i (over (x.take t.toNat) p)).map s1 := List.take_of_length_le (by simp)
  have hk : mnI t x.length = ((x.take t.toNat).length : Int) := by rw [List.length_take]; unfold mnI; split <;> omega
  have k1 : (0 : Int) ≤ ((x.take t.toNat).length : Int) := by omega
  have k2 : ((x.take t.toNat).length : Int) ≤ x.length := by rw [List.length_take]; omega
  have k3 : (x.map b1).take (x.take t.toNat).length = (x.take t.toNat).map b1 := by rw [List.length_take, List.map_take, List.take_eq_take_iff]; simp
  generalize x.take t.toNat = x' at *
  rw [pc_eq]; simp +contextual -implicitDefEqProofs (maxSteps := 2000000) only [go_sem, ↓reduceIte, Nat.reduceAdd, Nat.reduceMul, Nat.reduceSub, Nat.reduceEqDiff, Nat.reduceLeDiff, Nat.reduceDiv, Nat.reduceMod, Nat.reduceBEq, Nat.reduceBNe, reduceCtorEq, Int.reduceLE, Int.reduceLT, Int.reduceToNat, Int.reduceNeg, Nat.reduceLT, Int.reduceEq, Int.reduceSub, Int.reduceAdd, Int.reduceMul, Nat.reducePow, hk, k1, k2, k3, E_29, A29, E_56, A56, A56_L0_eq, A56_L0b, E_54, A54, E_55, A55, c53, h, h.1, h.2, hx2, List.length_map, hg, h57, all_b1, o1, o2, o3, h58, Nat.le_refl, tk, List.length_set, ite_self]
end Go.Proofs.Ytjmnepfdhkabfaa
