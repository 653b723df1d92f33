/- Part of the proof: what functions of the program compute, over the evaluation that the engine's texts tie to the machine. -/
import Derived.Test.YtjmnepfdhkabfaaD2
namespace Go.Proofs.Ytjmnepfdhkabfaa
set_option maxRecDepth 100000
set_option maxHeartbeats 4000000
set_option linter.unusedSimpArgs false
set_option linter.unusedVariables false
open Go Go.Zv
theorem wr_nat {n : Nat} (h : n < 9223372036854775808) : IntKind.i64.wrap (n : Int) = n := by
  simp [IntKind.wrap, IntKind.signed, IntKind.bits]; omega
theorem wr_succ {n : Nat} (h : n + 1 < 9223372036854775808) : IntKind.i64.wrap ((n : Int) + 1) = ((n + 1 : Nat) : Int) := by
  have := wr_nat h; simpa using this
theorem laid_loop (l : List (List UInt8)) (hl : l.length ≤ 64) (i : Nat) (x p : List UInt8) (hi : l[i]? = some p) (hx : x.length ≤ p.length) (hp : p.length = 64) : ∀ (j k : Nat), k + j = l.length →
    (K E A80_L0 ⟨[(0, sv l), (1, .int .i64 i), (2, bv x), (7, .bs 2560 0 k), (8, .int .i64 k)], [], [(2560, .row 1 (((l.set i (over x p)).take k).map s1)), (1536, .row 1 [])], 0⟩).bind (blockR 0 (some [7]) [8, 9, 25, 27, 29, 38, 41]) =
    some (.ex .nrm ⟨[(7, .bs 2560 0 l.length)], [], [(2560, .row 1 ((l.set i (over x p)).map s1)), (1536, .row 1 [])], 0⟩)
  | 0, k, h => by
    have hk : ¬ ((k : Int) < l.length) := by omega
    have e : (l.set i (over x p)).take k = l.set i (over x p) := List.take_of_length_le (by simp; omega)
    have e2 : l.length = k := by omega
    rw [A80_L0_eq, e]
    simp +contextual -implicitDefEqProofs (maxSteps := 2000000) only [go_sem, ↓reduceIte, Nat.reduceAdd, Nat.reduceMul, Nat.reduceSub, Nat.reduceEqDiff, Nat.reduceLeDiff, Nat.reduceDiv, Nat.reduceMod, Nat.reduceBEq, Nat.reduceBNe, reduceCtorEq, Int.reduceLE, Int.reduceLT, Int.reduceToNat, Int.reduceNeg, Nat.reduceLT, Int.reduceEq, Int.reduceSub, Int.reduceAdd, Int.reduceMul, Nat.reducePow, A80_L0b, hk, List.length_map, e2, Int.lt_irrefl]
  | j + 1, k, h => by
    have hk : ((k : Int) < l.length) := by omega
    have hw := wr_succ (n := k) (by omega)
    have h0 : (0 : Int) ≤ (k : Int) := by omega
    have hb : k + 1 ≤ 1000000000 := by omega
    have ht : List.take k (((l.set i (over x p)).take k).map s1) = ((l.set i (over x p)).take k).map s1 := List.take_of_length_le (by simp; omega)
    have hln : (((l.set i (over x p)).take k).map s1).length = k := by simp; omega
    have ih := laid_loop l hl i x p hi hx hp j (k + 1) (by omega)
    have hlt : k < (l.set i (over x p)).length := by simp; omega
    rw [List.take_succ_eq_append_getElem hlt, List.map_append] at ih
    by_cases hki : k = i
    · subst hki
      have hg := get_s1 hi
      rw [List.getElem_set_self] at ih
      simp only [List.map_cons, List.map_nil, s1] at ih
      have b1' : x.length ≤ 1000000000 := by omega
      have b2 : (x.length : Int) ≤ p.length := by omega
      have b3 : x.length + (p.length - x.length) ≤ 1000000000 := by omega
      have t1 : (x.map b1).take x.length = x.map b1 := take_b1 x
      have t2 : ((p.map b1).drop x.length).length = p.length - x.length := by simp
      have t6 : ((p.map b1).drop x.length).all (fun x => x.length == 1) = true := by rw [List.all_eq_true]; intro y hy; exact List.all_eq_true.1 (all_b1 p) y (List.mem_of_mem_drop hy)
      have t7 : (0 : Int) ≤ x.length := by omega
      have t8 : (over x p).length = x.length + (p.length - x.length) := by simp [over]
      have t3 : x.map b1 ++ (p.map b1).drop x.length = (over x p).map b1 := by simp [over]
      have t4 : (over x p).length = x.length + (p.length - x.length) := by simp [over]
      have t5 : ((over x p).map b1).take (x.length + (p.length - x.length)) = (over x p).map b1 := List.take_of_length_le (by simp [over])
      rw [A80_L0_eq]
      simp +contextual -implicitDefEqProofs (maxSteps := 2000000) only [go_sem, ↓reduceIte, Nat.reduceAdd, Nat.reduceMul, Nat.reduceSub, Nat.reduceEqDiff, Nat.reduceLeDiff, Nat.reduceDiv, Nat.reduceMod, Nat.reduceBEq, Nat.reduceBNe, reduceCtorEq, Int.reduceLE, Int.reduceLT, Int.reduceToNat, Int.reduceNeg, Nat.reduceLT, Int.reduceEq, Int.reduceSub, Int.reduceAdd, Int.reduceMul, Nat.reducePow, A80_L0b, hk, hw, h0, hb, ht, hln, hg, List.length_map, all_b1, b1', b2, b3, t1, t2, t3, t5, t6, t7, t8, take_b1, Nat.le_refl, ih, bne_self_eq_false]
    · have hg' : l[k]? = some (l[k]'(by omega)) := List.getElem?_eq_getElem _
      have hg := get_s1 hg'
      rw [List.getElem_set_ne (by omega)] at ih
      simp only [List.map_cons, List.map_nil, s1] at ih
      have hne : ((k : Int) != i) = true := by simp; omega
      have hne2 : ¬ ((k : Int) = i) := by omega
      rw [A80_L0_eq]
      simp +contextual -implicitDefEqProofs (maxSteps := 2000000) only [go_sem, ↓reduceIte, Nat.reduceAdd, Nat.reduceMul, Nat.reduceSub, Nat.reduceEqDiff, Nat.reduceLeDiff, Nat.reduceDiv, Nat.reduceMod, Nat.reduceBEq, Nat.reduceBNe, reduceCtorEq, Int.reduceLE, Int.reduceLT, Int.reduceToNat, Int.reduceNeg, Nat.reduceLT, Int.reduceEq, Int.reduceSub, Int.reduceAdd, Int.reduceMul, Nat.reducePow, A80_L0b, hk, hw, h0, hb, ht, hln, hg, List.length_map, hne, hne2, ih]
theorem c80 (l : List (List UInt8)) (hl : l.length ≤ 64) (i : Nat) (x p : List UInt8) (hi : l[i]? = some p) (hx : x.length ≤ p.length) (hp : p.length = 64) :
    pc E 80 [sv l, .int .i64 i, bv x] = some (.os 1 ((l.set i (over x p)).map s1)) := by
  have ll := laid_loop l hl i x p hi hx hp l.length 0 (by omega)
  simp only [Int.ofNat_zero, Int.natCast_zero, List.take_zero, List.map_nil] at ll
  have tk : ((l.set i (over x p)).map s1).take l.length = (l.set i (over x p)).map s1 := List.take_of_length_le (by simp)
  rw [pc_eq]; simp +contextual -implicitDefEqProofs (maxSteps := 2000000) only [go_sem, ↓reduceIte, Nat.reduceAdd, Nat.reduceMul, Nat.reduceSub, Nat.reduceEqDiff, Nat.reduceLeDiff, Nat.reduceDiv, Nat.reduceMod, Nat.reduceBEq, Nat.reduceBNe, reduceCtorEq, Int.reduceLE, Int.reduceLT, Int.reduceToNat, Int.reduceNeg, Nat.reduceLT, Int.reduceEq, Int.reduceSub, Int.reduceAdd, Int.reduceMul, Nat.reducePow, E_80, A80, ll, List.length_map, List.length_set, Nat.le_refl, tk]
theorem tk_set (s : List (List UInt8)) (n : Nat) (y : List UInt8) : ((s.set n y).map s1).take s.length = (s.set n y).map s1 := List.take_of_length_le (by simp)
structure OKd (d : Dsk) : Prop where
  len1 : 1 ≤ d.sec.length
  len2 : d.sec.length ≤ 64
  all : ∀ s ∈ d.sec, s.length = 64
  fuse : d.fuse = -1 ∨ (1 ≤ d.fuse ∧ d.fuse ≤ 1099511627776)
  torn0 : 0 ≤ d.torn
  torn1 : d.torn ≤ 64
/-- what Write answers -/
def wr (d : Dsk) (i : Int) (x : List UInt8) : Dsk × Int :=
  if d.down = true then (d, 300) else
  if 0 ≤ i ∧ i < d.sec.length ∧ x.length ≤ 64 then
    if d.fuse = 1 then (⟨d.sec.set i.toNat (over (x.take d.torn.toNat) (d.sec[i.toNat]?.getD [])), -1, 0, true⟩, 300)
    else (⟨d.sec.set i.toNat (over x (d.sec[i.toNat]?.getD [])), if d.fuse > 1 then d.fuse - 1 else d.fuse, d.torn, false⟩, 0)
  else (d, 1)
theorem c29 (d : Dsk) (h : OKd d) (i : Int) (x : List UInt8) (hxl : x.length ≤ 1000000000) : pc E 29 [dv d, .int .i64 i, bv x] = some (.tup [dv (wr d i x).1, .int .i64 (wr d i x).2]) := by
  obtain ⟨s, f, t, w⟩ := d
  obtain ⟨h1, h2, h3, h4, h5, h6⟩ := h
  simp only at h1 h2 h3 h4 h5 h6
  cases w with
  | true => simp only [wr, if_true]; exact c29a s f t i x
  | false =>
    simp only [wr, Bool.false_eq_true, if_false]
    by_cases hi : 0 ≤ i ∧ i < s.length
    · by_cases hx : x.length ≤ 64
      · rw [if_pos ⟨hi.1, hi.2, hx⟩]
        have hget : s[i.toNat]? = some (s[i.toNat]'(by omega)) := List.getElem?_eq_getElem _
        have hpl := h3 _ (List.getElem_mem (l := s) (n := i.toNat) (by omega))
        rw [hget, Option.getD_some]
        generalize s[i.toNat]'(by omega) = p at hget hpl
        have hii : i = (i.toNat : Int) := by omega
        generalize i.toNat = n at *
        subst hii
        by_cases hf : f = 1
        · subst hf; simp only [if_true]; exact c29f s t n x p hget hpl h2 hx h5
        · rw [if_neg hf]
          by_cases hf1 : f > 1
          · simp only [if_pos hf1]; exact c29e s f t n x p hget hpl h2 hx hf hf1 (by omega)
          · simp only [if_neg hf1]; exact c29d s f t n x p hget hpl h2 hx hf hf1
      · rw [if_neg (by omega)]; exact c29c s f t i x hi (by omega)
    · rw [if_neg (by omega)]; exact c29b s f t i x hi
theorem c52 (d : Dsk) (h : OKd d) (i : Int) (x : List UInt8) (hxl : x.length ≤ 1000000000) : pc E 52 [dv d, .int .i64 i, bv x] = some (.tup [dv (wr d i x).1, .int .i64 (wr d i x).2]) := by
  obtain ⟨s, f, t, w⟩ := d
  obtain ⟨h1, h2, h3, h4, h5, h6⟩ := h
  simp only at h1 h2 h3 h4 h5 h6
  cases w with
  | true => simp only [wr, if_true]; rw [pc_eq]; simp +contextual -implicitDefEqProofs (maxSteps := 2000000) only [go_sem, ↓reduceIte, Nat.reduceAdd, Nat.reduceMul, Nat.reduceSub, Nat.reduceEqDiff, Nat.reduceLeDiff, Nat.reduceDiv, Nat.reduceMod, Nat.reduceBEq, Nat.reduceBNe, reduceCtorEq, Int.reduceLE, Int.reduceLT, Int.reduceToNat, Int.reduceNeg, Nat.reduceLT, Int.reduceEq, Int.reduceSub, Int.reduceAdd, Int.reduceMul, Nat.reducePow, E_52, A52]
  | false =>
    simp only [wr, Bool.false_eq_true, if_false]
    by_cases hi : 0 ≤ i ∧ i < s.length
    · have n1 : ¬ (i < 0) := by omega
      have n2 : ¬ ((s.length : Int) ≤ i) := by omega
      by_cases hx : x.length ≤ 64
      · rw [if_pos ⟨hi.1, hi.2, hx⟩]
        have n3 : ¬ ((64 : Int) < x.length) := by omega
        have hget : s[i.toNat]? = some (s[i.toNat]'(by omega)) := List.getElem?_eq_getElem _
        have hpl := h3 _ (List.getElem_mem (l := s) (n := i.toNat) (by omega))
        rw [hget, Option.getD_some]
        generalize s[i.toNat]'(by omega) = p at hget hpl
        have hii : i = (i.toNat : Int) := by omega
        generalize i.toNat = n at *
        subst hii
        by_cases hf : f = 1
        · subst hf; simp only [if_true]
          have hk : mnI t x.length = ((x.take t.toNat).length : Int) := by rw [List.length_take]; unfold mnI; split <;> omega
          have k1 : (0 : Int) ≤ ((x.take t.toNat).length : Int) := by omega
          have k2 : ((x.take t.toNat).length : Int) ≤ x.length := by rw [List.length_take]; omega
          have k3 : (x.map b1).take (x.take t.toNat).length = (x.take t.toNat).map b1 := by rw [List.length_take, List.map_take, List.take_eq_take_iff]; simp
          have k4 : (x.take t.toNat).length ≤ p.length := by rw [List.length_take]; omega
          generalize x.take t.toNat = x' at *
          have h80 := c80 s h2 n x' p hget k4 hpl
          rw [pc_eq]; simp +contextual -implicitDefEqProofs (maxSteps := 2000000) only [go_sem, ↓reduceIte, Nat.reduceAdd, Nat.reduceMul, Nat.reduceSub, Nat.reduceEqDiff, Nat.reduceLeDiff, Nat.reduceDiv, Nat.reduceMod, Nat.reduceBEq, Nat.reduceBNe, reduceCtorEq, Int.reduceLE, Int.reduceLT, Int.reduceToNat, Int.reduceNeg, Nat.reduceLT, Int.reduceEq, Int.reduceSub, Int.reduceAdd, Int.reduceMul, Nat.reducePow, E_52, A52, n1, n2, n3, List.length_map, all_b1, hk, k1, k2, k3, h80, ite_self, take_s1, tk_set, List.length_set, Nat.le_refl]
        · rw [if_neg hf]
          have h80 := c80 s h2 n x p hget (by omega) hpl
          have hff : (f == 1) = false := by simp [hf]
          by_cases hf1 : f > 1
          · have w1 : IntKind.i64.wrap (f - 1) = f - 1 := wrap_small (by omega) (by omega)
            simp only [if_pos hf1]; rw [pc_eq]; simp +contextual -implicitDefEqProofs (maxSteps := 2000000) only [go_sem, ↓reduceIte, Nat.reduceAdd, Nat.reduceMul, Nat.reduceSub, Nat.reduceEqDiff, Nat.reduceLeDiff, Nat.reduceDiv, Nat.reduceMod, Nat.reduceBEq, Nat.reduceBNe, reduceCtorEq, Int.reduceLE, Int.reduceLT, Int.reduceToNat, Int.reduceNeg, Nat.reduceLT, Int.reduceEq, Int.reduceSub, Int.reduceAdd, Int.reduceMul, Nat.reducePow, E_52, A52, n1, n2, n3, List.length_map, all_b1, hf, hff, h80, ite_self, take_s1, tk_set, List.length_set, Nat.le_refl, hf1, w1]
          · simp only [if_neg hf1]; rw [pc_eq]; simp +contextual -implicitDefEqProofs (maxSteps := 2000000) only [go_sem, ↓reduceIte, Nat.reduceAdd, Nat.reduceMul, Nat.reduceSub, Nat.reduceEqDiff, Nat.reduceLeDiff, Nat.reduceDiv, Nat.reduceMod, Nat.reduceBEq, Nat.reduceBNe, reduceCtorEq, Int.reduceLE, Int.reduceLT, Int.reduceToNat, Int.reduceNeg, Nat.reduceLT, Int.reduceEq, Int.reduceSub, Int.reduceAdd, Int.reduceMul, Nat.reducePow, E_52, A52, n1, n2, n3, List.length_map, all_b1, hf, hff, h80, ite_self, take_s1, tk_set, List.length_set, Nat.le_refl, hf1]
      · rw [if_neg (by omega)]
        have n3 : ((64 : Int) < x.length) := by omega
        rw [pc_eq]; simp +contextual -implicitDefEqProofs (maxSteps := 2000000) only [go_sem, ↓reduceIte, Nat.reduceAdd, Nat.reduceMul, Nat.reduceSub, Nat.reduceEqDiff, Nat.reduceLeDiff, Nat.reduceDiv, Nat.reduceMod, Nat.reduceBEq, Nat.reduceBNe, reduceCtorEq, Int.reduceLE, Int.reduceLT, Int.reduceToNat, Int.reduceNeg, Nat.reduceLT, Int.reduceEq, Int.reduceSub, Int.reduceAdd, Int.reduceMul, Nat.reducePow, E_52, A52, n1, n2, n3, List.length_map]
    · rw [if_neg (by omega)]
      by_cases n1 : i < 0
      · rw [pc_eq]; simp +contextual -implicitDefEqProofs (maxSteps := 2000000) only [go_sem, ↓reduceIte, Nat.reduceAdd, Nat.reduceMul, Nat.reduceSub, Nat.reduceEqDiff, Nat.reduceLeDiff, Nat.reduceDiv, Nat.reduceMod, Nat.reduceBEq, Nat.reduceBNe, reduceCtorEq, Int.reduceLE, Int.reduceLT, Int.reduceToNat, Int.reduceNeg, Nat.reduceLT, Int.reduceEq, Int.reduceSub, Int.reduceAdd, Int.reduceMul, Nat.reducePow, E_52, A52, n1, List.length_map]
      · have n2 : ((s.length : Int) ≤ i) := by omega
        rw [pc_eq]; simp +contextual -implicitDefEqProofs (maxSteps := 2000000) only [go_sem, ↓reduceIte, Nat.reduceAdd, Nat.reduceMul, Nat.reduceSub, Nat.reduceEqDiff, Nat.reduceLeDiff, Nat.reduceDiv, Nat.reduceMod, Nat.reduceBEq, Nat.reduceBNe, reduceCtorEq, Int.reduceLE, Int.reduceLT, Int.reduceToNat, Int.reduceNeg, Nat.reduceLT, Int.reduceEq, Int.reduceSub, Int.reduceAdd, Int.reduceMul, Nat.reducePow, E_52, A52, n1, n2, List.length_map]
end Go.Proofs.Ytjmnepfdhkabfaa
