/- Part of the proof: the evaluation of the program's code and its tie to the machine, or what functions of the program compute over it. -/
import Derived.Test.YtnecdcaaknhgpaaGreatPart2
set_option maxRecDepth 100000
set_option maxHeartbeats 4000000
set_option linter.unusedSimpArgs false
set_option linter.unusedVariables false
namespace Go.Proofs.YtnecdcaaknhgpaaGreat
open Go Go.Zv
def mayQ (a : Arm) (x0 x1 x2 : Int) : Bool := decide (12 * a.lo0 ≤ x0) && (decide (x0 ≤ 12 * a.hi0) && (decide (12 * a.lo1 ≤ x1) && (decide (x1 ≤ 12 * a.hi1) && (decide (12 * a.lo2 ≤ x2) && decide (x2 ≤ 12 * a.hi2)))))
theorem c17 (a : Arm) (h : OKa a) (x0 x1 x2 : Int) : pc E 17 [av a, jv x0 x1 x2] = some (.bool (mayQ a x0 x1 x2)) := by
 have j0 := h.j0
 have j1 := h.j1
 have j2 := h.j2
 have w1 : IntKind.i64.wrap (12 * a.lo0) = 12 * a.lo0 := wrap_small (by omega) (by omega)
 have w2 : IntKind.i64.wrap (12 * a.hi0) = 12 * a.hi0 := wrap_small (by omega) (by omega)
 have w3 : IntKind.i64.wrap (12 * a.lo1) = 12 * a.lo1 := wrap_small (by omega) (by omega)
 have w4 : IntKind.i64.wrap (12 * a.hi1) = 12 * a.hi1 := wrap_small (by omega) (by omega)
 have w5 : IntKind.i64.wrap (12 * a.lo2) = 12 * a.lo2 := wrap_small (by omega) (by omega)
 have w6 : IntKind.i64.wrap (12 * a.hi2) = 12 * a.hi2 := wrap_small (by omega) (by omega)
 have hv : mayQ a x0 x1 x2 = (!decide (x0 < 12 * a.lo0) && (!decide (12 * a.hi0 < x0) && (!decide (x1 < 12 * a.lo1) && (!decide (12 * a.hi1 < x1) && (!decide (x2 < 12 * a.lo2) && !decide (12 * a.hi2 < x2)))))) := by
  unfold mayQ
  simp only [← decide_not, Int.not_lt]
 rw [hv]
 by_cases k1 : x0 < 12 * a.lo0
 ·rw [pc_eq]; simp +contextual -implicitDefEqProofs (maxSteps := 2000000) only [go_sem, ↓reduceIte, E_17, A17, A17_L0_eq, A17_L0b, w1, w2, w3, w4, w5, w6, k1, decide_true, Bool.not_true, Bool.false_and]
 by_cases k2 : 12 * a.hi0 < x0
 ·rw [pc_eq]; simp +contextual -implicitDefEqProofs (maxSteps := 2000000) only [go_sem, ↓reduceIte, E_17, A17, A17_L0_eq, A17_L0b, w1, w2, w3, w4, w5, w6, k1, k2, decide_true, decide_false, Bool.not_false, Bool.true_and, Bool.not_true, Bool.false_and]
 by_cases k3 : x1 < 12 * a.lo1
 ·rw [pc_eq]; simp +contextual -implicitDefEqProofs (maxSteps := 2000000) only [go_sem, ↓reduceIte, E_17, A17, A17_L0_eq, A17_L0b, w1, w2, w3, w4, w5, w6, k1, k2, k3, decide_true, decide_false, Bool.not_false, Bool.true_and, Bool.not_true, Bool.false_and]
 by_cases k4 : 12 * a.hi1 < x1
 ·rw [pc_eq]; simp +contextual -implicitDefEqProofs (maxSteps := 2000000) only [go_sem, ↓reduceIte, E_17, A17, A17_L0_eq, A17_L0b, w1, w2, w3, w4, w5, w6, k1, k2, k3, k4, decide_true, decide_false, Bool.not_false, Bool.true_and, Bool.not_true, Bool.false_and]
 by_cases k5 : x2 < 12 * a.lo2
 ·rw [pc_eq]; simp +contextual -implicitDefEqProofs (maxSteps := 2000000) only [go_sem, ↓reduceIte, E_17, A17, A17_L0_eq, A17_L0b, w1, w2, w3, w4, w5, w6, k1, k2, k3, k4, k5, decide_true, decide_false, Bool.not_false, Bool.true_and, Bool.not_true, Bool.false_and]
 by_cases k6 : 12 * a.hi2 < x2
 ·rw [pc_eq]; simp +contextual -implicitDefEqProofs (maxSteps := 2000000) only [go_sem, ↓reduceIte, E_17, A17, A17_L0_eq, A17_L0b, w1, w2, w3, w4, w5, w6, k1, k2, k3, k4, k5, k6, decide_true, decide_false, Bool.not_false, Bool.true_and, Bool.not_true, Bool.false_and]
 ·rw [pc_eq]; simp +contextual -implicitDefEqProofs (maxSteps := 2000000) only [go_sem, ↓reduceIte, E_17, A17, A17_L0_eq, A17_L0b, w1, w2, w3, w4, w5, w6, k1, k2, k3, k4, k5, k6, decide_true, decide_false, Bool.not_false, Bool.true_and, Bool.not_true, Bool.false_and]
def smallB (c : Cl) : Bool := decide ((c.fx.length : Int) ≤ 16) && (decide ((c.zn.length : Int) ≤ 16) && (decide ((c.pl.length : Int) ≤ 16) && (decide ((c.pt.length : Int) ≤ 8) && decide ((c.bt.length : Int) ≤ 16))))
noncomputable def fitB (c : Cl) (x0 x1 x2 y0 y1 y2 : Int) (br : List Bool) : Bool := smallB c && (rightB c && (decide ((br.length : Int) = c.zn.length) && (mayQ c.a x0 x1 x2 && mayQ c.b y0 y1 y2)))
def bb1 (b : Bool) : List LV := [.bool b]
theorem right_ok {c : Cl} (h : rightB c = true) : OKa c.a ∧ OKa c.b ∧ restB c = true := by
 unfold rightB armOK at h
 simp only [Bool.and_eq_true] at h
 exact ⟨okB_iff.1 h.1.1, okB_iff.1 h.2.1.1, h.2.2.2.2.2⟩
theorem c7 (c : Cl) (x0 x1 x2 y0 y1 y2 : Int) (br : List Bool) : pc E 7 [.agg (cec c.cel), pos x0 x1 x2 y0 y1 y2, .vs (br.map bb1)] = some (.bool (fitB c x0 x1 x2 y0 y1 y2 br)) := by
 have z1 : (c.fx.map Go.Geo.p1).length = c.fx.length := List.length_map ..
 have z2 : (c.zn.map Go.Geo.p1).length = c.zn.length := List.length_map ..
 have z3 : (c.pl.map Go.Geo.plv).length = c.pl.length := List.length_map ..
 have z4 : (c.pt.map Go.Geo.prv).length = c.pt.length := List.length_map ..
 have z5 : (c.bt.map Go.Geo.c1).length = c.bt.length := List.length_map ..
 have z6 : (br.map bb1).length = br.length := List.length_map ..
 unfold fitB smallB
 by_cases k1 : (16 : Int) < c.fx.length
 ·rw [decide_eq_false (show ¬ (c.fx.length : Int) ≤ 16 by omega)]
  unfold cec; rw [pc_eq]; simp +contextual -implicitDefEqProofs (maxSteps := 2000000) only [go_sem, ↓reduceIte, E_7, A7, z1, k1, Bool.false_and]
 rw [decide_eq_true (show (c.fx.length : Int) ≤ 16 by omega)]
 by_cases k2 : (16 : Int) < c.zn.length
 ·rw [decide_eq_false (show ¬ (c.zn.length : Int) ≤ 16 by omega)]
  unfold cec; rw [pc_eq]; simp +contextual -implicitDefEqProofs (maxSteps := 2000000) only [go_sem, ↓reduceIte, E_7, A7, z1, z2, k1, k2, Bool.false_and, Bool.and_false]
 rw [decide_eq_true (show (c.zn.length : Int) ≤ 16 by omega)]
 by_cases k3 : (16 : Int) < c.pl.length
 ·rw [decide_eq_false (show ¬ (c.pl.length : Int) ≤ 16 by omega)]
  unfold cec; rw [pc_eq]; simp +contextual -implicitDefEqProofs (maxSteps := 2000000) only [go_sem, ↓reduceIte, E_7, A7, z1, z2, z3, k1, k2, k3, Bool.false_and, Bool.and_false]
 rw [decide_eq_true (show (c.pl.length : Int) ≤ 16 by omega)]
 by_cases k4 : (8 : Int) < c.pt.length
 ·rw [decide_eq_false (show ¬ (c.pt.length : Int) ≤ 8 by omega)]
  unfold cec; rw [pc_eq]; simp +contextual -implicitDefEqProofs (maxSteps := 2000000) only [go_sem, ↓reduceIte, E_7, A7, z1, z2, z3, z4, k1, k2, k3, k4, Bool.false_and, Bool.and_false]
 rw [decide_eq_true (show (c.pt.length : Int) ≤ 8 by omega)]
 by_cases k5 : (16 : Int) < c.bt.length
 ·rw [decide_eq_false (show ¬ (c.bt.length : Int) ≤ 16 by omega)]
  unfold cec; rw [pc_eq]; simp +contextual -implicitDefEqProofs (maxSteps := 2000000) only [go_sem, ↓reduceIte, E_7, A7, z1, z2, z3, z4, z5, k1, k2, k3, k4, k5, Bool.false_and, Bool.and_false]
 rw [decide_eq_true (show (c.bt.length : Int) ≤ 16 by omega)]
 have o := c16 c (by omega)
 unfold cec at o
 cases hr : rightB c with
 | false =>
   rw [hr] at o
   unfold cec; rw [pc_eq]; simp +contextual -implicitDefEqProofs (maxSteps := 2000000) only [go_sem, ↓reduceIte, E_7, A7, z1, z2, z3, z4, z5, k1, k2, k3, k4, k5, o, Bool.false_and, Bool.and_false]
 | true =>
   rw [hr] at o
   obtain ⟨ha, hb, _⟩ := right_ok hr
   have oa := c17 c.a ha x0 x1 x2
   have ob := c17 c.b hb y0 y1 y2
   by_cases k6 : (br.length : Int) = c.zn.length
   ·have k6' : ((br.length : Int) == c.zn.length) = true := by simp [k6]
    cases h1 : mayQ c.a x0 x1 x2 <;> rw [h1] at oa
    ·unfold cec; rw [pc_eq]; simp +contextual -implicitDefEqProofs (maxSteps := 2000000) only [go_sem, ↓reduceIte, E_7, A7, z1, z2, z3, z4, z5, z6, k1, k2, k3, k4, k5, o, k6', oa, Bool.false_and, Bool.and_false]
    ·unfold cec; rw [pc_eq]; simp +contextual -implicitDefEqProofs (maxSteps := 2000000) only [go_sem, ↓reduceIte, E_7, A7, z1, z2, z3, z4, z5, z6, k1, k2, k3, k4, k5, o, k6, k6', oa, ob, decide_true, Bool.true_and, beq_self_eq_true]
   ·have k6' : ((br.length : Int) == c.zn.length) = false := beq_eq_false_iff_ne.2 k6
    unfold cec; rw [pc_eq]; simp +contextual -implicitDefEqProofs (maxSteps := 2000000) only [go_sem, ↓reduceIte, E_7, A7, z1, z2, z3, z4, z5, z6, k1, k2, k3, k4, k5, o, k6, k6', decide_false, Bool.false_and, Bool.and_false]
end Go.Proofs.YtnecdcaaknhgpaaGreat

namespace Go.Proofs.YtnecdcaaknhgpaaGreat
open Go Go.Zv
def farW (i w : Int) : Int := mxI (w64 (i - w)) (w64 (0 - w64 (i - w)))
def frow (a k : Int) : List LV := [.int .i64 1, .int .i64 a, .int .i64 k, .int .i64 0]
def frw (most i w a k : Int) : List (List LV) := if most < farW i w then [frow a k] else []
theorem tk_all (R : List (List LV)) : R.take R.length = R := List.take_length
theorem tk_one (R : List (List LV)) (r : List LV) : (R ++ [r]).take (R.length + 1) = R ++ [r] := List.take_of_length_le (by simp)
theorem f75_00 (V IS : List LV) (i0 i1 i2 most w : Int) (R : List (List LV)) (hl : V.length = 57) (hs : ∀ r id, LV.subs r id V = V) (hs2 : ∀ r id, LV.subs r id IS = IS) (hv : V[44]? = some (.int .i64 w)) (hr : R.length ≤ 1000) :
  (K E A22_L0 ⟨[(1, .ptr 256 0), (3, .bs 768 0 (R).length), (4, .int .i64 most), (5, .int .i64 0), (23, .agg IS), (24, .int .i64 0), (28, .agg [.int .i64 i0, .int .i64 i1, .int .i64 i2]), (29, .int .i64 0)], [], [(768, .row 4 (R)), (512, .row 4 []), (256, .box V)], 0⟩).bind (blockR 2 (some [1, 3, 4, 23, 24]) [7, 8, 9, 51]) = (K E A22_L0 ⟨[(1, .ptr 256 0), (3, .bs 768 0 (R ++ frw most i0 w 0 0).length), (4, .int .i64 most), (5, .int .i64 0), (23, .agg IS), (24, .int .i64 0), (28, .agg [.int .i64 i0, .int .i64 i1, .int .i64 i2]), (29, .int .i64 1)], [], [(768, .row 4 (R ++ frw most i0 w 0 0)), (512, .row 4 []), (256, .box V)], 0⟩).bind (blockR 2 (some [1, 3, 4, 23, 24]) [7, 8, 9, 51]) := by
 have t0 := tk_all R
 have t1 := tk_one R
 have hb : R.length + 1 ≤ 1000000000 := by omega
 unfold frw
 have hf : farW i0 w = mxI (IntKind.i64.wrap (i0 - w)) (IntKind.i64.wrap (0 - IntKind.i64.wrap (i0 - w))) := rfl
 rw [hf]
 by_cases h : most < mxI (IntKind.i64.wrap (i0 - w)) (IntKind.i64.wrap (0 - IntKind.i64.wrap (i0 - w)))
 ·simp only [if_pos h, frow, List.length_append, List.length_cons, List.length_nil, Nat.zero_add]
  conv => lhs; rw [A22_L0_eq]
  simp +contextual -implicitDefEqProofs (maxSteps := 2000000) only [go_sem, ↓reduceIte, A22_L0b, hl, hs, hs2, hv, t0, t1, hb, h, Nat.le_refl]
 ·simp only [if_neg h, List.append_nil]
  conv => lhs; rw [A22_L0_eq]
  simp +contextual -implicitDefEqProofs (maxSteps := 2000000) only [go_sem, ↓reduceIte, A22_L0b, hl, hs, hs2, hv, t0, hb, h, Nat.le_refl]
theorem f75_01 (V IS : List LV) (i0 i1 i2 most w : Int) (R : List (List LV)) (hl : V.length = 57) (hs : ∀ r id, LV.subs r id V = V) (hs2 : ∀ r id, LV.subs r id IS = IS) (hv : V[45]? = some (.int .i64 w)) (hr : R.length ≤ 1000) :
  (K E A22_L0 ⟨[(1, .ptr 256 0), (3, .bs 768 0 (R).length), (4, .int .i64 most), (5, .int .i64 0), (23, .agg IS), (24, .int .i64 0), (28, .agg [.int .i64 i0, .int .i64 i1, .int .i64 i2]), (29, .int .i64 1)], [], [(768, .row 4 (R)), (512, .row 4 []), (256, .box V)], 0⟩).bind (blockR 2 (some [1, 3, 4, 23, 24]) [7, 8, 9, 51]) = (K E A22_L0 ⟨[(1, .ptr 256 0), (3, .bs 768 0 (R ++ frw most i1 w 0 1).length), (4, .int .i64 most), (5, .int .i64 0), (23, .agg IS), (24, .int .i64 0), (28, .agg [.int .i64 i0, .int .i64 i1, .int .i64 i2]), (29, .int .i64 2)], [], [(768, .row 4 (R ++ frw most i1 w 0 1)), (512, .row 4 []), (256, .box V)], 0⟩).bind (blockR 2 (some [1, 3, 4, 23, 24]) [7, 8, 9, 51]) := by
 have t0 := tk_all R
 have t1 := tk_one R
 have hb : R.length + 1 ≤ 1000000000 := by omega
 unfold frw
 have hf : farW i1 w = mxI (IntKind.i64.wrap (i1 - w)) (IntKind.i64.wrap (0 - IntKind.i64.wrap (i1 - w))) := rfl
 rw [hf]
 by_cases h : most < mxI (IntKind.i64.wrap (i1 - w)) (IntKind.i64.wrap (0 - IntKind.i64.wrap (i1 - w)))
 ·simp only [if_pos h, frow, List.length_append, List.length_cons, List.length_nil, Nat.zero_add]
  conv => lhs; rw [A22_L0_eq]
  simp +contextual -implicitDefEqProofs (maxSteps := 2000000) only [go_sem, ↓reduceIte, A22_L0b, hl, hs, hs2, hv, t0, t1, hb, h, Nat.le_refl]
 ·simp only [if_neg h, List.append_nil]
  conv => lhs; rw [A22_L0_eq]
  simp +contextual -implicitDefEqProofs (maxSteps := 2000000) only [go_sem, ↓reduceIte, A22_L0b, hl, hs, hs2, hv, t0, hb, h, Nat.le_refl]
theorem f75_02 (V IS : List LV) (i0 i1 i2 most w : Int) (R : List (List LV)) (hl : V.length = 57) (hs : ∀ r id, LV.subs r id V = V) (hs2 : ∀ r id, LV.subs r id IS = IS) (hv : V[46]? = some (.int .i64 w)) (hr : R.length ≤ 1000) :
  (K E A22_L0 ⟨[(1, .ptr 256 0), (3, .bs 768 0 (R).length), (4, .int .i64 most), (5, .int .i64 0), (23, .agg IS), (24, .int .i64 0), (28, .agg [.int .i64 i0, .int .i64 i1, .int .i64 i2]), (29, .int .i64 2)], [], [(768, .row 4 (R)), (512, .row 4 []), (256, .box V)], 0⟩).bind (blockR 2 (some [1, 3, 4, 23, 24]) [7, 8, 9, 51]) = (K E A22_L0 ⟨[(1, .ptr 256 0), (3, .bs 768 0 (R ++ frw most i2 w 0 2).length), (4, .int .i64 most), (5, .int .i64 0), (23, .agg IS), (24, .int .i64 0), (28, .agg [.int .i64 i0, .int .i64 i1, .int .i64 i2]), (29, .int .i64 3)], [], [(768, .row 4 (R ++ frw most i2 w 0 2)), (512, .row 4 []), (256, .box V)], 0⟩).bind (blockR 2 (some [1, 3, 4, 23, 24]) [7, 8, 9, 51]) := by
 have t0 := tk_all R
 have t1 := tk_one R
 have hb : R.length + 1 ≤ 1000000000 := by omega
 unfold frw
 have hf : farW i2 w = mxI (IntKind.i64.wrap (i2 - w)) (IntKind.i64.wrap (0 - IntKind.i64.wrap (i2 - w))) := rfl
 rw [hf]
 by_cases h : most < mxI (IntKind.i64.wrap (i2 - w)) (IntKind.i64.wrap (0 - IntKind.i64.wrap (i2 - w)))
 ·simp only [if_pos h, frow, List.length_append, List.length_cons, List.length_nil, Nat.zero_add]
  conv => lhs; rw [A22_L0_eq]
  simp +contextual -implicitDefEqProofs (maxSteps := 2000000) only [go_sem, ↓reduceIte, A22_L0b, hl, hs, hs2, hv, t0, t1, hb, h, Nat.le_refl]
 ·simp only [if_neg h, List.append_nil]
  conv => lhs; rw [A22_L0_eq]
  simp +contextual -implicitDefEqProofs (maxSteps := 2000000) only [go_sem, ↓reduceIte, A22_L0b, hl, hs, hs2, hv, t0, hb, h, Nat.le_refl]
theorem g75_0 (V IS : List LV) (i0 i1 i2 most w0 w1 w2 : Int) (R : List (List LV)) (hl : V.length = 57) (hs : ∀ r id, LV.subs r id V = V) (hs2 : ∀ r id, LV.subs r id IS = IS) (hv0 : V[44]? = some (.int .i64 w0)) (hv1 : V[45]? = some (.int .i64 w1)) (hv2 : V[46]? = some (.int .i64 w2)) (hr : R.length ≤ 900) :
  (K E A22_L0 ⟨[(1, .ptr 256 0), (3, .bs 768 0 (R).length), (4, .int .i64 most), (5, .int .i64 0), (23, .agg IS), (24, .int .i64 0), (28, .agg [.int .i64 i0, .int .i64 i1, .int .i64 i2]), (29, .int .i64 0)], [], [(768, .row 4 (R)), (512, .row 4 []), (256, .box V)], 0⟩).bind (blockR 2 (some [1, 3, 4, 23, 24]) [7, 8, 9, 51]) = some (.ex .nrm ⟨[(1, .ptr 256 0), (3, .bs 768 0 (R ++ frw most i0 w0 0 0 ++ frw most i1 w1 0 1 ++ frw most i2 w2 0 2).length), (4, .int .i64 most), (23, .agg IS), (24, .int .i64 0)], [], [(768, .row 4 (R ++ frw most i0 w0 0 0 ++ frw most i1 w1 0 1 ++ frw most i2 w2 0 2)), (512, .row 4 []), (256, .box V)], 0⟩) := by
 have l0 : ∀ i w a k : Int, (frw most i w a k).length ≤ 1 := fun i w a k => by unfold frw; split <;> simp
 have a0 := l0 i0 w0 0 0
 have a1 := l0 i1 w1 0 1
 rw [f75_00 V IS i0 i1 i2 most w0 R hl hs hs2 hv0 (by omega), f75_01 V IS i0 i1 i2 most w1 _ hl hs hs2 hv1 (by rw [List.length_append]; omega), f75_02 V IS i0 i1 i2 most w2 _ hl hs hs2 hv2 (by rw [List.length_append, List.length_append]; omega)]
 rw [A22_L0_eq]
 simp +contextual -implicitDefEqProofs (maxSteps := 2000000) only [go_sem, ↓reduceIte, A22_L0b]
theorem f75_10 (V IS : List LV) (i0 i1 i2 most w : Int) (R : List (List LV)) (hl : V.length = 57) (hs : ∀ r id, LV.subs r id V = V) (hs2 : ∀ r id, LV.subs r id IS = IS) (hv : V[47]? = some (.int .i64 w)) (hr : R.length ≤ 1000) :
  (K E A22_L0 ⟨[(1, .ptr 256 0), (3, .bs 768 0 (R).length), (4, .int .i64 most), (5, .int .i64 1), (23, .agg IS), (24, .int .i64 1), (28, .agg [.int .i64 i0, .int .i64 i1, .int .i64 i2]), (29, .int .i64 0)], [], [(768, .row 4 (R)), (512, .row 4 []), (256, .box V)], 0⟩).bind (blockR 2 (some [1, 3, 4, 23, 24]) [7, 8, 9, 51]) = (K E A22_L0 ⟨[(1, .ptr 256 0), (3, .bs 768 0 (R ++ frw most i0 w 1 0).length), (4, .int .i64 most), (5, .int .i64 1), (23, .agg IS), (24, .int .i64 1), (28, .agg [.int .i64 i0, .int .i64 i1, .int .i64 i2]), (29, .int .i64 1)], [], [(768, .row 4 (R ++ frw most i0 w 1 0)), (512, .row 4 []), (256, .box V)], 0⟩).bind (blockR 2 (some [1, 3, 4, 23, 24]) [7, 8, 9, 51]) := by
 have t0 := tk_all R
 have t1 := tk_one R
 have hb : R.length + 1 ≤ 1000000000 := by omega
 unfold frw
 have hf : farW i0 w = mxI (IntKind.i64.wrap (i0 - w)) (IntKind.i64.wrap (0 - IntKind.i64.wrap (i0 - w))) := rfl
 rw [hf]
 by_cases h : most < mxI (IntKind.i64.wrap (i0 - w)) (IntKind.i64.wrap (0 - IntKind.i64.wrap (i0 - w)))
 ·simp only [if_pos h, frow, List.length_append, List.length_cons, List.length_nil, Nat.zero_add]
  conv => lhs; rw [A22_L0_eq]
  simp +contextual -implicitDefEqProofs (maxSteps := 2000000) only [go_sem, ↓reduceIte, A22_L0b, hl, hs, hs2, hv, t0, t1, hb, h, Nat.le_refl]
 ·simp only [if_neg h, List.append_nil]
  conv => lhs; rw [A22_L0_eq]
  simp +contextual -implicitDefEqProofs (maxSteps := 2000000) only [go_sem, ↓reduceIte, A22_L0b, hl, hs, hs2, hv, t0, hb, h, Nat.le_refl]
theorem f75_11 (V IS : List LV) (i0 i1 i2 most w : Int) (R : List (List LV)) (hl : V.length = 57) (hs : ∀ r id, LV.subs r id V = V) (hs2 : ∀ r id, LV.subs r id IS = IS) (hv : V[48]? = some (.int .i64 w)) (hr : R.length ≤ 1000) :
  (K E A22_L0 ⟨[(1, .ptr 256 0), (3, .bs 768 0 (R).length), (4, .int .i64 most), (5, .int .i64 1), (23, .agg IS), (24, .int .i64 1), (28, .agg [.int .i64 i0, .int .i64 i1, .int .i64 i2]), (29, .int .i64 1)], [], [(768, .row 4 (R)), (512, .row 4 []), (256, .box V)], 0⟩).bind (blockR 2 (some [1, 3, 4, 23, 24]) [7, 8, 9, 51]) = (K E A22_L0 ⟨[(1, .ptr 256 0), (3, .bs 768 0 (R ++ frw most i1 w 1 1).length), (4, .int .i64 most), (5, .int .i64 1), (23, .agg IS), (24, .int .i64 1), (28, .agg [.int .i64 i0, .int .i64 i1, .int .i64 i2]), (29, .int .i64 2)], [], [(768, .row 4 (R ++ frw most i1 w 1 1)), (512, .row 4 []), (256, .box V)], 0⟩).bind (blockR 2 (some [1, 3, 4, 23, 24]) [7, 8, 9, 51]) := by
 have t0 := tk_all R
 have t1 := tk_one R
 have hb : R.length + 1 ≤ 1000000000 := by omega
 unfold frw
 have hf : farW i1 w = mxI (IntKind.i64.wrap (i1 - w)) (IntKind.i64.wrap (0 - IntKind.i64.wrap (i1 - w))) := rfl
 rw [hf]
 by_cases h : most < mxI (IntKind.i64.wrap (i1 - w)) (IntKind.i64.wrap (0 - IntKind.i64.wrap (i1 - w)))
 ·simp only [if_pos h, frow, List.length_append, List.length_cons, List.length_nil, Nat.zero_add]
  conv => lhs; rw [A22_L0_eq]
  simp +contextual -implicitDefEqProofs (maxSteps := 2000000) only [go_sem, ↓reduceIte, A22_L0b, hl, hs, hs2, hv, t0, t1, hb, h, Nat.le_refl]
 ·simp only [if_neg h, List.append_nil]
  conv => lhs; rw [A22_L0_eq]
  simp +contextual -implicitDefEqProofs (maxSteps := 2000000) only [go_sem, ↓reduceIte, A22_L0b, hl, hs, hs2, hv, t0, hb, h, Nat.le_refl]
theorem f75_12 (V IS : List LV) (i0 i1 i2 most w : Int) (R : List (List LV)) (hl : V.length = 57) (hs : ∀ r id, LV.subs r id V = V) (hs2 : ∀ r id, LV.subs r id IS = IS) (hv : V[49]? = some (.int .i64 w)) (hr : R.length ≤ 1000) :
  (K E A22_L0 ⟨[(1, .ptr 256 0), (3, .bs 768 0 (R).length), (4, .int .i64 most), (5, .int .i64 1), (23, .agg IS), (24, .int .i64 1), (28, .agg [.int .i64 i0, .int .i64 i1, .int .i64 i2]), (29, .int .i64 2)], [], [(768, .row 4 (R)), (512, .row 4 []), (256, .box V)], 0⟩).bind (blockR 2 (some [1, 3, 4, 23, 24]) [7, 8, 9, 51]) = (K E A22_L0 ⟨[(1, .ptr 256 0), (3, .bs 768 0 (R ++ frw most i2 w 1 2).length), (4, .int .i64 most), (5, .int .i64 1), (23, .agg IS), (24, .int .i64 1), (28, .agg [.int .i64 i0, .int .i64 i1, .int .i64 i2]), (29, .int .i64 3)], [], [(768, .row 4 (R ++ frw most i2 w 1 2)), (512, .row 4 []), (256, .box V)], 0⟩).bind (blockR 2 (some [1, 3, 4, 23, 24]) [7, 8, 9, 51]) := by
 have t0 := tk_all R
 have t1 := tk_one R
 have hb : R.length + 1 ≤ 1000000000 := by omega
 unfold frw
 have hf : farW i2 w = mxI (IntKind.i64.wrap (i2 - w)) (IntKind.i64.wrap (0 - IntKind.i64.wrap (i2 - w))) := rfl
 rw [hf]
 by_cases h : most < mxI (IntKind.i64.wrap (i2 - w)) (IntKind.i64.wrap (0 - IntKind.i64.wrap (i2 - w)))
 ·simp only [if_pos h, frow, List.length_append, List.length_cons, List.length_nil, Nat.zero_add]
  conv => lhs; rw [A22_L0_eq]
  simp +contextual -implicitDefEqProofs (maxSteps := 2000000) only [go_sem, ↓reduceIte, A22_L0b, hl, hs, hs2, hv, t0, t1, hb, h, Nat.le_refl]
 ·simp only [if_neg h, List.append_nil]
  conv => lhs; rw [A22_L0_eq]
  simp +contextual -implicitDefEqProofs (maxSteps := 2000000) only [go_sem, ↓reduceIte, A22_L0b, hl, hs, hs2, hv, t0, hb, h, Nat.le_refl]
theorem g75_1 (V IS : List LV) (i0 i1 i2 most w0 w1 w2 : Int) (R : List (List LV)) (hl : V.length = 57) (hs : ∀ r id, LV.subs r id V = V) (hs2 : ∀ r id, LV.subs r id IS = IS) (hv0 : V[47]? = some (.int .i64 w0)) (hv1 : V[48]? = some (.int .i64 w1)) (hv2 : V[49]? = some (.int .i64 w2)) (hr : R.length ≤ 900) :
  (K E A22_L0 ⟨[(1, .ptr 256 0), (3, .bs 768 0 (R).length), (4, .int .i64 most), (5, .int .i64 1), (23, .agg IS), (24, .int .i64 1), (28, .agg [.int .i64 i0, .int .i64 i1, .int .i64 i2]), (29, .int .i64 0)], [], [(768, .row 4 (R)), (512, .row 4 []), (256, .box V)], 0⟩).bind (blockR 2 (some [1, 3, 4, 23, 24]) [7, 8, 9, 51]) = some (.ex .nrm ⟨[(1, .ptr 256 0), (3, .bs 768 0 (R ++ frw most i0 w0 1 0 ++ frw most i1 w1 1 1 ++ frw most i2 w2 1 2).length), (4, .int .i64 most), (23, .agg IS), (24, .int .i64 1)], [], [(768, .row 4 (R ++ frw most i0 w0 1 0 ++ frw most i1 w1 1 1 ++ frw most i2 w2 1 2)), (512, .row 4 []), (256, .box V)], 0⟩) := by
 have l0 : ∀ i w a k : Int, (frw most i w a k).length ≤ 1 := fun i w a k => by unfold frw; split <;> simp
 have a0 := l0 i0 w0 1 0
 have a1 := l0 i1 w1 1 1
 rw [f75_10 V IS i0 i1 i2 most w0 R hl hs hs2 hv0 (by omega), f75_11 V IS i0 i1 i2 most w1 _ hl hs hs2 hv1 (by rw [List.length_append]; omega), f75_12 V IS i0 i1 i2 most w2 _ hl hs hs2 hv2 (by rw [List.length_append, List.length_append]; omega)]
 rw [A22_L0_eq]
 simp +contextual -implicitDefEqProofs (maxSteps := 2000000) only [go_sem, ↓reduceIte, A22_L0b]
def fastR (most w0 w1 w2 w3 w4 w5 i0 i1 i2 i3 i4 i5 : Int) : List (List LV) := frw most i0 w0 0 0 ++ frw most i1 w1 0 1 ++ frw most i2 w2 0 2 ++ frw most i3 w3 1 0 ++ frw most i4 w4 1 1 ++ frw most i5 w5 1 2
theorem c63 (br : List Bool) (hl : br.length ≤ 1000000) : ∃ n : Int, pc E 63 [.vs (br.map bb1), .bool true] = some (.int .i64 n) ∧ (decide (0 ≤ n) = br.any id) := by
 have lp := loop_P (σ := Unit) (fun S => (K E A63_L0 S).bind (blockR 0 (some []) [4, 5]))
  (fun k _ => ⟨[(0, .vs (br.map bb1)), (1, .bool true), (7, .int .i64 br.length), (8, .int .i64 k)], [], [], 0⟩) br.length (fun _ _ => True)
  (fun k _ o => ((br.drop k).any id = true ∧ ∃ n : Nat, o = some (.ex .ret ⟨[(4, .int .i64 n)], [], [], 0⟩)) ∨ ((br.drop k).any id = false ∧ o = some (.ex .nrm ⟨[], [], [], 0⟩)))
  (fun x _ => by
   refine .inr ⟨by simp, ?_⟩
   show (K E A63_L0 _).bind _ = _
   rw [A63_L0_eq]; simp +contextual -implicitDefEqProofs (maxSteps := 2000000) only [go_sem, ↓reduceIte, A63_L0b, Int.lt_irrefl])
  (fun k x hk _ => by
   have hget : br[k]? = some (br[k]'hk) := List.getElem?_eq_getElem hk
   have hd := drop_get hget
   generalize br[k]'hk = b at *
   have g : (br.map bb1)[k]? = some [.bool b] := by rw [List.getElem?_map, hget]; rfl
   have k0 : (0 : Int) ≤ k := by omega
   have k1 : (k : Int) < br.length := by omega
   have hw := wr_succ (n := k) (by omega)
   cases b
   ·refine .inr ⟨(), trivial, ?_, fun o h => by rw [hd]; simpa using h⟩
    show (K E A63_L0 _).bind _ = (K E A63_L0 _).bind _
    conv => lhs; rw [A63_L0_eq]
    simp +contextual -implicitDefEqProofs (maxSteps := 2000000) only [go_sem, ↓reduceIte, A63_L0b, k0, k1, g, hw, List.length_map]
   ·refine .inl (.inl ⟨by rw [hd]; simp, k, ?_⟩)
    show (K E A63_L0 _).bind _ = _
    rw [A63_L0_eq]
    simp +contextual -implicitDefEqProofs (maxSteps := 2000000) only [go_sem, ↓reduceIte, A63_L0b, k0, k1, g, hw, List.length_map]) 0 () (by omega) trivial
 simp only [Int.natCast_zero, Int.ofNat_zero, List.drop_zero] at lp
 rcases lp with ⟨h1, n, lp⟩ | ⟨h1, lp⟩
 ·refine ⟨n, ?_, by rw [h1]; exact decide_eq_true (by omega)⟩
  rw [pc_eq]; simp +contextual -implicitDefEqProofs (maxSteps := 2000000) only [go_sem, ↓reduceIte, E_63, A63, List.length_map, lp]
 ·refine ⟨-1, ?_, by rw [h1]; decide⟩
  rw [pc_eq]; simp +contextual -implicitDefEqProofs (maxSteps := 2000000) only [go_sem, ↓reduceIte, E_63, A63, List.length_map, lp]
theorem c44 (br : List Bool) (hl : br.length ≤ 1000000) : pc E 44 [.vs (br.map bb1), .bool true] = some (.bool (br.any id)) := by
 obtain ⟨n, h, e⟩ := c63 br hl
 rw [← e, pc_eq]; simp +contextual -implicitDefEqProofs (maxSteps := 2000000) only [go_sem, ↓reduceIte, E_44, A44, h, ge_iff_le]
theorem c22 (V : List LV) (br : List Bool) (hbl : br.length ≤ 1000000) (lv slow w0 w1 w2 w3 w4 w5 i0 i1 i2 i3 i4 i5 : Int) (h0 : V.length = 57) (h1 : V[35]? = some (.int .i64 lv)) (h2 : V[56]? = some (.vs (br.map bb1))) (h3 : V[43]? = some (.int .i64 slow))
  (h4 : (V.drop 50).take 6 = [.int .i64 i0, .int .i64 i1, .int .i64 i2, .int .i64 i3, .int .i64 i4, .int .i64 i5]) (hr : ∀ s, rowsOf V 257 V s = some (V, s)) (hs : ∀ r id, LV.subs r id V = V) (h5 : V.all LV.one = true) (h6 : LV.aparts 256 V = true) (v0 : V[44]? = some (.int .i64 w0)) (v1 : V[45]? = some (.int .i64 w1)) (v2 : V[46]? = some (.int .i64 w2)) (v3 : V[47]? = some (.int .i64 w3)) (v4 : V[48]? = some (.int .i64 w4)) (v5 : V[49]? = some (.int .i64 w5)) :
  pc E 22 [.agg V] = some (.os 4 (fastR (if br.any id = true then mnI lv slow else lv) w0 w1 w2 w3 w4 w5 i0 i1 i2 i3 i4 i5)) := by
 have o := c44 br hbl
 have q0 := g75_0 V [.int .i64 i0, .int .i64 i1, .int .i64 i2, .int .i64 i3, .int .i64 i4, .int .i64 i5] i0 i1 i2 (if br.any id = true then mnI lv slow else lv) w0 w1 w2 [] h0 hs (fun _ _ => rfl) v0 v1 v2 (by simp)
 have l0 : ∀ m i w a k : Int, (frw m i w a k).length ≤ 1 := fun m i w a k => by unfold frw; split <;> simp
 have q1 := fun R hR => g75_1 V [.int .i64 i0, .int .i64 i1, .int .i64 i2, .int .i64 i3, .int .i64 i4, .int .i64 i5] i3 i4 i5 (if br.any id = true then mnI lv slow else lv) w3 w4 w5 R h0 hs (fun _ _ => rfl) v3 v4 v5 hR
 unfold fastR
 generalize hm : (if br.any id = true then mnI lv slow else lv) = most at *
 have q1 := q1 (frw most i0 w0 0 0 ++ frw most i1 w1 0 1 ++ frw most i2 w2 0 2) (by
  have := l0 most i0 w0 0 0
  have := l0 most i1 w1 0 1
  have := l0 most i2 w2 0 2
  simp only [List.length_append]; omega)
 simp only [List.nil_append] at q0
 generalize frw most i0 w0 0 0 ++ frw most i1 w1 0 1 ++ frw most i2 w2 0 2 = R1 at *
 generalize R1 ++ frw most i3 w3 1 0 ++ frw most i4 w4 1 1 ++ frw most i5 w5 1 2 = R2 at *
 have t1 := tk_all R1
 have t2 := tk_all R2
 simp only [List.length_nil] at q0
 cases hb : br.any id <;> rw [hb] at o hm
 ·simp only [Bool.false_eq_true, if_false] at hm
  subst hm
  rw [pc_eq]; simp +contextual -implicitDefEqProofs (maxSteps := 2000000) only [go_sem, ↓reduceIte, E_22, A22, A22_L1_eq, A22_L1b, h0, h1, h2, h3, h4, hr, hs, h5, h6, o, q0, q1, t1, t2, Nat.le_refl]
 ·simp only [if_true] at hm
  rw [pc_eq]; simp +contextual -implicitDefEqProofs (maxSteps := 2000000) only [go_sem, ↓reduceIte, E_22, A22, A22_L1_eq, A22_L1b, h0, h1, h2, h3, h4, hr, hs, h5, h6, o, hm, q0, q1, t1, t2, Nat.le_refl]
end Go.Proofs.YtnecdcaaknhgpaaGreat

namespace Go.Proofs.YtnecdcaaknhgpaaGreat
open Go Go.Zv
def unl (br : List Bool) : Nat → List (List LV)
 | 0 => []
 | k + 1 => unl br k ++ if br.getD k false = true then [[.int .i64 4, .int .i64 0, .int .i64 0, .int .i64 k]] else []
theorem unl_len (br : List Bool) : ∀ k, (unl br k).length ≤ k
 | 0 => by simp [unl]
 | k + 1 => by
   have := unl_len br k
   unfold unl
   rw [List.length_append]
   split <;> simp <;> omega
theorem c25 (V : List LV) (br : List Bool) (hbl : br.length ≤ 1000) (h0 : V.length = 57) (h2 : V[56]? = some (.vs (br.map bb1))) (hr : ∀ s, rowsOf V 257 V s = some (V, s)) (hs : ∀ r id, LV.subs r id V = V) (h5 : V.all LV.one = true) (h6 : LV.aparts 256 V = true) :
  pc E 25 [.agg V] = some (.os 4 (unl br br.length)) := by
 have lp := loop_to (fun S => (K E A25_L0 S).bind (blockR 0 (some [3]) [4, 5, 18]))
  (fun k => ⟨[(3, .bs 768 0 (unl br k).length), (7, .vs (br.map bb1)), (8, .int .i64 br.length), (9, .int .i64 k)], [], [(768, .row 4 (unl br k)), (512, .row 4 [])], 0⟩) br.length (fun k hk => by
   have hget : br[k]? = some (br[k]'hk) := List.getElem?_eq_getElem hk
   have hD : br.getD k false = br[k]'hk := by rw [List.getD_eq_getElem?_getD, hget]; rfl
   have hu : unl br (k + 1) = unl br k ++ if br.getD k false = true then [[.int .i64 4, .int .i64 0, .int .i64 0, .int .i64 k]] else [] := rfl
   rw [hu, hD]
   generalize br[k]'hk = b at *
   have g : (br.map bb1)[k]? = some [.bool b] := by rw [List.getElem?_map, hget]; rfl
   have k0 : (0 : Int) ≤ k := by omega
   have k1 : (k : Int) < br.length := by omega
   have hw := wr_succ (n := k) (by omega)
   have hlen := unl_len br k
   have hlb : (br.map bb1).length = br.length := List.length_map ..
   generalize unl br k = R at *
   have t0 := tk_all R
   have t1 := tk_one R
   have hb : R.length + 1 ≤ 1000000000 := by omega
   cases b
   ·simp only [Bool.false_eq_true, if_false, List.append_nil]
    show (K E A25_L0 _).bind _ = (K E A25_L0 _).bind _
    conv => lhs; rw [A25_L0_eq]
    simp +contextual -implicitDefEqProofs (maxSteps := 2000000) only [go_sem, ↓reduceIte, A25_L0b, k0, k1, g, hw, hlb]
   ·simp only [if_true, List.length_append, List.length_cons, List.length_nil, Nat.zero_add]
    show (K E A25_L0 _).bind _ = (K E A25_L0 _).bind _
    conv => lhs; rw [A25_L0_eq]
    simp +contextual -implicitDefEqProofs (maxSteps := 2000000) only [go_sem, ↓reduceIte, A25_L0b, k0, k1, g, hw, hlb, t0, t1, hb, Nat.le_refl])
 have stop : (K E A25_L0 ⟨[(3, .bs 768 0 (unl br br.length).length), (7, .vs (br.map bb1)), (8, .int .i64 br.length), (9, .int .i64 br.length)], [], [(768, .row 4 (unl br br.length)), (512, .row 4 [])], 0⟩).bind (blockR 0 (some [3]) [4, 5, 18]) =
  some (.ex .nrm ⟨[(3, .bs 768 0 (unl br br.length).length)], [], [(768, .row 4 (unl br br.length)), (512, .row 4 [])], 0⟩) := by
  rw [A25_L0_eq]; simp +contextual -implicitDefEqProofs (maxSteps := 2000000) only [go_sem, ↓reduceIte, A25_L0b, Int.lt_irrefl]
 have lp := lp.trans stop
 simp only [Int.natCast_zero, Int.ofNat_zero, show unl br 0 = [] from rfl, List.length_nil] at lp
 generalize unl br br.length = R at *
 have t0 := tk_all R
 have hlb : (br.map bb1).length = br.length := List.length_map ..
 rw [pc_eq]; simp +contextual -implicitDefEqProofs (maxSteps := 2000000) only [go_sem, ↓reduceIte, E_25, A25, h0, h2, hr, hs, h5, h6, hlb, lp, t0, Nat.le_refl]
theorem c23 (V : List LV) (kd : Bool) (cc pp : List LV) (h0 : V.length = 57) (h1 : V.take 44 = cc) (h2 : (V.drop 50).take 6 = pp) (o : pc E 8 [.agg cc, .agg pp] = some (.bool kd)) (hc : LV.closeds cc = true) (hp : LV.closeds pp = true) (hcl : ∀ O, LV.cls O cc = cc) (hpl : ∀ O, LV.cls O pp = pp) (hic : LV.idss cc = []) (hip : LV.idss pp = []) (hr : ∀ s, rowsOf V 257 V s = some (V, s)) (hs : ∀ r id, LV.subs r id V = V) (h5 : V.all LV.one = true) (h6 : LV.aparts 256 V = true) :
  pc E 23 [.agg V] = some (.os 4 (if kd = true then [] else [[.int .i64 2, .int .i64 0, .int .i64 0, .int .i64 0]])) := by
 cases kd <;> rw [pc_eq] <;> simp +contextual -implicitDefEqProofs (maxSteps := 2000000) only [go_sem, ↓reduceIte, E_23, A23, h0, h1, h2, hr, hs, h5, h6, o, hc, hp, hcl, hpl, hic, hip, Nat.le_refl]
end Go.Proofs.YtnecdcaaknhgpaaGreat

namespace Go.Proofs.YtnecdcaaknhgpaaGreat
open Go Go.Zv
def inrow (a n : Int) : List LV := [.int .i64 3, .int .i64 a, .int .i64 0, .int .i64 n]
def B77 : Out → Option Out := blockR 2 (some [1, 2, 3, 10, 11]) [6, 7, 8, 36, 41, 46]
theorem s77_0 (V IS : List LV) (zr brv : List (List LV)) (zl n : Nat) (R : List (List LV)) (arm : Arm) (x0 x1 x2 a0 a1 a2 b0 b1 b2 : Int) (P0 P1 P2 P3 P4 P5 Z : List (List LV)) (h0 h1 h2 h3 h4 h5 b : Bool)
  (hl : V.length = 57) (hs : ∀ r id, LV.subs r id V = V) (hs2 : ∀ r id, LV.subs r id IS = IS) (hv : V[56]? = some (.vs brv)) (ha : V.take 12 = avc arm) (hzl : n < zl) (hz2 : zr.length = zl) (hbl : brv.length = zl) (hzl2 : zl ≤ 1000) (hz : zr[n]? = some [.vs Z]) (hb : brv[n]? = some [.bool b]) (hR : R.length ≤ 10000)
  (e39 : pc E 5 [jv x0 x1 x2] = some (.tup [jv a0 a1 a2, jv b0 b1 b2])) (f1 : pc E 39 [av arm, jv a0 a1 a2] = some (.agg [.vs P0, .vs P1, .vs P2])) (f2 : pc E 39 [av arm, jv b0 b1 b2] = some (.agg [.vs P3, .vs P4, .vs P5])) (o0 : pc E 45 [.vs P0, .vs Z] = some (.bool h0)) (o1 : pc E 45 [.vs P1, .vs Z] = some (.bool h1)) (o2 : pc E 45 [.vs P2, .vs Z] = some (.bool h2)) (o3 : pc E 45 [.vs P3, .vs Z] = some (.bool h3)) (o4 : pc E 45 [.vs P4, .vs Z] = some (.bool h4)) (o5 : pc E 45 [.vs P5, .vs Z] = some (.bool h5)) :
  (K E A24_L1 ⟨[(1, .ptr 256 0), (2, .bs 512 0 0), (3, .ptr 768 0), (4, .ptr 1024 0), (5, .ptr 1280 0), (10, .agg IS), (11, .int .i64 0), (17, .vs zr), (18, .int .i64 zl), (19, .int .i64 n)], [], [(1280, .box [.int .i64 x0, .int .i64 x1, .int .i64 x2]), (1024, .box [.int .i64 0]), (768, .box [.bs 769 0 (R).length]), (769, .row 4 (R)), (512, .row 4 []), (256, .box V)], 0⟩).bind B77 = (K E A24_L1 ⟨[(1, .ptr 256 0), (2, .bs 512 0 0), (3, .ptr 768 0), (4, .ptr 1024 0), (5, .ptr 1280 0), (10, .agg IS), (11, .int .i64 0), (17, .vs zr), (18, .int .i64 zl), (19, .int .i64 (n + 1 : Nat))], [], [(1280, .box [.int .i64 x0, .int .i64 x1, .int .i64 x2]), (1024, .box [.int .i64 0]), (768, .box [.bs 769 0 (R ++ if (b && (h0 || (h1 || (h2 || (h3 || (h4 || h5)))))) = true then [inrow 0 n] else []).length]), (769, .row 4 (R ++ if (b && (h0 || (h1 || (h2 || (h3 || (h4 || h5)))))) = true then [inrow 0 n] else [])), (512, .row 4 []), (256, .box V)], 0⟩).bind B77 := by
 have t0 := tk_all R
 have t1 := tk_one R
 have hb1 : R.length + 1 ≤ 1000000000 := by omega
 have e79 := c18 arm x0 x1 x2
 have n0 : (0 : Int) ≤ n := by omega
 have n1 : (n : Int) < zl := by omega
 have hw := wr_succ (n := n) (by omega)
 unfold B77
 cases b
 ·simp only [Bool.false_and, Bool.false_eq_true, if_false, List.append_nil]
  conv => lhs; rw [A24_L1_eq]
  simp +contextual -implicitDefEqProofs (maxSteps := 2000000) only [go_sem, ↓reduceIte, A24_L1b, hl, hs, hs2, hv, hz2, hbl, hz, hb, n0, n1, hw]
 cases h0
 rotate_left
 ·simp only [Bool.true_and, Bool.or_true, Bool.true_or, Bool.false_or, if_true, List.length_append, List.length_cons, List.length_nil, Nat.zero_add, inrow]
  conv => lhs; rw [A24_L1_eq]
  simp +contextual -implicitDefEqProofs (maxSteps := 2000000) only [go_sem, ↓reduceIte, A24_L1b, A24_R0, A24_R0a, A24_R0b, E_38, A38, A38_L1_eq, A38_L1b, A38_L0_eq, A38_L0b, hl, hs, hs2, hv, ha, hz2, hbl, hz, hb, n0, n1, hw, t0, t1, hb1, e79, e39, f1, f2, Nat.le_refl, o0]
 cases h1
 rotate_left
 ·simp only [Bool.true_and, Bool.or_true, Bool.true_or, Bool.false_or, if_true, List.length_append, List.length_cons, List.length_nil, Nat.zero_add, inrow]
  conv => lhs; rw [A24_L1_eq]
  simp +contextual -implicitDefEqProofs (maxSteps := 2000000) only [go_sem, ↓reduceIte, A24_L1b, A24_R0, A24_R0a, A24_R0b, E_38, A38, A38_L1_eq, A38_L1b, A38_L0_eq, A38_L0b, hl, hs, hs2, hv, ha, hz2, hbl, hz, hb, n0, n1, hw, t0, t1, hb1, e79, e39, f1, f2, Nat.le_refl, o0, o1]
 cases h2
 rotate_left
 ·simp only [Bool.true_and, Bool.or_true, Bool.true_or, Bool.false_or, if_true, List.length_append, List.length_cons, List.length_nil, Nat.zero_add, inrow]
  conv => lhs; rw [A24_L1_eq]
  simp +contextual -implicitDefEqProofs (maxSteps := 2000000) only [go_sem, ↓reduceIte, A24_L1b, A24_R0, A24_R0a, A24_R0b, E_38, A38, A38_L1_eq, A38_L1b, A38_L0_eq, A38_L0b, hl, hs, hs2, hv, ha, hz2, hbl, hz, hb, n0, n1, hw, t0, t1, hb1, e79, e39, f1, f2, Nat.le_refl, o0, o1, o2]
 cases h3
 rotate_left
 ·simp only [Bool.true_and, Bool.or_true, Bool.true_or, Bool.false_or, if_true, List.length_append, List.length_cons, List.length_nil, Nat.zero_add, inrow]
  conv => lhs; rw [A24_L1_eq]
  simp +contextual -implicitDefEqProofs (maxSteps := 2000000) only [go_sem, ↓reduceIte, A24_L1b, A24_R0, A24_R0a, A24_R0b, E_38, A38, A38_L1_eq, A38_L1b, A38_L0_eq, A38_L0b, hl, hs, hs2, hv, ha, hz2, hbl, hz, hb, n0, n1, hw, t0, t1, hb1, e79, e39, f1, f2, Nat.le_refl, o0, o1, o2, o3]
 cases h4
 rotate_left
 ·simp only [Bool.true_and, Bool.or_true, Bool.true_or, Bool.false_or, if_true, List.length_append, List.length_cons, List.length_nil, Nat.zero_add, inrow]
  conv => lhs; rw [A24_L1_eq]
  simp +contextual -implicitDefEqProofs (maxSteps := 2000000) only [go_sem, ↓reduceIte, A24_L1b, A24_R0, A24_R0a, A24_R0b, E_38, A38, A38_L1_eq, A38_L1b, A38_L0_eq, A38_L0b, hl, hs, hs2, hv, ha, hz2, hbl, hz, hb, n0, n1, hw, t0, t1, hb1, e79, e39, f1, f2, Nat.le_refl, o0, o1, o2, o3, o4]
 cases h5
 rotate_left
 ·simp only [Bool.true_and, Bool.or_true, Bool.true_or, Bool.false_or, if_true, List.length_append, List.length_cons, List.length_nil, Nat.zero_add, inrow]
  conv => lhs; rw [A24_L1_eq]
  simp +contextual -implicitDefEqProofs (maxSteps := 2000000) only [go_sem, ↓reduceIte, A24_L1b, A24_R0, A24_R0a, A24_R0b, E_38, A38, A38_L1_eq, A38_L1b, A38_L0_eq, A38_L0b, hl, hs, hs2, hv, ha, hz2, hbl, hz, hb, n0, n1, hw, t0, t1, hb1, e79, e39, f1, f2, Nat.le_refl, o0, o1, o2, o3, o4, o5]
 ·simp only [Bool.true_and, Bool.or_self, Bool.false_eq_true, if_false, List.append_nil]
  conv => lhs; rw [A24_L1_eq]
  simp +contextual -implicitDefEqProofs (maxSteps := 2000000) only [go_sem, ↓reduceIte, A24_L1b, A24_R0, A24_R0a, A24_R0b, E_38, A38, A38_L1_eq, A38_L1b, A38_L0_eq, A38_L0b, hl, hs, hs2, hv, ha, hz2, hbl, hz, hb, n0, n1, hw, t0, t1, hb1, e79, e39, f1, f2, Nat.le_refl, o0, o1, o2, o3, o4, o5]
theorem s77_1 (V IS : List LV) (zr brv : List (List LV)) (zl n : Nat) (R : List (List LV)) (arm : Arm) (x0 x1 x2 a0 a1 a2 b0 b1 b2 : Int) (P0 P1 P2 P3 P4 P5 Z : List (List LV)) (h0 h1 h2 h3 h4 h5 b : Bool)
  (hl : V.length = 57) (hs : ∀ r id, LV.subs r id V = V) (hs2 : ∀ r id, LV.subs r id IS = IS) (hv : V[56]? = some (.vs brv)) (ha : (V.drop 12).take 12 = avc arm) (hzl : n < zl) (hz2 : zr.length = zl) (hbl : brv.length = zl) (hzl2 : zl ≤ 1000) (hz : zr[n]? = some [.vs Z]) (hb : brv[n]? = some [.bool b]) (hR : R.length ≤ 10000)
  (e39 : pc E 5 [jv x0 x1 x2] = some (.tup [jv a0 a1 a2, jv b0 b1 b2])) (f1 : pc E 39 [av arm, jv a0 a1 a2] = some (.agg [.vs P0, .vs P1, .vs P2])) (f2 : pc E 39 [av arm, jv b0 b1 b2] = some (.agg [.vs P3, .vs P4, .vs P5])) (o0 : pc E 45 [.vs P0, .vs Z] = some (.bool h0)) (o1 : pc E 45 [.vs P1, .vs Z] = some (.bool h1)) (o2 : pc E 45 [.vs P2, .vs Z] = some (.bool h2)) (o3 : pc E 45 [.vs P3, .vs Z] = some (.bool h3)) (o4 : pc E 45 [.vs P4, .vs Z] = some (.bool h4)) (o5 : pc E 45 [.vs P5, .vs Z] = some (.bool h5)) :
  (K E A24_L1 ⟨[(1, .ptr 256 0), (2, .bs 512 0 0), (3, .ptr 768 0), (4, .ptr 1024 0), (5, .ptr 1280 0), (10, .agg IS), (11, .int .i64 1), (17, .vs zr), (18, .int .i64 zl), (19, .int .i64 n)], [], [(1280, .box [.int .i64 x0, .int .i64 x1, .int .i64 x2]), (1024, .box [.int .i64 1]), (768, .box [.bs 769 0 (R).length]), (769, .row 4 (R)), (512, .row 4 []), (256, .box V)], 0⟩).bind B77 = (K E A24_L1 ⟨[(1, .ptr 256 0), (2, .bs 512 0 0), (3, .ptr 768 0), (4, .ptr 1024 0), (5, .ptr 1280 0), (10, .agg IS), (11, .int .i64 1), (17, .vs zr), (18, .int .i64 zl), (19, .int .i64 (n + 1 : Nat))], [], [(1280, .box [.int .i64 x0, .int .i64 x1, .int .i64 x2]), (1024, .box [.int .i64 1]), (768, .box [.bs 769 0 (R ++ if (b && (h0 || (h1 || (h2 || (h3 || (h4 || h5)))))) = true then [inrow 1 n] else []).length]), (769, .row 4 (R ++ if (b && (h0 || (h1 || (h2 || (h3 || (h4 || h5)))))) = true then [inrow 1 n] else [])), (512, .row 4 []), (256, .box V)], 0⟩).bind B77 := by
 have t0 := tk_all R
 have t1 := tk_one R
 have hb1 : R.length + 1 ≤ 1000000000 := by omega
 have e79 := c18 arm x0 x1 x2
 have n0 : (0 : Int) ≤ n := by omega
 have n1 : (n : Int) < zl := by omega
 have hw := wr_succ (n := n) (by omega)
 unfold B77
 cases b
 ·simp only [Bool.false_and, Bool.false_eq_true, if_false, List.append_nil]
  conv => lhs; rw [A24_L1_eq]
  simp +contextual -implicitDefEqProofs (maxSteps := 2000000) only [go_sem, ↓reduceIte, A24_L1b, hl, hs, hs2, hv, hz2, hbl, hz, hb, n0, n1, hw]
 cases h0
 rotate_left
 ·simp only [Bool.true_and, Bool.or_true, Bool.true_or, Bool.false_or, if_true, List.length_append, List.length_cons, List.length_nil, Nat.zero_add, inrow]
  conv => lhs; rw [A24_L1_eq]
  simp +contextual -implicitDefEqProofs (maxSteps := 2000000) only [go_sem, ↓reduceIte, A24_L1b, A24_R0, A24_R0a, A24_R0b, E_38, A38, A38_L1_eq, A38_L1b, A38_L0_eq, A38_L0b, hl, hs, hs2, hv, ha, hz2, hbl, hz, hb, n0, n1, hw, t0, t1, hb1, e79, e39, f1, f2, Nat.le_refl, o0]
 cases h1
 rotate_left
 ·simp only [Bool.true_and, Bool.or_true, Bool.true_or, Bool.false_or, if_true, List.length_append, List.length_cons, List.length_nil, Nat.zero_add, inrow]
  conv => lhs; rw [A24_L1_eq]
  simp +contextual -implicitDefEqProofs (maxSteps := 2000000) only [go_sem, ↓reduceIte, A24_L1b, A24_R0, A24_R0a, A24_R0b, E_38, A38, A38_L1_eq, A38_L1b, A38_L0_eq, A38_L0b, hl, hs, hs2, hv, ha, hz2, hbl, hz, hb, n0, n1, hw, t0, t1, hb1, e79, e39, f1, f2, Nat.le_refl, o0, o1]
 cases h2
 rotate_left
 ·simp only [Bool.true_and, Bool.or_true, Bool.true_or, Bool.false_or, if_true, List.length_append, List.length_cons, List.length_nil, Nat.zero_add, inrow]
  conv => lhs; rw [A24_L1_eq]
  simp +contextual -implicitDefEqProofs (maxSteps := 2000000) only [go_sem, ↓reduceIte, A24_L1b, A24_R0, A24_R0a, A24_R0b, E_38, A38, A38_L1_eq, A38_L1b, A38_L0_eq, A38_L0b, hl, hs, hs2, hv, ha, hz2, hbl, hz, hb, n0, n1, hw, t0, t1, hb1, e79, e39, f1, f2, Nat.le_refl, o0, o1, o2]
 cases h3
 rotate_left
 ·simp only [Bool.true_and, Bool.or_true, Bool.true_or, Bool.false_or, if_true, List.length_append, List.length_cons, List.length_nil, Nat.zero_add, inrow]
  conv => lhs; rw [A24_L1_eq]
  simp +contextual -implicitDefEqProofs (maxSteps := 2000000) only [go_sem, ↓reduceIte, A24_L1b, A24_R0, A24_R0a, A24_R0b, E_38, A38, A38_L1_eq, A38_L1b, A38_L0_eq, A38_L0b, hl, hs, hs2, hv, ha, hz2, hbl, hz, hb, n0, n1, hw, t0, t1, hb1, e79, e39, f1, f2, Nat.le_refl, o0, o1, o2, o3]
 cases h4
 rotate_left
 ·simp only [Bool.true_and, Bool.or_true, Bool.true_or, Bool.false_or, if_true, List.length_append, List.length_cons, List.length_nil, Nat.zero_add, inrow]
  conv => lhs; rw [A24_L1_eq]
  simp +contextual -implicitDefEqProofs (maxSteps := 2000000) only [go_sem, ↓reduceIte, A24_L1b, A24_R0, A24_R0a, A24_R0b, E_38, A38, A38_L1_eq, A38_L1b, A38_L0_eq, A38_L0b, hl, hs, hs2, hv, ha, hz2, hbl, hz, hb, n0, n1, hw, t0, t1, hb1, e79, e39, f1, f2, Nat.le_refl, o0, o1, o2, o3, o4]
 cases h5
 rotate_left
 ·simp only [Bool.true_and, Bool.or_true, Bool.true_or, Bool.false_or, if_true, List.length_append, List.length_cons, List.length_nil, Nat.zero_add, inrow]
  conv => lhs; rw [A24_L1_eq]
  simp +contextual -implicitDefEqProofs (maxSteps := 2000000) only [go_sem, ↓reduceIte, A24_L1b, A24_R0, A24_R0a, A24_R0b, E_38, A38, A38_L1_eq, A38_L1b, A38_L0_eq, A38_L0b, hl, hs, hs2, hv, ha, hz2, hbl, hz, hb, n0, n1, hw, t0, t1, hb1, e79, e39, f1, f2, Nat.le_refl, o0, o1, o2, o3, o4, o5]
 ·simp only [Bool.true_and, Bool.or_self, Bool.false_eq_true, if_false, List.append_nil]
  conv => lhs; rw [A24_L1_eq]
  simp +contextual -implicitDefEqProofs (maxSteps := 2000000) only [go_sem, ↓reduceIte, A24_L1b, A24_R0, A24_R0a, A24_R0b, E_38, A38, A38_L1_eq, A38_L1b, A38_L0_eq, A38_L0b, hl, hs, hs2, hv, ha, hz2, hbl, hz, hb, n0, n1, hw, t0, t1, hb1, e79, e39, f1, f2, Nat.le_refl, o0, o1, o2, o3, o4, o5]
end Go.Proofs.YtnecdcaaknhgpaaGreat

namespace Go.Proofs.YtnecdcaaknhgpaaGreat
open Go Go.Zv
abbrev Vi := Int × Int × Int × Int
def v4 (x : Vi) : List LV := [.int .i64 x.1, .int .i64 x.2.1, .int .i64 x.2.2.1, .int .i64 x.2.2.2]
def frT (most i w a k : Int) : List Vi := if most < farW i w then [(1, a, k, 0)] else []
theorem frw_T (most i w a k : Int) : frw most i w a k = (frT most i w a k).map v4 := by unfold frw frT; split <;> rfl
def fastT (most w0 w1 w2 w3 w4 w5 i0 i1 i2 i3 i4 i5 : Int) : List Vi := frT most i0 w0 0 0 ++ frT most i1 w1 0 1 ++ frT most i2 w2 0 2 ++ frT most i3 w3 1 0 ++ frT most i4 w4 1 1 ++ frT most i5 w5 1 2
theorem fastR_T (most w0 w1 w2 w3 w4 w5 i0 i1 i2 i3 i4 i5 : Int) : fastR most w0 w1 w2 w3 w4 w5 i0 i1 i2 i3 i4 i5 = (fastT most w0 w1 w2 w3 w4 w5 i0 i1 i2 i3 i4 i5).map v4 := by
 unfold fastR fastT; simp only [frw_T, List.map_append]
def nearT (kd : Bool) : List Vi := if kd = true then [] else [(2, 0, 0, 0)]
theorem near_T (kd : Bool) : (if kd = true then [] else [[LV.int .i64 2, .int .i64 0, .int .i64 0, .int .i64 0]]) = (nearT kd).map v4 := by unfold nearT; cases kd <;> rfl
def unlT (br : List Bool) : Nat → List Vi
 | 0 => []
 | k + 1 => unlT br k ++ if br.getD k false = true then [(4, 0, 0, (k : Int))] else []
theorem unl_T (br : List Bool) : ∀ k, unl br k = (unlT br k).map v4
 | 0 => rfl
 | k + 1 => by unfold unl unlT; rw [unl_T br k, List.map_append]; split <;> rfl
def inz (a : Int) (hit : Nat → Bool) (br : List Bool) : Nat → List Vi
 | 0 => []
 | k + 1 => inz a hit br k ++ if (br.getD k false && hit k) = true then [(3, a, 0, (k : Int))] else []
theorem inz_len (a : Int) (hit : Nat → Bool) (br : List Bool) : ∀ k, (inz a hit br k).length ≤ k
 | 0 => by simp [inz]
 | k + 1 => by
   have := inz_len a hit br k
   unfold inz
   rw [List.length_append]
   split <;> simp <;> omega
def bods (a : Arm) (x0 x1 x2 : Int) : List (List (Int × Int)) := lks a (dd (x0 / 12) (x1 / 12) (x2 / 12)) ++ lks a (dd (up12 x0) (up12 x1) (up12 x2))
theorem bod (a : Arm) (h : OKa a) (x0 x1 x2 : Int) : ∃ l0 l1 l2 l3 l4 l5 : List (Int × Int), bods a x0 x1 x2 = [l0, l1, l2, l3, l4, l5] ∧ pc E 39 [av a, jv (x0 / 12) (x1 / 12) (x2 / 12)] = some (.agg [lkv l0, lkv l1, lkv l2]) ∧ pc E 39 [av a, jv (up12 x0) (up12 x1) (up12 x2)] = some (.agg [lkv l3, lkv l4, lkv l5]) ∧ ∀ l ∈ [l0, l1, l2, l3, l4, l5], l.length = 4 := by
 refine ⟨_, _, _, _, _, _, rfl, c39 a h _ _ _, c39 a h _ _ _, ?_⟩
 intro l hl
 simp only [List.mem_cons, List.not_mem_nil, or_false] at hl
 rcases hl with rfl | rfl | rfl | rfl | rfl | rfl <;> rfl
def hitB (a : Arm) (x0 x1 x2 : Int) (z : List (Int × Int)) : Bool := (bods a x0 x1 x2).any fun l => (Go.Geo.FC l z).isSome
theorem l77_0 (V IS : List LV) (zn : List (List (Int × Int))) (br : List Bool) (R : List (List LV)) (arm : Arm) (hok : OKa arm) (x0 x1 x2 : Int) (hx0 : -1000000000 ≤ x0 ∧ x0 ≤ 1000000000) (hx1 : -1000000000 ≤ x1 ∧ x1 ≤ 1000000000) (hx2 : -1000000000 ≤ x2 ∧ x2 ≤ 1000000000)
  (hl : V.length = 57) (hs : ∀ r id, LV.subs r id V = V) (hs2 : ∀ r id, LV.subs r id IS = IS) (hv : V[56]? = some (.vs (br.map bb1))) (ha : V.take 12 = avc arm) (hbl : br.length = zn.length) (hzl : zn.length ≤ 1000) (hzp : ∀ z ∈ zn, z.length ≤ 1000000) (hR : R.length ≤ 1000) :
  (K E A24_L1 ⟨[(1, .ptr 256 0), (2, .bs 512 0 0), (3, .ptr 768 0), (4, .ptr 1024 0), (5, .ptr 1280 0), (10, .agg IS), (11, .int .i64 0), (17, .vs (zn.map Go.Geo.p1)), (18, .int .i64 zn.length), (19, .int .i64 0)], [], [(1280, .box [.int .i64 x0, .int .i64 x1, .int .i64 x2]), (1024, .box [.int .i64 0]), (768, .box [.bs 769 0 (R).length]), (769, .row 4 (R)), (512, .row 4 []), (256, .box V)], 0⟩).bind B77 = some (.ex .nrm ⟨[(1, .ptr 256 0), (2, .bs 512 0 0), (3, .ptr 768 0), (10, .agg IS), (11, .int .i64 0)], [], [(1280, .box [.int .i64 x0, .int .i64 x1, .int .i64 x2]), (1024, .box [.int .i64 0]), (768, .box [.bs 769 0 (R ++ (inz 0 (fun k => hitB arm x0 x1 x2 (zn.getD k [])) br zn.length).map v4).length]), (769, .row 4 (R ++ (inz 0 (fun k => hitB arm x0 x1 x2 (zn.getD k [])) br zn.length).map v4)), (512, .row 4 []), (256, .box V)], 0⟩) := by
 obtain ⟨l0, l1, l2, l3, l4, l5, hbod, f1, f2, h4⟩ := bod arm hok x0 x1 x2
 have e39 := c5 x0 x1 x2 hx0 hx1 hx2
 have g : ∀ l ∈ [l0, l1, l2, l3, l4, l5], ∀ z ∈ zn, pc E 45 [lkv l, .vs (z.map Go.Geo.c2)] = some (.bool (Go.Geo.FC l z).isSome) := fun l hl z hz => G.c45 l z (by rw [h4 l hl]; decide) (by have := hzp z hz; omega)
 have lp := loop_to (fun S => (K E A24_L1 S).bind B77) (fun k => ⟨[(1, .ptr 256 0), (2, .bs 512 0 0), (3, .ptr 768 0), (4, .ptr 1024 0), (5, .ptr 1280 0), (10, .agg IS), (11, .int .i64 0), (17, .vs (zn.map Go.Geo.p1)), (18, .int .i64 zn.length), (19, .int .i64 k)], [], [(1280, .box [.int .i64 x0, .int .i64 x1, .int .i64 x2]), (1024, .box [.int .i64 0]), (768, .box [.bs 769 0 (R ++ (inz 0 (fun k => hitB arm x0 x1 x2 (zn.getD k [])) br k).map v4).length]), (769, .row 4 (R ++ (inz 0 (fun k => hitB arm x0 x1 x2 (zn.getD k [])) br k).map v4)), (512, .row 4 []), (256, .box V)], 0⟩) zn.length (fun k hk => by
  have hzk : zn[k]? = some (zn.getD k []) := Go.Geo.getD_of [] hk
  have hbk : br[k]? = some (br.getD k false) := Go.Geo.getD_of false (by omega)
  have hmem : zn.getD k [] ∈ zn := List.mem_of_getElem? hzk
  have hin : inz 0 (fun k => hitB arm x0 x1 x2 (zn.getD k [])) br (k + 1) = inz 0 (fun k => hitB arm x0 x1 x2 (zn.getD k [])) br k ++ if (br.getD k false && hitB arm x0 x1 x2 (zn.getD k [])) = true then [(0, 0, (k : Int))].map (fun q => ((3 : Int), q)) else [] := by
   show inz _ _ _ _ ++ _ = _
   rfl
  have hlen := inz_len 0 (fun k => hitB arm x0 x1 x2 (zn.getD k [])) br k
  rw [hin, List.map_append, ← List.append_assoc]
  have hhit : hitB arm x0 x1 x2 (zn.getD k []) = ((Go.Geo.FC l0 (zn.getD k [])).isSome || ((Go.Geo.FC l1 (zn.getD k [])).isSome || ((Go.Geo.FC l2 (zn.getD k [])).isSome || ((Go.Geo.FC l3 (zn.getD k [])).isSome || ((Go.Geo.FC l4 (zn.getD k [])).isSome || (Go.Geo.FC l5 (zn.getD k [])).isSome))))) := by
   unfold hitB; rw [hbod]; simp [Bool.or_assoc]
  have hrow : (if (br.getD k false && hitB arm x0 x1 x2 (zn.getD k [])) = true then [(0, 0, (k : Int))].map (fun q => ((3 : Int), q)) else [] : List Vi).map v4 = if (br.getD k false && hitB arm x0 x1 x2 (zn.getD k [])) = true then [inrow 0 k] else [] := by split <;> rfl
  rw [hrow, hhit]
  exact s77_0 V IS (zn.map Go.Geo.p1) (br.map bb1) zn.length k _ arm x0 x1 x2 _ _ _ _ _ _ (l0.map c2) (l1.map c2) (l2.map c2) (l3.map c2) (l4.map c2) (l5.map c2) ((zn.getD k []).map Go.Geo.c2) _ _ _ _ _ _ (br.getD k false) hl hs hs2 hv ha hk (List.length_map ..) (by rw [List.length_map]; exact hbl) hzl (by rw [List.getElem?_map, hzk]; rfl) (by rw [List.getElem?_map, hbk]; rfl) (by rw [List.length_append, List.length_map]; omega) e39 f1 f2
   (g l0 (by simp) _ hmem) (g l1 (by simp) _ hmem) (g l2 (by simp) _ hmem) (g l3 (by simp) _ hmem) (g l4 (by simp) _ hmem) (g l5 (by simp) _ hmem))
 simp only [Int.natCast_zero, Int.ofNat_zero, show inz 0 (fun k => hitB arm x0 x1 x2 (zn.getD k [])) br 0 = [] from rfl, List.map_nil, List.append_nil] at lp
 refine lp.trans ?_
 unfold B77
 rw [A24_L1_eq]; simp +contextual -implicitDefEqProofs (maxSteps := 2000000) only [go_sem, ↓reduceIte, A24_L1b, Int.lt_irrefl, hs, hs2]
theorem l77_1 (V IS : List LV) (zn : List (List (Int × Int))) (br : List Bool) (R : List (List LV)) (arm : Arm) (hok : OKa arm) (x0 x1 x2 : Int) (hx0 : -1000000000 ≤ x0 ∧ x0 ≤ 1000000000) (hx1 : -1000000000 ≤ x1 ∧ x1 ≤ 1000000000) (hx2 : -1000000000 ≤ x2 ∧ x2 ≤ 1000000000)
  (hl : V.length = 57) (hs : ∀ r id, LV.subs r id V = V) (hs2 : ∀ r id, LV.subs r id IS = IS) (hv : V[56]? = some (.vs (br.map bb1))) (ha : (V.drop 12).take 12 = avc arm) (hbl : br.length = zn.length) (hzl : zn.length ≤ 1000) (hzp : ∀ z ∈ zn, z.length ≤ 1000000) (hR : R.length ≤ 1000) :
  (K E A24_L1 ⟨[(1, .ptr 256 0), (2, .bs 512 0 0), (3, .ptr 768 0), (4, .ptr 1024 0), (5, .ptr 1280 0), (10, .agg IS), (11, .int .i64 1), (17, .vs (zn.map Go.Geo.p1)), (18, .int .i64 zn.length), (19, .int .i64 0)], [], [(1280, .box [.int .i64 x0, .int .i64 x1, .int .i64 x2]), (1024, .box [.int .i64 1]), (768, .box [.bs 769 0 (R).length]), (769, .row 4 (R)), (512, .row 4 []), (256, .box V)], 0⟩).bind B77 = some (.ex .nrm ⟨[(1, .ptr 256 0), (2, .bs 512 0 0), (3, .ptr 768 0), (10, .agg IS), (11, .int .i64 1)], [], [(1280, .box [.int .i64 x0, .int .i64 x1, .int .i64 x2]), (1024, .box [.int .i64 1]), (768, .box [.bs 769 0 (R ++ (inz 1 (fun k => hitB arm x0 x1 x2 (zn.getD k [])) br zn.length).map v4).length]), (769, .row 4 (R ++ (inz 1 (fun k => hitB arm x0 x1 x2 (zn.getD k [])) br zn.length).map v4)), (512, .row 4 []), (256, .box V)], 0⟩) := by
 obtain ⟨l0, l1, l2, l3, l4, l5, hbod, f1, f2, h4⟩ := bod arm hok x0 x1 x2
 have e39 := c5 x0 x1 x2 hx0 hx1 hx2
 have g : ∀ l ∈ [l0, l1, l2, l3, l4, l5], ∀ z ∈ zn, pc E 45 [lkv l, .vs (z.map Go.Geo.c2)] = some (.bool (Go.Geo.FC l z).isSome) := fun l hl z hz => G.c45 l z (by rw [h4 l hl]; decide) (by have := hzp z hz; omega)
 have lp := loop_to (fun S => (K E A24_L1 S).bind B77) (fun k => ⟨[(1, .ptr 256 0), (2, .bs 512 0 0), (3, .ptr 768 0), (4, .ptr 1024 0), (5, .ptr 1280 0), (10, .agg IS), (11, .int .i64 1), (17, .vs (zn.map Go.Geo.p1)), (18, .int .i64 zn.length), (19, .int .i64 k)], [], [(1280, .box [.int .i64 x0, .int .i64 x1, .int .i64 x2]), (1024, .box [.int .i64 1]), (768, .box [.bs 769 0 (R ++ (inz 1 (fun k => hitB arm x0 x1 x2 (zn.getD k [])) br k).map v4).length]), (769, .row 4 (R ++ (inz 1 (fun k => hitB arm x0 x1 x2 (zn.getD k [])) br k).map v4)), (512, .row 4 []), (256, .box V)], 0⟩) zn.length (fun k hk => by
  have hzk : zn[k]? = some (zn.getD k []) := Go.Geo.getD_of [] hk
  have hbk : br[k]? = some (br.getD k false) := Go.Geo.getD_of false (by omega)
  have hmem : zn.getD k [] ∈ zn := List.mem_of_getElem? hzk
  have hin : inz 1 (fun k => hitB arm x0 x1 x2 (zn.getD k [])) br (k + 1) = inz 1 (fun k => hitB arm x0 x1 x2 (zn.getD k [])) br k ++ if (br.getD k false && hitB arm x0 x1 x2 (zn.getD k [])) = true then [(1, 0, (k : Int))].map (fun q => ((3 : Int), q)) else [] := by
   show inz _ _ _ _ ++ _ = _
   rfl
  have hlen := inz_len 1 (fun k => hitB arm x0 x1 x2 (zn.getD k [])) br k
  rw [hin, List.map_append, ← List.append_assoc]
  have hhit : hitB arm x0 x1 x2 (zn.getD k []) = ((Go.Geo.FC l0 (zn.getD k [])).isSome || ((Go.Geo.FC l1 (zn.getD k [])).isSome || ((Go.Geo.FC l2 (zn.getD k [])).isSome || ((Go.Geo.FC l3 (zn.getD k [])).isSome || ((Go.Geo.FC l4 (zn.getD k [])).isSome || (Go.Geo.FC l5 (zn.getD k [])).isSome))))) := by
   unfold hitB; rw [hbod]; simp [Bool.or_assoc]
  have hrow : (if (br.getD k false && hitB arm x0 x1 x2 (zn.getD k [])) = true then [(1, 0, (k : Int))].map (fun q => ((3 : Int), q)) else [] : List Vi).map v4 = if (br.getD k false && hitB arm x0 x1 x2 (zn.getD k [])) = true then [inrow 1 k] else [] := by split <;> rfl
  rw [hrow, hhit]
  exact s77_1 V IS (zn.map Go.Geo.p1) (br.map bb1) zn.length k _ arm x0 x1 x2 _ _ _ _ _ _ (l0.map c2) (l1.map c2) (l2.map c2) (l3.map c2) (l4.map c2) (l5.map c2) ((zn.getD k []).map Go.Geo.c2) _ _ _ _ _ _ (br.getD k false) hl hs hs2 hv ha hk (List.length_map ..) (by rw [List.length_map]; exact hbl) hzl (by rw [List.getElem?_map, hzk]; rfl) (by rw [List.getElem?_map, hbk]; rfl) (by rw [List.length_append, List.length_map]; omega) e39 f1 f2
   (g l0 (by simp) _ hmem) (g l1 (by simp) _ hmem) (g l2 (by simp) _ hmem) (g l3 (by simp) _ hmem) (g l4 (by simp) _ hmem) (g l5 (by simp) _ hmem))
 simp only [Int.natCast_zero, Int.ofNat_zero, show inz 1 (fun k => hitB arm x0 x1 x2 (zn.getD k [])) br 0 = [] from rfl, List.map_nil, List.append_nil] at lp
 refine lp.trans ?_
 unfold B77
 rw [A24_L1_eq]; simp +contextual -implicitDefEqProofs (maxSteps := 2000000) only [go_sem, ↓reduceIte, A24_L1b, Int.lt_irrefl, hs, hs2]
end Go.Proofs.YtnecdcaaknhgpaaGreat

namespace Go.Proofs.YtnecdcaaknhgpaaGreat
open Go Go.Zv
abbrev vcl (c : Cel) (w0 w1 w2 w3 w4 w5 i0 i1 i2 i3 i4 i5 : Int) (br : List Bool) : List LV := [.int .i64 c.a.bx, .int .i64 c.a.by_, .int .i64 c.a.l0, .int .i64 c.a.l1, .int .i64 c.a.l2, .int .i64 c.a.w, .int .i64 c.a.lo0, .int .i64 c.a.lo1, .int .i64 c.a.lo2, .int .i64 c.a.hi0, .int .i64 c.a.hi1, .int .i64 c.a.hi2, .int .i64 c.b.bx, .int .i64 c.b.by_, .int .i64 c.b.l0, .int .i64 c.b.l1, .int .i64 c.b.l2, .int .i64 c.b.w, .int .i64 c.b.lo0, .int .i64 c.b.lo1, .int .i64 c.b.lo2, .int .i64 c.b.hi0, .int .i64 c.b.hi1, .int .i64 c.b.hi2, .int .i64 c.h0, .int .i64 c.h1, .int .i64 c.h2, .int .i64 c.h3, .int .i64 c.h4, .int .i64 c.h5, .vs c.fx, .vs c.pl, .vs c.pt, .vs c.bt, .int .i64 c.per, .int .i64 c.lv, .int .i64 c.la, .int .i64 c.lj, .int .i64 c.mv, .int .i64 c.ma, .int .i64 c.mj, .vs c.zn, .int .i64 c.gap, .int .i64 c.slow, .int .i64 w0, .int .i64 w1, .int .i64 w2, .int .i64 w3, .int .i64 w4, .int .i64 w5, .int .i64 i0, .int .i64 i1, .int .i64 i2, .int .i64 i3, .int .i64 i4, .int .i64 i5, .vs (br.map bb1)]
def hits (a : Arm) (x0 x1 x2 : Int) (zn : List (List (Int × Int))) : Nat → Bool := fun k => hitB a x0 x1 x2 (zn.getD k [])
def inT (c : Cl) (i0 i1 i2 i3 i4 i5 : Int) (br : List Bool) : List Vi := inz 0 (hits c.a i0 i1 i2 c.zn) br c.zn.length ++ inz 1 (hits c.b i3 i4 i5 c.zn) br c.zn.length
abbrev Sm (x : Int) : Prop := -1000000000 ≤ x ∧ x ≤ 1000000000
theorem c24 (c : Cl) (ha : OKa c.a) (hb : OKa c.b) (w0 w1 w2 w3 w4 w5 i0 i1 i2 i3 i4 i5 : Int) (s0 : Sm i0) (s1 : Sm i1) (s2 : Sm i2) (s3 : Sm i3) (s4 : Sm i4) (s5 : Sm i5) (br : List Bool) (hbl : br.length = c.zn.length) (hzl : c.zn.length ≤ 16) (hzp : ∀ z ∈ c.zn, z.length ≤ 1000000) :
  pc E 24 [.agg (vcl c.cel w0 w1 w2 w3 w4 w5 i0 i1 i2 i3 i4 i5 br)] = some (.vs ((inT c i0 i1 i2 i3 i4 i5 br).map v4)) := by
 have hV : (vcl c.cel w0 w1 w2 w3 w4 w5 i0 i1 i2 i3 i4 i5 br).length = 57 := rfl
 have hs : ∀ r id, LV.subs r id (vcl c.cel w0 w1 w2 w3 w4 w5 i0 i1 i2 i3 i4 i5 br) = vcl c.cel w0 w1 w2 w3 w4 w5 i0 i1 i2 i3 i4 i5 br := fun _ _ => rfl
 have hr : ∀ s, rowsOf (vcl c.cel w0 w1 w2 w3 w4 w5 i0 i1 i2 i3 i4 i5 br) 257 (vcl c.cel w0 w1 w2 w3 w4 w5 i0 i1 i2 i3 i4 i5 br) s = some (vcl c.cel w0 w1 w2 w3 w4 w5 i0 i1 i2 i3 i4 i5 br, s) := fun _ => rfl
 have h5 : (vcl c.cel w0 w1 w2 w3 w4 w5 i0 i1 i2 i3 i4 i5 br).all LV.one = true := rfl
 have h6 : LV.aparts 256 (vcl c.cel w0 w1 w2 w3 w4 w5 i0 i1 i2 i3 i4 i5 br) = true := rfl
 have hv : (vcl c.cel w0 w1 w2 w3 w4 w5 i0 i1 i2 i3 i4 i5 br)[56]? = some (.vs (br.map bb1)) := rfl
 have hz : (vcl c.cel w0 w1 w2 w3 w4 w5 i0 i1 i2 i3 i4 i5 br)[41]? = some (.vs (c.zn.map Go.Geo.p1)) := rfl
 have hI : ((vcl c.cel w0 w1 w2 w3 w4 w5 i0 i1 i2 i3 i4 i5 br).drop 50).take 6 = [.int .i64 i0, .int .i64 i1, .int .i64 i2, .int .i64 i3, .int .i64 i4, .int .i64 i5] := rfl
 have t0 : (vcl c.cel w0 w1 w2 w3 w4 w5 i0 i1 i2 i3 i4 i5 br).take 12 = avc c.a := rfl
 have t1 : ((vcl c.cel w0 w1 w2 w3 w4 w5 i0 i1 i2 i3 i4 i5 br).drop 12).take 12 = avc c.b := rfl
 have q0 := l77_0 (vcl c.cel w0 w1 w2 w3 w4 w5 i0 i1 i2 i3 i4 i5 br) [.int .i64 i0, .int .i64 i1, .int .i64 i2, .int .i64 i3, .int .i64 i4, .int .i64 i5] c.zn br [] c.a ha i0 i1 i2 s0 s1 s2 hV hs (fun _ _ => rfl) hv t0 hbl (by omega) hzp (by simp)
 have hle := inz_len 0 (fun k => hitB c.a i0 i1 i2 (c.zn.getD k [])) br c.zn.length
 have q1 := l77_1 (vcl c.cel w0 w1 w2 w3 w4 w5 i0 i1 i2 i3 i4 i5 br) [.int .i64 i0, .int .i64 i1, .int .i64 i2, .int .i64 i3, .int .i64 i4, .int .i64 i5] c.zn br ((inz 0 (fun k => hitB c.a i0 i1 i2 (c.zn.getD k [])) br c.zn.length).map v4) c.b hb i3 i4 i5 s3 s4 s5 hV hs (fun _ _ => rfl) hv t1 hbl (by omega) hzp (by rw [List.length_map]; omega)
 unfold inT
 rw [List.map_append]
 show _ = some (LV.vs ((inz 0 (fun k => hitB c.a i0 i1 i2 (c.zn.getD k [])) br c.zn.length).map v4 ++ (inz 1 (fun k => hitB c.b i3 i4 i5 (c.zn.getD k [])) br c.zn.length).map v4))
 unfold B77 at q0 q1
 simp only [List.nil_append, List.length_nil] at q0
 have hzlen : (c.zn.map Go.Geo.p1).length = c.zn.length := List.length_map ..
 have u0 := tk_all ((inz 0 (fun k => hitB c.a i0 i1 i2 (c.zn.getD k [])) br c.zn.length).map v4)
 have u1 := tk_all ((inz 0 (fun k => hitB c.a i0 i1 i2 (c.zn.getD k [])) br c.zn.length).map v4 ++ (inz 1 (fun k => hitB c.b i3 i4 i5 (c.zn.getD k [])) br c.zn.length).map v4)
 generalize (inz 0 (fun k => hitB c.a i0 i1 i2 (c.zn.getD k [])) br c.zn.length).map v4 = R0 at *
 generalize R0 ++ (inz 1 (fun k => hitB c.b i3 i4 i5 (c.zn.getD k [])) br c.zn.length).map v4 = R1 at *
 generalize vcl c.cel w0 w1 w2 w3 w4 w5 i0 i1 i2 i3 i4 i5 br = V at *
 generalize c.zn.map Go.Geo.p1 = zr at *
 rw [pc_eq]; simp +contextual -implicitDefEqProofs (maxSteps := 2000000) only [go_sem, ↓reduceIte, E_24, A24, A24_L2_eq, A24_L2b, hV, hs, hr, h5, h6, hv, hz, hI, hzlen, q0, q1, u0, u1, Nat.le_refl]
def mostI (c : Cl) (br : List Bool) : Int := if br.any id = true then mnI c.lv c.slow else c.lv
def vioT (c : Cl) (w0 w1 w2 w3 w4 w5 i0 i1 i2 i3 i4 i5 : Int) (br : List Bool) (kd : Bool) : List Vi := fastT (mostI c br) w0 w1 w2 w3 w4 w5 i0 i1 i2 i3 i4 i5 ++ nearT kd ++ inT c i0 i1 i2 i3 i4 i5 br ++ unlT br br.length
theorem v4_all (l : List Vi) : ((l.map v4).all fun x => x.length == 4) = true := by simp [v4]
theorem v4_scal (l : List Vi) : ((l.map v4).all fun x => x.all LV.scal) = true := by simp [v4, LV.scal]
theorem frT_len (m i w a k : Int) : (frT m i w a k).length ≤ 1 := by unfold frT; split <;> simp
theorem fastT_len (m w0 w1 w2 w3 w4 w5 i0 i1 i2 i3 i4 i5 : Int) : (fastT m w0 w1 w2 w3 w4 w5 i0 i1 i2 i3 i4 i5).length ≤ 6 := by
 unfold fastT
 have h0 := frT_len m i0 w0 0 0
 have h1 := frT_len m i1 w1 0 1
 have h2 := frT_len m i2 w2 0 2
 have h3 := frT_len m i3 w3 1 0
 have h4 := frT_len m i4 w4 1 1
 have h5 := frT_len m i5 w5 1 2
 simp only [List.length_append]; omega
theorem unlT_len (br : List Bool) : ∀ k, (unlT br k).length ≤ k
 | 0 => by simp [unlT]
 | k + 1 => by
   have := unlT_len br k
   unfold unlT
   rw [List.length_append]
   split <;> simp <;> omega
theorem c11 (c : Cl) (ha : OKa c.a) (hb : OKa c.b) (w0 w1 w2 w3 w4 w5 i0 i1 i2 i3 i4 i5 : Int) (s0 : Sm i0) (s1 : Sm i1) (s2 : Sm i2) (s3 : Sm i3) (s4 : Sm i4) (s5 : Sm i5) (br : List Bool) (hbl : br.length = c.zn.length) (hzl : c.zn.length ≤ 16) (hzp : ∀ z ∈ c.zn, z.length ≤ 1000000) (kd : Bool) (o44 : pc E 8 [.agg (cec c.cel), pos i0 i1 i2 i3 i4 i5] = some (.bool kd)) :
  pc E 11 [.agg (cec c.cel), pos w0 w1 w2 w3 w4 w5, pos i0 i1 i2 i3 i4 i5, .vs (br.map bb1)] = some (.os 4 ((vioT c w0 w1 w2 w3 w4 w5 i0 i1 i2 i3 i4 i5 br kd).map v4)) := by
 have hr : ∀ s, rowsOf (vcl c.cel w0 w1 w2 w3 w4 w5 i0 i1 i2 i3 i4 i5 br) 257 (vcl c.cel w0 w1 w2 w3 w4 w5 i0 i1 i2 i3 i4 i5 br) s = some (vcl c.cel w0 w1 w2 w3 w4 w5 i0 i1 i2 i3 i4 i5 br, s) := fun _ => rfl
 have p1 := c22 (vcl c.cel w0 w1 w2 w3 w4 w5 i0 i1 i2 i3 i4 i5 br) br (by omega) c.lv c.slow w0 w1 w2 w3 w4 w5 i0 i1 i2 i3 i4 i5 rfl rfl rfl rfl rfl hr (fun _ _ => rfl) rfl rfl rfl rfl rfl rfl rfl rfl
 have p2 := c23 (vcl c.cel w0 w1 w2 w3 w4 w5 i0 i1 i2 i3 i4 i5 br) kd (cec c.cel) [.int .i64 i0, .int .i64 i1, .int .i64 i2, .int .i64 i3, .int .i64 i4, .int .i64 i5] rfl rfl rfl o44 rfl rfl (fun _ => rfl) (fun _ => rfl) rfl rfl hr (fun _ _ => rfl) rfl rfl
 have p3 := c24 c ha hb w0 w1 w2 w3 w4 w5 i0 i1 i2 i3 i4 i5 s0 s1 s2 s3 s4 s5 br hbl hzl hzp
 have p4 := c25 (vcl c.cel w0 w1 w2 w3 w4 w5 i0 i1 i2 i3 i4 i5 br) br (by omega) rfl rfl hr (fun _ _ => rfl) rfl rfl
 rw [fastR_T] at p1
 rw [near_T] at p2
 rw [unl_T] at p4
 unfold vioT
 simp only [List.map_append]
 have hm : (if br.any id = true then mnI c.lv c.slow else c.lv) = mostI c br := rfl
 rw [hm] at p1
 have b1 := fastT_len (mostI c br) w0 w1 w2 w3 w4 w5 i0 i1 i2 i3 i4 i5
 have b2 : (nearT kd).length ≤ 1 := by unfold nearT; cases kd <;> simp
 have b3 : (inT c i0 i1 i2 i3 i4 i5 br).length ≤ 40 := by
  have h0 := inz_len 0 (hits c.a i0 i1 i2 c.zn) br c.zn.length
  have h1 := inz_len 1 (hits c.b i3 i4 i5 c.zn) br c.zn.length
  unfold inT; rw [List.length_append]; omega
 have b4 := unlT_len br br.length
 have a1 := v4_all (fastT (mostI c br) w0 w1 w2 w3 w4 w5 i0 i1 i2 i3 i4 i5)
 have a2 := v4_all (nearT kd)
 have a3 := v4_all (inT c i0 i1 i2 i3 i4 i5 br)
 have a4 := v4_all (unlT br br.length)
 have c1 := v4_scal (fastT (mostI c br) w0 w1 w2 w3 w4 w5 i0 i1 i2 i3 i4 i5)
 have c2_ := v4_scal (nearT kd)
 have c3 := v4_scal (inT c i0 i1 i2 i3 i4 i5 br)
 have c4 := v4_scal (unlT br br.length)
 have d1 : ((fastT (mostI c br) w0 w1 w2 w3 w4 w5 i0 i1 i2 i3 i4 i5).map v4).length ≤ 6 := by rw [List.length_map]; exact b1
 have d2 : ((nearT kd).map v4).length ≤ 1 := by rw [List.length_map]; exact b2
 have d3 : ((inT c i0 i1 i2 i3 i4 i5 br).map v4).length ≤ 40 := by rw [List.length_map]; exact b3
 have d4 : ((unlT br br.length).map v4).length ≤ 16 := by rw [List.length_map]; omega
 generalize (fastT (mostI c br) w0 w1 w2 w3 w4 w5 i0 i1 i2 i3 i4 i5).map v4 = R1 at *
 generalize (nearT kd).map v4 = R2 at *
 generalize (inT c i0 i1 i2 i3 i4 i5 br).map v4 = R3 at *
 generalize (unlT br br.length).map v4 = R4 at *
 have t1 := tk_all R1
 have t2 := tk_all R2
 have t3 := tk_all R3
 have t4 := tk_all R4
 have t12 : (R1 ++ R2).take (R1.length + R2.length) = R1 ++ R2 := List.take_of_length_le (by simp)
 have t13 : (R1 ++ R2 ++ R3).take (R1.length + R2.length + R3.length) = R1 ++ R2 ++ R3 := List.take_of_length_le (by simp only [List.length_append]; omega)
 have t14 : (R1 ++ R2 ++ R3 ++ R4).take (R1.length + R2.length + R3.length + R4.length) = R1 ++ R2 ++ R3 ++ R4 := List.take_of_length_le (by simp only [List.length_append]; omega)
 have g1 : R1.length ≤ 1000000000 := by omega
 have g2 : R1.length + R2.length ≤ 1000000000 := by omega
 have g3 : R1.length + R2.length + R3.length ≤ 1000000000 := by omega
 have g4 : R1.length + R2.length + R3.length + R4.length ≤ 1000000000 := by omega
 unfold vcl at p1 p2 p3 p4
 unfold cec
 rw [pc_eq]; simp +contextual -implicitDefEqProofs (maxSteps := 2000000) only [go_sem, ↓reduceIte, E_11, A11, A11_L0_eq, A11_L0b, p1, p2, p3, p4, a1, a2, a3, a4, c1, c2_, c3, c4, t1, t2, t3, t4, t12, t13, t14, g1, g2, g3, g4, List.length_append, Nat.le_refl]
end Go.Proofs.YtnecdcaaknhgpaaGreat

namespace Go.Proofs.YtnecdcaaknhgpaaGreat
open Go Go.Zv
abbrev FR44 (a : Arm) (x0 x1 x2 : Int) : Env := [(2, .ptr 512 0), (3, .ptr 768 0), (4, .ptr 1024 0), (12, .fn (Fn.func 38) [] [.fp [.int .i64 x0, .int .i64 x1, .int .i64 x2], .fp (avc a)])]
abbrev O44 (c : Cel) (x0 x1 x2 y0 y1 y2 : Int) (ok : Bool) : Heap := [(1024, .box [.bool ok]), (768, .box [.int .i64 x0, .int .i64 x1, .int .i64 x2, .int .i64 y0, .int .i64 y1, .int .i64 y2]), (512, .box (cec c))]
abbrev FRi (c : Cel) (y0 y1 y2 : Int) : Env := [(2, .ptr 512 0), (4, .ptr 1024 0), (5, .ptr 2098432 0), (19, .fn (Fn.func 38) [] [.fp [.int .i64 y0, .int .i64 y1, .int .i64 y2], .fp (avc c.b)])]
abbrev FM (a : Arm) (i j : Int) (P p0 p1 p2 : List (List LV)) : Env := [(30, .vs P), (29, .yl 1024000), (0, .yl 1024000), (2, .fp (avc a)), (9, .vs P), (17, .bs 1052928 0 2), (18, .int .i64 2), (19, .int .i64 i), (25, .agg [.vs p0, .vs p1, .vs p2]), (26, .int .i64 j)]
abbrev Fin (c : Cel) (y0 y1 y2 : Int) (F : List Env) : List Env := FRi c y0 y1 y2 :: [(0, .yl 3121153)] :: [(0, .yl 1024000)] :: F
abbrev Oin (c : Cel) (x0 x1 x2 y0 y1 y2 u0 u1 u2 v0 v1 v2 a0 a1 a2 b0 b1 b2 : Int) (P : List (List LV)) : Heap :=
 (3150080, .row 3 [[.int .i64 u0, .int .i64 u1, .int .i64 u2], [.int .i64 v0, .int .i64 v1, .int .i64 v2]]) :: (3121153, .loop (FRi c y0 y1 y2) [20] A8_R0a A8_R0b .ready .nrm) :: (2098432, .box [.vs P]) :: (2098433, .row 2 []) ::
 (1052928, .row 3 [[.int .i64 a0, .int .i64 a1, .int .i64 a2], [.int .i64 b0, .int .i64 b1, .int .i64 b2]]) :: (1024000, .loop (FR44 c.a x0 x1 x2) [13] A8_R1a A8_R1b .busy .nrm) :: O44 c x0 x1 x2 y0 y1 y2 false
theorem R1a_K (S : St) : K E A8_R1a S = K E (.reg none [
  ⟨some 5, .alloc [.nils 2], none, true⟩,
  ⟨none, .store 1 (.t 5) (.t 13), none, true⟩] (some [2, 3, 4, 5]) []) S := rfl
theorem R1b_K (S : St) : K E A8_R1b S = K E ((.block 1 (
 (.seq (
 .reg none [
  ⟨some 14, .fad 0 (.t 2), none, true⟩,
  ⟨some 15, .iaa 2 12 (.t 14) (.c (.int .i64 1)), none, true⟩,
  ⟨some 16, .load true 12 (.t 15), none, true⟩,
  ⟨some 17, .iaa 2 3 (.t 3) (.c (.int .i64 1)), none, true⟩,
  ⟨some 18, .load true 3 (.t 17), none, true⟩,
  ⟨some 19, .call 18 [.t 16, .t 18], none, true⟩] (some [2, 4, 5, 19]) [3]) (
 (.block 2 (
 A8_R0) (some []) [6, 23])))) (some []) [6, 19, 23])) S := rfl
theorem R0a_K (S : St) : K E A8_R0a S = K E (.reg none [
   ⟨some 6, .as (.t 20), none, true⟩] (some [2, 4, 5, 6]) []) S := rfl
theorem R0b_K (S : St) : K E A8_R0b S = K E ((.block 3 (
  (.seq (
  .reg (some [.dr [25] [], .dr [21, 25] [], .dr [25] [], .dr [21, 23] [], .dr [21, 23] [], .dr [21, 23] [], .free]) [
   ⟨some 21, .load false 1 (.t 5), none, true⟩,
   ⟨some 22, .mv (.t 6), none, true⟩,
   ⟨some 23, .call 19 [.t 21, .t 22], none, true⟩,
   ⟨some 24, .fad 42 (.t 2), none, true⟩,
   ⟨some 25, .load false 1 (.t 24), none, true⟩,
   ⟨some 26, .bin .mul (.t 25) (.c (.int .i64 4394000)), none, true⟩,
   ⟨some 27, .bin .lss (.t 23) (.t 26), none, true⟩] (some [4, 27]) [2, 5]) (
  (.cond (.t 27) (
   (.seq (
   .reg none [
    ⟨none, .store 1 (.t 4) (.c (.bool false)), none, true⟩] (some []) []) (
   .ret))) (
   .skip))))) (some []) [23])) S := rfl
theorem inn (c : Cel) (x0 x1 x2 y0 y1 y2 a0 a1 a2 b0 b1 b2 u0 u1 u2 v0 v1 v2 : Int) (P Q0 Q1 Q2 Q3 Q4 Q5 : List (List LV)) (i j : Int) (p0 p1 p2 : List (List LV))
 (f3 : pc E 39 [av c.b, jv u0 u1 u2] = some (.agg [.vs Q0, .vs Q1, .vs Q2])) (f4 : pc E 39 [av c.b, jv v0 v1 v2] = some (.agg [.vs Q3, .vs Q4, .vs Q5]))
 (g0 g1 g2 g3 g4 g5 : Int) (e0 : pc E 19 [.vs P, .vs Q0] = some (.int .i64 g0)) (e1 : pc E 19 [.vs P, .vs Q1] = some (.int .i64 g1)) (e2 : pc E 19 [.vs P, .vs Q2] = some (.int .i64 g2)) (e3 : pc E 19 [.vs P, .vs Q3] = some (.int .i64 g3)) (e4 : pc E 19 [.vs P, .vs Q4] = some (.int .i64 g4)) (e5 : pc E 19 [.vs P, .vs Q5] = some (.int .i64 g5))
 (W : Int) (hw : IntKind.i64.wrap (c.gap * 4394000) = W) (b : Bool) (hb : b = (decide (g0 < W) || (decide (g1 < W) || (decide (g2 < W) || (decide (g3 < W) || (decide (g4 < W) || decide (g5 < W))))))) :
 ((((((((K E A38_L1 ⟨[(0, .yl 3121153), (2, .fp (avc c.b)), (17, .bs 3150080 0 2), (18, .int .i64 2), (19, .int .i64 0)], Fin c y0 y1 y2 [FM c.a i j P p0 p1 p2, FR44 c.a x0 x1 x2, [(0, .yl 1024000)]], Oin c x0 x1 x2 y0 y1 y2 u0 u1 u2 v0 v1 v2 a0 a1 a2 b0 b1 b2 P, 3⟩).bind (blockR 0 (some []) [7, 9, 25, 31])).bind (fnEnd [])).bind (afterIn 2)).bind (endRfR 3121153)).bind (blockR 2 (some []) [6, 23])).bind (blockR 1 (some []) [6, 19, 23])).bind (rndBody 1024000)).bind (afterIn 1) =
   some (.bool (!b), ⟨FM c.a i j P p0 p1 p2, [FR44 c.a x0 x1 x2, [(0, .yl 1024000)]], (1052928, .row 3 [[.int .i64 a0, .int .i64 a1, .int .i64 a2], [.int .i64 b0, .int .i64 b1, .int .i64 b2]]) :: (1024000, .loop (FR44 c.a x0 x1 x2) [13] A8_R1a A8_R1b (if b then .done else .ready) (if b then .ret else .nrm)) :: O44 c x0 x1 x2 y0 y1 y2 false, 1⟩) := by
 by_cases n0 : g0 < W
 ·simp only [show b = true by rw [hb]; simp [n0]]
  simp +contextual -implicitDefEqProofs (maxSteps := 2000000) only [go_sem, ↓reduceIte, A38_L1_eq, O44, A38_L1b, A38_L0_eq, A38_L0b, R1a_K, R1b_K, A8_R0, R0a_K, R0b_K, f3, f4, e0, e1, e2, e3, e4, e5, hw, n0]
 by_cases n1 : g1 < W
 ·simp only [show b = true by rw [hb]; simp [n1]]
  simp +contextual -implicitDefEqProofs (maxSteps := 2000000) only [go_sem, ↓reduceIte, A38_L1_eq, O44, A38_L1b, A38_L0_eq, A38_L0b, R1a_K, R1b_K, A8_R0, R0a_K, R0b_K, f3, f4, e0, e1, e2, e3, e4, e5, hw, n0, n1]
 by_cases n2 : g2 < W
 ·simp only [show b = true by rw [hb]; simp [n2]]
  simp +contextual -implicitDefEqProofs (maxSteps := 2000000) only [go_sem, ↓reduceIte, A38_L1_eq, O44, A38_L1b, A38_L0_eq, A38_L0b, R1a_K, R1b_K, A8_R0, R0a_K, R0b_K, f3, f4, e0, e1, e2, e3, e4, e5, hw, n0, n1, n2]
 by_cases n3 : g3 < W
 ·simp only [show b = true by rw [hb]; simp [n3]]
  simp +contextual -implicitDefEqProofs (maxSteps := 2000000) only [go_sem, ↓reduceIte, A38_L1_eq, O44, A38_L1b, A38_L0_eq, A38_L0b, R1a_K, R1b_K, A8_R0, R0a_K, R0b_K, f3, f4, e0, e1, e2, e3, e4, e5, hw, n0, n1, n2, n3]
 by_cases n4 : g4 < W
 ·simp only [show b = true by rw [hb]; simp [n4]]
  simp +contextual -implicitDefEqProofs (maxSteps := 2000000) only [go_sem, ↓reduceIte, A38_L1_eq, O44, A38_L1b, A38_L0_eq, A38_L0b, R1a_K, R1b_K, A8_R0, R0a_K, R0b_K, f3, f4, e0, e1, e2, e3, e4, e5, hw, n0, n1, n2, n3, n4]
 by_cases n5 : g5 < W
 ·simp only [show b = true by rw [hb]; simp [n5]]
  simp +contextual -implicitDefEqProofs (maxSteps := 2000000) only [go_sem, ↓reduceIte, A38_L1_eq, O44, A38_L1b, A38_L0_eq, A38_L0b, R1a_K, R1b_K, A8_R0, R0a_K, R0b_K, f3, f4, e0, e1, e2, e3, e4, e5, hw, n0, n1, n2, n3, n4, n5]
 have hbf : b = false := by rw [hb]; simp [n0, n1, n2, n3, n4, n5]
 simp only [hbf]
 simp +contextual -implicitDefEqProofs (maxSteps := 2000000) only [go_sem, ↓reduceIte, A38_L1_eq, O44, A38_L1b, A38_L0_eq, A38_L0b, R1a_K, R1b_K, A8_R0, R0a_K, R0b_K, f3, f4, e0, e1, e2, e3, e4, e5, hw, n0, n1, n2, n3, n4, n5]
end Go.Proofs.YtnecdcaaknhgpaaGreat

namespace Go.Proofs.YtnecdcaaknhgpaaGreat
open Go Go.Zv
def nrB (W : Int) (ms : List (List (Int × Int))) (l : List (Int × Int)) : Bool := ms.any (fun m => decide (G.gapI l m < W))
theorem c19 (l m : List (Int × Int)) (hl : l.length < 9223372036854775808) (hm : m.length < 9223372036854775808) : pc E 19 [lkv l, lkv m] = some (.int .i64 (G.gapI l m)) := G.c19 l m hl hm
theorem out2 (c : Cel) (x0 x1 x2 y0 y1 y2 a0 a1 a2 b0 b1 b2 u0 u1 u2 v0 v1 v2 : Int) (l0 l1 l2 l3 l4 l5 m0 m1 m2 m3 m4 m5 : List (Int × Int))
 (hl : ∀ l ∈ [l0, l1, l2, l3, l4, l5], l.length < 9223372036854775808) (hm : ∀ m ∈ [m0, m1, m2, m3, m4, m5], m.length < 9223372036854775808)
 (f1 : pc E 39 [av c.a, jv a0 a1 a2] = some (.agg [lkv l0, lkv l1, lkv l2])) (f2 : pc E 39 [av c.a, jv b0 b1 b2] = some (.agg [lkv l3, lkv l4, lkv l5]))
 (f3 : pc E 39 [av c.b, jv u0 u1 u2] = some (.agg [lkv m0, lkv m1, lkv m2])) (f4 : pc E 39 [av c.b, jv v0 v1 v2] = some (.agg [lkv m3, lkv m4, lkv m5]))
 (e39 : pc E 5 [jv y0 y1 y2] = some (.tup [jv u0 u1 u2, jv v0 v1 v2])) (W : Int) (hw : IntKind.i64.wrap (c.gap * 4394000) = W) : (((((K E A38_L1 ⟨[(0, .yl 1024000), (2, .fp (avc c.a)), (17, .bs 1052928 0 2), (18, .int .i64 2), (19, .int .i64 2)], [FR44 c.a x0 x1 x2, [(0, .yl 1024000)]], (1052928, .row 3 [[.int .i64 a0, .int .i64 a1, .int .i64 a2], [.int .i64 b0, .int .i64 b1, .int .i64 b2]]) :: (1024000, .loop (FR44 c.a x0 x1 x2) [13] A8_R1a A8_R1b .ready .nrm) :: O44 c x0 x1 x2 y0 y1 y2 false, 1⟩).bind (blockR 0 (some []) [7, 9, 25, 31])).bind (fnEnd [])).bind (afterIn 0)).bind (endRfR 1024000)).bind (blockR 0 (some [4]) [5, 6, 19, 23]) = some (.ex (if false then .ret else .nrm) ⟨if false then FR44 c.a x0 x1 x2 else [(4, .ptr 1024 0)], [], O44 c x0 x1 x2 y0 y1 y2 false, 0⟩) := by
 rw [A38_L1_eq]
 simp +contextual -implicitDefEqProofs (maxSteps := 2000000) only [go_sem, ↓reduceIte, O44, A38_L1b]
theorem out1 (c : Cel) (x0 x1 x2 y0 y1 y2 a0 a1 a2 b0 b1 b2 u0 u1 u2 v0 v1 v2 : Int) (l0 l1 l2 l3 l4 l5 m0 m1 m2 m3 m4 m5 : List (Int × Int))
 (hl : ∀ l ∈ [l0, l1, l2, l3, l4, l5], l.length < 9223372036854775808) (hm : ∀ m ∈ [m0, m1, m2, m3, m4, m5], m.length < 9223372036854775808)
 (f1 : pc E 39 [av c.a, jv a0 a1 a2] = some (.agg [lkv l0, lkv l1, lkv l2])) (f2 : pc E 39 [av c.a, jv b0 b1 b2] = some (.agg [lkv l3, lkv l4, lkv l5]))
 (f3 : pc E 39 [av c.b, jv u0 u1 u2] = some (.agg [lkv m0, lkv m1, lkv m2])) (f4 : pc E 39 [av c.b, jv v0 v1 v2] = some (.agg [lkv m3, lkv m4, lkv m5]))
 (e39 : pc E 5 [jv y0 y1 y2] = some (.tup [jv u0 u1 u2, jv v0 v1 v2])) (W : Int) (hw : IntKind.i64.wrap (c.gap * 4394000) = W) (b : Bool) (hb : b = (nrB W [m0, m1, m2, m3, m4, m5] l3 || nrB W [m0, m1, m2, m3, m4, m5] l4 || nrB W [m0, m1, m2, m3, m4, m5] l5)) :
 (((((K E A38_L1 ⟨[(0, .yl 1024000), (2, .fp (avc c.a)), (17, .bs 1052928 0 2), (18, .int .i64 2), (19, .int .i64 1)], [FR44 c.a x0 x1 x2, [(0, .yl 1024000)]], (1052928, .row 3 [[.int .i64 a0, .int .i64 a1, .int .i64 a2], [.int .i64 b0, .int .i64 b1, .int .i64 b2]]) :: (1024000, .loop (FR44 c.a x0 x1 x2) [13] A8_R1a A8_R1b .ready .nrm) :: O44 c x0 x1 x2 y0 y1 y2 false, 1⟩).bind (blockR 0 (some []) [7, 9, 25, 31])).bind (fnEnd [])).bind (afterIn 0)).bind (endRfR 1024000)).bind (blockR 0 (some [4]) [5, 6, 19, 23]) =
   some (.ex (if b then .ret else .nrm) ⟨if b then FR44 c.a x0 x1 x2 else [(4, .ptr 1024 0)], [], O44 c x0 x1 x2 y0 y1 y2 false, 0⟩) := by
 have h79 := c18 c.b y0 y1 y2
 have i3 := inn c x0 x1 x2 y0 y1 y2 a0 a1 a2 b0 b1 b2 u0 u1 u2 v0 v1 v2 (l3.map c2) (m0.map c2) (m1.map c2) (m2.map c2) (m3.map c2) (m4.map c2) (m5.map c2) 1 0 (l3.map c2) (l4.map c2) (l5.map c2) f3 f4 _ _ _ _ _ _ (c19 l3 m0 (hl _ (by simp)) (hm _ (by simp))) (c19 l3 m1 (hl _ (by simp)) (hm _ (by simp))) (c19 l3 m2 (hl _ (by simp)) (hm _ (by simp))) (c19 l3 m3 (hl _ (by simp)) (hm _ (by simp))) (c19 l3 m4 (hl _ (by simp)) (hm _ (by simp))) (c19 l3 m5 (hl _ (by simp)) (hm _ (by simp))) W hw (nrB W [m0, m1, m2, m3, m4, m5] l3) (by simp [nrB])
 have i4 := inn c x0 x1 x2 y0 y1 y2 a0 a1 a2 b0 b1 b2 u0 u1 u2 v0 v1 v2 (l4.map c2) (m0.map c2) (m1.map c2) (m2.map c2) (m3.map c2) (m4.map c2) (m5.map c2) 1 1 (l3.map c2) (l4.map c2) (l5.map c2) f3 f4 _ _ _ _ _ _ (c19 l4 m0 (hl _ (by simp)) (hm _ (by simp))) (c19 l4 m1 (hl _ (by simp)) (hm _ (by simp))) (c19 l4 m2 (hl _ (by simp)) (hm _ (by simp))) (c19 l4 m3 (hl _ (by simp)) (hm _ (by simp))) (c19 l4 m4 (hl _ (by simp)) (hm _ (by simp))) (c19 l4 m5 (hl _ (by simp)) (hm _ (by simp))) W hw (nrB W [m0, m1, m2, m3, m4, m5] l4) (by simp [nrB])
 have i5 := inn c x0 x1 x2 y0 y1 y2 a0 a1 a2 b0 b1 b2 u0 u1 u2 v0 v1 v2 (l5.map c2) (m0.map c2) (m1.map c2) (m2.map c2) (m3.map c2) (m4.map c2) (m5.map c2) 1 2 (l3.map c2) (l4.map c2) (l5.map c2) f3 f4 _ _ _ _ _ _ (c19 l5 m0 (hl _ (by simp)) (hm _ (by simp))) (c19 l5 m1 (hl _ (by simp)) (hm _ (by simp))) (c19 l5 m2 (hl _ (by simp)) (hm _ (by simp))) (c19 l5 m3 (hl _ (by simp)) (hm _ (by simp))) (c19 l5 m4 (hl _ (by simp)) (hm _ (by simp))) (c19 l5 m5 (hl _ (by simp)) (hm _ (by simp))) W hw (nrB W [m0, m1, m2, m3, m4, m5] l5) (by simp [nrB])
 have nx := out2 c x0 x1 x2 y0 y1 y2 a0 a1 a2 b0 b1 b2 u0 u1 u2 v0 v1 v2 l0 l1 l2 l3 l4 l5 m0 m1 m2 m3 m4 m5 hl hm f1 f2 f3 f4 e39 W hw
 by_cases n3 : nrB W [m0, m1, m2, m3, m4, m5] l3 = true
 ·have hbt : b = true := by rw [hb]; simp [n3]
  rw [n3] at i3
  simp only [Bool.not_true, Bool.not_false, ↓reduceIte, Bool.false_eq_true] at i3
  simp only [hbt]
  rw [A38_L1_eq]
  simp +contextual -implicitDefEqProofs (maxSteps := 2000000) only [go_sem, ↓reduceIte, O44, FR44, A38_L1b, A38_L0_eq, A38_L0b, R1a_K, R1b_K, A8_R1, A8_R0, R0a_K, R0b_K, E_38, A38, h79, e39, f2, i3]
 rw [Bool.not_eq_true] at n3
 rw [n3] at i3
 simp only [Bool.not_true, Bool.not_false, ↓reduceIte, Bool.false_eq_true] at i3
 by_cases n4 : nrB W [m0, m1, m2, m3, m4, m5] l4 = true
 ·have hbt : b = true := by rw [hb]; simp [n3, n4]
  rw [n4] at i4
  simp only [Bool.not_true, Bool.not_false, ↓reduceIte, Bool.false_eq_true] at i4
  simp only [hbt]
  rw [A38_L1_eq]
  simp +contextual -implicitDefEqProofs (maxSteps := 2000000) only [go_sem, ↓reduceIte, O44, FR44, A38_L1b, A38_L0_eq, A38_L0b, R1a_K, R1b_K, A8_R1, A8_R0, R0a_K, R0b_K, E_38, A38, h79, e39, f2, i3, i4]
 rw [Bool.not_eq_true] at n4
 rw [n4] at i4
 simp only [Bool.not_true, Bool.not_false, ↓reduceIte, Bool.false_eq_true] at i4
 by_cases n5 : nrB W [m0, m1, m2, m3, m4, m5] l5 = true
 ·have hbt : b = true := by rw [hb]; simp [n3, n4, n5]
  rw [n5] at i5
  simp only [Bool.not_true, Bool.not_false, ↓reduceIte, Bool.false_eq_true] at i5
  simp only [hbt]
  rw [A38_L1_eq]
  simp +contextual -implicitDefEqProofs (maxSteps := 2000000) only [go_sem, ↓reduceIte, O44, FR44, A38_L1b, A38_L0_eq, A38_L0b, R1a_K, R1b_K, A8_R1, A8_R0, R0a_K, R0b_K, E_38, A38, h79, e39, f2, i3, i4, i5]
 rw [Bool.not_eq_true] at n5
 rw [n5] at i5
 simp only [Bool.not_true, Bool.not_false, ↓reduceIte, Bool.false_eq_true] at i5
 have hbf : b = false := by rw [hb]; simp [n3, n4, n5]
 simp only [hbf]
 rw [A38_L1_eq]
 simp +contextual -implicitDefEqProofs (maxSteps := 2000000) only [go_sem, ↓reduceIte, O44, FR44, A38_L1b, A38_L0_eq, A38_L0b, R1a_K, R1b_K, A8_R1, A8_R0, R0a_K, R0b_K, E_38, A38, h79, e39, f2, i3, i4, i5, nx]
theorem out0 (c : Cel) (x0 x1 x2 y0 y1 y2 a0 a1 a2 b0 b1 b2 u0 u1 u2 v0 v1 v2 : Int) (l0 l1 l2 l3 l4 l5 m0 m1 m2 m3 m4 m5 : List (Int × Int))
 (hl : ∀ l ∈ [l0, l1, l2, l3, l4, l5], l.length < 9223372036854775808) (hm : ∀ m ∈ [m0, m1, m2, m3, m4, m5], m.length < 9223372036854775808)
 (f1 : pc E 39 [av c.a, jv a0 a1 a2] = some (.agg [lkv l0, lkv l1, lkv l2])) (f2 : pc E 39 [av c.a, jv b0 b1 b2] = some (.agg [lkv l3, lkv l4, lkv l5]))
 (f3 : pc E 39 [av c.b, jv u0 u1 u2] = some (.agg [lkv m0, lkv m1, lkv m2])) (f4 : pc E 39 [av c.b, jv v0 v1 v2] = some (.agg [lkv m3, lkv m4, lkv m5]))
 (e39 : pc E 5 [jv y0 y1 y2] = some (.tup [jv u0 u1 u2, jv v0 v1 v2])) (W : Int) (hw : IntKind.i64.wrap (c.gap * 4394000) = W) (bq : Bool) (hb1 : bq = (nrB W [m0, m1, m2, m3, m4, m5] l3 || nrB W [m0, m1, m2, m3, m4, m5] l4 || nrB W [m0, m1, m2, m3, m4, m5] l5)) (b : Bool) (hb : b = ((nrB W [m0, m1, m2, m3, m4, m5] l0 || nrB W [m0, m1, m2, m3, m4, m5] l1 || nrB W [m0, m1, m2, m3, m4, m5] l2) || bq)) :
 (((((K E A38_L1 ⟨[(0, .yl 1024000), (2, .fp (avc c.a)), (17, .bs 1052928 0 2), (18, .int .i64 2), (19, .int .i64 0)], [FR44 c.a x0 x1 x2, [(0, .yl 1024000)]], (1052928, .row 3 [[.int .i64 a0, .int .i64 a1, .int .i64 a2], [.int .i64 b0, .int .i64 b1, .int .i64 b2]]) :: (1024000, .loop (FR44 c.a x0 x1 x2) [13] A8_R1a A8_R1b .ready .nrm) :: O44 c x0 x1 x2 y0 y1 y2 false, 1⟩).bind (blockR 0 (some []) [7, 9, 25, 31])).bind (fnEnd [])).bind (afterIn 0)).bind (endRfR 1024000)).bind (blockR 0 (some [4]) [5, 6, 19, 23]) =
   some (.ex (if b then .ret else .nrm) ⟨if b then FR44 c.a x0 x1 x2 else [(4, .ptr 1024 0)], [], O44 c x0 x1 x2 y0 y1 y2 false, 0⟩) := by
 have h79 := c18 c.b y0 y1 y2
 have i0 := inn c x0 x1 x2 y0 y1 y2 a0 a1 a2 b0 b1 b2 u0 u1 u2 v0 v1 v2 (l0.map c2) (m0.map c2) (m1.map c2) (m2.map c2) (m3.map c2) (m4.map c2) (m5.map c2) 0 0 (l0.map c2) (l1.map c2) (l2.map c2) f3 f4 _ _ _ _ _ _ (c19 l0 m0 (hl _ (by simp)) (hm _ (by simp))) (c19 l0 m1 (hl _ (by simp)) (hm _ (by simp))) (c19 l0 m2 (hl _ (by simp)) (hm _ (by simp))) (c19 l0 m3 (hl _ (by simp)) (hm _ (by simp))) (c19 l0 m4 (hl _ (by simp)) (hm _ (by simp))) (c19 l0 m5 (hl _ (by simp)) (hm _ (by simp))) W hw (nrB W [m0, m1, m2, m3, m4, m5] l0) (by simp [nrB])
 have i1 := inn c x0 x1 x2 y0 y1 y2 a0 a1 a2 b0 b1 b2 u0 u1 u2 v0 v1 v2 (l1.map c2) (m0.map c2) (m1.map c2) (m2.map c2) (m3.map c2) (m4.map c2) (m5.map c2) 0 1 (l0.map c2) (l1.map c2) (l2.map c2) f3 f4 _ _ _ _ _ _ (c19 l1 m0 (hl _ (by simp)) (hm _ (by simp))) (c19 l1 m1 (hl _ (by simp)) (hm _ (by simp))) (c19 l1 m2 (hl _ (by simp)) (hm _ (by simp))) (c19 l1 m3 (hl _ (by simp)) (hm _ (by simp))) (c19 l1 m4 (hl _ (by simp)) (hm _ (by simp))) (c19 l1 m5 (hl _ (by simp)) (hm _ (by simp))) W hw (nrB W [m0, m1, m2, m3, m4, m5] l1) (by simp [nrB])
 have i2 := inn c x0 x1 x2 y0 y1 y2 a0 a1 a2 b0 b1 b2 u0 u1 u2 v0 v1 v2 (l2.map c2) (m0.map c2) (m1.map c2) (m2.map c2) (m3.map c2) (m4.map c2) (m5.map c2) 0 2 (l0.map c2) (l1.map c2) (l2.map c2) f3 f4 _ _ _ _ _ _ (c19 l2 m0 (hl _ (by simp)) (hm _ (by simp))) (c19 l2 m1 (hl _ (by simp)) (hm _ (by simp))) (c19 l2 m2 (hl _ (by simp)) (hm _ (by simp))) (c19 l2 m3 (hl _ (by simp)) (hm _ (by simp))) (c19 l2 m4 (hl _ (by simp)) (hm _ (by simp))) (c19 l2 m5 (hl _ (by simp)) (hm _ (by simp))) W hw (nrB W [m0, m1, m2, m3, m4, m5] l2) (by simp [nrB])
 have nx := out1 c x0 x1 x2 y0 y1 y2 a0 a1 a2 b0 b1 b2 u0 u1 u2 v0 v1 v2 l0 l1 l2 l3 l4 l5 m0 m1 m2 m3 m4 m5 hl hm f1 f2 f3 f4 e39 W hw bq hb1
 by_cases n0 : nrB W [m0, m1, m2, m3, m4, m5] l0 = true
 ·have hbt : b = true := by rw [hb]; simp [n0]
  rw [n0] at i0
  simp only [Bool.not_true, Bool.not_false, ↓reduceIte, Bool.false_eq_true] at i0
  simp only [hbt]
  rw [A38_L1_eq]
  simp +contextual -implicitDefEqProofs (maxSteps := 2000000) only [go_sem, ↓reduceIte, O44, FR44, A38_L1b, A38_L0_eq, A38_L0b, R1a_K, R1b_K, A8_R1, A8_R0, R0a_K, R0b_K, E_38, A38, h79, e39, f1, i0]
 rw [Bool.not_eq_true] at n0
 rw [n0] at i0
 simp only [Bool.not_true, Bool.not_false, ↓reduceIte, Bool.false_eq_true] at i0
 by_cases n1 : nrB W [m0, m1, m2, m3, m4, m5] l1 = true
 ·have hbt : b = true := by rw [hb]; simp [n0, n1]
  rw [n1] at i1
  simp only [Bool.not_true, Bool.not_false, ↓reduceIte, Bool.false_eq_true] at i1
  simp only [hbt]
  rw [A38_L1_eq]
  simp +contextual -implicitDefEqProofs (maxSteps := 2000000) only [go_sem, ↓reduceIte, O44, FR44, A38_L1b, A38_L0_eq, A38_L0b, R1a_K, R1b_K, A8_R1, A8_R0, R0a_K, R0b_K, E_38, A38, h79, e39, f1, i0, i1]
 rw [Bool.not_eq_true] at n1
 rw [n1] at i1
 simp only [Bool.not_true, Bool.not_false, ↓reduceIte, Bool.false_eq_true] at i1
 by_cases n2 : nrB W [m0, m1, m2, m3, m4, m5] l2 = true
 ·have hbt : b = true := by rw [hb]; simp [n0, n1, n2]
  rw [n2] at i2
  simp only [Bool.not_true, Bool.not_false, ↓reduceIte, Bool.false_eq_true] at i2
  simp only [hbt]
  rw [A38_L1_eq]
  simp +contextual -implicitDefEqProofs (maxSteps := 2000000) only [go_sem, ↓reduceIte, O44, FR44, A38_L1b, A38_L0_eq, A38_L0b, R1a_K, R1b_K, A8_R1, A8_R0, R0a_K, R0b_K, E_38, A38, h79, e39, f1, i0, i1, i2]
 rw [Bool.not_eq_true] at n2
 rw [n2] at i2
 simp only [Bool.not_true, Bool.not_false, ↓reduceIte, Bool.false_eq_true] at i2
 have hbf : b = bq := by rw [hb]; simp [n0, n1, n2]
 rw [hbf]
 rw [A38_L1_eq]
 simp +contextual -implicitDefEqProofs (maxSteps := 2000000) only [go_sem, ↓reduceIte, O44, FR44, A38_L1b, A38_L0_eq, A38_L0b, R1a_K, R1b_K, A8_R1, A8_R0, R0a_K, R0b_K, E_38, A38, h79, e39, f1, i0, i1, i2, nx]
theorem c8w (c : Cel) (x0 x1 x2 y0 y1 y2 a0 a1 a2 b0 b1 b2 u0 u1 u2 v0 v1 v2 : Int) (l0 l1 l2 l3 l4 l5 m0 m1 m2 m3 m4 m5 : List (Int × Int))
 (hl : ∀ l ∈ [l0, l1, l2, l3, l4, l5], l.length < 9223372036854775808) (hm : ∀ m ∈ [m0, m1, m2, m3, m4, m5], m.length < 9223372036854775808)
 (f1 : pc E 39 [av c.a, jv a0 a1 a2] = some (.agg [lkv l0, lkv l1, lkv l2])) (f2 : pc E 39 [av c.a, jv b0 b1 b2] = some (.agg [lkv l3, lkv l4, lkv l5]))
 (f3 : pc E 39 [av c.b, jv u0 u1 u2] = some (.agg [lkv m0, lkv m1, lkv m2])) (f4 : pc E 39 [av c.b, jv v0 v1 v2] = some (.agg [lkv m3, lkv m4, lkv m5]))
 (e38 : pc E 5 [jv x0 x1 x2] = some (.tup [jv a0 a1 a2, jv b0 b1 b2])) (e39 : pc E 5 [jv y0 y1 y2] = some (.tup [jv u0 u1 u2, jv v0 v1 v2])) (W : Int) (hw : IntKind.i64.wrap (c.gap * 4394000) = W) :
 pc E 8 [.agg (cec c), pos x0 x1 x2 y0 y1 y2] = some (.bool (![l0, l1, l2, l3, l4, l5].any (nrB W [m0, m1, m2, m3, m4, m5]))) := by
 have h2 := c18 c.a x0 x1 x2
 have nx := out0 c x0 x1 x2 y0 y1 y2 a0 a1 a2 b0 b1 b2 u0 u1 u2 v0 v1 v2 l0 l1 l2 l3 l4 l5 m0 m1 m2 m3 m4 m5 hl hm f1 f2 f3 f4 e39 W hw _ rfl _ rfl
 have e : [l0, l1, l2, l3, l4, l5].any (nrB W [m0, m1, m2, m3, m4, m5]) = ((nrB W [m0, m1, m2, m3, m4, m5] l0 || nrB W [m0, m1, m2, m3, m4, m5] l1 || nrB W [m0, m1, m2, m3, m4, m5] l2) || (nrB W [m0, m1, m2, m3, m4, m5] l3 || nrB W [m0, m1, m2, m3, m4, m5] l4 || nrB W [m0, m1, m2, m3, m4, m5] l5)) := by simp [Bool.or_assoc]
 rw [e]
 generalize ((nrB W [m0, m1, m2, m3, m4, m5] l0 || nrB W [m0, m1, m2, m3, m4, m5] l1 || nrB W [m0, m1, m2, m3, m4, m5] l2) || (nrB W [m0, m1, m2, m3, m4, m5] l3 || nrB W [m0, m1, m2, m3, m4, m5] l4 || nrB W [m0, m1, m2, m3, m4, m5] l5)) = b at nx ⊢
 cases b <;> simp only [Bool.false_eq_true, ↓reduceIte] at nx <;> rw [pc_eq] <;> simp +contextual -implicitDefEqProofs (maxSteps := 2000000) only [go_sem, ↓reduceIte, E_8, A8, A8_R1, E_38, A38, h2, e38, nx]
end Go.Proofs.YtnecdcaaknhgpaaGreat

namespace Go.Proofs.YtnecdcaaknhgpaaGreat
open Go Go.Zv
theorem c27 (br : List Bool) (hl : br.length ≤ 1000000) : pc E 27 [.vs (br.map bb1)] = some (.bool (br.any id)) := by
 have lp := loop_any (fun S => (K E A27_L0 S).bind (blockR 0 (some []) [2, 3]))
  (fun k => ⟨[(0, .vs (br.map bb1)), (3, .int .i64 k)], [], [], 0⟩) br id (some (.ex .ret ⟨[(2, .bool true)], [], [], 0⟩)) (some (.ex .nrm ⟨[], [], [], 0⟩))
  (by
   show (K E A27_L0 _).bind _ = _
   rw [A27_L0_eq]; simp +contextual -implicitDefEqProofs (maxSteps := 2000000) only [go_sem, ↓reduceIte, A27_L0b, Int.lt_irrefl, List.length_map])
  (fun k b hk hget => by
   have g : (br.map bb1)[k]? = some [.bool b] := by rw [List.getElem?_map, hget]; rfl
   have k0 : (0 : Int) ≤ k := by omega
   have k1 : (k : Int) < br.length := by omega
   have hw := wr_succ (n := k) (by omega)
   cases b
   ·simp only [id, Bool.false_eq_true, if_false]
    show (K E A27_L0 _).bind _ = (K E A27_L0 _).bind _
    conv => lhs; rw [A27_L0_eq]
    simp +contextual -implicitDefEqProofs (maxSteps := 2000000) only [go_sem, ↓reduceIte, A27_L0b, k0, k1, g, hw, List.length_map]
   ·simp only [id, if_true]
    show (K E A27_L0 _).bind _ = _
    rw [A27_L0_eq]
    simp +contextual -implicitDefEqProofs (maxSteps := 2000000) only [go_sem, ↓reduceIte, A27_L0b, k0, k1, g, hw, List.length_map])
 simp only [Int.natCast_zero, Int.ofNat_zero] at lp
 cases h : br.any id
 ·rw [h] at lp
  simp only [Bool.false_eq_true, if_false] at lp
  rw [pc_eq]; simp +contextual -implicitDefEqProofs (maxSteps := 2000000) only [go_sem, ↓reduceIte, E_27, A27, lp]
 ·rw [h] at lp
  simp only [if_true] at lp
  rw [pc_eq]; simp +contextual -implicitDefEqProofs (maxSteps := 2000000) only [go_sem, ↓reduceIte, E_27, A27, lp]
def veq (p b : Vi) : Bool := (p.1 == b.1) && ((p.2.1 == b.2.1) && ((p.2.2.1 == b.2.2.1) && (p.2.2.2 == b.2.2.2)))
theorem veq_iff (p b : Vi) : veq p b = decide (p = b) := by
 obtain ⟨p1, p2, p3, p4⟩ := p
 obtain ⟨b1, b2, b3, b4⟩ := b
 unfold veq
 rw [Bool.eq_iff_iff]
 simp only [Bool.and_eq_true, beq_iff_eq, decide_eq_true_eq, Prod.mk.injEq]
theorem eqs4 (p b : Vi) : eqs [0, 0, 0, 0] (v4 p) (v4 b) = some (veq p b) := by
 obtain ⟨p1, p2, p3, p4⟩ := p
 obtain ⟨b1, b2, b3, b4⟩ := b
 unfold v4 veq
 simp +contextual -implicitDefEqProofs (maxSteps := 2000000) only [go_sem, ↓reduceIte, eqs]
theorem c10 (l m : List Vi) (hl : l.length ≤ 1000000) (hm : m.length ≤ 1000000) : pc E 10 [.vs (l.map v4), .vs (m.map v4)] = some (.bool (decide (l = m))) := by
 by_cases hlen : l.length = m.length
 ·have lp := loop_eq (fun S => (K E A10_L0 S).bind (blockR 0 (some []) [4, 5]))
   (fun k => ⟨[(0, .vs (l.map v4)), (1, .vs (m.map v4)), (5, .int .i64 k)], [], [], 0⟩) l m hlen (some (.ex .ret ⟨[(4, .bool false)], [], [], 0⟩)) (some (.ex .nrm ⟨[], [], [], 0⟩))
   (by
    show (K E A10_L0 _).bind _ = _
    rw [A10_L0_eq]; simp +contextual -implicitDefEqProofs (maxSteps := 2000000) only [go_sem, ↓reduceIte, A10_L0b, Int.lt_irrefl, List.length_map])
   (fun k p b hk hget hget2 => by
    have g : (l.map v4)[k]? = some (v4 p) := by rw [List.getElem?_map, hget]; rfl
    have g2 : (m.map v4)[k]? = some (v4 b) := by rw [List.getElem?_map, hget2]; rfl
    have k0 : (0 : Int) ≤ k := by omega
    have k1 : (k : Int) < l.length := by omega
    have k2 : (k : Int) < m.length := by omega
    have hw := wr_succ (n := k) (by omega)
    have e4 := eqs4 p b
    rw [veq_iff] at e4
    have l4 : (v4 p).length = 4 := rfl
    have m4 : (v4 b).length = 4 := rfl
    have t4 : (v4 b).take 4 = v4 b := rfl
    have t5 : (v4 p).take 4 = v4 p := rfl
    by_cases hq : p = b
    ·rw [decide_eq_true hq] at e4
     rw [if_pos hq]
     show (K E A10_L0 _).bind _ = (K E A10_L0 _).bind _
     conv => lhs; rw [A10_L0_eq]
     simp +contextual -implicitDefEqProofs (maxSteps := 2000000) only [go_sem, ↓reduceIte, A10_L0b, k0, k1, k2, g, g2, hw, List.length_map, e4, l4, m4, t4, t5]
    ·rw [decide_eq_false hq] at e4
     rw [if_neg hq]
     show (K E A10_L0 _).bind _ = _
     rw [A10_L0_eq]
     simp +contextual -implicitDefEqProofs (maxSteps := 2000000) only [go_sem, ↓reduceIte, A10_L0b, k0, k1, k2, g, g2, hw, List.length_map, e4, l4, m4, t4, t5])
  simp only [Int.natCast_zero, Int.ofNat_zero] at lp
  have hb : (l.length : Int) = m.length := by omega
  by_cases h : l = m
  ·rw [if_pos h] at lp
   rw [decide_eq_true h, pc_eq]; simp +contextual -implicitDefEqProofs (maxSteps := 2000000) only [go_sem, ↓reduceIte, E_10, A10, lp, List.length_map, hb, not_true_eq_false, not_false_eq_true]
  ·rw [if_neg h] at lp
   rw [decide_eq_false h, pc_eq]; simp +contextual -implicitDefEqProofs (maxSteps := 2000000) only [go_sem, ↓reduceIte, E_10, A10, lp, List.length_map, hb, not_true_eq_false, not_false_eq_true]
 ·have hb : ¬ (l.length : Int) = m.length := by omega
  rw [decide_eq_false (fun h => hlen (by rw [h])), pc_eq]; simp +contextual -implicitDefEqProofs (maxSteps := 2000000) only [go_sem, ↓reduceIte, E_10, A10, List.length_map, hb, not_true_eq_false, not_false_eq_true]
def kdB (a b : Arm) (x0 x1 x2 y0 y1 y2 g : Int) : Bool := !(bods a x0 x1 x2).any (nrB (IntKind.i64.wrap (g * 4394000)) (bods b y0 y1 y2))
theorem c8 (c : Cel) (ha : OKa c.a) (hb : OKa c.b) (x0 x1 x2 y0 y1 y2 : Int) (s0 : Sm x0) (s1 : Sm x1) (s2 : Sm x2) (s3 : Sm y0) (s4 : Sm y1) (s5 : Sm y2) :
  pc E 8 [.agg (cec c), pos x0 x1 x2 y0 y1 y2] = some (.bool (kdB c.a c.b x0 x1 x2 y0 y1 y2 c.gap)) := by
 obtain ⟨l0, l1, l2, l3, l4, l5, hl, f1, f2, q1⟩ := bod c.a ha x0 x1 x2
 obtain ⟨m0, m1, m2, m3, m4, m5, hm, f3, f4, q2⟩ := bod c.b hb y0 y1 y2
 have e38 := c5 x0 x1 x2 s0 s1 s2
 have e39 := c5 y0 y1 y2 s3 s4 s5
 unfold kdB
 rw [hl, hm]
 exact c8w c x0 x1 x2 y0 y1 y2 _ _ _ _ _ _ _ _ _ _ _ _ l0 l1 l2 l3 l4 l5 m0 m1 m2 m3 m4 m5 (fun l h => by rw [q1 l h]; decide) (fun l h => by rw [q2 l h]; decide) f1 f2 f3 f4 e38 e39 _ rfl
end Go.Proofs.YtnecdcaaknhgpaaGreat

namespace Go.Proofs.YtnecdcaaknhgpaaGreat
open Go Go.Zv
structure Fit (c : Cl) (x0 x1 x2 y0 y1 y2 : Int) (br : List Bool) : Prop where
 ha : OKa c.a
 hb : OKa c.b
 zl : c.zn.length ≤ 16
 bl : br.length = c.zn.length
 zv : ∀ z ∈ c.zn, Go.Geo.valB z = true
 m0 : 12 * c.a.lo0 ≤ x0 ∧ x0 ≤ 12 * c.a.hi0
 m1 : 12 * c.a.lo1 ≤ x1 ∧ x1 ≤ 12 * c.a.hi1
 m2 : 12 * c.a.lo2 ≤ x2 ∧ x2 ≤ 12 * c.a.hi2
 m3 : 12 * c.b.lo0 ≤ y0 ∧ y0 ≤ 12 * c.b.hi0
 m4 : 12 * c.b.lo1 ≤ y1 ∧ y1 ≤ 12 * c.b.hi1
 m5 : 12 * c.b.lo2 ≤ y2 ∧ y2 ≤ 12 * c.b.hi2
 lv : 1 ≤ c.lv ∧ c.lv ≤ 8
 sl : 1 ≤ c.slow ∧ c.slow ≤ 8
 gp : 0 ≤ c.gap ∧ c.gap ≤ 20
theorem fit_of {c : Cl} {x0 x1 x2 y0 y1 y2 : Int} {br : List Bool} (h : fitB c x0 x1 x2 y0 y1 y2 br = true) : Fit c x0 x1 x2 y0 y1 y2 br := by
 unfold fitB smallB mayQ at h
 simp only [Bool.and_eq_true, decide_eq_true_eq] at h
 obtain ⟨⟨_, hz, _⟩, hr, hbl, hx, hy⟩ := h
 obtain ⟨ha, hb, hs⟩ := right_ok hr
 unfold restB limsB Go.Geo.bouB at hs
 simp only [Bool.and_eq_true, decide_eq_true_eq] at hs
 obtain ⟨_, hp, _, _, _, _, _, ⟨⟨v1, v2, _⟩, _⟩, g1, g2, s1, s2⟩ := hs
 unfold Go.Geo.polB at hp
 simp only [Bool.and_eq_true, List.all_eq_true] at hp
 exact ⟨ha, hb, by omega, by omega, hp.2, ⟨hx.1, hx.2.1⟩, ⟨hx.2.2.1, hx.2.2.2.1⟩, ⟨hx.2.2.2.2.1, hx.2.2.2.2.2⟩, ⟨hy.1, hy.2.1⟩, ⟨hy.2.2.1, hy.2.2.2.1⟩, ⟨hy.2.2.2.2.1, hy.2.2.2.2.2⟩, ⟨v1, v2⟩, ⟨s1, s2⟩, ⟨g1, g2⟩⟩
theorem Fit.b {c : Cl} {x0 x1 x2 y0 y1 y2 : Int} {br : List Bool} (h : Fit c x0 x1 x2 y0 y1 y2 br) : (-204 ≤ x0 ∧ x0 ≤ 216) ∧ (-204 ≤ x1 ∧ x1 ≤ 216) ∧ (-204 ≤ x2 ∧ x2 ≤ 216) ∧ (-204 ≤ y0 ∧ y0 ≤ 216) ∧ (-204 ≤ y1 ∧ y1 ≤ 216) ∧ (-204 ≤ y2 ∧ y2 ≤ 216) := by
 have a0 := h.ha.j0
 have a1 := h.ha.j1
 have a2 := h.ha.j2
 have b0 := h.hb.j0
 have b1 := h.hb.j1
 have b2 := h.hb.j2
 have m0 := h.m0
 have m1 := h.m1
 have m2 := h.m2
 have m3 := h.m3
 have m4 := h.m4
 have m5 := h.m5
 exact ⟨by omega, by omega, by omega, by omega, by omega, by omega⟩
theorem Fit.zp {c : Cl} {x0 x1 x2 y0 y1 y2 : Int} {br : List Bool} (h : Fit c x0 x1 x2 y0 y1 y2 br) : ∀ z ∈ c.zn, z.length ≤ 1000000 := by
 intro z hz
 have := h.zv z hz
 unfold Go.Geo.valB at this
 simp only [Bool.and_eq_true, decide_eq_true_eq] at this
 omega
theorem Sm_of {x : Int} (h : -204 ≤ x ∧ x ≤ 216) : Sm x := ⟨by omega, by omega⟩
def vioB (c : Cl) (w0 w1 w2 w3 w4 w5 i0 i1 i2 i3 i4 i5 : Int) (br : List Bool) : List Vi := vioT c w0 w1 w2 w3 w4 w5 i0 i1 i2 i3 i4 i5 br (kdB c.a c.b i0 i1 i2 i3 i4 i5 c.gap)
theorem c11f {c : Cl} {i0 i1 i2 i3 i4 i5 : Int} {br : List Bool} (h : Fit c i0 i1 i2 i3 i4 i5 br) (w0 w1 w2 w3 w4 w5 : Int) :
  pc E 11 [.agg (cec c.cel), pos w0 w1 w2 w3 w4 w5, pos i0 i1 i2 i3 i4 i5, .vs (br.map bb1)] = some (.os 4 ((vioB c w0 w1 w2 w3 w4 w5 i0 i1 i2 i3 i4 i5 br).map v4)) := by
 obtain ⟨b0, b1, b2, b3, b4, b5⟩ := h.b
 exact c11 c h.ha h.hb w0 w1 w2 w3 w4 w5 i0 i1 i2 i3 i4 i5 (Sm_of b0) (Sm_of b1) (Sm_of b2) (Sm_of b3) (Sm_of b4) (Sm_of b5) br h.bl h.zl h.zp _ (c8 c.cel h.ha h.hb i0 i1 i2 i3 i4 i5 (Sm_of b0) (Sm_of b1) (Sm_of b2) (Sm_of b3) (Sm_of b4) (Sm_of b5))
theorem vio_len (c : Cl) (w0 w1 w2 w3 w4 w5 i0 i1 i2 i3 i4 i5 : Int) (br : List Bool) (hz : c.zn.length ≤ 16) (hb : br.length = c.zn.length) : (vioB c w0 w1 w2 w3 w4 w5 i0 i1 i2 i3 i4 i5 br).length ≤ 1000 := by
 have b1 := fastT_len (mostI c br) w0 w1 w2 w3 w4 w5 i0 i1 i2 i3 i4 i5
 have b2 : (nearT (kdB c.a c.b i0 i1 i2 i3 i4 i5 c.gap)).length ≤ 1 := by unfold nearT; split <;> simp
 have h0 := inz_len 0 (hits c.a i0 i1 i2 c.zn) br c.zn.length
 have h1 := inz_len 1 (hits c.b i3 i4 i5 c.zn) br c.zn.length
 have b4 := unlT_len br br.length
 unfold vioB vioT inT
 simp only [List.length_append]
 omega
def byI (i w : Int) : Int := mxI (i - w) (w - i)
theorem far_by {i w : Int} (hi : -204 ≤ i ∧ i ≤ 216) (hw : -204 ≤ w ∧ w ≤ 216) : farW i w = byI i w := by
 unfold farW byI
 have e1 : w64 (i - w) = i - w := wrap_small (by omega) (by omega)
 have e2 : w64 (0 - (i - w)) = w - i := (wrap_small (by omega) (by omega)).trans (by omega)
 rw [e1, e2]
end Go.Proofs.YtnecdcaaknhgpaaGreat

namespace Go.Proofs.YtnecdcaaknhgpaaGreat
open Go Go.Zv
def hcl (g : Int) : Cl := { a := ⟨0, 0, 4, 3, 2, 1, -17, -17, -17, 18, 18, 18⟩, b := ⟨109850000, 0, 4, 3, 2, 1, -17, -17, -17, 18, 18, 18⟩, h0 := 0, h1 := 0, h2 := 0, h3 := 9, h4 := 0, h5 := 0, fx := [[(26364000, 8788000), (39546000, 8788000), (39546000, 17576000), (26364000, 17576000)]], pl := [], pt := [], bt := [], per := 0, lv := 8, la := 4, lj := 2, mv := 4, ma := 2, mj := 1, zn := [[(35152000, -17576000), (52728000, -17576000), (52728000, 0), (35152000, 0)]], gap := g, slow := 2 }
theorem hok_a (g : Int) : OKa (hcl g).a := by constructor <;> simp [hcl]
theorem hok_b (g : Int) : OKa (hcl g).b := by constructor <;> simp [hcl]
theorem c13 : pc E 13 [] = some (.agg [.int .i64 0, .int .i64 0, .int .i64 4, .int .i64 3, .int .i64 2, .int .i64 1, .int .i64 (-17), .int .i64 (-17), .int .i64 (-17), .int .i64 18, .int .i64 18, .int .i64 18, .int .i64 109850000, .int .i64 0, .int .i64 4, .int .i64 3, .int .i64 2, .int .i64 1, .int .i64 (-17), .int .i64 (-17), .int .i64 (-17), .int .i64 18, .int .i64 18, .int .i64 18, .int .i64 0, .int .i64 0, .int .i64 0, .int .i64 9, .int .i64 0, .int .i64 0, .vs [[.vs [[.int .i64 26364000, .int .i64 8788000], [.int .i64 39546000, .int .i64 8788000], [.int .i64 39546000, .int .i64 17576000], [.int .i64 26364000, .int .i64 17576000]]]], .vs [], .vs [], .vs [], .int .i64 0, .int .i64 8, .int .i64 4, .int .i64 2, .int .i64 4, .int .i64 2, .int .i64 1, .vs [[.vs [[.int .i64 35152000, .int .i64 (-17576000)], [.int .i64 52728000, .int .i64 (-17576000)], [.int .i64 52728000, .int .i64 0], [.int .i64 35152000, .int .i64 0]]]], .int .i64 10, .int .i64 2]) := by
 refine pc_of_run 60 ?_
 kernel_rfl
theorem hv_l : vioB (hcl 10) 0 0 0 108 0 0 0 0 0 108 0 0 [true] = [(3, 0, 0, 0), (4, 0, 0, 0)] := by kernel_rfl
theorem h41_l : pc E 11 [.agg [.int .i64 0, .int .i64 0, .int .i64 4, .int .i64 3, .int .i64 2, .int .i64 1, .int .i64 (-17), .int .i64 (-17), .int .i64 (-17), .int .i64 18, .int .i64 18, .int .i64 18, .int .i64 109850000, .int .i64 0, .int .i64 4, .int .i64 3, .int .i64 2, .int .i64 1, .int .i64 (-17), .int .i64 (-17), .int .i64 (-17), .int .i64 18, .int .i64 18, .int .i64 18, .int .i64 0, .int .i64 0, .int .i64 0, .int .i64 9, .int .i64 0, .int .i64 0, .vs [[.vs [[.int .i64 26364000, .int .i64 8788000], [.int .i64 39546000, .int .i64 8788000], [.int .i64 39546000, .int .i64 17576000], [.int .i64 26364000, .int .i64 17576000]]]], .vs [], .vs [], .vs [], .int .i64 0, .int .i64 8, .int .i64 4, .int .i64 2, .int .i64 4, .int .i64 2, .int .i64 1, .vs [[.vs [[.int .i64 35152000, .int .i64 (-17576000)], [.int .i64 52728000, .int .i64 (-17576000)], [.int .i64 52728000, .int .i64 0], [.int .i64 35152000, .int .i64 0]]]], .int .i64 10, .int .i64 2], .agg [.int .i64 0, .int .i64 0, .int .i64 0, .int .i64 108, .int .i64 0, .int .i64 0], .agg [.int .i64 0, .int .i64 0, .int .i64 0, .int .i64 108, .int .i64 0, .int .i64 0], .vs [[.bool true]]] = some (.os 4 [[.int .i64 3, .int .i64 0, .int .i64 0, .int .i64 0], [.int .i64 4, .int .i64 0, .int .i64 0, .int .i64 0]]) := by
 have h := c11 (hcl 10) (hok_a 10) (hok_b 10) 0 0 0 108 0 0 0 0 0 108 0 0 (by decide) (by decide) (by decide) (by decide) (by decide) (by decide) [true] rfl (by decide) (by decide) _ (c8 (hcl 10).cel (hok_a 10) (hok_b 10) 0 0 0 108 0 0 (by decide) (by decide) (by decide) (by decide) (by decide) (by decide))
 exact h.trans (congrArg (fun l : List Vi => some (LV.os 4 (l.map v4))) hv_l)
theorem hv_n0 : vioB (hcl 10) 0 0 0 108 0 0 0 0 0 108 0 0 [false] = [] := by kernel_rfl
theorem h41_n0 : pc E 11 [.agg [.int .i64 0, .int .i64 0, .int .i64 4, .int .i64 3, .int .i64 2, .int .i64 1, .int .i64 (-17), .int .i64 (-17), .int .i64 (-17), .int .i64 18, .int .i64 18, .int .i64 18, .int .i64 109850000, .int .i64 0, .int .i64 4, .int .i64 3, .int .i64 2, .int .i64 1, .int .i64 (-17), .int .i64 (-17), .int .i64 (-17), .int .i64 18, .int .i64 18, .int .i64 18, .int .i64 0, .int .i64 0, .int .i64 0, .int .i64 9, .int .i64 0, .int .i64 0, .vs [[.vs [[.int .i64 26364000, .int .i64 8788000], [.int .i64 39546000, .int .i64 8788000], [.int .i64 39546000, .int .i64 17576000], [.int .i64 26364000, .int .i64 17576000]]]], .vs [], .vs [], .vs [], .int .i64 0, .int .i64 8, .int .i64 4, .int .i64 2, .int .i64 4, .int .i64 2, .int .i64 1, .vs [[.vs [[.int .i64 35152000, .int .i64 (-17576000)], [.int .i64 52728000, .int .i64 (-17576000)], [.int .i64 52728000, .int .i64 0], [.int .i64 35152000, .int .i64 0]]]], .int .i64 10, .int .i64 2], .agg [.int .i64 0, .int .i64 0, .int .i64 0, .int .i64 108, .int .i64 0, .int .i64 0], .agg [.int .i64 0, .int .i64 0, .int .i64 0, .int .i64 108, .int .i64 0, .int .i64 0], .vs [[.bool false]]] = some (.os 4 []) := by
 have h := c11 (hcl 10) (hok_a 10) (hok_b 10) 0 0 0 108 0 0 0 0 0 108 0 0 (by decide) (by decide) (by decide) (by decide) (by decide) (by decide) [false] rfl (by decide) (by decide) _ (c8 (hcl 10).cel (hok_a 10) (hok_b 10) 0 0 0 108 0 0 (by decide) (by decide) (by decide) (by decide) (by decide) (by decide))
 exact h.trans (congrArg (fun l : List Vi => some (LV.os 4 (l.map v4))) hv_n0)
theorem hv_m : vioB (hcl 10) 0 0 0 108 0 0 0 0 9 105 0 0 [false] = [(1, 0, 2, 0)] := by kernel_rfl
theorem h41_m : pc E 11 [.agg [.int .i64 0, .int .i64 0, .int .i64 4, .int .i64 3, .int .i64 2, .int .i64 1, .int .i64 (-17), .int .i64 (-17), .int .i64 (-17), .int .i64 18, .int .i64 18, .int .i64 18, .int .i64 109850000, .int .i64 0, .int .i64 4, .int .i64 3, .int .i64 2, .int .i64 1, .int .i64 (-17), .int .i64 (-17), .int .i64 (-17), .int .i64 18, .int .i64 18, .int .i64 18, .int .i64 0, .int .i64 0, .int .i64 0, .int .i64 9, .int .i64 0, .int .i64 0, .vs [[.vs [[.int .i64 26364000, .int .i64 8788000], [.int .i64 39546000, .int .i64 8788000], [.int .i64 39546000, .int .i64 17576000], [.int .i64 26364000, .int .i64 17576000]]]], .vs [], .vs [], .vs [], .int .i64 0, .int .i64 8, .int .i64 4, .int .i64 2, .int .i64 4, .int .i64 2, .int .i64 1, .vs [[.vs [[.int .i64 35152000, .int .i64 (-17576000)], [.int .i64 52728000, .int .i64 (-17576000)], [.int .i64 52728000, .int .i64 0], [.int .i64 35152000, .int .i64 0]]]], .int .i64 10, .int .i64 2], .agg [.int .i64 0, .int .i64 0, .int .i64 0, .int .i64 108, .int .i64 0, .int .i64 0], .agg [.int .i64 0, .int .i64 0, .int .i64 9, .int .i64 105, .int .i64 0, .int .i64 0], .vs [[.bool false]]] = some (.os 4 [[.int .i64 1, .int .i64 0, .int .i64 2, .int .i64 0]]) := by
 have h := c11 (hcl 10) (hok_a 10) (hok_b 10) 0 0 0 108 0 0 0 0 9 105 0 0 (by decide) (by decide) (by decide) (by decide) (by decide) (by decide) [false] rfl (by decide) (by decide) _ (c8 (hcl 10).cel (hok_a 10) (hok_b 10) 0 0 9 105 0 0 (by decide) (by decide) (by decide) (by decide) (by decide) (by decide))
 exact h.trans (congrArg (fun l : List Vi => some (LV.os 4 (l.map v4))) hv_m)
theorem hv_n : vioB (hcl 10) 0 0 0 108 0 0 0 0 9 105 0 0 [true] = [(1, 0, 2, 0), (1, 1, 0, 0), (3, 0, 0, 0), (4, 0, 0, 0)] := by kernel_rfl
theorem h41_n : pc E 11 [.agg [.int .i64 0, .int .i64 0, .int .i64 4, .int .i64 3, .int .i64 2, .int .i64 1, .int .i64 (-17), .int .i64 (-17), .int .i64 (-17), .int .i64 18, .int .i64 18, .int .i64 18, .int .i64 109850000, .int .i64 0, .int .i64 4, .int .i64 3, .int .i64 2, .int .i64 1, .int .i64 (-17), .int .i64 (-17), .int .i64 (-17), .int .i64 18, .int .i64 18, .int .i64 18, .int .i64 0, .int .i64 0, .int .i64 0, .int .i64 9, .int .i64 0, .int .i64 0, .vs [[.vs [[.int .i64 26364000, .int .i64 8788000], [.int .i64 39546000, .int .i64 8788000], [.int .i64 39546000, .int .i64 17576000], [.int .i64 26364000, .int .i64 17576000]]]], .vs [], .vs [], .vs [], .int .i64 0, .int .i64 8, .int .i64 4, .int .i64 2, .int .i64 4, .int .i64 2, .int .i64 1, .vs [[.vs [[.int .i64 35152000, .int .i64 (-17576000)], [.int .i64 52728000, .int .i64 (-17576000)], [.int .i64 52728000, .int .i64 0], [.int .i64 35152000, .int .i64 0]]]], .int .i64 10, .int .i64 2], .agg [.int .i64 0, .int .i64 0, .int .i64 0, .int .i64 108, .int .i64 0, .int .i64 0], .agg [.int .i64 0, .int .i64 0, .int .i64 9, .int .i64 105, .int .i64 0, .int .i64 0], .vs [[.bool true]]] = some (.os 4 [[.int .i64 1, .int .i64 0, .int .i64 2, .int .i64 0], [.int .i64 1, .int .i64 1, .int .i64 0, .int .i64 0], [.int .i64 3, .int .i64 0, .int .i64 0, .int .i64 0], [.int .i64 4, .int .i64 0, .int .i64 0, .int .i64 0]]) := by
 have h := c11 (hcl 10) (hok_a 10) (hok_b 10) 0 0 0 108 0 0 0 0 9 105 0 0 (by decide) (by decide) (by decide) (by decide) (by decide) (by decide) [true] rfl (by decide) (by decide) _ (c8 (hcl 10).cel (hok_a 10) (hok_b 10) 0 0 9 105 0 0 (by decide) (by decide) (by decide) (by decide) (by decide) (by decide))
 exact h.trans (congrArg (fun l : List Vi => some (LV.os 4 (l.map v4))) hv_n)
theorem hv_o : vioB (hcl 16) 0 0 0 108 0 0 0 0 0 108 0 0 [false] = [(2, 0, 0, 0)] := by kernel_rfl
theorem h41_o : pc E 11 [.agg [.int .i64 0, .int .i64 0, .int .i64 4, .int .i64 3, .int .i64 2, .int .i64 1, .int .i64 (-17), .int .i64 (-17), .int .i64 (-17), .int .i64 18, .int .i64 18, .int .i64 18, .int .i64 109850000, .int .i64 0, .int .i64 4, .int .i64 3, .int .i64 2, .int .i64 1, .int .i64 (-17), .int .i64 (-17), .int .i64 (-17), .int .i64 18, .int .i64 18, .int .i64 18, .int .i64 0, .int .i64 0, .int .i64 0, .int .i64 9, .int .i64 0, .int .i64 0, .vs [[.vs [[.int .i64 26364000, .int .i64 8788000], [.int .i64 39546000, .int .i64 8788000], [.int .i64 39546000, .int .i64 17576000], [.int .i64 26364000, .int .i64 17576000]]]], .vs [], .vs [], .vs [], .int .i64 0, .int .i64 8, .int .i64 4, .int .i64 2, .int .i64 4, .int .i64 2, .int .i64 1, .vs [[.vs [[.int .i64 35152000, .int .i64 (-17576000)], [.int .i64 52728000, .int .i64 (-17576000)], [.int .i64 52728000, .int .i64 0], [.int .i64 35152000, .int .i64 0]]]], .int .i64 16, .int .i64 2], .agg [.int .i64 0, .int .i64 0, .int .i64 0, .int .i64 108, .int .i64 0, .int .i64 0], .agg [.int .i64 0, .int .i64 0, .int .i64 0, .int .i64 108, .int .i64 0, .int .i64 0], .vs [[.bool false]]] = some (.os 4 [[.int .i64 2, .int .i64 0, .int .i64 0, .int .i64 0]]) := by
 have h := c11 (hcl 16) (hok_a 16) (hok_b 16) 0 0 0 108 0 0 0 0 0 108 0 0 (by decide) (by decide) (by decide) (by decide) (by decide) (by decide) [false] rfl (by decide) (by decide) _ (c8 (hcl 16).cel (hok_a 16) (hok_b 16) 0 0 0 108 0 0 (by decide) (by decide) (by decide) (by decide) (by decide) (by decide))
 exact h.trans (congrArg (fun l : List Vi => some (LV.os 4 (l.map v4))) hv_o)
theorem hkd : kdB (hcl 16).a (hcl 16).b 0 0 0 108 0 0 16 = false := by kernel_rfl
theorem h44 : pc E 8 [.agg [.int .i64 0, .int .i64 0, .int .i64 4, .int .i64 3, .int .i64 2, .int .i64 1, .int .i64 (-17), .int .i64 (-17), .int .i64 (-17), .int .i64 18, .int .i64 18, .int .i64 18, .int .i64 109850000, .int .i64 0, .int .i64 4, .int .i64 3, .int .i64 2, .int .i64 1, .int .i64 (-17), .int .i64 (-17), .int .i64 (-17), .int .i64 18, .int .i64 18, .int .i64 18, .int .i64 0, .int .i64 0, .int .i64 0, .int .i64 9, .int .i64 0, .int .i64 0, .vs [[.vs [[.int .i64 26364000, .int .i64 8788000], [.int .i64 39546000, .int .i64 8788000], [.int .i64 39546000, .int .i64 17576000], [.int .i64 26364000, .int .i64 17576000]]]], .vs [], .vs [], .vs [], .int .i64 0, .int .i64 8, .int .i64 4, .int .i64 2, .int .i64 4, .int .i64 2, .int .i64 1, .vs [[.vs [[.int .i64 35152000, .int .i64 (-17576000)], [.int .i64 52728000, .int .i64 (-17576000)], [.int .i64 52728000, .int .i64 0], [.int .i64 35152000, .int .i64 0]]]], .int .i64 16, .int .i64 2], .agg [.int .i64 0, .int .i64 0, .int .i64 0, .int .i64 108, .int .i64 0, .int .i64 0]] = some (.bool false) := by
 have h := c8 (hcl 16).cel (hok_a 16) (hok_b 16) 0 0 0 108 0 0 (by decide) (by decide) (by decide) (by decide) (by decide) (by decide)
 exact h.trans (congrArg (fun b => some (LV.bool b)) hkd)
theorem h39 : pc E 5 [.agg [.int .i64 (-1), .int .i64 12, .int .i64 13]] = some (.tup [.agg [.int .i64 (-1), .int .i64 1, .int .i64 1], .agg [.int .i64 0, .int .i64 1, .int .i64 2]]) := c5 (-1) 12 13 (by decide) (by decide) (by decide)
theorem h71_l : pc E 10 [.vs [[.int .i64 3, .int .i64 0, .int .i64 0, .int .i64 0], [.int .i64 4, .int .i64 0, .int .i64 0, .int .i64 0]], .vs [[.int .i64 3, .int .i64 0, .int .i64 0, .int .i64 0], [.int .i64 4, .int .i64 0, .int .i64 0, .int .i64 0]]] = some (.bool true) := c10 [(3, 0, 0, 0), (4, 0, 0, 0)] [(3, 0, 0, 0), (4, 0, 0, 0)] (by decide) (by decide)
theorem h71_m : pc E 10 [.vs [[.int .i64 1, .int .i64 0, .int .i64 2, .int .i64 0]], .vs [[.int .i64 1, .int .i64 0, .int .i64 2, .int .i64 0]]] = some (.bool true) := c10 [(1, 0, 2, 0)] [(1, 0, 2, 0)] (by decide) (by decide)
theorem h71_n : pc E 10 [.vs [[.int .i64 1, .int .i64 0, .int .i64 2, .int .i64 0], [.int .i64 1, .int .i64 1, .int .i64 0, .int .i64 0], [.int .i64 3, .int .i64 0, .int .i64 0, .int .i64 0], [.int .i64 4, .int .i64 0, .int .i64 0, .int .i64 0]], .vs [[.int .i64 1, .int .i64 0, .int .i64 2, .int .i64 0], [.int .i64 1, .int .i64 1, .int .i64 0, .int .i64 0], [.int .i64 3, .int .i64 0, .int .i64 0, .int .i64 0], [.int .i64 4, .int .i64 0, .int .i64 0, .int .i64 0]]] = some (.bool true) := c10 [(1, 0, 2, 0), (1, 1, 0, 0), (3, 0, 0, 0), (4, 0, 0, 0)] [(1, 0, 2, 0), (1, 1, 0, 0), (3, 0, 0, 0), (4, 0, 0, 0)] (by decide) (by decide)
theorem h71_o : pc E 10 [.vs [[.int .i64 2, .int .i64 0, .int .i64 0, .int .i64 0]], .vs [[.int .i64 2, .int .i64 0, .int .i64 0, .int .i64 0]]] = some (.bool true) := c10 [(2, 0, 0, 0)] [(2, 0, 0, 0)] (by decide) (by decide)
theorem c4 : pc E 4 [] = some (.bool true) := by
 rw [pc_eq]; simp +contextual -implicitDefEqProofs (maxSteps := 2000000) only [go_sem, ↓reduceIte, E_4, A4, c13, h39, h41_l, h41_n0, h41_m, h41_n, h41_o, h44, h71_l, h71_m, h71_n, h71_o, LV.scal, Bool.and_self]
end Go.Proofs.YtnecdcaaknhgpaaGreat

namespace Go.Proofs.YtnecdcaaknhgpaaGreat
open Go Go.Zv
end Go.Proofs.YtnecdcaaknhgpaaGreat

namespace Go.Proofs.YtnecdcaaknhgpaaGreat
open Go Go.Zv
theorem get_c2 {l : List (Int × Int)} {i : Nat} {p : Int × Int} (h : l[i]? = some p) : (l.map c2)[i]? = some [.int .i64 p.1, .int .i64 p.2] := by
 rw [List.getElem?_map, h]; rfl
def farI (ax ay bx by_ : Int) : Int := ((ax - bx).tdiv 16) * ((ax - bx).tdiv 16) + ((ay - by_).tdiv 16) * ((ay - by_).tdiv 16)
theorem c42 (a : Arm) (h : OKa a) (q0 q1 q2 : Int) : pc E 42 [av a, jv q0 q1 q2] = some (.agg ((lks a (dd q0 q1 q2)).map lkv)) := by
 have h1 := c59' a q0 q1 q2
 have h2 := c60 a h q0 q1 q2
 have v := ddV q0 q1 q2
 have b := bds h v
 obtain ⟨o0x, o0y, o1x, o1y, o2x, o2y, bx, by_⟩ := b
 have hw : 0 ≤ a.w ∧ a.w ≤ 40 := by have := h.w; omega
 generalize dd q0 q1 q2 = d at *
 have k1 := c61 _ _ 1 (by omega) v.v1 a.w hw
 have k2 := c61 _ _ 2 (by omega) v.v2 a.w hw
 have k3 := c61 _ _ 3 (by omega) v.v3 a.w hw
 have u1 := ux_bd v.v1 a.w hw
 have u2 := ux_bd v.v2 a.w hw
 have u3 := ux_bd v.v3 a.w hw
 simp only [u65, Int.natCast_one, Int.cast_ofNat_Int] at k1 k2 k3 u1 u2 u3
 unfold lks
 have hp : (-1000000000 ≤ (pp a d).x1 ∧ (pp a d).x1 ≤ 1000000000) ∧ (-1000000000 ≤ (pp a d).y1 ∧ (pp a d).y1 ≤ 1000000000) ∧ (-1000000000 ≤ (pp a d).x2 ∧ (pp a d).x2 ≤ 1000000000) ∧ (-1000000000 ≤ (pp a d).y2 ∧ (pp a d).y2 ≤ 1000000000) ∧ (-1000000000 ≤ (pp a d).x3 ∧ (pp a d).x3 ≤ 1000000000) ∧ (-1000000000 ≤ (pp a d).y3 ∧ (pp a d).y3 ≤ 1000000000) := by simp only [pp]; omega
 generalize pp a d = p at *
 obtain ⟨p1, p2, p3, p4, p5, p6⟩ := hp
 generalize a.w * 67600 * d.x1 = ox1 at *
 generalize a.w * 67600 * d.y1 = oy1 at *
 generalize a.w * 1040 * d.x2 = ox2 at *
 generalize a.w * 1040 * d.y2 = oy2 at *
 generalize a.w * 16 * d.x3 = ox3 at *
 generalize a.w * 16 * d.y3 = oy3 at *
 have n0a : IntKind.i64.wrap (0 - ox1) = -ox1 := by rw [wrap_small (by omega) (by omega)]; omega
 have n0b : IntKind.i64.wrap (0 - oy1) = -oy1 := by rw [wrap_small (by omega) (by omega)]; omega
 have g00 := c62 a.bx a.by_ oy1 (-ox1)
 rw [wrap_small (by omega) (by omega), wrap_small (by omega) (by omega), show a.by_ + -ox1 = a.by_ - ox1 by omega] at g00
 have g01 := c62 p.x1 p.y1 oy1 (-ox1)
 rw [wrap_small (by omega) (by omega), wrap_small (by omega) (by omega), show p.y1 + -ox1 = p.y1 - ox1 by omega] at g01
 have g02 := c62 p.x1 p.y1 (-oy1) ox1
 rw [wrap_small (by omega) (by omega), wrap_small (by omega) (by omega), show p.x1 + -oy1 = p.x1 - oy1 by omega] at g02
 have g03 := c62 a.bx a.by_ (-oy1) ox1
 rw [wrap_small (by omega) (by omega), wrap_small (by omega) (by omega), show a.bx + -oy1 = a.bx - oy1 by omega] at g03
 have n1a : IntKind.i64.wrap (0 - ox2) = -ox2 := by rw [wrap_small (by omega) (by omega)]; omega
 have n1b : IntKind.i64.wrap (0 - oy2) = -oy2 := by rw [wrap_small (by omega) (by omega)]; omega
 have g10 := c62 p.x1 p.y1 oy2 (-ox2)
 rw [wrap_small (by omega) (by omega), wrap_small (by omega) (by omega), show p.y1 + -ox2 = p.y1 - ox2 by omega] at g10
 have g11 := c62 p.x2 p.y2 oy2 (-ox2)
 rw [wrap_small (by omega) (by omega), wrap_small (by omega) (by omega), show p.y2 + -ox2 = p.y2 - ox2 by omega] at g11
 have g12 := c62 p.x2 p.y2 (-oy2) ox2
 rw [wrap_small (by omega) (by omega), wrap_small (by omega) (by omega), show p.x2 + -oy2 = p.x2 - oy2 by omega] at g12
 have g13 := c62 p.x1 p.y1 (-oy2) ox2
 rw [wrap_small (by omega) (by omega), wrap_small (by omega) (by omega), show p.x1 + -oy2 = p.x1 - oy2 by omega] at g13
 have n2a : IntKind.i64.wrap (0 - ox3) = -ox3 := by rw [wrap_small (by omega) (by omega)]; omega
 have n2b : IntKind.i64.wrap (0 - oy3) = -oy3 := by rw [wrap_small (by omega) (by omega)]; omega
 have g20 := c62 p.x2 p.y2 oy3 (-ox3)
 rw [wrap_small (by omega) (by omega), wrap_small (by omega) (by omega), show p.y2 + -ox3 = p.y2 - ox3 by omega] at g20
 have g21 := c62 p.x3 p.y3 oy3 (-ox3)
 rw [wrap_small (by omega) (by omega), wrap_small (by omega) (by omega), show p.y3 + -ox3 = p.y3 - ox3 by omega] at g21
 have g22 := c62 p.x3 p.y3 (-oy3) ox3
 rw [wrap_small (by omega) (by omega), wrap_small (by omega) (by omega), show p.x3 + -oy3 = p.x3 - oy3 by omega] at g22
 have g23 := c62 p.x2 p.y2 (-oy3) ox3
 rw [wrap_small (by omega) (by omega), wrap_small (by omega) (by omega), show p.x2 + -oy3 = p.x2 - oy3 by omega] at g23
 rw [pc_eq]; simp +contextual -implicitDefEqProofs (maxSteps := 2000000) only [go_sem, ↓reduceIte, E_42, A42, A42_L0_eq, A42_L0b, h1, h2, k1, k2, k3, g00, g01, g02, g03, g10, g11, g12, g13, g20, g21, g22, g23, n0a, n0b, n1a, n1b, n2a, n2b, lkc, c2, List.map_cons, List.map_nil]
 rfl
end Go.Proofs.YtnecdcaaknhgpaaGreat

namespace Go.Proofs.YtnecdcaaknhgpaaGreat
open Go Go.Zv
theorem c15 (n : Int) (h : -1000 ≤ n ∧ n ≤ 1000) : pc E 15 [.int .i64 n] = some (.int .i64 (n / 12)) := by
 have lp := loop_to (fun S => (K E A15_L0 S).bind (blockR 0 (some [3]) []))
  (fun k => ⟨[(0, .int .i64 n), (3, .int .i64 ((k : Int) - 100))], [], [], 0⟩) (n / 12 + 100).toNat (fun k hk => by
   have w1 : IntKind.i64.wrap ((k : Int) - 100 + 1) = (k : Int) - 99 := (wrap_small (by omega) (by omega)).trans (by omega)
   have w2 : IntKind.i64.wrap (12 * ((k : Int) - 99)) = 12 * ((k : Int) - 99) := wrap_small (by omega) (by omega)
   have g1 : 12 * ((k : Int) - 99) ≤ n := by omega
   have g2 : (k : Int) - 100 < 100 := by omega
   have e : (((k + 1 : Nat) : Int)) - 100 = (k : Int) - 99 := by omega
   show (K E A15_L0 _).bind _ = (K E A15_L0 _).bind _
   rw [e]
   conv => lhs; rw [A15_L0_eq]
   simp +contextual -implicitDefEqProofs (maxSteps := 2000000) only [go_sem, ↓reduceIte, A15_L0b, w1, w2, g1, g2, decide_true])
 have stop : (K E A15_L0 ⟨[(0, .int .i64 n), (3, .int .i64 (n / 12))], [], [], 0⟩).bind (blockR 0 (some [3]) []) = some (.ex .nrm ⟨[(3, .int .i64 (n / 12))], [], [], 0⟩) := by
  have w1 : IntKind.i64.wrap (n / 12 + 1) = n / 12 + 1 := wrap_small (by omega) (by omega)
  have w2 : IntKind.i64.wrap (12 * (n / 12 + 1)) = 12 * (n / 12 + 1) := wrap_small (by omega) (by omega)
  have g1 : ¬ 12 * (n / 12 + 1) ≤ n := by omega
  rw [A15_L0_eq]; simp +contextual -implicitDefEqProofs (maxSteps := 2000000) only [go_sem, ↓reduceIte, A15_L0b, w1, w2, g1, decide_false]
 have e : (((n / 12 + 100).toNat : Nat) : Int) - 100 = n / 12 := by omega
 simp only [e] at lp
 have lp := lp.trans stop
 simp only [Int.natCast_zero, Int.ofNat_zero, Int.zero_sub] at lp
 rw [pc_eq]; simp +contextual -implicitDefEqProofs (maxSteps := 2000000) only [go_sem, ↓reduceIte, E_15, A15, lp]
theorem up_11 (x : Int) : (x + 11) / 12 = up12 x := by unfold up12; omega
theorem c6 (x0 x1 x2 : Int) (h0 : -900 ≤ x0 ∧ x0 ≤ 900) (h1 : -900 ≤ x1 ∧ x1 ≤ 900) (h2 : -900 ≤ x2 ∧ x2 ≤ 900) : pc E 6 [jv x0 x1 x2] = some (.tup [jv (x0 / 12) (x1 / 12) (x2 / 12), jv (up12 x0) (up12 x1) (up12 x2)]) := by
 have a0 := c15 x0 (by omega)
 have a1 := c15 x1 (by omega)
 have a2 := c15 x2 (by omega)
 have b0 := c15 (x0 + 11) (by omega)
 have b1 := c15 (x1 + 11) (by omega)
 have b2 := c15 (x2 + 11) (by omega)
 rw [up_11] at b0 b1 b2
 have w0 : IntKind.i64.wrap (x0 + 11) = x0 + 11 := wrap_small (by omega) (by omega)
 have w1 : IntKind.i64.wrap (x1 + 11) = x1 + 11 := wrap_small (by omega) (by omega)
 have w2 : IntKind.i64.wrap (x2 + 11) = x2 + 11 := wrap_small (by omega) (by omega)
 rw [pc_eq]; simp +contextual -implicitDefEqProofs (maxSteps := 2000000) only [go_sem, ↓reduceIte, E_6, A6, a0, a1, a2, b0, b1, b2, w0, w1, w2]
theorem c26 (a b : Int) : pc E 26 [.int .i64 a, .int .i64 b] = some (.int .i64 (mxI (IntKind.i64.wrap (a - b)) (IntKind.i64.wrap (b - a)))) := by
 rw [pc_eq]; simp +contextual -implicitDefEqProofs (maxSteps := 2000000) only [go_sem, ↓reduceIte, E_26, A26]
theorem c21 (l m : List (Int × Int)) (hl : l.length < 9223372036854775808) (hm : m.length < 9223372036854775808) : pc E 21 [lkv l, lkv m] = some (.int .i64 (G.gapI l m)) := by
 have e1 : ∀ l : List (Int × Int), (((l.length : Nat) : Int) = 0) = (l = []) := fun l => by
  rw [eq_iff_iff]; constructor
  ·intro h; exact List.eq_nil_of_length_eq_zero (by omega)
  ·intro h; subst h; rfl
 have o1 : pc E 43 [.vs (l.map c2)] = some (.tup [.agg [.int .i64 (Go.Geo.bbL l).1, .int .i64 (Go.Geo.bbL l).2], .agg [.int .i64 (Go.Geo.bbH l).1, .int .i64 (Go.Geo.bbH l).2]]) := R.c43 l hl
 have o2 : pc E 43 [.vs (m.map c2)] = some (.tup [.agg [.int .i64 (Go.Geo.bbL m).1, .int .i64 (Go.Geo.bbL m).2], .agg [.int .i64 (Go.Geo.bbH m).1, .int .i64 (Go.Geo.bbH m).2]]) := R.c43 m hm
 unfold lkv
 rw [pc_eq]; simp +contextual -implicitDefEqProofs (maxSteps := 2000000) only [go_sem, ↓reduceIte, E_21, A21, o1, o2, List.length_map, e1, G.gapI]
 repeat' split
 all_goals (try simp_all)
 all_goals (simp only [mxI]; repeat' split)
 all_goals omega
theorem c20 (a : Arm) (h : OKa a) (x0 x1 x2 : Int) (h0 : -900 ≤ x0 ∧ x0 ≤ 900) (h1 : -900 ≤ x1 ∧ x1 ≤ 900) (h2 : -900 ≤ x2 ∧ x2 ≤ 900) (l0 l1 l2 l3 l4 l5 : List (Int × Int)) (hb : bods a x0 x1 x2 = [l0, l1, l2, l3, l4, l5]) : pc E 20 [av a, jv x0 x1 x2] = some (.os 1 [[lkv l0], [lkv l1], [lkv l2], [lkv l3], [lkv l4], [lkv l5]]) := by
 have e6 := c6 x0 x1 x2 h0 h1 h2
 have q1 := c42 a h (x0 / 12) (x1 / 12) (x2 / 12)
 have q2 := c42 a h (up12 x0) (up12 x1) (up12 x2)
 have hb1 : lks a (dd (x0 / 12) (x1 / 12) (x2 / 12)) = [l0, l1, l2] ∧ lks a (dd (up12 x0) (up12 x1) (up12 x2)) = [l3, l4, l5] := by
  unfold bods at hb
  have h3 : (lks a (dd (x0 / 12) (x1 / 12) (x2 / 12))).length = 3 := rfl
  have := List.append_inj hb (s₂ := [l0, l1, l2]) (t₂ := [l3, l4, l5]) (by rw [h3]; rfl)
  exact this
 rw [hb1.1] at q1
 rw [hb1.2] at q2
 simp only [List.map_cons, List.map_nil] at q1 q2
 unfold lkv at q1 q2 ⊢
 rw [pc_eq]; simp +contextual -implicitDefEqProofs (maxSteps := 2000000) only [go_sem, ↓reduceIte, E_20, A20, e6, q1, q2]
end Go.Proofs.YtnecdcaaknhgpaaGreat

namespace Go.Proofs.YtnecdcaaknhgpaaGreat
open Go Go.Zv
theorem c46 (a b : List (Int × Int)) (A : Go.Geo.Val a) (B : Go.Geo.Val b) : pc E 46 [.vs (a.map Go.Geo.c2), .vs (b.map Go.Geo.c2)] = some (.bool (Go.Geo.FC a b).isSome) := by
 have o := R.c65 a b A B
 cases h : Go.Geo.FC a b with
 | none =>
   rw [h] at o
   simp only [G.conV] at o
   simp only [Option.isSome_none]
   rw [pc_eq]; simp +contextual -implicitDefEqProofs (maxSteps := 2000000) only [go_sem, ↓reduceIte, E_46, A46, o]
 | some w =>
   obtain ⟨w1, w2, w3⟩ := w
   rw [h] at o
   simp only [G.conV] at o
   simp only [Option.isSome_some]
   rw [pc_eq]; simp +contextual -implicitDefEqProofs (maxSteps := 2000000) only [go_sem, ↓reduceIte, E_46, A46, o]
def bw (l : List (Int × Int)) : List LV := [lkv l]
abbrev O9 (V : List LV) (L M : List (List (Int × Int))) : Heap := [(5120, .row 1 (M.map bw)), (3584, .row 1 (L.map bw)), (512, .box V)]
theorem in9 (V : List LV) (hV : V.length = 44) (g : Int) (h42 : V[42]? = some (.int .i64 g)) (L M : List (List (Int × Int))) (hL : L.length = 6) (hM : M.length = 6) (sL : ∀ l ∈ L, l.length < 9223372036854775808) (sM : ∀ l ∈ M, l.length < 9223372036854775808) (i : Nat) (l : List (Int × Int)) (hi : i < 6) (hget : L[i]? = some l) :
  (K E A9_L0 ⟨[(2, .ptr 512 0), (5, .bs 3584 0 6), (6, .bs 5120 0 6), (7, .int .i64 i), (8, .int .i64 0)], [], O9 V L M, 0⟩).bind (blockR 2 (some [2, 5, 6, 7]) [4, 8, 37]) =
   if nrB (IntKind.i64.wrap (g * 4394000)) M l = true then some (.ex .ret ⟨[(4, .bool false)], [], O9 V L M, 0⟩) else some (.ex .nrm ⟨[(2, .ptr 512 0), (5, .bs 3584 0 6), (6, .bs 5120 0 6), (7, .int .i64 i)], [], O9 V L M, 0⟩) := by
 have i0 : (0 : Int) ≤ i := by omega
 have i1 : (i : Int) < 6 := by omega
 have gL : (L.map bw)[i]? = some [.vs (l.map c2)] := by rw [List.getElem?_map, hget]; rfl
 have lp := loop_any (fun S => (K E A9_L0 S).bind (blockR 2 (some [2, 5, 6, 7]) [4, 8, 37]))
  (fun k => ⟨[(2, .ptr 512 0), (5, .bs 3584 0 6), (6, .bs 5120 0 6), (7, .int .i64 i), (8, .int .i64 k)], [], O9 V L M, 0⟩) M (fun m => decide (G.gapI l m < IntKind.i64.wrap (g * 4394000)))
  (some (.ex .ret ⟨[(4, .bool false)], [], O9 V L M, 0⟩)) (some (.ex .nrm ⟨[(2, .ptr 512 0), (5, .bs 3584 0 6), (6, .bs 5120 0 6), (7, .int .i64 i)], [], O9 V L M, 0⟩))
  (by
   rw [hM]
   show (K E A9_L0 _).bind _ = _
   rw [A9_L0_eq]; simp +contextual -implicitDefEqProofs (maxSteps := 2000000) only [go_sem, ↓reduceIte, O9, A9_L0b])
  (fun k m hk hgm => by
   have k0 : (0 : Int) ≤ k := by omega
   have k1 : (k : Int) < 6 := by omega
   have hw := wr_succ (n := k) (by omega)
   have gM : (M.map bw)[k]? = some [.vs (m.map c2)] := by rw [List.getElem?_map, hgm]; rfl
   have o := c21 l m (sL l (List.mem_of_getElem? hget)) (sM m (List.mem_of_getElem? hgm))
   unfold lkv at o
   by_cases hlt : G.gapI l m < IntKind.i64.wrap (g * 4394000)
   ·rw [decide_eq_true hlt, if_pos rfl]
    show (K E A9_L0 _).bind _ = _
    rw [A9_L0_eq]; simp +contextual -implicitDefEqProofs (maxSteps := 2000000) only [go_sem, ↓reduceIte, O9, A9_L0b, i0, i1, k0, k1, gL, gM, o, h42, hw, hlt, decide_true]
   ·rw [decide_eq_false hlt, if_neg (by decide)]
    show (K E A9_L0 _).bind _ = (K E A9_L0 _).bind _
    conv => lhs; rw [A9_L0_eq]
    simp +contextual -implicitDefEqProofs (maxSteps := 2000000) only [go_sem, ↓reduceIte, O9, A9_L0b, i0, i1, k0, k1, gL, gM, o, h42, hw, hlt, decide_false])
 simp only [Int.natCast_zero, Int.ofNat_zero] at lp
 exact lp
theorem out9 (V : List LV) (hV : V.length = 44) (g : Int) (h42 : V[42]? = some (.int .i64 g)) (L M : List (List (Int × Int))) (hL : L.length = 6) (hM : M.length = 6) (sL : ∀ l ∈ L, l.length < 9223372036854775808) (sM : ∀ l ∈ M, l.length < 9223372036854775808) :
  (K E A9_L1 ⟨[(2, .ptr 512 0), (5, .bs 3584 0 6), (6, .bs 5120 0 6), (7, .int .i64 0)], [], O9 V L M, 0⟩).bind (blockR 0 (some []) [4, 7, 8, 37]) =
   if L.any (nrB (IntKind.i64.wrap (g * 4394000)) M) = true then some (.ex .ret ⟨[(4, .bool false)], [], O9 V L M, 0⟩) else some (.ex .nrm ⟨[], [], O9 V L M, 0⟩) := by
 have lp := loop_any (fun S => (K E A9_L1 S).bind (blockR 0 (some []) [4, 7, 8, 37]))
  (fun k => ⟨[(2, .ptr 512 0), (5, .bs 3584 0 6), (6, .bs 5120 0 6), (7, .int .i64 k)], [], O9 V L M, 0⟩) L (nrB (IntKind.i64.wrap (g * 4394000)) M)
  (some (.ex .ret ⟨[(4, .bool false)], [], O9 V L M, 0⟩)) (some (.ex .nrm ⟨[], [], O9 V L M, 0⟩))
  (by
   rw [hL]
   show (K E A9_L1 _).bind _ = _
   rw [A9_L1_eq]; simp +contextual -implicitDefEqProofs (maxSteps := 2000000) only [go_sem, ↓reduceIte, O9, A9_L1b])
  (fun k l hk hgl => by
   have k1 : (k : Int) < 6 := by omega
   have hw := wr_succ (n := k) (by omega)
   have o := in9 V hV g h42 L M hL hM sL sM k l (by omega) hgl
   simp only [O9] at o
   cases hn : nrB (IntKind.i64.wrap (g * 4394000)) M l
   ·rw [hn, if_neg (by decide)] at o
    rw [if_neg (by decide)]
    show (K E A9_L1 _).bind _ = (K E A9_L1 _).bind _
    conv => lhs; rw [A9_L1_eq]
    simp +contextual -implicitDefEqProofs (maxSteps := 2000000) only [go_sem, ↓reduceIte, O9, A9_L1b, k1, hw, o]
   ·rw [hn, if_pos rfl] at o
    rw [if_pos rfl]
    show (K E A9_L1 _).bind _ = _
    rw [A9_L1_eq]; simp +contextual -implicitDefEqProofs (maxSteps := 2000000) only [go_sem, ↓reduceIte, O9, A9_L1b, k1, o])
 simp only [Int.natCast_zero, Int.ofNat_zero] at lp
 exact lp
abbrev S9 (x : Int) : Prop := -900 ≤ x ∧ x ≤ 900
theorem c9 (c : Cel) (ha : OKa c.a) (hb : OKa c.b) (x0 x1 x2 y0 y1 y2 : Int) (h0 : S9 x0) (h1 : S9 x1) (h2 : S9 x2) (h3 : S9 y0) (h4 : S9 y1) (h5 : S9 y2) :
  pc E 9 [.agg (cec c), pos x0 x1 x2 y0 y1 y2] = some (.bool (kdB c.a c.b x0 x1 x2 y0 y1 y2 c.gap)) := by
 obtain ⟨l0, l1, l2, l3, l4, l5, hl, _, _, q1⟩ := bod c.a ha x0 x1 x2
 obtain ⟨m0, m1, m2, m3, m4, m5, hm, _, _, q2⟩ := bod c.b hb y0 y1 y2
 have o1 := c20 c.a ha x0 x1 x2 h0 h1 h2 l0 l1 l2 l3 l4 l5 hl
 have o2 := c20 c.b hb y0 y1 y2 h3 h4 h5 m0 m1 m2 m3 m4 m5 hm
 have lp := out9 (cec c) rfl c.gap rfl [l0, l1, l2, l3, l4, l5] [m0, m1, m2, m3, m4, m5] rfl rfl (fun l h => by rw [q1 l h]; decide) (fun l h => by rw [q2 l h]; decide)
 unfold kdB
 rw [hl, hm]
 simp only [O9, List.map_cons, List.map_nil, bw] at lp
 generalize [l0, l1, l2, l3, l4, l5].any (nrB (IntKind.i64.wrap (c.gap * 4394000)) [m0, m1, m2, m3, m4, m5]) = t at *
 unfold lkv at o1 o2 lp
 unfold cec at lp ⊢
 cases t <;> simp only [Bool.false_eq_true, if_true, if_false, Bool.not_true, Bool.not_false] at lp ⊢ <;> rw [pc_eq] <;> simp +contextual -implicitDefEqProofs (maxSteps := 2000000) only [go_sem, ↓reduceIte, E_9, A9, o1, o2, lp]
end Go.Proofs.YtnecdcaaknhgpaaGreat

namespace Go.Proofs.YtnecdcaaknhgpaaGreat
open Go Go.Zv
theorem s12_0 (V : List LV) (R BR : List (List LV)) (w0 w1 w2 w3 w4 w5 i0 i1 i2 i3 i4 i5 : Int) (lv sl most B : Int) (sm : Bool) (hV : V.length = 44) (hs : ∀ r id, LV.subs r id V = V) (h35 : V[35]? = some (.int .i64 lv)) (h43 : V[43]? = some (.int .i64 sl)) (hl : R.length ≤ 1000) (o26 : pc E 26 [.int .i64 i0, .int .i64 w0] = some (.int .i64 B)) (o27 : pc E 27 [.vs BR] = some (.bool sm)) (hm : most < B ↔ lv < B ∨ (sm = true ∧ sl < B)) :
  (K E A12_L3 ⟨[(3, .vs BR), (4, .ptr 1024 0), (5, .ptr 1280 0), (6, .ptr 1536 0), (9, .bs 4096 0 (R).length), (10, .int .i64 0), (11, .int .i64 0)], [], [(4096, .row 4 (R)), (2048, .row 4 []), (1536, .box [.int .i64 i0, .int .i64 i1, .int .i64 i2, .int .i64 i3, .int .i64 i4, .int .i64 i5]), (1280, .box [.int .i64 w0, .int .i64 w1, .int .i64 w2, .int .i64 w3, .int .i64 w4, .int .i64 w5]), (1024, .box V)], 0⟩).bind (blockR 2 (some [3, 4, 5, 6, 9, 10]) [11, 12, 35, 43, 55]) = (K E A12_L3 ⟨[(3, .vs BR), (4, .ptr 1024 0), (5, .ptr 1280 0), (6, .ptr 1536 0), (9, .bs 4096 0 (R ++ (if most < B then [frow 0 0] else [])).length), (10, .int .i64 0), (11, .int .i64 1)], [], [(4096, .row 4 (R ++ (if most < B then [frow 0 0] else []))), (2048, .row 4 []), (1536, .box [.int .i64 i0, .int .i64 i1, .int .i64 i2, .int .i64 i3, .int .i64 i4, .int .i64 i5]), (1280, .box [.int .i64 w0, .int .i64 w1, .int .i64 w2, .int .i64 w3, .int .i64 w4, .int .i64 w5]), (1024, .box V)], 0⟩).bind (blockR 2 (some [3, 4, 5, 6, 9, 10]) [11, 12, 35, 43, 55]) := by
 have t0 := tk_all R
 have t1 := tk_one R
 have hb : R.length + 1 ≤ 1000000000 := by omega
 by_cases k1 : lv < B
 ·rw [if_pos (hm.2 (.inl k1))]
  simp only [frow, List.length_append, List.length_cons, List.length_nil, Nat.zero_add]
  conv => lhs; rw [A12_L3_eq]
  simp +contextual -implicitDefEqProofs (maxSteps := 2000000) only [go_sem, ↓reduceIte, A12_L3b, hV, hs, h35, h43, o26, o27, k1, t0, t1, hb, gt_iff_lt, decide_true, Nat.le_refl]
 ·cases sm with
  | true =>
    by_cases k2 : sl < B
    ·rw [if_pos (hm.2 (.inr ⟨rfl, k2⟩))]
     simp only [frow, List.length_append, List.length_cons, List.length_nil, Nat.zero_add]
     conv => lhs; rw [A12_L3_eq]
     simp +contextual -implicitDefEqProofs (maxSteps := 2000000) only [go_sem, ↓reduceIte, A12_L3b, hV, hs, h35, h43, o26, o27, k1, k2, t0, t1, hb, gt_iff_lt, decide_true, decide_false, Nat.le_refl]
    ·rw [if_neg (fun h => by rcases hm.1 h with h | h; exact k1 h; exact k2 h.2), List.append_nil]
     conv => lhs; rw [A12_L3_eq]
     simp +contextual -implicitDefEqProofs (maxSteps := 2000000) only [go_sem, ↓reduceIte, A12_L3b, hV, hs, h35, h43, o26, o27, k1, k2, t0, hb, gt_iff_lt, decide_true, decide_false, Nat.le_refl]
  | false =>
    rw [if_neg (fun h => by rcases hm.1 h with h | h; exact k1 h; exact absurd h.1 (by decide)), List.append_nil]
    conv => lhs; rw [A12_L3_eq]
    simp +contextual -implicitDefEqProofs (maxSteps := 2000000) only [go_sem, ↓reduceIte, A12_L3b, hV, hs, h35, h43, o26, o27, k1, t0, hb, gt_iff_lt, decide_true, decide_false, Nat.le_refl]
theorem s12_1 (V : List LV) (R BR : List (List LV)) (w0 w1 w2 w3 w4 w5 i0 i1 i2 i3 i4 i5 : Int) (lv sl most B : Int) (sm : Bool) (hV : V.length = 44) (hs : ∀ r id, LV.subs r id V = V) (h35 : V[35]? = some (.int .i64 lv)) (h43 : V[43]? = some (.int .i64 sl)) (hl : R.length ≤ 1000) (o26 : pc E 26 [.int .i64 i1, .int .i64 w1] = some (.int .i64 B)) (o27 : pc E 27 [.vs BR] = some (.bool sm)) (hm : most < B ↔ lv < B ∨ (sm = true ∧ sl < B)) :
  (K E A12_L3 ⟨[(3, .vs BR), (4, .ptr 1024 0), (5, .ptr 1280 0), (6, .ptr 1536 0), (9, .bs 4096 0 (R).length), (10, .int .i64 0), (11, .int .i64 1)], [], [(4096, .row 4 (R)), (2048, .row 4 []), (1536, .box [.int .i64 i0, .int .i64 i1, .int .i64 i2, .int .i64 i3, .int .i64 i4, .int .i64 i5]), (1280, .box [.int .i64 w0, .int .i64 w1, .int .i64 w2, .int .i64 w3, .int .i64 w4, .int .i64 w5]), (1024, .box V)], 0⟩).bind (blockR 2 (some [3, 4, 5, 6, 9, 10]) [11, 12, 35, 43, 55]) = (K E A12_L3 ⟨[(3, .vs BR), (4, .ptr 1024 0), (5, .ptr 1280 0), (6, .ptr 1536 0), (9, .bs 4096 0 (R ++ (if most < B then [frow 0 1] else [])).length), (10, .int .i64 0), (11, .int .i64 2)], [], [(4096, .row 4 (R ++ (if most < B then [frow 0 1] else []))), (2048, .row 4 []), (1536, .box [.int .i64 i0, .int .i64 i1, .int .i64 i2, .int .i64 i3, .int .i64 i4, .int .i64 i5]), (1280, .box [.int .i64 w0, .int .i64 w1, .int .i64 w2, .int .i64 w3, .int .i64 w4, .int .i64 w5]), (1024, .box V)], 0⟩).bind (blockR 2 (some [3, 4, 5, 6, 9, 10]) [11, 12, 35, 43, 55]) := by
 have t0 := tk_all R
 have t1 := tk_one R
 have hb : R.length + 1 ≤ 1000000000 := by omega
 by_cases k1 : lv < B
 ·rw [if_pos (hm.2 (.inl k1))]
  simp only [frow, List.length_append, List.length_cons, List.length_nil, Nat.zero_add]
  conv => lhs; rw [A12_L3_eq]
  simp +contextual -implicitDefEqProofs (maxSteps := 2000000) only [go_sem, ↓reduceIte, A12_L3b, hV, hs, h35, h43, o26, o27, k1, t0, t1, hb, gt_iff_lt, decide_true, Nat.le_refl]
 ·cases sm with
  | true =>
    by_cases k2 : sl < B
    ·rw [if_pos (hm.2 (.inr ⟨rfl, k2⟩))]
     simp only [frow, List.length_append, List.length_cons, List.length_nil, Nat.zero_add]
     conv => lhs; rw [A12_L3_eq]
     simp +contextual -implicitDefEqProofs (maxSteps := 2000000) only [go_sem, ↓reduceIte, A12_L3b, hV, hs, h35, h43, o26, o27, k1, k2, t0, t1, hb, gt_iff_lt, decide_true, decide_false, Nat.le_refl]
    ·rw [if_neg (fun h => by rcases hm.1 h with h | h; exact k1 h; exact k2 h.2), List.append_nil]
     conv => lhs; rw [A12_L3_eq]
     simp +contextual -implicitDefEqProofs (maxSteps := 2000000) only [go_sem, ↓reduceIte, A12_L3b, hV, hs, h35, h43, o26, o27, k1, k2, t0, hb, gt_iff_lt, decide_true, decide_false, Nat.le_refl]
  | false =>
    rw [if_neg (fun h => by rcases hm.1 h with h | h; exact k1 h; exact absurd h.1 (by decide)), List.append_nil]
    conv => lhs; rw [A12_L3_eq]
    simp +contextual -implicitDefEqProofs (maxSteps := 2000000) only [go_sem, ↓reduceIte, A12_L3b, hV, hs, h35, h43, o26, o27, k1, t0, hb, gt_iff_lt, decide_true, decide_false, Nat.le_refl]
theorem s12_2 (V : List LV) (R BR : List (List LV)) (w0 w1 w2 w3 w4 w5 i0 i1 i2 i3 i4 i5 : Int) (lv sl most B : Int) (sm : Bool) (hV : V.length = 44) (hs : ∀ r id, LV.subs r id V = V) (h35 : V[35]? = some (.int .i64 lv)) (h43 : V[43]? = some (.int .i64 sl)) (hl : R.length ≤ 1000) (o26 : pc E 26 [.int .i64 i2, .int .i64 w2] = some (.int .i64 B)) (o27 : pc E 27 [.vs BR] = some (.bool sm)) (hm : most < B ↔ lv < B ∨ (sm = true ∧ sl < B)) :
  (K E A12_L3 ⟨[(3, .vs BR), (4, .ptr 1024 0), (5, .ptr 1280 0), (6, .ptr 1536 0), (9, .bs 4096 0 (R).length), (10, .int .i64 0), (11, .int .i64 2)], [], [(4096, .row 4 (R)), (2048, .row 4 []), (1536, .box [.int .i64 i0, .int .i64 i1, .int .i64 i2, .int .i64 i3, .int .i64 i4, .int .i64 i5]), (1280, .box [.int .i64 w0, .int .i64 w1, .int .i64 w2, .int .i64 w3, .int .i64 w4, .int .i64 w5]), (1024, .box V)], 0⟩).bind (blockR 2 (some [3, 4, 5, 6, 9, 10]) [11, 12, 35, 43, 55]) = (K E A12_L3 ⟨[(3, .vs BR), (4, .ptr 1024 0), (5, .ptr 1280 0), (6, .ptr 1536 0), (9, .bs 4096 0 (R ++ (if most < B then [frow 0 2] else [])).length), (10, .int .i64 0), (11, .int .i64 3)], [], [(4096, .row 4 (R ++ (if most < B then [frow 0 2] else []))), (2048, .row 4 []), (1536, .box [.int .i64 i0, .int .i64 i1, .int .i64 i2, .int .i64 i3, .int .i64 i4, .int .i64 i5]), (1280, .box [.int .i64 w0, .int .i64 w1, .int .i64 w2, .int .i64 w3, .int .i64 w4, .int .i64 w5]), (1024, .box V)], 0⟩).bind (blockR 2 (some [3, 4, 5, 6, 9, 10]) [11, 12, 35, 43, 55]) := by
 have t0 := tk_all R
 have t1 := tk_one R
 have hb : R.length + 1 ≤ 1000000000 := by omega
 by_cases k1 : lv < B
 ·rw [if_pos (hm.2 (.inl k1))]
  simp only [frow, List.length_append, List.length_cons, List.length_nil, Nat.zero_add]
  conv => lhs; rw [A12_L3_eq]
  simp +contextual -implicitDefEqProofs (maxSteps := 2000000) only [go_sem, ↓reduceIte, A12_L3b, hV, hs, h35, h43, o26, o27, k1, t0, t1, hb, gt_iff_lt, decide_true, Nat.le_refl]
 ·cases sm with
  | true =>
    by_cases k2 : sl < B
    ·rw [if_pos (hm.2 (.inr ⟨rfl, k2⟩))]
     simp only [frow, List.length_append, List.length_cons, List.length_nil, Nat.zero_add]
     conv => lhs; rw [A12_L3_eq]
     simp +contextual -implicitDefEqProofs (maxSteps := 2000000) only [go_sem, ↓reduceIte, A12_L3b, hV, hs, h35, h43, o26, o27, k1, k2, t0, t1, hb, gt_iff_lt, decide_true, decide_false, Nat.le_refl]
    ·rw [if_neg (fun h => by rcases hm.1 h with h | h; exact k1 h; exact k2 h.2), List.append_nil]
     conv => lhs; rw [A12_L3_eq]
     simp +contextual -implicitDefEqProofs (maxSteps := 2000000) only [go_sem, ↓reduceIte, A12_L3b, hV, hs, h35, h43, o26, o27, k1, k2, t0, hb, gt_iff_lt, decide_true, decide_false, Nat.le_refl]
  | false =>
    rw [if_neg (fun h => by rcases hm.1 h with h | h; exact k1 h; exact absurd h.1 (by decide)), List.append_nil]
    conv => lhs; rw [A12_L3_eq]
    simp +contextual -implicitDefEqProofs (maxSteps := 2000000) only [go_sem, ↓reduceIte, A12_L3b, hV, hs, h35, h43, o26, o27, k1, t0, hb, gt_iff_lt, decide_true, decide_false, Nat.le_refl]
theorem s12_3 (V : List LV) (R BR : List (List LV)) (w0 w1 w2 w3 w4 w5 i0 i1 i2 i3 i4 i5 : Int) (lv sl most B : Int) (sm : Bool) (hV : V.length = 44) (hs : ∀ r id, LV.subs r id V = V) (h35 : V[35]? = some (.int .i64 lv)) (h43 : V[43]? = some (.int .i64 sl)) (hl : R.length ≤ 1000) (o26 : pc E 26 [.int .i64 i3, .int .i64 w3] = some (.int .i64 B)) (o27 : pc E 27 [.vs BR] = some (.bool sm)) (hm : most < B ↔ lv < B ∨ (sm = true ∧ sl < B)) :
  (K E A12_L3 ⟨[(3, .vs BR), (4, .ptr 1024 0), (5, .ptr 1280 0), (6, .ptr 1536 0), (9, .bs 4096 0 (R).length), (10, .int .i64 1), (11, .int .i64 0)], [], [(4096, .row 4 (R)), (2048, .row 4 []), (1536, .box [.int .i64 i0, .int .i64 i1, .int .i64 i2, .int .i64 i3, .int .i64 i4, .int .i64 i5]), (1280, .box [.int .i64 w0, .int .i64 w1, .int .i64 w2, .int .i64 w3, .int .i64 w4, .int .i64 w5]), (1024, .box V)], 0⟩).bind (blockR 2 (some [3, 4, 5, 6, 9, 10]) [11, 12, 35, 43, 55]) = (K E A12_L3 ⟨[(3, .vs BR), (4, .ptr 1024 0), (5, .ptr 1280 0), (6, .ptr 1536 0), (9, .bs 4096 0 (R ++ (if most < B then [frow 1 0] else [])).length), (10, .int .i64 1), (11, .int .i64 1)], [], [(4096, .row 4 (R ++ (if most < B then [frow 1 0] else []))), (2048, .row 4 []), (1536, .box [.int .i64 i0, .int .i64 i1, .int .i64 i2, .int .i64 i3, .int .i64 i4, .int .i64 i5]), (1280, .box [.int .i64 w0, .int .i64 w1, .int .i64 w2, .int .i64 w3, .int .i64 w4, .int .i64 w5]), (1024, .box V)], 0⟩).bind (blockR 2 (some [3, 4, 5, 6, 9, 10]) [11, 12, 35, 43, 55]) := by
 have t0 := tk_all R
 have t1 := tk_one R
 have hb : R.length + 1 ≤ 1000000000 := by omega
 by_cases k1 : lv < B
 ·rw [if_pos (hm.2 (.inl k1))]
  simp only [frow, List.length_append, List.length_cons, List.length_nil, Nat.zero_add]
  conv => lhs; rw [A12_L3_eq]
  simp +contextual -implicitDefEqProofs (maxSteps := 2000000) only [go_sem, ↓reduceIte, A12_L3b, hV, hs, h35, h43, o26, o27, k1, t0, t1, hb, gt_iff_lt, decide_true, Nat.le_refl]
 ·cases sm with
  | true =>
    by_cases k2 : sl < B
    ·rw [if_pos (hm.2 (.inr ⟨rfl, k2⟩))]
     simp only [frow, List.length_append, List.length_cons, List.length_nil, Nat.zero_add]
     conv => lhs; rw [A12_L3_eq]
     simp +contextual -implicitDefEqProofs (maxSteps := 2000000) only [go_sem, ↓reduceIte, A12_L3b, hV, hs, h35, h43, o26, o27, k1, k2, t0, t1, hb, gt_iff_lt, decide_true, decide_false, Nat.le_refl]
    ·rw [if_neg (fun h => by rcases hm.1 h with h | h; exact k1 h; exact k2 h.2), List.append_nil]
     conv => lhs; rw [A12_L3_eq]
     simp +contextual -implicitDefEqProofs (maxSteps := 2000000) only [go_sem, ↓reduceIte, A12_L3b, hV, hs, h35, h43, o26, o27, k1, k2, t0, hb, gt_iff_lt, decide_true, decide_false, Nat.le_refl]
  | false =>
    rw [if_neg (fun h => by rcases hm.1 h with h | h; exact k1 h; exact absurd h.1 (by decide)), List.append_nil]
    conv => lhs; rw [A12_L3_eq]
    simp +contextual -implicitDefEqProofs (maxSteps := 2000000) only [go_sem, ↓reduceIte, A12_L3b, hV, hs, h35, h43, o26, o27, k1, t0, hb, gt_iff_lt, decide_true, decide_false, Nat.le_refl]
theorem s12_4 (V : List LV) (R BR : List (List LV)) (w0 w1 w2 w3 w4 w5 i0 i1 i2 i3 i4 i5 : Int) (lv sl most B : Int) (sm : Bool) (hV : V.length = 44) (hs : ∀ r id, LV.subs r id V = V) (h35 : V[35]? = some (.int .i64 lv)) (h43 : V[43]? = some (.int .i64 sl)) (hl : R.length ≤ 1000) (o26 : pc E 26 [.int .i64 i4, .int .i64 w4] = some (.int .i64 B)) (o27 : pc E 27 [.vs BR] = some (.bool sm)) (hm : most < B ↔ lv < B ∨ (sm = true ∧ sl < B)) :
  (K E A12_L3 ⟨[(3, .vs BR), (4, .ptr 1024 0), (5, .ptr 1280 0), (6, .ptr 1536 0), (9, .bs 4096 0 (R).length), (10, .int .i64 1), (11, .int .i64 1)], [], [(4096, .row 4 (R)), (2048, .row 4 []), (1536, .box [.int .i64 i0, .int .i64 i1, .int .i64 i2, .int .i64 i3, .int .i64 i4, .int .i64 i5]), (1280, .box [.int .i64 w0, .int .i64 w1, .int .i64 w2, .int .i64 w3, .int .i64 w4, .int .i64 w5]), (1024, .box V)], 0⟩).bind (blockR 2 (some [3, 4, 5, 6, 9, 10]) [11, 12, 35, 43, 55]) = (K E A12_L3 ⟨[(3, .vs BR), (4, .ptr 1024 0), (5, .ptr 1280 0), (6, .ptr 1536 0), (9, .bs 4096 0 (R ++ (if most < B then [frow 1 1] else [])).length), (10, .int .i64 1), (11, .int .i64 2)], [], [(4096, .row 4 (R ++ (if most < B then [frow 1 1] else []))), (2048, .row 4 []), (1536, .box [.int .i64 i0, .int .i64 i1, .int .i64 i2, .int .i64 i3, .int .i64 i4, .int .i64 i5]), (1280, .box [.int .i64 w0, .int .i64 w1, .int .i64 w2, .int .i64 w3, .int .i64 w4, .int .i64 w5]), (1024, .box V)], 0⟩).bind (blockR 2 (some [3, 4, 5, 6, 9, 10]) [11, 12, 35, 43, 55]) := by
 have t0 := tk_all R
 have t1 := tk_one R
 have hb : R.length + 1 ≤ 1000000000 := by omega
 by_cases k1 : lv < B
 ·rw [if_pos (hm.2 (.inl k1))]
  simp only [frow, List.length_append, List.length_cons, List.length_nil, Nat.zero_add]
  conv => lhs; rw [A12_L3_eq]
  simp +contextual -implicitDefEqProofs (maxSteps := 2000000) only [go_sem, ↓reduceIte, A12_L3b, hV, hs, h35, h43, o26, o27, k1, t0, t1, hb, gt_iff_lt, decide_true, Nat.le_refl]
 ·cases sm with
  | true =>
    by_cases k2 : sl < B
    ·rw [if_pos (hm.2 (.inr ⟨rfl, k2⟩))]
     simp only [frow, List.length_append, List.length_cons, List.length_nil, Nat.zero_add]
     conv => lhs; rw [A12_L3_eq]
     simp +contextual -implicitDefEqProofs (maxSteps := 2000000) only [go_sem, ↓reduceIte, A12_L3b, hV, hs, h35, h43, o26, o27, k1, k2, t0, t1, hb, gt_iff_lt, decide_true, decide_false, Nat.le_refl]
    ·rw [if_neg (fun h => by rcases hm.1 h with h | h; exact k1 h; exact k2 h.2), List.append_nil]
     conv => lhs; rw [A12_L3_eq]
     simp +contextual -implicitDefEqProofs (maxSteps := 2000000) only [go_sem, ↓reduceIte, A12_L3b, hV, hs, h35, h43, o26, o27, k1, k2, t0, hb, gt_iff_lt, decide_true, decide_false, Nat.le_refl]
  | false =>
    rw [if_neg (fun h => by rcases hm.1 h with h | h; exact k1 h; exact absurd h.1 (by decide)), List.append_nil]
    conv => lhs; rw [A12_L3_eq]
    simp +contextual -implicitDefEqProofs (maxSteps := 2000000) only [go_sem, ↓reduceIte, A12_L3b, hV, hs, h35, h43, o26, o27, k1, t0, hb, gt_iff_lt, decide_true, decide_false, Nat.le_refl]
theorem s12_5 (V : List LV) (R BR : List (List LV)) (w0 w1 w2 w3 w4 w5 i0 i1 i2 i3 i4 i5 : Int) (lv sl most B : Int) (sm : Bool) (hV : V.length = 44) (hs : ∀ r id, LV.subs r id V = V) (h35 : V[35]? = some (.int .i64 lv)) (h43 : V[43]? = some (.int .i64 sl)) (hl : R.length ≤ 1000) (o26 : pc E 26 [.int .i64 i5, .int .i64 w5] = some (.int .i64 B)) (o27 : pc E 27 [.vs BR] = some (.bool sm)) (hm : most < B ↔ lv < B ∨ (sm = true ∧ sl < B)) :
  (K E A12_L3 ⟨[(3, .vs BR), (4, .ptr 1024 0), (5, .ptr 1280 0), (6, .ptr 1536 0), (9, .bs 4096 0 (R).length), (10, .int .i64 1), (11, .int .i64 2)], [], [(4096, .row 4 (R)), (2048, .row 4 []), (1536, .box [.int .i64 i0, .int .i64 i1, .int .i64 i2, .int .i64 i3, .int .i64 i4, .int .i64 i5]), (1280, .box [.int .i64 w0, .int .i64 w1, .int .i64 w2, .int .i64 w3, .int .i64 w4, .int .i64 w5]), (1024, .box V)], 0⟩).bind (blockR 2 (some [3, 4, 5, 6, 9, 10]) [11, 12, 35, 43, 55]) = (K E A12_L3 ⟨[(3, .vs BR), (4, .ptr 1024 0), (5, .ptr 1280 0), (6, .ptr 1536 0), (9, .bs 4096 0 (R ++ (if most < B then [frow 1 2] else [])).length), (10, .int .i64 1), (11, .int .i64 3)], [], [(4096, .row 4 (R ++ (if most < B then [frow 1 2] else []))), (2048, .row 4 []), (1536, .box [.int .i64 i0, .int .i64 i1, .int .i64 i2, .int .i64 i3, .int .i64 i4, .int .i64 i5]), (1280, .box [.int .i64 w0, .int .i64 w1, .int .i64 w2, .int .i64 w3, .int .i64 w4, .int .i64 w5]), (1024, .box V)], 0⟩).bind (blockR 2 (some [3, 4, 5, 6, 9, 10]) [11, 12, 35, 43, 55]) := by
 have t0 := tk_all R
 have t1 := tk_one R
 have hb : R.length + 1 ≤ 1000000000 := by omega
 by_cases k1 : lv < B
 ·rw [if_pos (hm.2 (.inl k1))]
  simp only [frow, List.length_append, List.length_cons, List.length_nil, Nat.zero_add]
  conv => lhs; rw [A12_L3_eq]
  simp +contextual -implicitDefEqProofs (maxSteps := 2000000) only [go_sem, ↓reduceIte, A12_L3b, hV, hs, h35, h43, o26, o27, k1, t0, t1, hb, gt_iff_lt, decide_true, Nat.le_refl]
 ·cases sm with
  | true =>
    by_cases k2 : sl < B
    ·rw [if_pos (hm.2 (.inr ⟨rfl, k2⟩))]
     simp only [frow, List.length_append, List.length_cons, List.length_nil, Nat.zero_add]
     conv => lhs; rw [A12_L3_eq]
     simp +contextual -implicitDefEqProofs (maxSteps := 2000000) only [go_sem, ↓reduceIte, A12_L3b, hV, hs, h35, h43, o26, o27, k1, k2, t0, t1, hb, gt_iff_lt, decide_true, decide_false, Nat.le_refl]
    ·rw [if_neg (fun h => by rcases hm.1 h with h | h; exact k1 h; exact k2 h.2), List.append_nil]
     conv => lhs; rw [A12_L3_eq]
     simp +contextual -implicitDefEqProofs (maxSteps := 2000000) only [go_sem, ↓reduceIte, A12_L3b, hV, hs, h35, h43, o26, o27, k1, k2, t0, hb, gt_iff_lt, decide_true, decide_false, Nat.le_refl]
  | false =>
    rw [if_neg (fun h => by rcases hm.1 h with h | h; exact k1 h; exact absurd h.1 (by decide)), List.append_nil]
    conv => lhs; rw [A12_L3_eq]
    simp +contextual -implicitDefEqProofs (maxSteps := 2000000) only [go_sem, ↓reduceIte, A12_L3b, hV, hs, h35, h43, o26, o27, k1, t0, hb, gt_iff_lt, decide_true, decide_false, Nat.le_refl]
theorem z12_0 (V : List LV) (R BR : List (List LV)) (w0 w1 w2 w3 w4 w5 i0 i1 i2 i3 i4 i5 : Int) (n : Nat) (b h : Bool) (hV : V.length = 44) (hs : ∀ r id, LV.subs r id V = V) (hVc : LV.closeds V = true) (hl : R.length ≤ 1000) (hn : n < BR.length) (hn2 : BR.length ≤ 1000) (hb : BR[n]? = some [.bool b]) (o28 : pc E 28 [.agg V, .int .i64 0, jv i0 i1 i2, .int .i64 n] = some (.bool h)) (hcl : ∀ O, LV.cls O V = V) (hid : LV.idss V = []) :
  (K E A12_L1 ⟨[(3, .vs BR), (4, .ptr 1024 0), (6, .ptr 1536 0), (9, .bs 4096 0 (R).length), (13, .int .i64 0), (14, .int .i64 n)], [], [(4096, .row 4 (R)), (2048, .row 4 []), (1536, .box [.int .i64 i0, .int .i64 i1, .int .i64 i2, .int .i64 i3, .int .i64 i4, .int .i64 i5]), (1280, .box [.int .i64 w0, .int .i64 w1, .int .i64 w2, .int .i64 w3, .int .i64 w4, .int .i64 w5]), (1024, .box V)], 0⟩).bind (blockR 6 (some [3, 4, 6, 9, 13]) [14, 86, 92]) = (K E A12_L1 ⟨[(3, .vs BR), (4, .ptr 1024 0), (6, .ptr 1536 0), (9, .bs 4096 0 (R ++ (if (b && h) = true then [inrow 0 n] else [])).length), (13, .int .i64 0), (14, .int .i64 ((n + 1 : Nat) : Int))], [], [(4096, .row 4 (R ++ (if (b && h) = true then [inrow 0 n] else []))), (2048, .row 4 []), (1536, .box [.int .i64 i0, .int .i64 i1, .int .i64 i2, .int .i64 i3, .int .i64 i4, .int .i64 i5]), (1280, .box [.int .i64 w0, .int .i64 w1, .int .i64 w2, .int .i64 w3, .int .i64 w4, .int .i64 w5]), (1024, .box V)], 0⟩).bind (blockR 6 (some [3, 4, 6, 9, 13]) [14, 86, 92]) := by
 have t0 := tk_all R
 have t1 := tk_one R
 have hb1 : R.length + 1 ≤ 1000000000 := by omega
 have k0 : (0 : Int) ≤ n := by omega
 have k1 : (n : Int) < BR.length := by omega
 have hw := wr_succ (n := n) (by omega)
 have ht : V.take 44 = V := List.take_of_length_le (by omega)
 cases b with
 | false =>
   simp only [Bool.false_and, Bool.false_eq_true, if_false, List.append_nil]
   conv => lhs; rw [A12_L1_eq]
   simp +contextual -implicitDefEqProofs (maxSteps := 2000000) only [go_sem, ↓reduceIte, A12_L1b, hV, hs, k0, k1, hw, hb, t0, hb1, Nat.le_refl]
 | true =>
 cases h with
 | false =>
   simp only [Bool.and_false, Bool.false_eq_true, if_false, List.append_nil]
   conv => lhs; rw [A12_L1_eq]
   simp +contextual -implicitDefEqProofs (maxSteps := 2000000) only [go_sem, ↓reduceIte, A12_L1b, hV, hs, hVc, hcl, hid, ht, k0, k1, hw, hb, o28, t0, hb1, Nat.le_refl]
 | true =>
   simp only [Bool.and_self, if_true, inrow, List.length_append, List.length_cons, List.length_nil, Nat.zero_add]
   conv => lhs; rw [A12_L1_eq]
   simp +contextual -implicitDefEqProofs (maxSteps := 2000000) only [go_sem, ↓reduceIte, A12_L1b, hV, hs, hVc, hcl, hid, ht, k0, k1, hw, hb, o28, t0, t1, hb1, Nat.le_refl]
theorem z12_1 (V : List LV) (R BR : List (List LV)) (w0 w1 w2 w3 w4 w5 i0 i1 i2 i3 i4 i5 : Int) (n : Nat) (b h : Bool) (hV : V.length = 44) (hs : ∀ r id, LV.subs r id V = V) (hVc : LV.closeds V = true) (hl : R.length ≤ 1000) (hn : n < BR.length) (hn2 : BR.length ≤ 1000) (hb : BR[n]? = some [.bool b]) (o28 : pc E 28 [.agg V, .int .i64 1, jv i3 i4 i5, .int .i64 n] = some (.bool h)) (hcl : ∀ O, LV.cls O V = V) (hid : LV.idss V = []) :
  (K E A12_L1 ⟨[(3, .vs BR), (4, .ptr 1024 0), (6, .ptr 1536 0), (9, .bs 4096 0 (R).length), (13, .int .i64 1), (14, .int .i64 n)], [], [(4096, .row 4 (R)), (2048, .row 4 []), (1536, .box [.int .i64 i0, .int .i64 i1, .int .i64 i2, .int .i64 i3, .int .i64 i4, .int .i64 i5]), (1280, .box [.int .i64 w0, .int .i64 w1, .int .i64 w2, .int .i64 w3, .int .i64 w4, .int .i64 w5]), (1024, .box V)], 0⟩).bind (blockR 6 (some [3, 4, 6, 9, 13]) [14, 86, 92]) = (K E A12_L1 ⟨[(3, .vs BR), (4, .ptr 1024 0), (6, .ptr 1536 0), (9, .bs 4096 0 (R ++ (if (b && h) = true then [inrow 1 n] else [])).length), (13, .int .i64 1), (14, .int .i64 ((n + 1 : Nat) : Int))], [], [(4096, .row 4 (R ++ (if (b && h) = true then [inrow 1 n] else []))), (2048, .row 4 []), (1536, .box [.int .i64 i0, .int .i64 i1, .int .i64 i2, .int .i64 i3, .int .i64 i4, .int .i64 i5]), (1280, .box [.int .i64 w0, .int .i64 w1, .int .i64 w2, .int .i64 w3, .int .i64 w4, .int .i64 w5]), (1024, .box V)], 0⟩).bind (blockR 6 (some [3, 4, 6, 9, 13]) [14, 86, 92]) := by
 have t0 := tk_all R
 have t1 := tk_one R
 have hb1 : R.length + 1 ≤ 1000000000 := by omega
 have k0 : (0 : Int) ≤ n := by omega
 have k1 : (n : Int) < BR.length := by omega
 have hw := wr_succ (n := n) (by omega)
 have ht : V.take 44 = V := List.take_of_length_le (by omega)
 cases b with
 | false =>
   simp only [Bool.false_and, Bool.false_eq_true, if_false, List.append_nil]
   conv => lhs; rw [A12_L1_eq]
   simp +contextual -implicitDefEqProofs (maxSteps := 2000000) only [go_sem, ↓reduceIte, A12_L1b, hV, hs, k0, k1, hw, hb, t0, hb1, Nat.le_refl]
 | true =>
 cases h with
 | false =>
   simp only [Bool.and_false, Bool.false_eq_true, if_false, List.append_nil]
   conv => lhs; rw [A12_L1_eq]
   simp +contextual -implicitDefEqProofs (maxSteps := 2000000) only [go_sem, ↓reduceIte, A12_L1b, hV, hs, hVc, hcl, hid, ht, k0, k1, hw, hb, o28, t0, hb1, Nat.le_refl]
 | true =>
   simp only [Bool.and_self, if_true, inrow, List.length_append, List.length_cons, List.length_nil, Nat.zero_add]
   conv => lhs; rw [A12_L1_eq]
   simp +contextual -implicitDefEqProofs (maxSteps := 2000000) only [go_sem, ↓reduceIte, A12_L1b, hV, hs, hVc, hcl, hid, ht, k0, k1, hw, hb, o28, t0, t1, hb1, Nat.le_refl]
theorem z12_0x (V : List LV) (R BR : List (List LV)) (w0 w1 w2 w3 w4 w5 i0 i1 i2 i3 i4 i5 : Int) (n : Nat) (b h : Bool) (hV : V.length = 44) (hs : ∀ r id, LV.subs r id V = V) (hVc : LV.closeds V = true) (hl : R.length ≤ 1000) (hn : n < BR.length) (hn2 : BR.length ≤ 1000) (hb : BR[n]? = some [.bool b]) (o28 : pc E 28 [.agg V, .int .i64 0, jv i0 i1 i2, .int .i64 n] = some (.bool h)) (hcl : ∀ O, LV.cls O V = V) (hid : LV.idss V = []) :
  (K E A12_L1 ⟨[(3, .vs BR), (4, .ptr 1024 0), (6, .ptr 1536 0), (9, .bs 4096 0 (R).length), (13, .int .i64 0), (14, .int .i64 n)], [], [(16128, .row 4 [[.int .i64 2, .int .i64 0, .int .i64 0, .int .i64 0]]), (4096, .row 4 (R)), (2048, .row 4 []), (1536, .box [.int .i64 i0, .int .i64 i1, .int .i64 i2, .int .i64 i3, .int .i64 i4, .int .i64 i5]), (1280, .box [.int .i64 w0, .int .i64 w1, .int .i64 w2, .int .i64 w3, .int .i64 w4, .int .i64 w5]), (1024, .box V)], 0⟩).bind (blockR 6 (some [3, 4, 6, 9, 13]) [14, 86, 92]) = (K E A12_L1 ⟨[(3, .vs BR), (4, .ptr 1024 0), (6, .ptr 1536 0), (9, .bs 4096 0 (R ++ (if (b && h) = true then [inrow 0 n] else [])).length), (13, .int .i64 0), (14, .int .i64 ((n + 1 : Nat) : Int))], [], [(16128, .row 4 [[.int .i64 2, .int .i64 0, .int .i64 0, .int .i64 0]]), (4096, .row 4 (R ++ (if (b && h) = true then [inrow 0 n] else []))), (2048, .row 4 []), (1536, .box [.int .i64 i0, .int .i64 i1, .int .i64 i2, .int .i64 i3, .int .i64 i4, .int .i64 i5]), (1280, .box [.int .i64 w0, .int .i64 w1, .int .i64 w2, .int .i64 w3, .int .i64 w4, .int .i64 w5]), (1024, .box V)], 0⟩).bind (blockR 6 (some [3, 4, 6, 9, 13]) [14, 86, 92]) := by
 have t0 := tk_all R
 have t1 := tk_one R
 have hb1 : R.length + 1 ≤ 1000000000 := by omega
 have k0 : (0 : Int) ≤ n := by omega
 have k1 : (n : Int) < BR.length := by omega
 have hw := wr_succ (n := n) (by omega)
 have ht : V.take 44 = V := List.take_of_length_le (by omega)
 cases b with
 | false =>
   simp only [Bool.false_and, Bool.false_eq_true, if_false, List.append_nil]
   conv => lhs; rw [A12_L1_eq]
   simp +contextual -implicitDefEqProofs (maxSteps := 2000000) only [go_sem, ↓reduceIte, A12_L1b, hV, hs, k0, k1, hw, hb, t0, hb1, Nat.le_refl]
 | true =>
 cases h with
 | false =>
   simp only [Bool.and_false, Bool.false_eq_true, if_false, List.append_nil]
   conv => lhs; rw [A12_L1_eq]
   simp +contextual -implicitDefEqProofs (maxSteps := 2000000) only [go_sem, ↓reduceIte, A12_L1b, hV, hs, hVc, hcl, hid, ht, k0, k1, hw, hb, o28, t0, hb1, Nat.le_refl]
 | true =>
   simp only [Bool.and_self, if_true, inrow, List.length_append, List.length_cons, List.length_nil, Nat.zero_add]
   conv => lhs; rw [A12_L1_eq]
   simp +contextual -implicitDefEqProofs (maxSteps := 2000000) only [go_sem, ↓reduceIte, A12_L1b, hV, hs, hVc, hcl, hid, ht, k0, k1, hw, hb, o28, t0, t1, hb1, Nat.le_refl]
theorem z12_1x (V : List LV) (R BR : List (List LV)) (w0 w1 w2 w3 w4 w5 i0 i1 i2 i3 i4 i5 : Int) (n : Nat) (b h : Bool) (hV : V.length = 44) (hs : ∀ r id, LV.subs r id V = V) (hVc : LV.closeds V = true) (hl : R.length ≤ 1000) (hn : n < BR.length) (hn2 : BR.length ≤ 1000) (hb : BR[n]? = some [.bool b]) (o28 : pc E 28 [.agg V, .int .i64 1, jv i3 i4 i5, .int .i64 n] = some (.bool h)) (hcl : ∀ O, LV.cls O V = V) (hid : LV.idss V = []) :
  (K E A12_L1 ⟨[(3, .vs BR), (4, .ptr 1024 0), (6, .ptr 1536 0), (9, .bs 4096 0 (R).length), (13, .int .i64 1), (14, .int .i64 n)], [], [(16128, .row 4 [[.int .i64 2, .int .i64 0, .int .i64 0, .int .i64 0]]), (4096, .row 4 (R)), (2048, .row 4 []), (1536, .box [.int .i64 i0, .int .i64 i1, .int .i64 i2, .int .i64 i3, .int .i64 i4, .int .i64 i5]), (1280, .box [.int .i64 w0, .int .i64 w1, .int .i64 w2, .int .i64 w3, .int .i64 w4, .int .i64 w5]), (1024, .box V)], 0⟩).bind (blockR 6 (some [3, 4, 6, 9, 13]) [14, 86, 92]) = (K E A12_L1 ⟨[(3, .vs BR), (4, .ptr 1024 0), (6, .ptr 1536 0), (9, .bs 4096 0 (R ++ (if (b && h) = true then [inrow 1 n] else [])).length), (13, .int .i64 1), (14, .int .i64 ((n + 1 : Nat) : Int))], [], [(16128, .row 4 [[.int .i64 2, .int .i64 0, .int .i64 0, .int .i64 0]]), (4096, .row 4 (R ++ (if (b && h) = true then [inrow 1 n] else []))), (2048, .row 4 []), (1536, .box [.int .i64 i0, .int .i64 i1, .int .i64 i2, .int .i64 i3, .int .i64 i4, .int .i64 i5]), (1280, .box [.int .i64 w0, .int .i64 w1, .int .i64 w2, .int .i64 w3, .int .i64 w4, .int .i64 w5]), (1024, .box V)], 0⟩).bind (blockR 6 (some [3, 4, 6, 9, 13]) [14, 86, 92]) := by
 have t0 := tk_all R
 have t1 := tk_one R
 have hb1 : R.length + 1 ≤ 1000000000 := by omega
 have k0 : (0 : Int) ≤ n := by omega
 have k1 : (n : Int) < BR.length := by omega
 have hw := wr_succ (n := n) (by omega)
 have ht : V.take 44 = V := List.take_of_length_le (by omega)
 cases b with
 | false =>
   simp only [Bool.false_and, Bool.false_eq_true, if_false, List.append_nil]
   conv => lhs; rw [A12_L1_eq]
   simp +contextual -implicitDefEqProofs (maxSteps := 2000000) only [go_sem, ↓reduceIte, A12_L1b, hV, hs, k0, k1, hw, hb, t0, hb1, Nat.le_refl]
 | true =>
 cases h with
 | false =>
   simp only [Bool.and_false, Bool.false_eq_true, if_false, List.append_nil]
   conv => lhs; rw [A12_L1_eq]
   simp +contextual -implicitDefEqProofs (maxSteps := 2000000) only [go_sem, ↓reduceIte, A12_L1b, hV, hs, hVc, hcl, hid, ht, k0, k1, hw, hb, o28, t0, hb1, Nat.le_refl]
 | true =>
   simp only [Bool.and_self, if_true, inrow, List.length_append, List.length_cons, List.length_nil, Nat.zero_add]
   conv => lhs; rw [A12_L1_eq]
   simp +contextual -implicitDefEqProofs (maxSteps := 2000000) only [go_sem, ↓reduceIte, A12_L1b, hV, hs, hVc, hcl, hid, ht, k0, k1, hw, hb, o28, t0, t1, hb1, Nat.le_refl]
end Go.Proofs.YtnecdcaaknhgpaaGreat

namespace Go.Proofs.YtnecdcaaknhgpaaGreat
open Go Go.Zv
open Go.Geo (rc RCok mayB locI valB areaW rc_val rc_loc rc_area rc_may mayB_iff)
def lrs (a : Arm) (d : Pts) : List (List (Int × Int)) :=
 [rc a.bx a.by_ a.l0 a.w (67600 * d.x1) (67600 * d.y1), rc (pp a d).x1 (pp a d).y1 a.l1 a.w (1040 * d.x2) (1040 * d.y2), rc (pp a d).x2 (pp a d).y2 a.l2 a.w (16 * d.x3) (16 * d.y3)]
theorem lks_rc (a : Arm) (d : Pts) : lks a d = lrs a d := by
 simp only [lks, lrs, lkc, rc, pp, Int.mul_assoc]
theorem le_mul {l X M : Int} (hl : 0 ≤ l) (hx : -M ≤ X ∧ X ≤ M) : -(l * M) ≤ l * X ∧ l * X ≤ l * M := by
 constructor
 ·have := Int.mul_le_mul_of_nonneg_left hx.1 hl
  rw [Int.mul_neg] at this; exact this
 ·exact Int.mul_le_mul_of_nonneg_left hx.2 hl
structure R3 (a : Arm) (d : Pts) : Prop where
 r0 : RCok a.bx a.by_ a.l0 a.w (67600 * d.x1) (67600 * d.y1) 19307236000000
 r1 : RCok (pp a d).x1 (pp a d).y1 a.l1 a.w (1040 * d.x2) (1040 * d.y2) 19307236000000
 r2 : RCok (pp a d).x2 (pp a d).y2 a.l2 a.w (16 * d.x3) (16 * d.y3) 19307236000000
theorem r3 {a : Arm} (h : OKa a) {d : Pts} (v : DV d) : R3 a d := by
 have l0 := h.l0
 have l1 := h.l1
 have l2 := h.l2
 have w := h.w
 have bx := h.bx
 have by_ := h.by_
 have x1 := v.v1.x
 have y1 := v.v1.y
 have x2 := v.v2.x
 have y2 := v.v2.y
 have x3 := v.v3.x
 have y3 := v.v3.y
 have n1 := v.v1.eq
 have n2 := v.v2.eq
 have n3 := v.v3.eq
 simp only [p65] at x1 y1 x2 y2 x3 y3 n1 n2 n3
 have g : ∀ l X : Int, 1 ≤ l → -4394000 ≤ X ∧ X ≤ 4394000 → -(l * 4394000) ≤ l * X ∧ l * X ≤ l * 4394000 := fun l X h1 h2 => le_mul (by omega) h2
 have a1 := g a.l0 (67600 * d.x1) (by omega) (by omega)
 have a2 := g a.l0 (67600 * d.y1) (by omega) (by omega)
 have a3 := g a.l1 (1040 * d.x2) (by omega) (by omega)
 have a4 := g a.l1 (1040 * d.y2) (by omega) (by omega)
 have a5 := g a.l2 (16 * d.x3) (by omega) (by omega)
 have a6 := g a.l2 (16 * d.y3) (by omega) (by omega)
 have b1 := g a.w (67600 * d.x1) (by omega) (by omega)
 have b2 := g a.w (67600 * d.y1) (by omega) (by omega)
 have b3 := g a.w (1040 * d.x2) (by omega) (by omega)
 have b4 := g a.w (1040 * d.y2) (by omega) (by omega)
 have b5 := g a.w (16 * d.x3) (by omega) (by omega)
 have b6 := g a.w (16 * d.y3) (by omega) (by omega)
 have m1 : (67600 * d.x1) * (67600 * d.x1) + (67600 * d.y1) * (67600 * d.y1) = 19307236000000 := by
  have e : (67600 * d.x1) * (67600 * d.x1) + (67600 * d.y1) * (67600 * d.y1) = 67600 * 67600 * (d.x1 * d.x1 + d.y1 * d.y1) := by grind
  rw [e, n1]; rfl
 have m2 : (1040 * d.x2) * (1040 * d.x2) + (1040 * d.y2) * (1040 * d.y2) = 19307236000000 := by
  have e : (1040 * d.x2) * (1040 * d.x2) + (1040 * d.y2) * (1040 * d.y2) = 1040 * 1040 * (d.x2 * d.x2 + d.y2 * d.y2) := by grind
  rw [e, n2]; rfl
 have m3 : (16 * d.x3) * (16 * d.x3) + (16 * d.y3) * (16 * d.y3) = 19307236000000 := by
  have e : (16 * d.x3) * (16 * d.x3) + (16 * d.y3) * (16 * d.y3) = 16 * 16 * (d.x3 * d.x3 + d.y3 * d.y3) := by grind
  rw [e, n3]; rfl
 refine ⟨⟨by omega, by omega, by omega, m1, ?_⟩, ⟨by omega, by omega, by omega, m2, ?_⟩, ⟨by omega, by omega, by omega, m3, ?_⟩⟩
 all_goals
  simp only [rc, List.mem_cons, List.not_mem_nil, or_false]
  rintro p (rfl | rfl | rfl | rfl) <;> simp only [pp, Int.mul_assoc] <;> omega
end Go.Proofs.YtnecdcaaknhgpaaGreat

namespace Go.Proofs.YtnecdcaaknhgpaaGreat
open Go Go.Zv
theorem l28 (V : List LV) (zn : List (List (Int × Int))) (L : List (List (Int × Int))) (hV : V.length = 44) (h41 : V[41]? = some (.vs (zn.map Go.Geo.p1))) (n : Nat) (hn : n < zn.length) (hn2 : zn.length ≤ 1000) (hL : L.length = 6) (vL : ∀ l ∈ L, Go.Geo.Val l) (vz : Go.Geo.Val (zn.getD n [])) :
  (K E A28_L0 ⟨[(3, .int .i64 n), (4, .ptr 1024 0), (9, .bs 4096 0 6), (10, .int .i64 0)], [], [(4096, .row 1 (L.map bw)), (1024, .box V)], 0⟩).bind (blockR 0 (some []) [8, 10, 31]) =
   if L.any (fun l => (Go.Geo.FC l (zn.getD n [])).isSome) = true then some (.ex .ret ⟨[(8, .bool true)], [], [(4096, .row 1 (L.map bw)), (1024, .box V)], 0⟩) else some (.ex .nrm ⟨[], [], [(4096, .row 1 (L.map bw)), (1024, .box V)], 0⟩) := by
 have hzk : zn[n]? = some (zn.getD n []) := Go.Geo.getD_of [] hn
 have gz : (zn.map Go.Geo.p1)[n]? = some [.vs ((zn.getD n []).map Go.Geo.c2)] := by rw [List.getElem?_map, hzk]; rfl
 have n0 : (0 : Int) ≤ n := by omega
 have n1 : (n : Int) < zn.length := by omega
 have hzl : (zn.map Go.Geo.p1).length = zn.length := List.length_map ..
 have lp := loop_any (fun S => (K E A28_L0 S).bind (blockR 0 (some []) [8, 10, 31]))
  (fun k => ⟨[(3, .int .i64 n), (4, .ptr 1024 0), (9, .bs 4096 0 6), (10, .int .i64 k)], [], [(4096, .row 1 (L.map bw)), (1024, .box V)], 0⟩) L (fun l => (Go.Geo.FC l (zn.getD n [])).isSome)
  (some (.ex .ret ⟨[(8, .bool true)], [], [(4096, .row 1 (L.map bw)), (1024, .box V)], 0⟩)) (some (.ex .nrm ⟨[], [], [(4096, .row 1 (L.map bw)), (1024, .box V)], 0⟩))
  (by
   rw [hL]
   show (K E A28_L0 _).bind _ = _
   rw [A28_L0_eq]; simp +contextual -implicitDefEqProofs (maxSteps := 2000000) only [go_sem, ↓reduceIte, A28_L0b])
  (fun k l hk hget => by
   have k0 : (0 : Int) ≤ k := by omega
   have k1 : (k : Int) < 6 := by omega
   have hw := wr_succ (n := k) (by omega)
   have gL : (L.map bw)[k]? = some [.vs (l.map Go.Geo.c2)] := by rw [List.getElem?_map, hget]; rfl
   have o := c46 l (zn.getD n []) (vL l (List.mem_of_getElem? hget)) vz
   cases hf : (Go.Geo.FC l (zn.getD n [])).isSome
   ·rw [hf] at o
    rw [if_neg (by decide)]
    show (K E A28_L0 _).bind _ = (K E A28_L0 _).bind _
    conv => lhs; rw [A28_L0_eq]
    simp +contextual -implicitDefEqProofs (maxSteps := 2000000) only [go_sem, ↓reduceIte, A28_L0b, hV, h41, k0, k1, n0, n1, hzl, gL, gz, hw, o]
   ·rw [hf] at o
    rw [if_pos rfl]
    show (K E A28_L0 _).bind _ = _
    rw [A28_L0_eq]; simp +contextual -implicitDefEqProofs (maxSteps := 2000000) only [go_sem, ↓reduceIte, A28_L0b, hV, h41, k0, k1, n0, n1, hzl, gL, gz, o])
 simp only [Int.natCast_zero, Int.ofNat_zero] at lp
 exact lp
theorem bods_Val {a : Arm} (h : OKa a) (x0 x1 x2 : Int) : ∀ l ∈ bods a x0 x1 x2, Go.Geo.Val l := by
 have key : ∀ d, DV d → ∀ l ∈ lks a d, Go.Geo.valB l = true := by
  intro d v l hl
  have R := r3 h v
  rw [lks_rc] at hl
  simp only [lrs, List.mem_cons, List.not_mem_nil, or_false] at hl
  rcases hl with rfl | rfl | rfl
  ·exact Go.Geo.rc_val R.r0
  ·exact Go.Geo.rc_val R.r1
  ·exact Go.Geo.rc_val R.r2
 intro l hl
 unfold bods at hl
 rcases List.mem_append.1 hl with h1 | h1
 ·exact Go.Geo.val_iff.1 (key _ (ddV _ _ _) l h1)
 ·exact Go.Geo.val_iff.1 (key _ (ddV _ _ _) l h1)
theorem c28_0 (c : Cl) (ha : OKa c.a) (x0 x1 x2 : Int) (h0 : S9 x0) (h1 : S9 x1) (h2 : S9 x2) (n : Nat) (hn : n < c.zn.length) (hn2 : c.zn.length ≤ 1000) (vz : ∀ z ∈ c.zn, Go.Geo.valB z = true) : pc E 28 [.agg (cec c.cel), .int .i64 0, jv x0 x1 x2, .int .i64 n] = some (.bool (hitB c.a x0 x1 x2 (c.zn.getD n []))) := by
 obtain ⟨l0, l1, l2, l3, l4, l5, hl, _, _, q1⟩ := bod c.a ha x0 x1 x2
 have o1 := c20 c.a ha x0 x1 x2 h0 h1 h2 l0 l1 l2 l3 l4 l5 hl
 have bv := bods_Val ha x0 x1 x2
 rw [hl] at bv
 have hzk : c.zn[n]? = some (c.zn.getD n []) := Go.Geo.getD_of [] hn
 have lp := l28 (cec c.cel) c.zn [l0, l1, l2, l3, l4, l5] rfl rfl n hn hn2 rfl bv (Go.Geo.val_iff.1 (vz _ (List.mem_of_getElem? hzk)))
 unfold hitB
 rw [hl]
 simp only [List.map_cons, List.map_nil, bw] at lp
 generalize [l0, l1, l2, l3, l4, l5].any (fun l => (Go.Geo.FC l (c.zn.getD n [])).isSome) = t at *
 unfold lkv at o1 lp
 unfold cec at lp ⊢
 cases t <;> simp only [Bool.false_eq_true, if_true, if_false] at lp ⊢ <;> rw [pc_eq] <;> simp +contextual -implicitDefEqProofs (maxSteps := 2000000) only [go_sem, ↓reduceIte, E_28, A28, o1, lp]
theorem c28_1 (c : Cl) (ha : OKa c.b) (x0 x1 x2 : Int) (h0 : S9 x0) (h1 : S9 x1) (h2 : S9 x2) (n : Nat) (hn : n < c.zn.length) (hn2 : c.zn.length ≤ 1000) (vz : ∀ z ∈ c.zn, Go.Geo.valB z = true) : pc E 28 [.agg (cec c.cel), .int .i64 1, jv x0 x1 x2, .int .i64 n] = some (.bool (hitB c.b x0 x1 x2 (c.zn.getD n []))) := by
 obtain ⟨l0, l1, l2, l3, l4, l5, hl, _, _, q1⟩ := bod c.b ha x0 x1 x2
 have o1 := c20 c.b ha x0 x1 x2 h0 h1 h2 l0 l1 l2 l3 l4 l5 hl
 have bv := bods_Val ha x0 x1 x2
 rw [hl] at bv
 have hzk : c.zn[n]? = some (c.zn.getD n []) := Go.Geo.getD_of [] hn
 have lp := l28 (cec c.cel) c.zn [l0, l1, l2, l3, l4, l5] rfl rfl n hn hn2 rfl bv (Go.Geo.val_iff.1 (vz _ (List.mem_of_getElem? hzk)))
 unfold hitB
 rw [hl]
 simp only [List.map_cons, List.map_nil, bw] at lp
 generalize [l0, l1, l2, l3, l4, l5].any (fun l => (Go.Geo.FC l (c.zn.getD n [])).isSome) = t at *
 unfold lkv at o1 lp
 unfold cec at lp ⊢
 cases t <;> simp only [Bool.false_eq_true, if_true, if_false] at lp ⊢ <;> rw [pc_eq] <;> simp +contextual -implicitDefEqProofs (maxSteps := 2000000) only [go_sem, ↓reduceIte, E_28, A28, o1, lp]
end Go.Proofs.YtnecdcaaknhgpaaGreat

namespace Go.Proofs.YtnecdcaaknhgpaaGreat
open Go Go.Zv
theorem by_wrap {i w : Int} (hi : -204 ≤ i ∧ i ≤ 216) (hw : -204 ≤ w ∧ w ≤ 216) : mxI (IntKind.i64.wrap (i - w)) (IntKind.i64.wrap (w - i)) = byI i w := by
 rw [wrap_small (n := i - w) (by omega) (by omega), wrap_small (n := w - i) (by omega) (by omega)]; rfl
theorem most_iff (c : Cl) (br : List Bool) (B : Int) : mostI c br < B ↔ c.lv < B ∨ (br.any id = true ∧ c.slow < B) := by
 unfold mostI mnI
 cases br.any id
 ·simp
 ·simp only [if_true, true_and]
  split <;> omega
theorem o26 {i w : Int} (hi : -204 ≤ i ∧ i ≤ 216) (hw : -204 ≤ w ∧ w ≤ 216) : pc E 26 [.int .i64 i, .int .i64 w] = some (.int .i64 (farW i w)) :=
 (c26 i w).trans (by rw [by_wrap hi hw, far_by hi hw])
theorem frw_len (m i w a k : Int) : (frw m i w a k).length ≤ 1 := by unfold frw; split <;> simp
theorem L3_0 (c : Cl) (br : List Bool) (R : List (List LV)) (w0 w1 w2 w3 w4 w5 i0 i1 i2 i3 i4 i5 : Int) (hbl : br.length ≤ 1000) (hl : R.length ≤ 900) (b0 : -204 ≤ i0 ∧ i0 ≤ 216) (d0 : -204 ≤ w0 ∧ w0 ≤ 216) (b1 : -204 ≤ i1 ∧ i1 ≤ 216) (d1 : -204 ≤ w1 ∧ w1 ≤ 216) (b2 : -204 ≤ i2 ∧ i2 ≤ 216) (d2 : -204 ≤ w2 ∧ w2 ≤ 216) (b3 : -204 ≤ i3 ∧ i3 ≤ 216) (d3 : -204 ≤ w3 ∧ w3 ≤ 216) (b4 : -204 ≤ i4 ∧ i4 ≤ 216) (d4 : -204 ≤ w4 ∧ w4 ≤ 216) (b5 : -204 ≤ i5 ∧ i5 ≤ 216) (d5 : -204 ≤ w5 ∧ w5 ≤ 216) :
  (K E A12_L3 ⟨[(3, .vs (br.map bb1)), (4, .ptr 1024 0), (5, .ptr 1280 0), (6, .ptr 1536 0), (9, .bs 4096 0 (R).length), (10, .int .i64 0), (11, .int .i64 0)], [], [(4096, .row 4 (R)), (2048, .row 4 []), (1536, .box [.int .i64 i0, .int .i64 i1, .int .i64 i2, .int .i64 i3, .int .i64 i4, .int .i64 i5]), (1280, .box [.int .i64 w0, .int .i64 w1, .int .i64 w2, .int .i64 w3, .int .i64 w4, .int .i64 w5]), (1024, .box (cec c.cel))], 0⟩).bind (blockR 2 (some [3, 4, 5, 6, 9, 10]) [11, 12, 35, 43, 55]) = some (.ex .nrm ⟨[(3, .vs (br.map bb1)), (4, .ptr 1024 0), (5, .ptr 1280 0), (6, .ptr 1536 0), (9, .bs 4096 0 (R ++ frw (mostI c br) i0 w0 0 0 ++ frw (mostI c br) i1 w1 0 1 ++ frw (mostI c br) i2 w2 0 2).length), (10, .int .i64 0)], [], [(4096, .row 4 (R ++ frw (mostI c br) i0 w0 0 0 ++ frw (mostI c br) i1 w1 0 1 ++ frw (mostI c br) i2 w2 0 2)), (2048, .row 4 []), (1536, .box [.int .i64 i0, .int .i64 i1, .int .i64 i2, .int .i64 i3, .int .i64 i4, .int .i64 i5]), (1280, .box [.int .i64 w0, .int .i64 w1, .int .i64 w2, .int .i64 w3, .int .i64 w4, .int .i64 w5]), (1024, .box (cec c.cel))], 0⟩) := by
 have l := frw_len (mostI c br)
 have o27 := c27 br (by omega)
 have e1 := s12_0 (cec c.cel) R (br.map bb1) w0 w1 w2 w3 w4 w5 i0 i1 i2 i3 i4 i5 c.lv c.slow (mostI c br) (farW i0 w0) (br.any id) rfl (fun _ _ => rfl) rfl rfl (by omega) (o26 b0 d0) o27 (most_iff c br _)
 have l1 := l i0 w0 0 0
 have e2 := s12_1 (cec c.cel) (R ++ frw (mostI c br) i0 w0 0 0) (br.map bb1) w0 w1 w2 w3 w4 w5 i0 i1 i2 i3 i4 i5 c.lv c.slow (mostI c br) (farW i1 w1) (br.any id) rfl (fun _ _ => rfl) rfl rfl (by rw [List.length_append]; omega) (o26 b1 d1) o27 (most_iff c br _)
 have l2 := l i1 w1 0 1
 have e3 := s12_2 (cec c.cel) (R ++ frw (mostI c br) i0 w0 0 0 ++ frw (mostI c br) i1 w1 0 1) (br.map bb1) w0 w1 w2 w3 w4 w5 i0 i1 i2 i3 i4 i5 c.lv c.slow (mostI c br) (farW i2 w2) (br.any id) rfl (fun _ _ => rfl) rfl rfl (by rw [List.length_append, List.length_append]; omega) (o26 b2 d2) o27 (most_iff c br _)
 refine e1.trans (e2.trans (e3.trans ?_))
 show (K E A12_L3 ⟨[(3, .vs (br.map bb1)), (4, .ptr 1024 0), (5, .ptr 1280 0), (6, .ptr 1536 0), (9, .bs 4096 0 (R ++ frw (mostI c br) i0 w0 0 0 ++ frw (mostI c br) i1 w1 0 1 ++ frw (mostI c br) i2 w2 0 2).length), (10, .int .i64 0), (11, .int .i64 3)], [], [(4096, .row 4 (R ++ frw (mostI c br) i0 w0 0 0 ++ frw (mostI c br) i1 w1 0 1 ++ frw (mostI c br) i2 w2 0 2)), (2048, .row 4 []), (1536, .box [.int .i64 i0, .int .i64 i1, .int .i64 i2, .int .i64 i3, .int .i64 i4, .int .i64 i5]), (1280, .box [.int .i64 w0, .int .i64 w1, .int .i64 w2, .int .i64 w3, .int .i64 w4, .int .i64 w5]), (1024, .box (cec c.cel))], 0⟩).bind (blockR 2 (some [3, 4, 5, 6, 9, 10]) [11, 12, 35, 43, 55]) = _
 generalize R ++ frw (mostI c br) i0 w0 0 0 ++ frw (mostI c br) i1 w1 0 1 ++ frw (mostI c br) i2 w2 0 2 = S
 rw [A12_L3_eq]; simp +contextual -implicitDefEqProofs (maxSteps := 2000000) only [go_sem, ↓reduceIte, A12_L3b]
theorem L3_1 (c : Cl) (br : List Bool) (R : List (List LV)) (w0 w1 w2 w3 w4 w5 i0 i1 i2 i3 i4 i5 : Int) (hbl : br.length ≤ 1000) (hl : R.length ≤ 900) (b0 : -204 ≤ i0 ∧ i0 ≤ 216) (d0 : -204 ≤ w0 ∧ w0 ≤ 216) (b1 : -204 ≤ i1 ∧ i1 ≤ 216) (d1 : -204 ≤ w1 ∧ w1 ≤ 216) (b2 : -204 ≤ i2 ∧ i2 ≤ 216) (d2 : -204 ≤ w2 ∧ w2 ≤ 216) (b3 : -204 ≤ i3 ∧ i3 ≤ 216) (d3 : -204 ≤ w3 ∧ w3 ≤ 216) (b4 : -204 ≤ i4 ∧ i4 ≤ 216) (d4 : -204 ≤ w4 ∧ w4 ≤ 216) (b5 : -204 ≤ i5 ∧ i5 ≤ 216) (d5 : -204 ≤ w5 ∧ w5 ≤ 216) :
  (K E A12_L3 ⟨[(3, .vs (br.map bb1)), (4, .ptr 1024 0), (5, .ptr 1280 0), (6, .ptr 1536 0), (9, .bs 4096 0 (R).length), (10, .int .i64 1), (11, .int .i64 0)], [], [(4096, .row 4 (R)), (2048, .row 4 []), (1536, .box [.int .i64 i0, .int .i64 i1, .int .i64 i2, .int .i64 i3, .int .i64 i4, .int .i64 i5]), (1280, .box [.int .i64 w0, .int .i64 w1, .int .i64 w2, .int .i64 w3, .int .i64 w4, .int .i64 w5]), (1024, .box (cec c.cel))], 0⟩).bind (blockR 2 (some [3, 4, 5, 6, 9, 10]) [11, 12, 35, 43, 55]) = some (.ex .nrm ⟨[(3, .vs (br.map bb1)), (4, .ptr 1024 0), (5, .ptr 1280 0), (6, .ptr 1536 0), (9, .bs 4096 0 (R ++ frw (mostI c br) i3 w3 1 0 ++ frw (mostI c br) i4 w4 1 1 ++ frw (mostI c br) i5 w5 1 2).length), (10, .int .i64 1)], [], [(4096, .row 4 (R ++ frw (mostI c br) i3 w3 1 0 ++ frw (mostI c br) i4 w4 1 1 ++ frw (mostI c br) i5 w5 1 2)), (2048, .row 4 []), (1536, .box [.int .i64 i0, .int .i64 i1, .int .i64 i2, .int .i64 i3, .int .i64 i4, .int .i64 i5]), (1280, .box [.int .i64 w0, .int .i64 w1, .int .i64 w2, .int .i64 w3, .int .i64 w4, .int .i64 w5]), (1024, .box (cec c.cel))], 0⟩) := by
 have l := frw_len (mostI c br)
 have o27 := c27 br (by omega)
 have e1 := s12_3 (cec c.cel) R (br.map bb1) w0 w1 w2 w3 w4 w5 i0 i1 i2 i3 i4 i5 c.lv c.slow (mostI c br) (farW i3 w3) (br.any id) rfl (fun _ _ => rfl) rfl rfl (by omega) (o26 b3 d3) o27 (most_iff c br _)
 have l1 := l i3 w3 1 0
 have e2 := s12_4 (cec c.cel) (R ++ frw (mostI c br) i3 w3 1 0) (br.map bb1) w0 w1 w2 w3 w4 w5 i0 i1 i2 i3 i4 i5 c.lv c.slow (mostI c br) (farW i4 w4) (br.any id) rfl (fun _ _ => rfl) rfl rfl (by rw [List.length_append]; omega) (o26 b4 d4) o27 (most_iff c br _)
 have l2 := l i4 w4 1 1
 have e3 := s12_5 (cec c.cel) (R ++ frw (mostI c br) i3 w3 1 0 ++ frw (mostI c br) i4 w4 1 1) (br.map bb1) w0 w1 w2 w3 w4 w5 i0 i1 i2 i3 i4 i5 c.lv c.slow (mostI c br) (farW i5 w5) (br.any id) rfl (fun _ _ => rfl) rfl rfl (by rw [List.length_append, List.length_append]; omega) (o26 b5 d5) o27 (most_iff c br _)
 refine e1.trans (e2.trans (e3.trans ?_))
 show (K E A12_L3 ⟨[(3, .vs (br.map bb1)), (4, .ptr 1024 0), (5, .ptr 1280 0), (6, .ptr 1536 0), (9, .bs 4096 0 (R ++ frw (mostI c br) i3 w3 1 0 ++ frw (mostI c br) i4 w4 1 1 ++ frw (mostI c br) i5 w5 1 2).length), (10, .int .i64 1), (11, .int .i64 3)], [], [(4096, .row 4 (R ++ frw (mostI c br) i3 w3 1 0 ++ frw (mostI c br) i4 w4 1 1 ++ frw (mostI c br) i5 w5 1 2)), (2048, .row 4 []), (1536, .box [.int .i64 i0, .int .i64 i1, .int .i64 i2, .int .i64 i3, .int .i64 i4, .int .i64 i5]), (1280, .box [.int .i64 w0, .int .i64 w1, .int .i64 w2, .int .i64 w3, .int .i64 w4, .int .i64 w5]), (1024, .box (cec c.cel))], 0⟩).bind (blockR 2 (some [3, 4, 5, 6, 9, 10]) [11, 12, 35, 43, 55]) = _
 generalize R ++ frw (mostI c br) i3 w3 1 0 ++ frw (mostI c br) i4 w4 1 1 ++ frw (mostI c br) i5 w5 1 2 = S
 rw [A12_L3_eq]; simp +contextual -implicitDefEqProofs (maxSteps := 2000000) only [go_sem, ↓reduceIte, A12_L3b]
theorem zl_0 (c : Cl) (br : List Bool) (R : List (List LV)) (w0 w1 w2 w3 w4 w5 i0 i1 i2 i3 i4 i5 : Int) (ha : OKa c.a) (zl : c.zn.length ≤ 16) (hbl : br.length = c.zn.length) (zv : ∀ z ∈ c.zn, Go.Geo.valB z = true) (hl : R.length ≤ 900) (b0 : -204 ≤ i0 ∧ i0 ≤ 216) (d0 : -204 ≤ w0 ∧ w0 ≤ 216) (b1 : -204 ≤ i1 ∧ i1 ≤ 216) (d1 : -204 ≤ w1 ∧ w1 ≤ 216) (b2 : -204 ≤ i2 ∧ i2 ≤ 216) (d2 : -204 ≤ w2 ∧ w2 ≤ 216) (b3 : -204 ≤ i3 ∧ i3 ≤ 216) (d3 : -204 ≤ w3 ∧ w3 ≤ 216) (b4 : -204 ≤ i4 ∧ i4 ≤ 216) (d4 : -204 ≤ w4 ∧ w4 ≤ 216) (b5 : -204 ≤ i5 ∧ i5 ≤ 216) (d5 : -204 ≤ w5 ∧ w5 ≤ 216) :
  (K E A12_L1 ⟨[(3, .vs (br.map bb1)), (4, .ptr 1024 0), (6, .ptr 1536 0), (9, .bs 4096 0 (R).length), (13, .int .i64 0), (14, .int .i64 0)], [], [(4096, .row 4 (R)), (2048, .row 4 []), (1536, .box [.int .i64 i0, .int .i64 i1, .int .i64 i2, .int .i64 i3, .int .i64 i4, .int .i64 i5]), (1280, .box [.int .i64 w0, .int .i64 w1, .int .i64 w2, .int .i64 w3, .int .i64 w4, .int .i64 w5]), (1024, .box (cec c.cel))], 0⟩).bind (blockR 6 (some [3, 4, 6, 9, 13]) [14, 86, 92]) = some (.ex .nrm ⟨[(3, .vs (br.map bb1)), (4, .ptr 1024 0), (6, .ptr 1536 0), (9, .bs 4096 0 (R ++ (inz 0 (hits c.a i0 i1 i2 c.zn) br br.length).map v4).length), (13, .int .i64 0)], [], [(4096, .row 4 (R ++ (inz 0 (hits c.a i0 i1 i2 c.zn) br br.length).map v4)), (2048, .row 4 []), (1536, .box [.int .i64 i0, .int .i64 i1, .int .i64 i2, .int .i64 i3, .int .i64 i4, .int .i64 i5]), (1280, .box [.int .i64 w0, .int .i64 w1, .int .i64 w2, .int .i64 w3, .int .i64 w4, .int .i64 w5]), (1024, .box (cec c.cel))], 0⟩) := by
 have lp := loop_to (fun S => (K E A12_L1 S).bind (blockR 6 (some [3, 4, 6, 9, 13]) [14, 86, 92])) (fun k => ⟨[(3, .vs (br.map bb1)), (4, .ptr 1024 0), (6, .ptr 1536 0), (9, .bs 4096 0 (R ++ (inz 0 (hits c.a i0 i1 i2 c.zn) br k).map v4).length), (13, .int .i64 0), (14, .int .i64 k)], [], [(4096, .row 4 (R ++ (inz 0 (hits c.a i0 i1 i2 c.zn) br k).map v4)), (2048, .row 4 []), (1536, .box [.int .i64 i0, .int .i64 i1, .int .i64 i2, .int .i64 i3, .int .i64 i4, .int .i64 i5]), (1280, .box [.int .i64 w0, .int .i64 w1, .int .i64 w2, .int .i64 w3, .int .i64 w4, .int .i64 w5]), (1024, .box (cec c.cel))], 0⟩) br.length (fun k hk => by
  have hbk : br[k]? = some (br.getD k false) := Go.Geo.getD_of false hk
  have hlen := inz_len 0 (hits c.a i0 i1 i2 c.zn) br k
  have e : inz 0 (hits c.a i0 i1 i2 c.zn) br (k + 1) = inz 0 (hits c.a i0 i1 i2 c.zn) br k ++ if (br.getD k false && hits c.a i0 i1 i2 c.zn k) = true then [(3, 0, 0, (k : Int))] else [] := rfl
  have q := z12_0 (cec c.cel) (R ++ (inz 0 (hits c.a i0 i1 i2 c.zn) br k).map v4) (br.map bb1) w0 w1 w2 w3 w4 w5 i0 i1 i2 i3 i4 i5 k (br.getD k false) (hits c.a i0 i1 i2 c.zn k) rfl (fun _ _ => rfl) rfl (by rw [List.length_append, List.length_map]; omega) (by rw [List.length_map]; exact hk) (by rw [List.length_map]; omega) (by rw [List.getElem?_map, hbk]; rfl) (c28_0 c ha i0 i1 i2 (by unfold S9; omega) (by unfold S9; omega) (by unfold S9; omega) k (by omega) (by omega) zv) (fun _ => rfl) rfl
  rw [e, List.map_append, ← List.append_assoc]
  have e2 : (if (br.getD k false && hits c.a i0 i1 i2 c.zn k) = true then [(3, 0, 0, (k : Int))] else [] : List Vi).map v4 = if (br.getD k false && hits c.a i0 i1 i2 c.zn k) = true then [inrow 0 k] else [] := by split <;> rfl
  rw [e2]
  exact q)
 have stop : (K E A12_L1 ⟨[(3, .vs (br.map bb1)), (4, .ptr 1024 0), (6, .ptr 1536 0), (9, .bs 4096 0 (R ++ (inz 0 (hits c.a i0 i1 i2 c.zn) br br.length).map v4).length), (13, .int .i64 0), (14, .int .i64 br.length)], [], [(4096, .row 4 (R ++ (inz 0 (hits c.a i0 i1 i2 c.zn) br br.length).map v4)), (2048, .row 4 []), (1536, .box [.int .i64 i0, .int .i64 i1, .int .i64 i2, .int .i64 i3, .int .i64 i4, .int .i64 i5]), (1280, .box [.int .i64 w0, .int .i64 w1, .int .i64 w2, .int .i64 w3, .int .i64 w4, .int .i64 w5]), (1024, .box (cec c.cel))], 0⟩).bind (blockR 6 (some [3, 4, 6, 9, 13]) [14, 86, 92]) = some (.ex .nrm ⟨[(3, .vs (br.map bb1)), (4, .ptr 1024 0), (6, .ptr 1536 0), (9, .bs 4096 0 (R ++ (inz 0 (hits c.a i0 i1 i2 c.zn) br br.length).map v4).length), (13, .int .i64 0)], [], [(4096, .row 4 (R ++ (inz 0 (hits c.a i0 i1 i2 c.zn) br br.length).map v4)), (2048, .row 4 []), (1536, .box [.int .i64 i0, .int .i64 i1, .int .i64 i2, .int .i64 i3, .int .i64 i4, .int .i64 i5]), (1280, .box [.int .i64 w0, .int .i64 w1, .int .i64 w2, .int .i64 w3, .int .i64 w4, .int .i64 w5]), (1024, .box (cec c.cel))], 0⟩) := by
  have hbm : (br.map bb1).length = br.length := List.length_map ..
  generalize R ++ (inz 0 (hits c.a i0 i1 i2 c.zn) br br.length).map v4 = S
  rw [A12_L1_eq]; simp +contextual -implicitDefEqProofs (maxSteps := 2000000) only [go_sem, ↓reduceIte, A12_L1b, hbm, Int.lt_irrefl]
 have lp := lp.trans stop
 simp only [Int.natCast_zero, Int.ofNat_zero, show inz 0 (hits c.a i0 i1 i2 c.zn) br 0 = [] from rfl, List.map_nil, List.append_nil] at lp
 exact lp
theorem zl_1 (c : Cl) (br : List Bool) (R : List (List LV)) (w0 w1 w2 w3 w4 w5 i0 i1 i2 i3 i4 i5 : Int) (ha : OKa c.b) (zl : c.zn.length ≤ 16) (hbl : br.length = c.zn.length) (zv : ∀ z ∈ c.zn, Go.Geo.valB z = true) (hl : R.length ≤ 900) (b0 : -204 ≤ i0 ∧ i0 ≤ 216) (d0 : -204 ≤ w0 ∧ w0 ≤ 216) (b1 : -204 ≤ i1 ∧ i1 ≤ 216) (d1 : -204 ≤ w1 ∧ w1 ≤ 216) (b2 : -204 ≤ i2 ∧ i2 ≤ 216) (d2 : -204 ≤ w2 ∧ w2 ≤ 216) (b3 : -204 ≤ i3 ∧ i3 ≤ 216) (d3 : -204 ≤ w3 ∧ w3 ≤ 216) (b4 : -204 ≤ i4 ∧ i4 ≤ 216) (d4 : -204 ≤ w4 ∧ w4 ≤ 216) (b5 : -204 ≤ i5 ∧ i5 ≤ 216) (d5 : -204 ≤ w5 ∧ w5 ≤ 216) :
  (K E A12_L1 ⟨[(3, .vs (br.map bb1)), (4, .ptr 1024 0), (6, .ptr 1536 0), (9, .bs 4096 0 (R).length), (13, .int .i64 1), (14, .int .i64 0)], [], [(4096, .row 4 (R)), (2048, .row 4 []), (1536, .box [.int .i64 i0, .int .i64 i1, .int .i64 i2, .int .i64 i3, .int .i64 i4, .int .i64 i5]), (1280, .box [.int .i64 w0, .int .i64 w1, .int .i64 w2, .int .i64 w3, .int .i64 w4, .int .i64 w5]), (1024, .box (cec c.cel))], 0⟩).bind (blockR 6 (some [3, 4, 6, 9, 13]) [14, 86, 92]) = some (.ex .nrm ⟨[(3, .vs (br.map bb1)), (4, .ptr 1024 0), (6, .ptr 1536 0), (9, .bs 4096 0 (R ++ (inz 1 (hits c.b i3 i4 i5 c.zn) br br.length).map v4).length), (13, .int .i64 1)], [], [(4096, .row 4 (R ++ (inz 1 (hits c.b i3 i4 i5 c.zn) br br.length).map v4)), (2048, .row 4 []), (1536, .box [.int .i64 i0, .int .i64 i1, .int .i64 i2, .int .i64 i3, .int .i64 i4, .int .i64 i5]), (1280, .box [.int .i64 w0, .int .i64 w1, .int .i64 w2, .int .i64 w3, .int .i64 w4, .int .i64 w5]), (1024, .box (cec c.cel))], 0⟩) := by
 have lp := loop_to (fun S => (K E A12_L1 S).bind (blockR 6 (some [3, 4, 6, 9, 13]) [14, 86, 92])) (fun k => ⟨[(3, .vs (br.map bb1)), (4, .ptr 1024 0), (6, .ptr 1536 0), (9, .bs 4096 0 (R ++ (inz 1 (hits c.b i3 i4 i5 c.zn) br k).map v4).length), (13, .int .i64 1), (14, .int .i64 k)], [], [(4096, .row 4 (R ++ (inz 1 (hits c.b i3 i4 i5 c.zn) br k).map v4)), (2048, .row 4 []), (1536, .box [.int .i64 i0, .int .i64 i1, .int .i64 i2, .int .i64 i3, .int .i64 i4, .int .i64 i5]), (1280, .box [.int .i64 w0, .int .i64 w1, .int .i64 w2, .int .i64 w3, .int .i64 w4, .int .i64 w5]), (1024, .box (cec c.cel))], 0⟩) br.length (fun k hk => by
  have hbk : br[k]? = some (br.getD k false) := Go.Geo.getD_of false hk
  have hlen := inz_len 1 (hits c.b i3 i4 i5 c.zn) br k
  have e : inz 1 (hits c.b i3 i4 i5 c.zn) br (k + 1) = inz 1 (hits c.b i3 i4 i5 c.zn) br k ++ if (br.getD k false && hits c.b i3 i4 i5 c.zn k) = true then [(3, 1, 0, (k : Int))] else [] := rfl
  have q := z12_1 (cec c.cel) (R ++ (inz 1 (hits c.b i3 i4 i5 c.zn) br k).map v4) (br.map bb1) w0 w1 w2 w3 w4 w5 i0 i1 i2 i3 i4 i5 k (br.getD k false) (hits c.b i3 i4 i5 c.zn k) rfl (fun _ _ => rfl) rfl (by rw [List.length_append, List.length_map]; omega) (by rw [List.length_map]; exact hk) (by rw [List.length_map]; omega) (by rw [List.getElem?_map, hbk]; rfl) (c28_1 c ha i3 i4 i5 (by unfold S9; omega) (by unfold S9; omega) (by unfold S9; omega) k (by omega) (by omega) zv) (fun _ => rfl) rfl
  rw [e, List.map_append, ← List.append_assoc]
  have e2 : (if (br.getD k false && hits c.b i3 i4 i5 c.zn k) = true then [(3, 1, 0, (k : Int))] else [] : List Vi).map v4 = if (br.getD k false && hits c.b i3 i4 i5 c.zn k) = true then [inrow 1 k] else [] := by split <;> rfl
  rw [e2]
  exact q)
 have stop : (K E A12_L1 ⟨[(3, .vs (br.map bb1)), (4, .ptr 1024 0), (6, .ptr 1536 0), (9, .bs 4096 0 (R ++ (inz 1 (hits c.b i3 i4 i5 c.zn) br br.length).map v4).length), (13, .int .i64 1), (14, .int .i64 br.length)], [], [(4096, .row 4 (R ++ (inz 1 (hits c.b i3 i4 i5 c.zn) br br.length).map v4)), (2048, .row 4 []), (1536, .box [.int .i64 i0, .int .i64 i1, .int .i64 i2, .int .i64 i3, .int .i64 i4, .int .i64 i5]), (1280, .box [.int .i64 w0, .int .i64 w1, .int .i64 w2, .int .i64 w3, .int .i64 w4, .int .i64 w5]), (1024, .box (cec c.cel))], 0⟩).bind (blockR 6 (some [3, 4, 6, 9, 13]) [14, 86, 92]) = some (.ex .nrm ⟨[(3, .vs (br.map bb1)), (4, .ptr 1024 0), (6, .ptr 1536 0), (9, .bs 4096 0 (R ++ (inz 1 (hits c.b i3 i4 i5 c.zn) br br.length).map v4).length), (13, .int .i64 1)], [], [(4096, .row 4 (R ++ (inz 1 (hits c.b i3 i4 i5 c.zn) br br.length).map v4)), (2048, .row 4 []), (1536, .box [.int .i64 i0, .int .i64 i1, .int .i64 i2, .int .i64 i3, .int .i64 i4, .int .i64 i5]), (1280, .box [.int .i64 w0, .int .i64 w1, .int .i64 w2, .int .i64 w3, .int .i64 w4, .int .i64 w5]), (1024, .box (cec c.cel))], 0⟩) := by
  have hbm : (br.map bb1).length = br.length := List.length_map ..
  generalize R ++ (inz 1 (hits c.b i3 i4 i5 c.zn) br br.length).map v4 = S
  rw [A12_L1_eq]; simp +contextual -implicitDefEqProofs (maxSteps := 2000000) only [go_sem, ↓reduceIte, A12_L1b, hbm, Int.lt_irrefl]
 have lp := lp.trans stop
 simp only [Int.natCast_zero, Int.ofNat_zero, show inz 1 (hits c.b i3 i4 i5 c.zn) br 0 = [] from rfl, List.map_nil, List.append_nil] at lp
 exact lp
theorem ul (V : List LV) (br : List Bool) (R : List (List LV)) (w0 w1 w2 w3 w4 w5 i0 i1 i2 i3 i4 i5 : Int) (hbl : br.length ≤ 16) (hl : R.length ≤ 900) (hs : ∀ r id, LV.subs r id V = V) :
  (K E A12_L0 ⟨[(3, .vs (br.map bb1)), (9, .bs 4096 0 (R).length), (15, .int .i64 0)], [], [(4096, .row 4 (R)), (2048, .row 4 []), (1536, .box [.int .i64 i0, .int .i64 i1, .int .i64 i2, .int .i64 i3, .int .i64 i4, .int .i64 i5]), (1280, .box [.int .i64 w0, .int .i64 w1, .int .i64 w2, .int .i64 w3, .int .i64 w4, .int .i64 w5]), (1024, .box V)], 0⟩).bind (blockR 8 (some [9]) [15, 107]) = some (.ex .nrm ⟨[(9, .bs 4096 0 (R ++ (unlT br br.length).map v4).length)], [], [(4096, .row 4 (R ++ (unlT br br.length).map v4)), (2048, .row 4 []), (1536, .box [.int .i64 i0, .int .i64 i1, .int .i64 i2, .int .i64 i3, .int .i64 i4, .int .i64 i5]), (1280, .box [.int .i64 w0, .int .i64 w1, .int .i64 w2, .int .i64 w3, .int .i64 w4, .int .i64 w5]), (1024, .box V)], 0⟩) := by
 have hbm : (br.map bb1).length = br.length := List.length_map ..
 have lp := loop_to (fun S => (K E A12_L0 S).bind (blockR 8 (some [9]) [15, 107])) (fun k => ⟨[(3, .vs (br.map bb1)), (9, .bs 4096 0 (R ++ (unlT br k).map v4).length), (15, .int .i64 k)], [], [(4096, .row 4 (R ++ (unlT br k).map v4)), (2048, .row 4 []), (1536, .box [.int .i64 i0, .int .i64 i1, .int .i64 i2, .int .i64 i3, .int .i64 i4, .int .i64 i5]), (1280, .box [.int .i64 w0, .int .i64 w1, .int .i64 w2, .int .i64 w3, .int .i64 w4, .int .i64 w5]), (1024, .box V)], 0⟩) br.length (fun k hk => by
  have hbk : br[k]? = some (br.getD k false) := Go.Geo.getD_of false hk
  have gb : (br.map bb1)[k]? = some [.bool (br.getD k false)] := by rw [List.getElem?_map, hbk]; rfl
  have hlen := unlT_len br k
  have e : unlT br (k + 1) = unlT br k ++ if br.getD k false = true then [(4, 0, 0, (k : Int))] else [] := rfl
  rw [e, List.map_append, ← List.append_assoc]
  have hl2 : (R ++ (unlT br k).map v4).length ≤ 1000 := by rw [List.length_append, List.length_map]; omega
  generalize R ++ (unlT br k).map v4 = S at *
  have t0 := tk_all S
  have t1 := tk_one S
  have hb1 : S.length + 1 ≤ 1000000000 := by omega
  have k0 : (0 : Int) ≤ k := by omega
  have k1 : (k : Int) < br.length := by omega
  have hw := wr_succ (n := k) (by omega)
  cases hb : br.getD k false with
  | false =>
    rw [hb] at gb
    simp only [Bool.false_eq_true, if_false, List.map_nil, List.append_nil]
    show (K E A12_L0 _).bind _ = (K E A12_L0 _).bind _
    conv => lhs; rw [A12_L0_eq]
    simp +contextual -implicitDefEqProofs (maxSteps := 2000000) only [go_sem, ↓reduceIte, A12_L0b, hs, hbm, k0, k1, hw, gb, t0, hb1, Nat.le_refl]
  | true =>
    rw [hb] at gb
    simp only [if_true, List.map_cons, List.map_nil, v4, List.length_append, List.length_cons, List.length_nil, Nat.zero_add]
    show (K E A12_L0 _).bind _ = (K E A12_L0 _).bind _
    conv => lhs; rw [A12_L0_eq]
    simp +contextual -implicitDefEqProofs (maxSteps := 2000000) only [go_sem, ↓reduceIte, A12_L0b, hs, hbm, k0, k1, hw, gb, t0, t1, hb1, Nat.le_refl])
 have stop : (K E A12_L0 ⟨[(3, .vs (br.map bb1)), (9, .bs 4096 0 (R ++ (unlT br br.length).map v4).length), (15, .int .i64 br.length)], [], [(4096, .row 4 (R ++ (unlT br br.length).map v4)), (2048, .row 4 []), (1536, .box [.int .i64 i0, .int .i64 i1, .int .i64 i2, .int .i64 i3, .int .i64 i4, .int .i64 i5]), (1280, .box [.int .i64 w0, .int .i64 w1, .int .i64 w2, .int .i64 w3, .int .i64 w4, .int .i64 w5]), (1024, .box V)], 0⟩).bind (blockR 8 (some [9]) [15, 107]) = some (.ex .nrm ⟨[(9, .bs 4096 0 (R ++ (unlT br br.length).map v4).length)], [], [(4096, .row 4 (R ++ (unlT br br.length).map v4)), (2048, .row 4 []), (1536, .box [.int .i64 i0, .int .i64 i1, .int .i64 i2, .int .i64 i3, .int .i64 i4, .int .i64 i5]), (1280, .box [.int .i64 w0, .int .i64 w1, .int .i64 w2, .int .i64 w3, .int .i64 w4, .int .i64 w5]), (1024, .box V)], 0⟩) := by
  generalize R ++ (unlT br br.length).map v4 = S
  rw [A12_L0_eq]; simp +contextual -implicitDefEqProofs (maxSteps := 2000000) only [go_sem, ↓reduceIte, A12_L0b, hbm, Int.lt_irrefl]
 have lp := lp.trans stop
 simp only [Int.natCast_zero, Int.ofNat_zero, show unlT br 0 = [] from rfl, List.map_nil, List.append_nil] at lp
 exact lp
theorem zl_0x (c : Cl) (br : List Bool) (R : List (List LV)) (w0 w1 w2 w3 w4 w5 i0 i1 i2 i3 i4 i5 : Int) (ha : OKa c.a) (zl : c.zn.length ≤ 16) (hbl : br.length = c.zn.length) (zv : ∀ z ∈ c.zn, Go.Geo.valB z = true) (hl : R.length ≤ 900) (b0 : -204 ≤ i0 ∧ i0 ≤ 216) (d0 : -204 ≤ w0 ∧ w0 ≤ 216) (b1 : -204 ≤ i1 ∧ i1 ≤ 216) (d1 : -204 ≤ w1 ∧ w1 ≤ 216) (b2 : -204 ≤ i2 ∧ i2 ≤ 216) (d2 : -204 ≤ w2 ∧ w2 ≤ 216) (b3 : -204 ≤ i3 ∧ i3 ≤ 216) (d3 : -204 ≤ w3 ∧ w3 ≤ 216) (b4 : -204 ≤ i4 ∧ i4 ≤ 216) (d4 : -204 ≤ w4 ∧ w4 ≤ 216) (b5 : -204 ≤ i5 ∧ i5 ≤ 216) (d5 : -204 ≤ w5 ∧ w5 ≤ 216) :
  (K E A12_L1 ⟨[(3, .vs (br.map bb1)), (4, .ptr 1024 0), (6, .ptr 1536 0), (9, .bs 4096 0 (R).length), (13, .int .i64 0), (14, .int .i64 0)], [], [(16128, .row 4 [[.int .i64 2, .int .i64 0, .int .i64 0, .int .i64 0]]), (4096, .row 4 (R)), (2048, .row 4 []), (1536, .box [.int .i64 i0, .int .i64 i1, .int .i64 i2, .int .i64 i3, .int .i64 i4, .int .i64 i5]), (1280, .box [.int .i64 w0, .int .i64 w1, .int .i64 w2, .int .i64 w3, .int .i64 w4, .int .i64 w5]), (1024, .box (cec c.cel))], 0⟩).bind (blockR 6 (some [3, 4, 6, 9, 13]) [14, 86, 92]) = some (.ex .nrm ⟨[(3, .vs (br.map bb1)), (4, .ptr 1024 0), (6, .ptr 1536 0), (9, .bs 4096 0 (R ++ (inz 0 (hits c.a i0 i1 i2 c.zn) br br.length).map v4).length), (13, .int .i64 0)], [], [(16128, .row 4 [[.int .i64 2, .int .i64 0, .int .i64 0, .int .i64 0]]), (4096, .row 4 (R ++ (inz 0 (hits c.a i0 i1 i2 c.zn) br br.length).map v4)), (2048, .row 4 []), (1536, .box [.int .i64 i0, .int .i64 i1, .int .i64 i2, .int .i64 i3, .int .i64 i4, .int .i64 i5]), (1280, .box [.int .i64 w0, .int .i64 w1, .int .i64 w2, .int .i64 w3, .int .i64 w4, .int .i64 w5]), (1024, .box (cec c.cel))], 0⟩) := by
 have lp := loop_to (fun S => (K E A12_L1 S).bind (blockR 6 (some [3, 4, 6, 9, 13]) [14, 86, 92])) (fun k => ⟨[(3, .vs (br.map bb1)), (4, .ptr 1024 0), (6, .ptr 1536 0), (9, .bs 4096 0 (R ++ (inz 0 (hits c.a i0 i1 i2 c.zn) br k).map v4).length), (13, .int .i64 0), (14, .int .i64 k)], [], [(16128, .row 4 [[.int .i64 2, .int .i64 0, .int .i64 0, .int .i64 0]]), (4096, .row 4 (R ++ (inz 0 (hits c.a i0 i1 i2 c.zn) br k).map v4)), (2048, .row 4 []), (1536, .box [.int .i64 i0, .int .i64 i1, .int .i64 i2, .int .i64 i3, .int .i64 i4, .int .i64 i5]), (1280, .box [.int .i64 w0, .int .i64 w1, .int .i64 w2, .int .i64 w3, .int .i64 w4, .int .i64 w5]), (1024, .box (cec c.cel))], 0⟩) br.length (fun k hk => by
  have hbk : br[k]? = some (br.getD k false) := Go.Geo.getD_of false hk
  have hlen := inz_len 0 (hits c.a i0 i1 i2 c.zn) br k
  have e : inz 0 (hits c.a i0 i1 i2 c.zn) br (k + 1) = inz 0 (hits c.a i0 i1 i2 c.zn) br k ++ if (br.getD k false && hits c.a i0 i1 i2 c.zn k) = true then [(3, 0, 0, (k : Int))] else [] := rfl
  have q := z12_0x (cec c.cel) (R ++ (inz 0 (hits c.a i0 i1 i2 c.zn) br k).map v4) (br.map bb1) w0 w1 w2 w3 w4 w5 i0 i1 i2 i3 i4 i5 k (br.getD k false) (hits c.a i0 i1 i2 c.zn k) rfl (fun _ _ => rfl) rfl (by rw [List.length_append, List.length_map]; omega) (by rw [List.length_map]; exact hk) (by rw [List.length_map]; omega) (by rw [List.getElem?_map, hbk]; rfl) (c28_0 c ha i0 i1 i2 (by unfold S9; omega) (by unfold S9; omega) (by unfold S9; omega) k (by omega) (by omega) zv) (fun _ => rfl) rfl
  rw [e, List.map_append, ← List.append_assoc]
  have e2 : (if (br.getD k false && hits c.a i0 i1 i2 c.zn k) = true then [(3, 0, 0, (k : Int))] else [] : List Vi).map v4 = if (br.getD k false && hits c.a i0 i1 i2 c.zn k) = true then [inrow 0 k] else [] := by split <;> rfl
  rw [e2]
  exact q)
 have stop : (K E A12_L1 ⟨[(3, .vs (br.map bb1)), (4, .ptr 1024 0), (6, .ptr 1536 0), (9, .bs 4096 0 (R ++ (inz 0 (hits c.a i0 i1 i2 c.zn) br br.length).map v4).length), (13, .int .i64 0), (14, .int .i64 br.length)], [], [(16128, .row 4 [[.int .i64 2, .int .i64 0, .int .i64 0, .int .i64 0]]), (4096, .row 4 (R ++ (inz 0 (hits c.a i0 i1 i2 c.zn) br br.length).map v4)), (2048, .row 4 []), (1536, .box [.int .i64 i0, .int .i64 i1, .int .i64 i2, .int .i64 i3, .int .i64 i4, .int .i64 i5]), (1280, .box [.int .i64 w0, .int .i64 w1, .int .i64 w2, .int .i64 w3, .int .i64 w4, .int .i64 w5]), (1024, .box (cec c.cel))], 0⟩).bind (blockR 6 (some [3, 4, 6, 9, 13]) [14, 86, 92]) = some (.ex .nrm ⟨[(3, .vs (br.map bb1)), (4, .ptr 1024 0), (6, .ptr 1536 0), (9, .bs 4096 0 (R ++ (inz 0 (hits c.a i0 i1 i2 c.zn) br br.length).map v4).length), (13, .int .i64 0)], [], [(16128, .row 4 [[.int .i64 2, .int .i64 0, .int .i64 0, .int .i64 0]]), (4096, .row 4 (R ++ (inz 0 (hits c.a i0 i1 i2 c.zn) br br.length).map v4)), (2048, .row 4 []), (1536, .box [.int .i64 i0, .int .i64 i1, .int .i64 i2, .int .i64 i3, .int .i64 i4, .int .i64 i5]), (1280, .box [.int .i64 w0, .int .i64 w1, .int .i64 w2, .int .i64 w3, .int .i64 w4, .int .i64 w5]), (1024, .box (cec c.cel))], 0⟩) := by
  have hbm : (br.map bb1).length = br.length := List.length_map ..
  generalize R ++ (inz 0 (hits c.a i0 i1 i2 c.zn) br br.length).map v4 = S
  rw [A12_L1_eq]; simp +contextual -implicitDefEqProofs (maxSteps := 2000000) only [go_sem, ↓reduceIte, A12_L1b, hbm, Int.lt_irrefl]
 have lp := lp.trans stop
 simp only [Int.natCast_zero, Int.ofNat_zero, show inz 0 (hits c.a i0 i1 i2 c.zn) br 0 = [] from rfl, List.map_nil, List.append_nil] at lp
 exact lp
theorem zl_1x (c : Cl) (br : List Bool) (R : List (List LV)) (w0 w1 w2 w3 w4 w5 i0 i1 i2 i3 i4 i5 : Int) (ha : OKa c.b) (zl : c.zn.length ≤ 16) (hbl : br.length = c.zn.length) (zv : ∀ z ∈ c.zn, Go.Geo.valB z = true) (hl : R.length ≤ 900) (b0 : -204 ≤ i0 ∧ i0 ≤ 216) (d0 : -204 ≤ w0 ∧ w0 ≤ 216) (b1 : -204 ≤ i1 ∧ i1 ≤ 216) (d1 : -204 ≤ w1 ∧ w1 ≤ 216) (b2 : -204 ≤ i2 ∧ i2 ≤ 216) (d2 : -204 ≤ w2 ∧ w2 ≤ 216) (b3 : -204 ≤ i3 ∧ i3 ≤ 216) (d3 : -204 ≤ w3 ∧ w3 ≤ 216) (b4 : -204 ≤ i4 ∧ i4 ≤ 216) (d4 : -204 ≤ w4 ∧ w4 ≤ 216) (b5 : -204 ≤ i5 ∧ i5 ≤ 216) (d5 : -204 ≤ w5 ∧ w5 ≤ 216) :
  (K E A12_L1 ⟨[(3, .vs (br.map bb1)), (4, .ptr 1024 0), (6, .ptr 1536 0), (9, .bs 4096 0 (R).length), (13, .int .i64 1), (14, .int .i64 0)], [], [(16128, .row 4 [[.int .i64 2, .int .i64 0, .int .i64 0, .int .i64 0]]), (4096, .row 4 (R)), (2048, .row 4 []), (1536, .box [.int .i64 i0, .int .i64 i1, .int .i64 i2, .int .i64 i3, .int .i64 i4, .int .i64 i5]), (1280, .box [.int .i64 w0, .int .i64 w1, .int .i64 w2, .int .i64 w3, .int .i64 w4, .int .i64 w5]), (1024, .box (cec c.cel))], 0⟩).bind (blockR 6 (some [3, 4, 6, 9, 13]) [14, 86, 92]) = some (.ex .nrm ⟨[(3, .vs (br.map bb1)), (4, .ptr 1024 0), (6, .ptr 1536 0), (9, .bs 4096 0 (R ++ (inz 1 (hits c.b i3 i4 i5 c.zn) br br.length).map v4).length), (13, .int .i64 1)], [], [(16128, .row 4 [[.int .i64 2, .int .i64 0, .int .i64 0, .int .i64 0]]), (4096, .row 4 (R ++ (inz 1 (hits c.b i3 i4 i5 c.zn) br br.length).map v4)), (2048, .row 4 []), (1536, .box [.int .i64 i0, .int .i64 i1, .int .i64 i2, .int .i64 i3, .int .i64 i4, .int .i64 i5]), (1280, .box [.int .i64 w0, .int .i64 w1, .int .i64 w2, .int .i64 w3, .int .i64 w4, .int .i64 w5]), (1024, .box (cec c.cel))], 0⟩) := by
 have lp := loop_to (fun S => (K E A12_L1 S).bind (blockR 6 (some [3, 4, 6, 9, 13]) [14, 86, 92])) (fun k => ⟨[(3, .vs (br.map bb1)), (4, .ptr 1024 0), (6, .ptr 1536 0), (9, .bs 4096 0 (R ++ (inz 1 (hits c.b i3 i4 i5 c.zn) br k).map v4).length), (13, .int .i64 1), (14, .int .i64 k)], [], [(16128, .row 4 [[.int .i64 2, .int .i64 0, .int .i64 0, .int .i64 0]]), (4096, .row 4 (R ++ (inz 1 (hits c.b i3 i4 i5 c.zn) br k).map v4)), (2048, .row 4 []), (1536, .box [.int .i64 i0, .int .i64 i1, .int .i64 i2, .int .i64 i3, .int .i64 i4, .int .i64 i5]), (1280, .box [.int .i64 w0, .int .i64 w1, .int .i64 w2, .int .i64 w3, .int .i64 w4, .int .i64 w5]), (1024, .box (cec c.cel))], 0⟩) br.length (fun k hk => by
  have hbk : br[k]? = some (br.getD k false) := Go.Geo.getD_of false hk
  have hlen := inz_len 1 (hits c.b i3 i4 i5 c.zn) br k
  have e : inz 1 (hits c.b i3 i4 i5 c.zn) br (k + 1) = inz 1 (hits c.b i3 i4 i5 c.zn) br k ++ if (br.getD k false && hits c.b i3 i4 i5 c.zn k) = true then [(3, 1, 0, (k : Int))] else [] := rfl
  have q := z12_1x (cec c.cel) (R ++ (inz 1 (hits c.b i3 i4 i5 c.zn) br k).map v4) (br.map bb1) w0 w1 w2 w3 w4 w5 i0 i1 i2 i3 i4 i5 k (br.getD k false) (hits c.b i3 i4 i5 c.zn k) rfl (fun _ _ => rfl) rfl (by rw [List.length_append, List.length_map]; omega) (by rw [List.length_map]; exact hk) (by rw [List.length_map]; omega) (by rw [List.getElem?_map, hbk]; rfl) (c28_1 c ha i3 i4 i5 (by unfold S9; omega) (by unfold S9; omega) (by unfold S9; omega) k (by omega) (by omega) zv) (fun _ => rfl) rfl
  rw [e, List.map_append, ← List.append_assoc]
  have e2 : (if (br.getD k false && hits c.b i3 i4 i5 c.zn k) = true then [(3, 1, 0, (k : Int))] else [] : List Vi).map v4 = if (br.getD k false && hits c.b i3 i4 i5 c.zn k) = true then [inrow 1 k] else [] := by split <;> rfl
  rw [e2]
  exact q)
 have stop : (K E A12_L1 ⟨[(3, .vs (br.map bb1)), (4, .ptr 1024 0), (6, .ptr 1536 0), (9, .bs 4096 0 (R ++ (inz 1 (hits c.b i3 i4 i5 c.zn) br br.length).map v4).length), (13, .int .i64 1), (14, .int .i64 br.length)], [], [(16128, .row 4 [[.int .i64 2, .int .i64 0, .int .i64 0, .int .i64 0]]), (4096, .row 4 (R ++ (inz 1 (hits c.b i3 i4 i5 c.zn) br br.length).map v4)), (2048, .row 4 []), (1536, .box [.int .i64 i0, .int .i64 i1, .int .i64 i2, .int .i64 i3, .int .i64 i4, .int .i64 i5]), (1280, .box [.int .i64 w0, .int .i64 w1, .int .i64 w2, .int .i64 w3, .int .i64 w4, .int .i64 w5]), (1024, .box (cec c.cel))], 0⟩).bind (blockR 6 (some [3, 4, 6, 9, 13]) [14, 86, 92]) = some (.ex .nrm ⟨[(3, .vs (br.map bb1)), (4, .ptr 1024 0), (6, .ptr 1536 0), (9, .bs 4096 0 (R ++ (inz 1 (hits c.b i3 i4 i5 c.zn) br br.length).map v4).length), (13, .int .i64 1)], [], [(16128, .row 4 [[.int .i64 2, .int .i64 0, .int .i64 0, .int .i64 0]]), (4096, .row 4 (R ++ (inz 1 (hits c.b i3 i4 i5 c.zn) br br.length).map v4)), (2048, .row 4 []), (1536, .box [.int .i64 i0, .int .i64 i1, .int .i64 i2, .int .i64 i3, .int .i64 i4, .int .i64 i5]), (1280, .box [.int .i64 w0, .int .i64 w1, .int .i64 w2, .int .i64 w3, .int .i64 w4, .int .i64 w5]), (1024, .box (cec c.cel))], 0⟩) := by
  have hbm : (br.map bb1).length = br.length := List.length_map ..
  generalize R ++ (inz 1 (hits c.b i3 i4 i5 c.zn) br br.length).map v4 = S
  rw [A12_L1_eq]; simp +contextual -implicitDefEqProofs (maxSteps := 2000000) only [go_sem, ↓reduceIte, A12_L1b, hbm, Int.lt_irrefl]
 have lp := lp.trans stop
 simp only [Int.natCast_zero, Int.ofNat_zero, show inz 1 (hits c.b i3 i4 i5 c.zn) br 0 = [] from rfl, List.map_nil, List.append_nil] at lp
 exact lp
theorem ulx (V : List LV) (br : List Bool) (R : List (List LV)) (w0 w1 w2 w3 w4 w5 i0 i1 i2 i3 i4 i5 : Int) (hbl : br.length ≤ 16) (hl : R.length ≤ 900) (hs : ∀ r id, LV.subs r id V = V) :
  (K E A12_L0 ⟨[(3, .vs (br.map bb1)), (9, .bs 4096 0 (R).length), (15, .int .i64 0)], [], [(16128, .row 4 [[.int .i64 2, .int .i64 0, .int .i64 0, .int .i64 0]]), (4096, .row 4 (R)), (2048, .row 4 []), (1536, .box [.int .i64 i0, .int .i64 i1, .int .i64 i2, .int .i64 i3, .int .i64 i4, .int .i64 i5]), (1280, .box [.int .i64 w0, .int .i64 w1, .int .i64 w2, .int .i64 w3, .int .i64 w4, .int .i64 w5]), (1024, .box V)], 0⟩).bind (blockR 8 (some [9]) [15, 107]) = some (.ex .nrm ⟨[(9, .bs 4096 0 (R ++ (unlT br br.length).map v4).length)], [], [(16128, .row 4 [[.int .i64 2, .int .i64 0, .int .i64 0, .int .i64 0]]), (4096, .row 4 (R ++ (unlT br br.length).map v4)), (2048, .row 4 []), (1536, .box [.int .i64 i0, .int .i64 i1, .int .i64 i2, .int .i64 i3, .int .i64 i4, .int .i64 i5]), (1280, .box [.int .i64 w0, .int .i64 w1, .int .i64 w2, .int .i64 w3, .int .i64 w4, .int .i64 w5]), (1024, .box V)], 0⟩) := by
 have hbm : (br.map bb1).length = br.length := List.length_map ..
 have lp := loop_to (fun S => (K E A12_L0 S).bind (blockR 8 (some [9]) [15, 107])) (fun k => ⟨[(3, .vs (br.map bb1)), (9, .bs 4096 0 (R ++ (unlT br k).map v4).length), (15, .int .i64 k)], [], [(16128, .row 4 [[.int .i64 2, .int .i64 0, .int .i64 0, .int .i64 0]]), (4096, .row 4 (R ++ (unlT br k).map v4)), (2048, .row 4 []), (1536, .box [.int .i64 i0, .int .i64 i1, .int .i64 i2, .int .i64 i3, .int .i64 i4, .int .i64 i5]), (1280, .box [.int .i64 w0, .int .i64 w1, .int .i64 w2, .int .i64 w3, .int .i64 w4, .int .i64 w5]), (1024, .box V)], 0⟩) br.length (fun k hk => by
  have hbk : br[k]? = some (br.getD k false) := Go.Geo.getD_of false hk
  have gb : (br.map bb1)[k]? = some [.bool (br.getD k false)] := by rw [List.getElem?_map, hbk]; rfl
  have hlen := unlT_len br k
  have e : unlT br (k + 1) = unlT br k ++ if br.getD k false = true then [(4, 0, 0, (k : Int))] else [] := rfl
  rw [e, List.map_append, ← List.append_assoc]
  have hl2 : (R ++ (unlT br k).map v4).length ≤ 1000 := by rw [List.length_append, List.length_map]; omega
  generalize R ++ (unlT br k).map v4 = S at *
  have t0 := tk_all S
  have t1 := tk_one S
  have hb1 : S.length + 1 ≤ 1000000000 := by omega
  have k0 : (0 : Int) ≤ k := by omega
  have k1 : (k : Int) < br.length := by omega
  have hw := wr_succ (n := k) (by omega)
  cases hb : br.getD k false with
  | false =>
    rw [hb] at gb
    simp only [Bool.false_eq_true, if_false, List.map_nil, List.append_nil]
    show (K E A12_L0 _).bind _ = (K E A12_L0 _).bind _
    conv => lhs; rw [A12_L0_eq]
    simp +contextual -implicitDefEqProofs (maxSteps := 2000000) only [go_sem, ↓reduceIte, A12_L0b, hs, hbm, k0, k1, hw, gb, t0, hb1, Nat.le_refl]
  | true =>
    rw [hb] at gb
    simp only [if_true, List.map_cons, List.map_nil, v4, List.length_append, List.length_cons, List.length_nil, Nat.zero_add]
    show (K E A12_L0 _).bind _ = (K E A12_L0 _).bind _
    conv => lhs; rw [A12_L0_eq]
    simp +contextual -implicitDefEqProofs (maxSteps := 2000000) only [go_sem, ↓reduceIte, A12_L0b, hs, hbm, k0, k1, hw, gb, t0, t1, hb1, Nat.le_refl])
 have stop : (K E A12_L0 ⟨[(3, .vs (br.map bb1)), (9, .bs 4096 0 (R ++ (unlT br br.length).map v4).length), (15, .int .i64 br.length)], [], [(16128, .row 4 [[.int .i64 2, .int .i64 0, .int .i64 0, .int .i64 0]]), (4096, .row 4 (R ++ (unlT br br.length).map v4)), (2048, .row 4 []), (1536, .box [.int .i64 i0, .int .i64 i1, .int .i64 i2, .int .i64 i3, .int .i64 i4, .int .i64 i5]), (1280, .box [.int .i64 w0, .int .i64 w1, .int .i64 w2, .int .i64 w3, .int .i64 w4, .int .i64 w5]), (1024, .box V)], 0⟩).bind (blockR 8 (some [9]) [15, 107]) = some (.ex .nrm ⟨[(9, .bs 4096 0 (R ++ (unlT br br.length).map v4).length)], [], [(16128, .row 4 [[.int .i64 2, .int .i64 0, .int .i64 0, .int .i64 0]]), (4096, .row 4 (R ++ (unlT br br.length).map v4)), (2048, .row 4 []), (1536, .box [.int .i64 i0, .int .i64 i1, .int .i64 i2, .int .i64 i3, .int .i64 i4, .int .i64 i5]), (1280, .box [.int .i64 w0, .int .i64 w1, .int .i64 w2, .int .i64 w3, .int .i64 w4, .int .i64 w5]), (1024, .box V)], 0⟩) := by
  generalize R ++ (unlT br br.length).map v4 = S
  rw [A12_L0_eq]; simp +contextual -implicitDefEqProofs (maxSteps := 2000000) only [go_sem, ↓reduceIte, A12_L0b, hbm, Int.lt_irrefl]
 have lp := lp.trans stop
 simp only [Int.natCast_zero, Int.ofNat_zero, show unlT br 0 = [] from rfl, List.map_nil, List.append_nil] at lp
 exact lp
theorem c12 (c : Cl) (w0 w1 w2 w3 w4 w5 i0 i1 i2 i3 i4 i5 : Int) (br : List Bool) (f1 : Fit c w0 w1 w2 w3 w4 w5 br) (f : Fit c i0 i1 i2 i3 i4 i5 br) : pc E 12 [.agg (cec c.cel), pos w0 w1 w2 w3 w4 w5, pos i0 i1 i2 i3 i4 i5, .vs (br.map bb1)] = some (.os 4 ((vioB c w0 w1 w2 w3 w4 w5 i0 i1 i2 i3 i4 i5 br).map v4)) := by
 obtain ⟨b0, b1, b2, b3, b4, b5⟩ := f.b
 obtain ⟨d0, d1, d2, d3, d4, d5⟩ := f1.b
 have bl := f.bl
 have zl := f.zl
 have l := frw_len (mostI c br)
 have p0 := L3_0 c br [] w0 w1 w2 w3 w4 w5 i0 i1 i2 i3 i4 i5 (by omega) (by simp) b0 d0 b1 d1 b2 d2 b3 d3 b4 d4 b5 d5
 have g0 := l i0 w0 0 0
 have g1 := l i1 w1 0 1
 have g2 := l i2 w2 0 2
 have g3 := l i3 w3 1 0
 have g4 := l i4 w4 1 1
 have g5 := l i5 w5 1 2
 have p1 := L3_1 c br ([] ++ frw (mostI c br) i0 w0 0 0 ++ frw (mostI c br) i1 w1 0 1 ++ frw (mostI c br) i2 w2 0 2) w0 w1 w2 w3 w4 w5 i0 i1 i2 i3 i4 i5 (by omega) (by simp only [List.length_append, List.length_nil]; omega) b0 d0 b1 d1 b2 d2 b3 d3 b4 d4 b5 d5
 have hR : [] ++ frw (mostI c br) i0 w0 0 0 ++ frw (mostI c br) i1 w1 0 1 ++ frw (mostI c br) i2 w2 0 2 ++ frw (mostI c br) i3 w3 1 0 ++ frw (mostI c br) i4 w4 1 1 ++ frw (mostI c br) i5 w5 1 2 = (fastT (mostI c br) w0 w1 w2 w3 w4 w5 i0 i1 i2 i3 i4 i5).map v4 := by
  unfold fastT
  simp only [frw_T, List.map_append, List.nil_append]
 have hF := fastT_len (mostI c br) w0 w1 w2 w3 w4 w5 i0 i1 i2 i3 i4 i5
 have sm : ∀ {x : Int}, (-204 ≤ x ∧ x ≤ 216) → S9 x := fun h => ⟨by omega, by omega⟩
 have o9 := c9 c.cel f.ha f.hb i0 i1 i2 i3 i4 i5 (sm b0) (sm b1) (sm b2) (sm b3) (sm b4) (sm b5)
 have hv : (vioB c w0 w1 w2 w3 w4 w5 i0 i1 i2 i3 i4 i5 br).map v4 = (fastT (mostI c br) w0 w1 w2 w3 w4 w5 i0 i1 i2 i3 i4 i5).map v4 ++ (nearT (kdB c.a c.b i0 i1 i2 i3 i4 i5 c.gap)).map v4 ++ (inz 0 (hits c.a i0 i1 i2 c.zn) br br.length).map v4 ++ (inz 1 (hits c.b i3 i4 i5 c.zn) br br.length).map v4 ++ (unlT br br.length).map v4 := by
  unfold vioB vioT inT
  rw [bl]
  simp only [List.map_append, List.append_assoc]
 have hN : (nearT (kdB c.a c.b i0 i1 i2 i3 i4 i5 c.gap)).length ≤ 1 := by unfold nearT; split <;> simp
 have i1_ := inz_len 0 (hits c.a i0 i1 i2 c.zn) br br.length
 have i2_ := inz_len 1 (hits c.b i3 i4 i5 c.zn) br br.length
 have z0 := zl_0 c br ((fastT (mostI c br) w0 w1 w2 w3 w4 w5 i0 i1 i2 i3 i4 i5).map v4 ++ (nearT (kdB c.a c.b i0 i1 i2 i3 i4 i5 c.gap)).map v4) w0 w1 w2 w3 w4 w5 i0 i1 i2 i3 i4 i5 f.ha zl bl f.zv (by simp only [List.length_append, List.length_map]; omega) b0 d0 b1 d1 b2 d2 b3 d3 b4 d4 b5 d5
 have z1 := zl_1 c br ((fastT (mostI c br) w0 w1 w2 w3 w4 w5 i0 i1 i2 i3 i4 i5).map v4 ++ (nearT (kdB c.a c.b i0 i1 i2 i3 i4 i5 c.gap)).map v4 ++ (inz 0 (hits c.a i0 i1 i2 c.zn) br br.length).map v4) w0 w1 w2 w3 w4 w5 i0 i1 i2 i3 i4 i5 f.hb zl bl f.zv (by simp only [List.length_append, List.length_map]; omega) b0 d0 b1 d1 b2 d2 b3 d3 b4 d4 b5 d5
 have u := ul (cec c.cel) br ((fastT (mostI c br) w0 w1 w2 w3 w4 w5 i0 i1 i2 i3 i4 i5).map v4 ++ (nearT (kdB c.a c.b i0 i1 i2 i3 i4 i5 c.gap)).map v4 ++ (inz 0 (hits c.a i0 i1 i2 c.zn) br br.length).map v4 ++ (inz 1 (hits c.b i3 i4 i5 c.zn) br br.length).map v4) w0 w1 w2 w3 w4 w5 i0 i1 i2 i3 i4 i5 (by omega) (by simp only [List.length_append, List.length_map]; omega) (fun _ _ => rfl)
 rw [← hv] at u
 have hvl := vio_len c w0 w1 w2 w3 w4 w5 i0 i1 i2 i3 i4 i5 br f.zl f.bl
 have hvl2 : ((vioB c w0 w1 w2 w3 w4 w5 i0 i1 i2 i3 i4 i5 br).map v4).length ≤ 1000000000 := by rw [List.length_map]; omega
 have tv := tk_all ((vioB c w0 w1 w2 w3 w4 w5 i0 i1 i2 i3 i4 i5 br).map v4)
 rw [hR] at p1
 simp only [List.length_nil] at p0
 have hFl : ((fastT (mostI c br) w0 w1 w2 w3 w4 w5 i0 i1 i2 i3 i4 i5).map v4).length ≤ 6 := by rw [List.length_map]; omega
 have z0x := zl_0x c br ((fastT (mostI c br) w0 w1 w2 w3 w4 w5 i0 i1 i2 i3 i4 i5).map v4 ++ (nearT (kdB c.a c.b i0 i1 i2 i3 i4 i5 c.gap)).map v4) w0 w1 w2 w3 w4 w5 i0 i1 i2 i3 i4 i5 f.ha zl bl f.zv (by simp only [List.length_append, List.length_map]; omega) b0 d0 b1 d1 b2 d2 b3 d3 b4 d4 b5 d5
 have z1x := zl_1x c br ((fastT (mostI c br) w0 w1 w2 w3 w4 w5 i0 i1 i2 i3 i4 i5).map v4 ++ (nearT (kdB c.a c.b i0 i1 i2 i3 i4 i5 c.gap)).map v4 ++ (inz 0 (hits c.a i0 i1 i2 c.zn) br br.length).map v4) w0 w1 w2 w3 w4 w5 i0 i1 i2 i3 i4 i5 f.hb zl bl f.zv (by simp only [List.length_append, List.length_map]; omega) b0 d0 b1 d1 b2 d2 b3 d3 b4 d4 b5 d5
 have ux := ulx (cec c.cel) br ((fastT (mostI c br) w0 w1 w2 w3 w4 w5 i0 i1 i2 i3 i4 i5).map v4 ++ (nearT (kdB c.a c.b i0 i1 i2 i3 i4 i5 c.gap)).map v4 ++ (inz 0 (hits c.a i0 i1 i2 c.zn) br br.length).map v4 ++ (inz 1 (hits c.b i3 i4 i5 c.zn) br br.length).map v4) w0 w1 w2 w3 w4 w5 i0 i1 i2 i3 i4 i5 (by omega) (by simp only [List.length_append, List.length_map]; omega) (fun _ _ => rfl)
 rw [← hv] at ux
 generalize (vioB c w0 w1 w2 w3 w4 w5 i0 i1 i2 i3 i4 i5 br).map v4 = VV at *
 generalize (fastT (mostI c br) w0 w1 w2 w3 w4 w5 i0 i1 i2 i3 i4 i5).map v4 = FF at *
 generalize [] ++ frw (mostI c br) i0 w0 0 0 ++ frw (mostI c br) i1 w1 0 1 ++ frw (mostI c br) i2 w2 0 2 = F0 at *
 have hf2 : FF.length + 1 ≤ 1000000000 := by omega
 have tf := tk_all FF
 cases hk : kdB c.a c.b i0 i1 i2 i3 i4 i5 c.gap with
 | true =>
   rw [hk] at z0 z1 u
   have o9' : pc E 9 [.agg (cec c.cel), pos i0 i1 i2 i3 i4 i5] = some (.bool true) := o9.trans (by rw [show c.cel.a = c.a from rfl, show c.cel.b = c.b from rfl, show c.cel.gap = c.gap from rfl, hk])
   simp only [nearT, if_true, List.map_nil, List.append_nil] at z0 z1 u
   generalize FF ++ (inz 0 (hits c.a i0 i1 i2 c.zn) br br.length).map v4 = G0 at *
   generalize G0 ++ (inz 1 (hits c.b i3 i4 i5 c.zn) br br.length).map v4 = G1 at *
   unfold cec at p0 p1 z0 z1 u o9' ⊢
   rw [pc_eq]; simp +contextual -implicitDefEqProofs (maxSteps := 2000000) only [go_sem, ↓reduceIte, E_12, A12, A12_L4_eq, A12_L4b, p0, p1, o9', A12_L2_eq, A12_L2b, z0, z1, u, tv, hvl2, tf, List.length_nil, Nat.le_refl]
 | false =>
   rw [hk] at z0x z1x ux
   have o9' : pc E 9 [.agg (cec c.cel), pos i0 i1 i2 i3 i4 i5] = some (.bool false) := o9.trans (by rw [show c.cel.a = c.a from rfl, show c.cel.b = c.b from rfl, show c.cel.gap = c.gap from rfl, hk])
   have hnn : (nearT false).map v4 = [[.int .i64 2, .int .i64 0, .int .i64 0, .int .i64 0]] := rfl
   rw [hnn] at z0x z1x ux
   have t1 := tk_one FF
   have hln : (FF ++ [[LV.int .i64 2, .int .i64 0, .int .i64 0, .int .i64 0]]).length = FF.length + 1 := by simp
   rw [hln] at z0x
   generalize FF ++ [[.int .i64 2, .int .i64 0, .int .i64 0, .int .i64 0]] ++ (inz 0 (hits c.a i0 i1 i2 c.zn) br br.length).map v4 = G0 at *
   generalize G0 ++ (inz 1 (hits c.b i3 i4 i5 c.zn) br br.length).map v4 = G1 at *
   unfold cec at p0 p1 z0x z1x ux o9' ⊢
   rw [pc_eq]; simp +contextual -implicitDefEqProofs (maxSteps := 2000000) only [go_sem, ↓reduceIte, E_12, A12, A12_L4_eq, A12_L4b, p0, p1, o9', A12_L2_eq, A12_L2b, z0x, z1x, ux, tv, hvl2, tf, t1, hf2, List.length_nil, Nat.le_refl]
end Go.Proofs.YtnecdcaaknhgpaaGreat

namespace Go.Proofs.YtnecdcaaknhgpaaGreat
open Go Go.Zv
theorem t205 (n : Int) : -205 < n.tmod 205 ∧ n.tmod 205 < 205 :=
 ⟨Int.lt_tmod_of_pos n (by decide), Int.tmod_lt_of_pos n (by decide)⟩
theorem law3 (c : Cl) (w0 w1 w2 w3 w4 w5 i0 i1 i2 i3 i4 i5 : Int) (br : List Bool) (x0 x1 x2 : Int) (h0 : -32768 ≤ x0 ∧ x0 ≤ 32767) (h1 : -32768 ≤ x1 ∧ x1 ≤ 32767) (h2 : -32768 ≤ x2 ∧ x2 ≤ 32767) :
  pc E 3 [.agg (cec c.cel), pos w0 w1 w2 w3 w4 w5, pos i0 i1 i2 i3 i4 i5, .vs (br.map bb1), .agg [.int .i16 x0, .int .i16 x1, .int .i16 x2]] = some (.bool true) := by
 have a0 : IntKind.i64.wrap x0 = x0 := wrap_small (by omega) (by omega)
 have a1 : IntKind.i64.wrap x1 = x1 := wrap_small (by omega) (by omega)
 have a2 : IntKind.i64.wrap x2 = x2 := wrap_small (by omega) (by omega)
 have t0 := t205 x0
 have t1 := t205 x1
 have t2 := t205 x2
 generalize ht0 : x0.tmod 205 = p0 at *
 generalize ht1 : x1.tmod 205 = p1 at *
 generalize ht2 : x2.tmod 205 = p2 at *
 have b0 : IntKind.i64.wrap (p0 + 6) = p0 + 6 := wrap_small (by omega) (by omega)
 have b1 : IntKind.i64.wrap (p1 + 6) = p1 + 6 := wrap_small (by omega) (by omega)
 have b2 : IntKind.i64.wrap (p2 + 6) = p2 + 6 := wrap_small (by omega) (by omega)
 have e5 := c5 (p0 + 6) (p1 + 6) (p2 + 6) (by omega) (by omega) (by omega)
 have e6 := c6 (p0 + 6) (p1 + 6) (p2 + 6) (by omega) (by omega) (by omega)
 have hd := c4
 have o1 := c7 c w0 w1 w2 w3 w4 w5 br
 have o2 := c7 c i0 i1 i2 i3 i4 i5 br
 cases hf1 : fitB c w0 w1 w2 w3 w4 w5 br with
 | false =>
   rw [hf1] at o1
   unfold cec at o1 ⊢
   rw [pc_eq]; simp +contextual -implicitDefEqProofs (maxSteps := 2000000) only [go_sem, ↓reduceIte, E_3, A3, hd, a0, a1, a2, ht0, ht1, ht2, b0, b1, b2, e5, e6, o1, bne_self_eq_false, beq_self_eq_true]
 | true =>
 cases hf2 : fitB c i0 i1 i2 i3 i4 i5 br with
 | false =>
   rw [hf1] at o1
   rw [hf2] at o2
   unfold cec at o1 o2 ⊢
   rw [pc_eq]; simp +contextual -implicitDefEqProofs (maxSteps := 2000000) only [go_sem, ↓reduceIte, E_3, A3, hd, a0, a1, a2, ht0, ht1, ht2, b0, b1, b2, e5, e6, o1, o2, bne_self_eq_false, beq_self_eq_true]
 | true =>
 have f1 := fit_of hf1
 have f := fit_of hf2
 rw [hf1] at o1
 rw [hf2] at o2
 obtain ⟨g0, g1, g2, g3, g4, g5⟩ := f.b
 have sm : ∀ {x : Int}, (-204 ≤ x ∧ x ≤ 216) → S9 x := fun h => ⟨by omega, by omega⟩
 have o8 := c8 c.cel f.ha f.hb i0 i1 i2 i3 i4 i5 (Sm_of g0) (Sm_of g1) (Sm_of g2) (Sm_of g3) (Sm_of g4) (Sm_of g5)
 have o9 := c9 c.cel f.ha f.hb i0 i1 i2 i3 i4 i5 (sm g0) (sm g1) (sm g2) (sm g3) (sm g4) (sm g5)
 have o11 := c11f f w0 w1 w2 w3 w4 w5
 have o12 := c12 c w0 w1 w2 w3 w4 w5 i0 i1 i2 i3 i4 i5 br f1 f
 have hl := vio_len c w0 w1 w2 w3 w4 w5 i0 i1 i2 i3 i4 i5 br f.zl f.bl
 have o10 := c10 (vioB c w0 w1 w2 w3 w4 w5 i0 i1 i2 i3 i4 i5 br) (vioB c w0 w1 w2 w3 w4 w5 i0 i1 i2 i3 i4 i5 br) (by omega) (by omega)
 rw [decide_eq_true rfl] at o10
 have q1 := v4_all (vioB c w0 w1 w2 w3 w4 w5 i0 i1 i2 i3 i4 i5 br)
 have q2 := v4_scal (vioB c w0 w1 w2 w3 w4 w5 i0 i1 i2 i3 i4 i5 br)
 generalize kdB c.cel.a c.cel.b i0 i1 i2 i3 i4 i5 c.cel.gap = kd at *
 generalize (vioB c w0 w1 w2 w3 w4 w5 i0 i1 i2 i3 i4 i5 br).map v4 = R at *
 unfold cec at o1 o2 o8 o9 o11 o12 ⊢
 cases kd <;> rw [pc_eq] <;> simp +contextual -implicitDefEqProofs (maxSteps := 2000000) only [go_sem, ↓reduceIte, E_3, A3, hd, a0, a1, a2, ht0, ht1, ht2, b0, b1, b2, e5, e6, o1, o2, o8, o9, o10, o11, o12, q1, q2, bne_self_eq_false, beq_self_eq_true]
end Go.Proofs.YtnecdcaaknhgpaaGreat
