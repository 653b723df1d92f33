/- Part of the proof: the evaluation of the program's code and its tie to the machine, or what functions of the program compute over it. -/
import Derived.Test.YtnecdcaaknhgpaaPart2
set_option maxRecDepth 100000
set_option maxHeartbeats 4000000
set_option linter.unusedSimpArgs false
set_option linter.unusedVariables false
namespace Go.Proofs.Ytnecdcaaknhgpaa
open Go Go.Zv
open Go.Geo (polB plcB prtB unlB bouB)
def C73a : ACode := .reg none [
 ⟨some 1, .box (.t 0), none, true⟩,
 ⟨some 2, .as (.c (.bool false)), none, true⟩] (some [1]) []
def C73b : ACode := .seq (
.reg none [
 ⟨some 3, .as (.c (.int .i64 0)), none, true⟩] (some [1, 3]) []) (
(.block 0 (
A73_L0) (some [1]) [2, 3, 4, 5, 16, 24]))
def C73c : ACode := .seq (
.reg none [
 ⟨some 66, .fad 31 (.t 1), none, true⟩,
 ⟨some 67, .load false 1 (.t 66), none, true⟩,
 ⟨some 68, .len 0 (.t 67), none, true⟩,
 ⟨some 69, .bin .gtr (.t 68) (.c (.int .i64 16)), none, true⟩,
 ⟨some 70, .mv (.t 69), none, true⟩,
 ⟨some 71, .fad 32 (.t 1), some (70, false), true⟩,
 ⟨some 72, .load false 1 (.t 71), some (70, false), true⟩,
 ⟨some 73, .len 0 (.t 72), some (70, false), true⟩,
 ⟨some 74, .bin .gtr (.t 73) (.c (.int .i64 8)), some (70, false), true⟩,
 ⟨some 75, .pick (.t 70) (.c (.bool true)) (.t 74), none, true⟩,
 ⟨some 76, .mv (.t 75), none, true⟩,
 ⟨some 77, .fad 33 (.t 1), some (76, false), true⟩,
 ⟨some 78, .load false 1 (.t 77), some (76, false), true⟩,
 ⟨some 79, .len 0 (.t 78), some (76, false), true⟩,
 ⟨some 80, .bin .gtr (.t 79) (.c (.int .i64 16)), some (76, false), true⟩,
 ⟨some 81, .pick (.t 76) (.c (.bool true)) (.t 80), none, true⟩] (some [1, 81]) []) (
(.cond (.t 81) (
 (.seq (
 .reg none [
  ⟨some 2, .as (.c (.bool false)), none, true⟩] (some [2]) []) (
 .ret))) (
 .skip)))
def C73l : ACode := .reg none [
 ⟨some 82, .fad 35 (.t 1), none, true⟩,
 ⟨some 83, .load true 3 (.t 82), none, true⟩,
 ⟨some 84, .call 99 [.t 83], none, true⟩,
 ⟨some 85, .mv (.t 84), none, true⟩,
 ⟨some 86, .fad 38 (.t 1), some (85, true), true⟩,
 ⟨some 87, .load true 3 (.t 86), some (85, true), true⟩,
 ⟨some 88, .call 99 [.t 87], some (85, true), true⟩,
 ⟨some 89, .pick (.t 85) (.t 88) (.c (.bool false)), none, true⟩,
 ⟨some 90, .mv (.t 89), none, true⟩,
 ⟨some 91, .fad 38 (.t 1), some (90, true), true⟩,
 ⟨some 92, .fad 0 (.t 91), some (90, true), true⟩,
 ⟨some 93, .load false 1 (.t 92), some (90, true), true⟩,
 ⟨some 94, .fad 35 (.t 1), some (90, true), true⟩,
 ⟨some 95, .fad 0 (.t 94), some (90, true), true⟩,
 ⟨some 96, .load false 1 (.t 95), some (90, true), true⟩,
 ⟨some 97, .bin .leq (.t 93) (.t 96), some (90, true), true⟩,
 ⟨some 98, .pick (.t 90) (.t 97) (.c (.bool false)), none, true⟩,
 ⟨some 99, .mv (.t 98), none, true⟩,
 ⟨some 100, .fad 38 (.t 1), some (99, true), true⟩,
 ⟨some 101, .fad 1 (.t 100), some (99, true), true⟩,
 ⟨some 102, .load false 1 (.t 101), some (99, true), true⟩,
 ⟨some 103, .fad 35 (.t 1), some (99, true), true⟩,
 ⟨some 104, .fad 1 (.t 103), some (99, true), true⟩,
 ⟨some 105, .load false 1 (.t 104), some (99, true), true⟩,
 ⟨some 106, .bin .leq (.t 102) (.t 105), some (99, true), true⟩,
 ⟨some 107, .pick (.t 99) (.t 106) (.c (.bool false)), none, true⟩,
 ⟨some 108, .mv (.t 107), none, true⟩,
 ⟨some 109, .fad 38 (.t 1), some (108, true), true⟩,
 ⟨some 110, .fad 2 (.t 109), some (108, true), true⟩,
 ⟨some 111, .load false 1 (.t 110), some (108, true), true⟩,
 ⟨some 112, .fad 35 (.t 1), some (108, true), true⟩,
 ⟨some 113, .fad 2 (.t 112), some (108, true), true⟩,
 ⟨some 114, .load false 1 (.t 113), some (108, true), true⟩,
 ⟨some 115, .bin .leq (.t 111) (.t 114), some (108, true), true⟩,
 ⟨some 116, .pick (.t 108) (.t 115) (.c (.bool false)), none, true⟩,
 ⟨some 6, .as (.t 116), none, true⟩] (some [1, 6]) []
def C73t : ACode := .seq (.reg none [
 ⟨some 117, .fad 30 (.t 1), none, true⟩,
 ⟨some 118, .load false 1 (.t 117), none, true⟩,
 ⟨some 119, .call 100 [.t 118], none, true⟩,
 ⟨some 120, .mv (.t 119), none, true⟩,
 ⟨some 121, .load true 44 (.t 1), some (120, true), true⟩,
 ⟨some 122, .call 101 [.t 121], some (120, true), true⟩,
 ⟨some 123, .call 100 [.t 122], some (120, true), true⟩,
 ⟨some 124, .pick (.t 120) (.t 123) (.c (.bool false)), none, true⟩,
 ⟨some 125, .mv (.t 124), none, true⟩,
 ⟨some 126, .fad 31 (.t 1), some (125, true), true⟩,
 ⟨some 127, .load false 1 (.t 126), some (125, true), true⟩,
 ⟨some 128, .call 102 [.t 127], some (125, true), true⟩,
 ⟨some 129, .pick (.t 125) (.t 128) (.c (.bool false)), none, true⟩,
 ⟨some 130, .mv (.t 129), none, true⟩,
 ⟨some 131, .fad 32 (.t 1), some (130, true), true⟩,
 ⟨some 132, .load false 1 (.t 131), some (130, true), true⟩,
 ⟨some 133, .fad 31 (.t 1), some (130, true), true⟩,
 ⟨some 134, .load false 1 (.t 133), some (130, true), true⟩,
 ⟨some 135, .len 0 (.t 134), some (130, true), true⟩,
 ⟨some 136, .call 103 [.t 132, .t 135], some (130, true), true⟩,
 ⟨some 137, .pick (.t 130) (.t 136) (.c (.bool false)), none, true⟩,
 ⟨some 138, .mv (.t 137), none, true⟩,
 ⟨some 139, .fad 33 (.t 1), some (138, true), true⟩,
 ⟨some 140, .load false 1 (.t 139), some (138, true), true⟩,
 ⟨some 141, .fad 31 (.t 1), some (138, true), true⟩,
 ⟨some 142, .load false 1 (.t 141), some (138, true), true⟩,
 ⟨some 143, .len 0 (.t 142), some (138, true), true⟩,
 ⟨some 144, .call 104 [.t 140, .t 143], some (138, true), true⟩,
 ⟨some 145, .pick (.t 138) (.t 144) (.c (.bool false)), none, true⟩,
 ⟨some 146, .mv (.t 145), none, true⟩,
 ⟨some 147, .fad 34 (.t 1), some (146, true), true⟩,
 ⟨some 148, .load false 1 (.t 147), some (146, true), true⟩,
 ⟨some 149, .bin .geq (.t 148) (.c (.int .i64 0)), some (146, true), true⟩,
 ⟨some 150, .pick (.t 146) (.t 149) (.c (.bool false)), none, true⟩,
 ⟨some 151, .mv (.t 150), none, true⟩,
 ⟨some 152, .fad 34 (.t 1), some (151, true), true⟩,
 ⟨some 153, .load false 1 (.t 152), some (151, true), true⟩,
 ⟨some 154, .bin .leq (.t 153) (.c (.int .i64 100)), some (151, true), true⟩,
 ⟨some 155, .pick (.t 151) (.t 154) (.c (.bool false)), none, true⟩,
 ⟨some 156, .mv (.t 155), none, true⟩,
 ⟨some 157, .mv (.t 6), some (156, true), true⟩,
 ⟨some 158, .pick (.t 156) (.t 157) (.c (.bool false)), none, true⟩,
 ⟨some 159, .mv (.t 158), none, true⟩,
 ⟨some 160, .fad 42 (.t 1), some (159, true), true⟩,
 ⟨some 161, .load false 1 (.t 160), some (159, true), true⟩,
 ⟨some 162, .bin .geq (.t 161) (.c (.int .i64 0)), some (159, true), true⟩,
 ⟨some 163, .pick (.t 159) (.t 162) (.c (.bool false)), none, true⟩,
 ⟨some 164, .mv (.t 163), none, true⟩,
 ⟨some 165, .fad 42 (.t 1), some (164, true), true⟩,
 ⟨some 166, .load false 1 (.t 165), some (164, true), true⟩,
 ⟨some 167, .bin .leq (.t 166) (.c (.int .i64 20)), some (164, true), true⟩,
 ⟨some 168, .pick (.t 164) (.t 167) (.c (.bool false)), none, true⟩,
 ⟨some 169, .mv (.t 168), none, true⟩,
 ⟨some 170, .fad 43 (.t 1), some (169, true), true⟩,
 ⟨some 171, .load false 1 (.t 170), some (169, true), true⟩,
 ⟨some 172, .bin .geq (.t 171) (.c (.int .i64 1)), some (169, true), true⟩,
 ⟨some 173, .pick (.t 169) (.t 172) (.c (.bool false)), none, true⟩,
 ⟨some 174, .mv (.t 173), none, true⟩,
 ⟨some 175, .fad 43 (.t 1), some (174, true), true⟩,
 ⟨some 176, .load false 1 (.t 175), some (174, true), true⟩,
 ⟨some 177, .bin .leq (.t 176) (.c (.int .i64 8)), some (174, true), true⟩,
 ⟨some 178, .pick (.t 174) (.t 177) (.c (.bool false)), none, true⟩,
 ⟨some 2, .as (.t 178), none, true⟩] (some [2]) [1]) .ret
theorem A73_s : A73 = .code [.t 2] (.seq C73a (.seq C73b (.seq C73c (.seq C73l C73t)))) := rfl
def rchX (a : Arm) (x : Int) : Int := 8 * mxI x (-x) + 39546000 * (a.l0 + a.l1 + a.l2 + 15)
structure RW (a : Arm) (x : Int) : Prop where
 w1 : IntKind.i64.wrap (a.l0 + a.l1) = a.l0 + a.l1
 w2 : IntKind.i64.wrap (a.l0 + a.l1 + a.l2) = a.l0 + a.l1 + a.l2
 w3 : IntKind.i64.wrap (a.l0 + a.l1 + a.l2 + 15) = a.l0 + a.l1 + a.l2 + 15
 w4 : IntKind.i64.wrap (39546000 * (a.l0 + a.l1 + a.l2 + 15)) = 39546000 * (a.l0 + a.l1 + a.l2 + 15)
 w5 : IntKind.i64.wrap (0 - x) = -x
 w6 : IntKind.i64.wrap (8 * mxI x (-x)) = 8 * mxI x (-x)
 w7 : IntKind.i64.wrap (8 * mxI x (-x) + 39546000 * (a.l0 + a.l1 + a.l2 + 15)) = rchX a x
theorem rw_ok {a : Arm} (h : OKa a) {x : Int} (hx : -439400000 ≤ x ∧ x ≤ 439400000) : RW a x := by
 have h0 := h.l0
 have h1 := h.l1
 have h2 := h.l2
 have hm : -439400000 ≤ mxI x (-x) ∧ mxI x (-x) ≤ 439400000 := by unfold mxI; split <;> omega
 refine ⟨wrap_small (by omega) (by omega), wrap_small (by omega) (by omega), wrap_small (by omega) (by omega), wrap_small (by omega) (by omega), ?_, wrap_small (by omega) (by omega), ?_⟩
 ·rw [wrap_small (by omega) (by omega)]; omega
 unfold rchX
 exact wrap_small (by omega) (by omega)
theorem bx_bd {a : Arm} (h : OKa a) : (-439400000 ≤ a.bx ∧ a.bx ≤ 439400000) ∧ (-439400000 ≤ a.by_ ∧ a.by_ ≤ 439400000) := by
 have h0 := h.l0
 have h1 := h.l1
 have h2 := h.l2
 have h3 := h.w
 have h4 := h.bx
 have h5 := h.by_
 omega
noncomputable def armOK (a : Arm) (q0 q1 q2 : Int) : Bool := okB a && (limB a q0 q1 q2 && (!decide (3515200000 < rchX a a.bx) && !decide (3515200000 < rchX a a.by_)))
def limsB (c : Cl) : Bool := bouB c.lv c.la c.lj && (bouB c.mv c.ma c.mj && (decide (c.mv ≤ c.lv) && (decide (c.ma ≤ c.la) && decide (c.mj ≤ c.lj))))
def restB (c : Cl) : Bool := polB c.fx && (polB c.zn && (plcB c.pl && (prtB c.pt c.pl.length && (unlB c.bt c.pl.length && (decide (0 ≤ c.per) && (decide (c.per ≤ 100) && (limsB c && (decide (0 ≤ c.gap) && (decide (c.gap ≤ 20) && (decide (1 ≤ c.slow) && decide (c.slow ≤ 8)))))))))))
noncomputable def rightB (c : Cl) : Bool := armOK c.a c.h0 c.h1 c.h2 && (armOK c.b c.h3 c.h4 c.h5 && (decide ((c.pl.length : Int) ≤ 16) && (decide ((c.pt.length : Int) ≤ 8) && (decide ((c.bt.length : Int) ≤ 16) && restB c))))
end Go.Proofs.Ytnecdcaaknhgpaa

namespace Go.Proofs.Ytnecdcaaknhgpaa
open Go Go.Zv
open Go.Geo (polB plcB prtB unlB bouB)
theorem lims73 (c : Cl) : K E C73l ⟨[(1, .ptr 256 0), (81, .bool false)], [], [(256, .box (cec c.cel))], 0⟩ = some (.ex .nrm ⟨[(1, .ptr 256 0), (6, .bool (limsB c))], [], [(256, .box (cec c.cel))], 0⟩) := by
 have q1 := G.c99 c.lv c.la c.lj
 have q2 := G.c99 c.mv c.ma c.mj
 unfold limsB cec
 generalize bouB c.lv c.la c.lj = u1 at *
 generalize bouB c.mv c.ma c.mj = u2 at *
 cases u1
 ·simp +contextual -implicitDefEqProofs (maxSteps := 2000000) only [go_sem, ↓reduceIte, C73l, q1, Bool.false_and]
 cases u2
 ·simp +contextual -implicitDefEqProofs (maxSteps := 2000000) only [go_sem, ↓reduceIte, C73l, q1, q2, Bool.false_and, Bool.and_false]
 by_cases m3 : c.mv ≤ c.lv
 ·by_cases m4 : c.ma ≤ c.la
  ·by_cases m5 : c.mj ≤ c.lj <;> simp +contextual -implicitDefEqProofs (maxSteps := 2000000) only [go_sem, ↓reduceIte, C73l, q1, q2, m3, m4, m5, decide_true, decide_false]
  ·simp +contextual -implicitDefEqProofs (maxSteps := 2000000) only [go_sem, ↓reduceIte, C73l, q1, q2, m3, m4, decide_true, decide_false]
 ·simp +contextual -implicitDefEqProofs (maxSteps := 2000000) only [go_sem, ↓reduceIte, C73l, q1, q2, m3, decide_true, decide_false]
end Go.Proofs.Ytnecdcaaknhgpaa

namespace Go.Proofs.Ytnecdcaaknhgpaa
open Go Go.Zv
open Go.Geo (polB plcB prtB unlB bouB)
def XT (c : Cl) : Heap := if polB c.fx = true then [(31232, .row 1 (c.zn.map Go.Geo.p1))] else []
theorem tail73 (c : Cl) (hz : c.zn.length ≤ 1000) (hp : c.pl.length ≤ 16) (ht : c.pt.length ≤ 8) (hb : c.bt.length ≤ 16) : K E C73t ⟨[(1, .ptr 256 0), (6, .bool (limsB c))], [], [(256, .box (cec c.cel))], 0⟩ = some (.ex .ret ⟨[(2, .bool (restB c))], [], XT c, 0⟩) := by
 have q3 := G.c100 c.fx
 have q4 := G.c100 c.zn
 have q5 := c101 c hz
 have q6 := G.c102 c.pl (by omega)
 have q7 := G.c103 c.pt (by omega) c.pl.length
 have q8 := G.c104 c.bt c.pl.length (by omega)
 have z1 : (c.zn.map Go.Geo.p1).length = c.zn.length := List.length_map ..
 have z2 : (c.zn.map Go.Geo.p1).take c.zn.length = c.zn.map Go.Geo.p1 := List.take_of_length_le (by simp)
 have z3 : c.zn.length ≤ c.zn.length := Nat.le_refl _
 have y1 : (c.pl.map Go.Geo.plv).length = c.pl.length := List.length_map ..
 unfold restB XT
 generalize polB c.fx = u3 at *
 generalize polB c.zn = u4 at *
 generalize plcB c.pl = u5 at *
 generalize prtB c.pt c.pl.length = u6 at *
 generalize unlB c.bt c.pl.length = u7 at *
 generalize limsB c = lm at *
 unfold cec at q5 ⊢
 simp only [Cl.cel] at q5 ⊢
 generalize c.fx.map Go.Geo.p1 = r1 at *
 generalize c.pl.map Go.Geo.plv = r2 at *
 generalize c.pt.map Go.Geo.prv = r3 at *
 generalize c.bt.map Go.Geo.c1 = r4 at *
 generalize c.zn.map Go.Geo.p1 = r5 at *
 cases u3
 ·simp +contextual -implicitDefEqProofs (maxSteps := 2000000) only [go_sem, ↓reduceIte, C73t, q3, q4, q5, q6, q7, q8, z1, z2, z3, y1, Bool.false_and, Bool.and_false, Bool.true_and, Bool.and_true, decide_true, decide_false, Bool.false_eq_true]
 cases u4
 ·simp +contextual -implicitDefEqProofs (maxSteps := 2000000) only [go_sem, ↓reduceIte, C73t, q3, q4, q5, q6, q7, q8, z1, z2, z3, y1, Bool.false_and, Bool.and_false, Bool.true_and, Bool.and_true, decide_true, decide_false, Bool.false_eq_true]
 cases u5
 ·simp +contextual -implicitDefEqProofs (maxSteps := 2000000) only [go_sem, ↓reduceIte, C73t, q3, q4, q5, q6, q7, q8, z1, z2, z3, y1, Bool.false_and, Bool.and_false, Bool.true_and, Bool.and_true, decide_true, decide_false, Bool.false_eq_true]
 cases u6
 ·simp +contextual -implicitDefEqProofs (maxSteps := 2000000) only [go_sem, ↓reduceIte, C73t, q3, q4, q5, q6, q7, q8, z1, z2, z3, y1, Bool.false_and, Bool.and_false, Bool.true_and, Bool.and_true, decide_true, decide_false, Bool.false_eq_true]
 cases u7
 ·simp +contextual -implicitDefEqProofs (maxSteps := 2000000) only [go_sem, ↓reduceIte, C73t, q3, q4, q5, q6, q7, q8, z1, z2, z3, y1, Bool.false_and, Bool.and_false, Bool.true_and, Bool.and_true, decide_true, decide_false, Bool.false_eq_true]
 by_cases e1 : 0 ≤ c.per
 rotate_left
 ·simp +contextual -implicitDefEqProofs (maxSteps := 2000000) only [go_sem, ↓reduceIte, C73t, q3, q4, q5, q6, q7, q8, z1, z2, z3, y1, e1, Bool.false_and, Bool.and_false, Bool.true_and, Bool.and_true, decide_true, decide_false, Bool.false_eq_true]
 by_cases e2 : c.per ≤ 100
 rotate_left
 ·simp +contextual -implicitDefEqProofs (maxSteps := 2000000) only [go_sem, ↓reduceIte, C73t, q3, q4, q5, q6, q7, q8, z1, z2, z3, y1, e1, e2, Bool.false_and, Bool.and_false, Bool.true_and, Bool.and_true, decide_true, decide_false, Bool.false_eq_true]
 cases lm
 ·simp +contextual -implicitDefEqProofs (maxSteps := 2000000) only [go_sem, ↓reduceIte, C73t, q3, q4, q5, q6, q7, q8, z1, z2, z3, y1, e1, e2, Bool.false_and, Bool.and_false, Bool.true_and, Bool.and_true, decide_true, decide_false, Bool.false_eq_true]
 by_cases e3 : 0 ≤ c.gap
 rotate_left
 ·simp +contextual -implicitDefEqProofs (maxSteps := 2000000) only [go_sem, ↓reduceIte, C73t, q3, q4, q5, q6, q7, q8, z1, z2, z3, y1, e1, e2, e3, Bool.false_and, Bool.and_false, Bool.true_and, Bool.and_true, decide_true, decide_false, Bool.false_eq_true]
 by_cases e4 : c.gap ≤ 20
 rotate_left
 ·simp +contextual -implicitDefEqProofs (maxSteps := 2000000) only [go_sem, ↓reduceIte, C73t, q3, q4, q5, q6, q7, q8, z1, z2, z3, y1, e1, e2, e3, e4, Bool.false_and, Bool.and_false, Bool.true_and, Bool.and_true, decide_true, decide_false, Bool.false_eq_true]
 by_cases e5 : 1 ≤ c.slow
 rotate_left
 ·simp +contextual -implicitDefEqProofs (maxSteps := 2000000) only [go_sem, ↓reduceIte, C73t, q3, q4, q5, q6, q7, q8, z1, z2, z3, y1, e1, e2, e3, e4, e5, Bool.false_and, Bool.and_false, Bool.true_and, Bool.and_true, decide_true, decide_false, Bool.false_eq_true]
 by_cases e9 : c.slow ≤ 8
 ·simp +contextual -implicitDefEqProofs (maxSteps := 2000000) only [go_sem, ↓reduceIte, C73t, q3, q4, q5, q6, q7, q8, z1, z2, z3, y1, e1, e2, e3, e4, e5, e9, Bool.false_and, Bool.and_false, Bool.true_and, Bool.and_true, decide_true, decide_false, Bool.false_eq_true]
 ·simp +contextual -implicitDefEqProofs (maxSteps := 2000000) only [go_sem, ↓reduceIte, C73t, q3, q4, q5, q6, q7, q8, z1, z2, z3, y1, e1, e2, e3, e4, e5, e9, Bool.false_and, Bool.and_false, Bool.true_and, Bool.and_true, decide_true, decide_false, Bool.false_eq_true]
end Go.Proofs.Ytnecdcaaknhgpaa

namespace Go.Proofs.Ytnecdcaaknhgpaa
open Go Go.Zv
open Go.Geo (polB plcB prtB unlB bouB)
theorem loop73 (c : Cl) : (armOK c.a c.h0 c.h1 c.h2 && armOK c.b c.h3 c.h4 c.h5) = true ∧ K E C73b ⟨[(1, .ptr 256 0)], [], [(256, .box (cec c.cel))], 0⟩ = some (.ex .nrm ⟨[(1, .ptr 256 0)], [], [(256, .box (cec c.cel))], 0⟩) ∨
  (armOK c.a c.h0 c.h1 c.h2 && armOK c.b c.h3 c.h4 c.h5) = false ∧ ∃ X, K E C73b ⟨[(1, .ptr 256 0)], [], [(256, .box (cec c.cel))], 0⟩ = some (.ex .ret ⟨[(2, .bool false)], [], X, 0⟩) := by
 have o16a := c16 c.a
 have o18a := c18 c.a c.h0 c.h1 c.h2
 by_cases oka : OKa c.a
 rotate_left
 ·rw [okF oka] at o16a
  refine .inr ⟨by unfold armOK; simp [okF oka], [(1024, .box (avc c.a)), (256, .box (cec c.cel))], ?_⟩
  unfold cec
  simp +contextual -implicitDefEqProofs (maxSteps := 2000000) only [go_sem, ↓reduceIte, C73b, A73_L0_eq, A73_L0b, o16a]
 rw [okT oka] at o16a
 cases hla : limB c.a c.h0 c.h1 c.h2 <;> rw [hla] at o18a
 ·refine .inr ⟨by unfold armOK; simp [okT oka, hla], [(1024, .box (avc c.a)), (256, .box (cec c.cel))], ?_⟩
  unfold cec
  simp +contextual -implicitDefEqProofs (maxSteps := 2000000) only [go_sem, ↓reduceIte, C73b, A73_L0_eq, A73_L0b, o16a, o18a]
 obtain ⟨a1, a2, a3, a4, a5, a6, a7⟩ := rw_ok oka (bx_bd oka).1
 obtain ⟨_, _, _, _, a15, a16, a17⟩ := rw_ok oka (bx_bd oka).2
 by_cases r1a : 3515200000 < rchX c.a c.a.bx
 ·refine .inr ⟨by unfold armOK; simp [okT oka, hla, r1a], [(256, .box (cec c.cel))], ?_⟩
  unfold cec
  simp +contextual -implicitDefEqProofs (maxSteps := 2000000) only [go_sem, ↓reduceIte, C73b, A73_L0_eq, A73_L0b, o16a, o18a, a1, a2, a3, a4, a5, a6, a7, r1a]
 by_cases r2a : 3515200000 < rchX c.a c.a.by_
 ·refine .inr ⟨by unfold armOK; simp [okT oka, hla, r1a, r2a], [(256, .box (cec c.cel))], ?_⟩
  unfold cec
  simp +contextual -implicitDefEqProofs (maxSteps := 2000000) only [go_sem, ↓reduceIte, C73b, A73_L0_eq, A73_L0b, o16a, o18a, a1, a2, a3, a4, a5, a6, a7, r1a, a15, a16, a17, r2a]
 have o16b := c16 c.b
 have o18b := c18 c.b c.h3 c.h4 c.h5
 by_cases okb : OKa c.b
 rotate_left
 ·rw [okF okb] at o16b
  refine .inr ⟨by unfold armOK; simp [okT oka, hla, r1a, r2a, okF okb], [(1024, .box (avc c.b)), (256, .box (cec c.cel))], ?_⟩
  unfold cec
  simp +contextual -implicitDefEqProofs (maxSteps := 2000000) only [go_sem, ↓reduceIte, C73b, A73_L0_eq, A73_L0b, o16a, o18a, a1, a2, a3, a4, a5, a6, a7, r1a, a15, a16, a17, r2a, o16b]
 rw [okT okb] at o16b
 cases hlb : limB c.b c.h3 c.h4 c.h5 <;> rw [hlb] at o18b
 ·refine .inr ⟨by unfold armOK; simp [okT oka, hla, r1a, r2a, okT okb, hlb], [(1024, .box (avc c.b)), (256, .box (cec c.cel))], ?_⟩
  unfold cec
  simp +contextual -implicitDefEqProofs (maxSteps := 2000000) only [go_sem, ↓reduceIte, C73b, A73_L0_eq, A73_L0b, o16a, o18a, a1, a2, a3, a4, a5, a6, a7, r1a, a15, a16, a17, r2a, o16b, o18b]
 obtain ⟨b1, b2, b3, b4, b5, b6, b7⟩ := rw_ok okb (bx_bd okb).1
 obtain ⟨_, _, _, _, b15, b16, b17⟩ := rw_ok okb (bx_bd okb).2
 by_cases r1b : 3515200000 < rchX c.b c.b.bx
 ·refine .inr ⟨by unfold armOK; simp [okT oka, hla, r1a, r2a, okT okb, hlb, r1b], [(256, .box (cec c.cel))], ?_⟩
  unfold cec
  simp +contextual -implicitDefEqProofs (maxSteps := 2000000) only [go_sem, ↓reduceIte, C73b, A73_L0_eq, A73_L0b, o16a, o18a, a1, a2, a3, a4, a5, a6, a7, r1a, a15, a16, a17, r2a, o16b, o18b, b1, b2, b3, b4, b5, b6, b7, r1b]
 by_cases r2b : 3515200000 < rchX c.b c.b.by_
 ·refine .inr ⟨by unfold armOK; simp [okT oka, hla, r1a, r2a, okT okb, hlb, r1b, r2b], [(256, .box (cec c.cel))], ?_⟩
  unfold cec
  simp +contextual -implicitDefEqProofs (maxSteps := 2000000) only [go_sem, ↓reduceIte, C73b, A73_L0_eq, A73_L0b, o16a, o18a, a1, a2, a3, a4, a5, a6, a7, r1a, a15, a16, a17, r2a, o16b, o18b, b1, b2, b3, b4, b5, b6, b7, r1b, b15, b16, b17, r2b]
 refine .inl ⟨by unfold armOK; simp [okT oka, hla, r1a, r2a, okT okb, hlb, r1b, r2b], ?_⟩
 unfold cec
 simp +contextual -implicitDefEqProofs (maxSteps := 2000000) only [go_sem, ↓reduceIte, C73b, A73_L0_eq, A73_L0b, o16a, o18a, a1, a2, a3, a4, a5, a6, a7, r1a, a15, a16, a17, r2a, o16b, o18b, b1, b2, b3, b4, b5, b6, b7, r1b, b15, b16, b17, r2b]
end Go.Proofs.Ytnecdcaaknhgpaa

namespace Go.Proofs.Ytnecdcaaknhgpaa
open Go Go.Zv
open Go.Geo (polB plcB prtB unlB bouB)
theorem c73 (c : Cl) (hz : c.zn.length ≤ 1000) : pc E 73 [.agg (cec c.cel)] = some (.bool (rightB c)) := by
 have hv : rightB c = ((armOK c.a c.h0 c.h1 c.h2 && armOK c.b c.h3 c.h4 c.h5) && (decide ((c.pl.length : Int) ≤ 16) && (decide ((c.pt.length : Int) ≤ 8) && (decide ((c.bt.length : Int) ≤ 16) && restB c)))) := by unfold rightB; rw [Bool.and_assoc]
 rw [hv]
 rcases loop73 c with ⟨h1, lp⟩ | ⟨h1, X, lp⟩
 ·rw [h1, Bool.true_and]
  have y1 : (c.pl.map Go.Geo.plv).length = c.pl.length := List.length_map ..
  have y2 : (c.pt.map Go.Geo.prv).length = c.pt.length := List.length_map ..
  have y3 : (c.bt.map Go.Geo.c1).length = c.bt.length := List.length_map ..
  have ls := lims73 c
  have tl := tail73 c hz
  unfold cec at lp ls tl ⊢
  by_cases l1 : (16 : Int) < c.pl.length
  ·rw [decide_eq_false (show ¬ (c.pl.length : Int) ≤ 16 by omega)]
   rw [pc_eq]; simp +contextual -implicitDefEqProofs (maxSteps := 2000000) only [go_sem, ↓reduceIte, E_73, A73_s, C73a, C73c, lp, y1, l1, Bool.false_and]
  by_cases l2 : (8 : Int) < c.pt.length
  ·rw [decide_eq_false (show ¬ (c.pt.length : Int) ≤ 8 by omega)]
   rw [pc_eq]; simp +contextual -implicitDefEqProofs (maxSteps := 2000000) only [go_sem, ↓reduceIte, E_73, A73_s, C73a, C73c, lp, y1, y2, l1, l2, Bool.false_and, Bool.and_false]
  by_cases l3 : (16 : Int) < c.bt.length
  ·rw [decide_eq_false (show ¬ (c.bt.length : Int) ≤ 16 by omega)]
   rw [pc_eq]; simp +contextual -implicitDefEqProofs (maxSteps := 2000000) only [go_sem, ↓reduceIte, E_73, A73_s, C73a, C73c, lp, y1, y2, y3, l1, l2, l3, Bool.false_and, Bool.and_false]
  rw [decide_eq_true (show (c.pl.length : Int) ≤ 16 by omega), decide_eq_true (show (c.pt.length : Int) ≤ 8 by omega), decide_eq_true (show (c.bt.length : Int) ≤ 16 by omega)]
  have tl := tl (by omega) (by omega) (by omega)
  rw [pc_eq]; simp +contextual -implicitDefEqProofs (maxSteps := 2000000) only [go_sem, ↓reduceIte, E_73, A73_s, C73a, C73c, lp, ls, tl, y1, y2, y3, l1, l2, l3]
 ·rw [h1, Bool.false_and]
  unfold cec at lp ⊢
  rw [pc_eq]; simp +contextual -implicitDefEqProofs (maxSteps := 2000000) only [go_sem, ↓reduceIte, E_73, A73_s, C73a, lp]
end Go.Proofs.Ytnecdcaaknhgpaa

namespace Go.Proofs.Ytnecdcaaknhgpaa
open Go Go.Zv
def mayQ (a : Arm) (x0 x1 x2 : Int) : Bool := decide (12 * a.lo0 ≤ x0) && (decide (x0 ≤ 12 * a.hi0) && (decide (12 * a.lo1 ≤ x1) && (decide (x1 ≤ 12 * a.hi1) && (decide (12 * a.lo2 ≤ x2) && decide (x2 ≤ 12 * a.hi2)))))
theorem c74 (a : Arm) (h : OKa a) (x0 x1 x2 : Int) : pc E 74 [av a, jv x0 x1 x2] = some (.bool (mayQ a x0 x1 x2)) := by
 have j0 := h.j0
 have j1 := h.j1
 have j2 := h.j2
 have w1 : IntKind.i64.wrap (12 * a.lo0) = 12 * a.lo0 := wrap_small (by omega) (by omega)
 have w2 : IntKind.i64.wrap (12 * a.hi0) = 12 * a.hi0 := wrap_small (by omega) (by omega)
 have w3 : IntKind.i64.wrap (12 * a.lo1) = 12 * a.lo1 := wrap_small (by omega) (by omega)
 have w4 : IntKind.i64.wrap (12 * a.hi1) = 12 * a.hi1 := wrap_small (by omega) (by omega)
 have w5 : IntKind.i64.wrap (12 * a.lo2) = 12 * a.lo2 := wrap_small (by omega) (by omega)
 have w6 : IntKind.i64.wrap (12 * a.hi2) = 12 * a.hi2 := wrap_small (by omega) (by omega)
 have hv : mayQ a x0 x1 x2 = (!decide (x0 < 12 * a.lo0) && (!decide (12 * a.hi0 < x0) && (!decide (x1 < 12 * a.lo1) && (!decide (12 * a.hi1 < x1) && (!decide (x2 < 12 * a.lo2) && !decide (12 * a.hi2 < x2)))))) := by
  unfold mayQ
  simp only [← decide_not, Int.not_lt]
 rw [hv]
 by_cases k1 : x0 < 12 * a.lo0
 ·rw [pc_eq]; simp +contextual -implicitDefEqProofs (maxSteps := 2000000) only [go_sem, ↓reduceIte, E_74, A74, A74_L0_eq, A74_L0b, w1, w2, w3, w4, w5, w6, k1, decide_true, Bool.not_true, Bool.false_and]
 by_cases k2 : 12 * a.hi0 < x0
 ·rw [pc_eq]; simp +contextual -implicitDefEqProofs (maxSteps := 2000000) only [go_sem, ↓reduceIte, E_74, A74, A74_L0_eq, A74_L0b, w1, w2, w3, w4, w5, w6, k1, k2, decide_true, decide_false, Bool.not_false, Bool.true_and, Bool.not_true, Bool.false_and]
 by_cases k3 : x1 < 12 * a.lo1
 ·rw [pc_eq]; simp +contextual -implicitDefEqProofs (maxSteps := 2000000) only [go_sem, ↓reduceIte, E_74, A74, A74_L0_eq, A74_L0b, w1, w2, w3, w4, w5, w6, k1, k2, k3, decide_true, decide_false, Bool.not_false, Bool.true_and, Bool.not_true, Bool.false_and]
 by_cases k4 : 12 * a.hi1 < x1
 ·rw [pc_eq]; simp +contextual -implicitDefEqProofs (maxSteps := 2000000) only [go_sem, ↓reduceIte, E_74, A74, A74_L0_eq, A74_L0b, w1, w2, w3, w4, w5, w6, k1, k2, k3, k4, decide_true, decide_false, Bool.not_false, Bool.true_and, Bool.not_true, Bool.false_and]
 by_cases k5 : x2 < 12 * a.lo2
 ·rw [pc_eq]; simp +contextual -implicitDefEqProofs (maxSteps := 2000000) only [go_sem, ↓reduceIte, E_74, A74, A74_L0_eq, A74_L0b, w1, w2, w3, w4, w5, w6, k1, k2, k3, k4, k5, decide_true, decide_false, Bool.not_false, Bool.true_and, Bool.not_true, Bool.false_and]
 by_cases k6 : 12 * a.hi2 < x2
 ·rw [pc_eq]; simp +contextual -implicitDefEqProofs (maxSteps := 2000000) only [go_sem, ↓reduceIte, E_74, A74, A74_L0_eq, A74_L0b, w1, w2, w3, w4, w5, w6, k1, k2, k3, k4, k5, k6, decide_true, decide_false, Bool.not_false, Bool.true_and, Bool.not_true, Bool.false_and]
 ·rw [pc_eq]; simp +contextual -implicitDefEqProofs (maxSteps := 2000000) only [go_sem, ↓reduceIte, E_74, A74, A74_L0_eq, A74_L0b, w1, w2, w3, w4, w5, w6, k1, k2, k3, k4, k5, k6, decide_true, decide_false, Bool.not_false, Bool.true_and, Bool.not_true, Bool.false_and]
def smallB (c : Cl) : Bool := decide ((c.fx.length : Int) ≤ 16) && (decide ((c.zn.length : Int) ≤ 16) && (decide ((c.pl.length : Int) ≤ 16) && (decide ((c.pt.length : Int) ≤ 8) && decide ((c.bt.length : Int) ≤ 16))))
noncomputable def fitB (c : Cl) (x0 x1 x2 y0 y1 y2 : Int) (br : List Bool) : Bool := smallB c && (rightB c && (decide ((br.length : Int) = c.zn.length) && (mayQ c.a x0 x1 x2 && mayQ c.b y0 y1 y2)))
def bb1 (b : Bool) : List LV := [.bool b]
theorem right_ok {c : Cl} (h : rightB c = true) : OKa c.a ∧ OKa c.b ∧ restB c = true := by
 unfold rightB armOK at h
 simp only [Bool.and_eq_true] at h
 exact ⟨okB_iff.1 h.1.1, okB_iff.1 h.2.1.1, h.2.2.2.2.2⟩
theorem c40 (c : Cl) (x0 x1 x2 y0 y1 y2 : Int) (br : List Bool) : pc E 40 [.agg (cec c.cel), pos x0 x1 x2 y0 y1 y2, .vs (br.map bb1)] = some (.bool (fitB c x0 x1 x2 y0 y1 y2 br)) := by
 have z1 : (c.fx.map Go.Geo.p1).length = c.fx.length := List.length_map ..
 have z2 : (c.zn.map Go.Geo.p1).length = c.zn.length := List.length_map ..
 have z3 : (c.pl.map Go.Geo.plv).length = c.pl.length := List.length_map ..
 have z4 : (c.pt.map Go.Geo.prv).length = c.pt.length := List.length_map ..
 have z5 : (c.bt.map Go.Geo.c1).length = c.bt.length := List.length_map ..
 have z6 : (br.map bb1).length = br.length := List.length_map ..
 unfold fitB smallB
 by_cases k1 : (16 : Int) < c.fx.length
 ·rw [decide_eq_false (show ¬ (c.fx.length : Int) ≤ 16 by omega)]
  unfold cec; rw [pc_eq]; simp +contextual -implicitDefEqProofs (maxSteps := 2000000) only [go_sem, ↓reduceIte, E_40, A40, z1, k1, Bool.false_and]
 rw [decide_eq_true (show (c.fx.length : Int) ≤ 16 by omega)]
 by_cases k2 : (16 : Int) < c.zn.length
 ·rw [decide_eq_false (show ¬ (c.zn.length : Int) ≤ 16 by omega)]
  unfold cec; rw [pc_eq]; simp +contextual -implicitDefEqProofs (maxSteps := 2000000) only [go_sem, ↓reduceIte, E_40, A40, z1, z2, k1, k2, Bool.false_and, Bool.and_false]
 rw [decide_eq_true (show (c.zn.length : Int) ≤ 16 by omega)]
 by_cases k3 : (16 : Int) < c.pl.length
 ·rw [decide_eq_false (show ¬ (c.pl.length : Int) ≤ 16 by omega)]
  unfold cec; rw [pc_eq]; simp +contextual -implicitDefEqProofs (maxSteps := 2000000) only [go_sem, ↓reduceIte, E_40, A40, z1, z2, z3, k1, k2, k3, Bool.false_and, Bool.and_false]
 rw [decide_eq_true (show (c.pl.length : Int) ≤ 16 by omega)]
 by_cases k4 : (8 : Int) < c.pt.length
 ·rw [decide_eq_false (show ¬ (c.pt.length : Int) ≤ 8 by omega)]
  unfold cec; rw [pc_eq]; simp +contextual -implicitDefEqProofs (maxSteps := 2000000) only [go_sem, ↓reduceIte, E_40, A40, z1, z2, z3, z4, k1, k2, k3, k4, Bool.false_and, Bool.and_false]
 rw [decide_eq_true (show (c.pt.length : Int) ≤ 8 by omega)]
 by_cases k5 : (16 : Int) < c.bt.length
 ·rw [decide_eq_false (show ¬ (c.bt.length : Int) ≤ 16 by omega)]
  unfold cec; rw [pc_eq]; simp +contextual -implicitDefEqProofs (maxSteps := 2000000) only [go_sem, ↓reduceIte, E_40, A40, z1, z2, z3, z4, z5, k1, k2, k3, k4, k5, Bool.false_and, Bool.and_false]
 rw [decide_eq_true (show (c.bt.length : Int) ≤ 16 by omega)]
 have o := c73 c (by omega)
 unfold cec at o
 cases hr : rightB c with
 | false =>
   rw [hr] at o
   unfold cec; rw [pc_eq]; simp +contextual -implicitDefEqProofs (maxSteps := 2000000) only [go_sem, ↓reduceIte, E_40, A40, z1, z2, z3, z4, z5, k1, k2, k3, k4, k5, o, Bool.false_and, Bool.and_false]
 | true =>
   rw [hr] at o
   obtain ⟨ha, hb, _⟩ := right_ok hr
   have oa := c74 c.a ha x0 x1 x2
   have ob := c74 c.b hb y0 y1 y2
   by_cases k6 : (br.length : Int) = c.zn.length
   ·have k6' : ((br.length : Int) == c.zn.length) = true := by simp [k6]
    cases h1 : mayQ c.a x0 x1 x2 <;> rw [h1] at oa
    ·unfold cec; rw [pc_eq]; simp +contextual -implicitDefEqProofs (maxSteps := 2000000) only [go_sem, ↓reduceIte, E_40, A40, z1, z2, z3, z4, z5, z6, k1, k2, k3, k4, k5, o, k6', oa, Bool.false_and, Bool.and_false]
    ·unfold cec; rw [pc_eq]; simp +contextual -implicitDefEqProofs (maxSteps := 2000000) only [go_sem, ↓reduceIte, E_40, A40, z1, z2, z3, z4, z5, z6, k1, k2, k3, k4, k5, o, k6, k6', oa, ob, decide_true, Bool.true_and, beq_self_eq_true]
   ·have k6' : ((br.length : Int) == c.zn.length) = false := beq_eq_false_iff_ne.2 k6
    unfold cec; rw [pc_eq]; simp +contextual -implicitDefEqProofs (maxSteps := 2000000) only [go_sem, ↓reduceIte, E_40, A40, z1, z2, z3, z4, z5, z6, k1, k2, k3, k4, k5, o, k6, k6', decide_false, Bool.false_and, Bool.and_false]
end Go.Proofs.Ytnecdcaaknhgpaa

namespace Go.Proofs.Ytnecdcaaknhgpaa
open Go Go.Zv
def farW (i w : Int) : Int := mxI (w64 (i - w)) (w64 (0 - w64 (i - w)))
def frow (a k : Int) : List LV := [.int .i64 1, .int .i64 a, .int .i64 k, .int .i64 0]
def frw (most i w a k : Int) : List (List LV) := if most < farW i w then [frow a k] else []
theorem tk_all (R : List (List LV)) : R.take R.length = R := List.take_length
theorem tk_one (R : List (List LV)) (r : List LV) : (R ++ [r]).take (R.length + 1) = R ++ [r] := List.take_of_length_le (by simp)
theorem f75_00 (V IS : List LV) (i0 i1 i2 most w : Int) (R : List (List LV)) (hl : V.length = 57) (hs : ∀ r id, LV.subs r id V = V) (hs2 : ∀ r id, LV.subs r id IS = IS) (hv : V[44]? = some (.int .i64 w)) (hr : R.length ≤ 1000) :
  (K E A75_L0 ⟨[(1, .ptr 256 0), (3, .bs 768 0 (R).length), (4, .int .i64 most), (5, .int .i64 0), (23, .agg IS), (24, .int .i64 0), (28, .agg [.int .i64 i0, .int .i64 i1, .int .i64 i2]), (29, .int .i64 0)], [], [(768, .row 4 (R)), (512, .row 4 []), (256, .box V)], 0⟩).bind (blockR 2 (some [1, 3, 4, 23, 24]) [7, 8, 9, 51]) = (K E A75_L0 ⟨[(1, .ptr 256 0), (3, .bs 768 0 (R ++ frw most i0 w 0 0).length), (4, .int .i64 most), (5, .int .i64 0), (23, .agg IS), (24, .int .i64 0), (28, .agg [.int .i64 i0, .int .i64 i1, .int .i64 i2]), (29, .int .i64 1)], [], [(768, .row 4 (R ++ frw most i0 w 0 0)), (512, .row 4 []), (256, .box V)], 0⟩).bind (blockR 2 (some [1, 3, 4, 23, 24]) [7, 8, 9, 51]) := by
 have t0 := tk_all R
 have t1 := tk_one R
 have hb : R.length + 1 ≤ 1000000000 := by omega
 unfold frw
 have hf : farW i0 w = mxI (IntKind.i64.wrap (i0 - w)) (IntKind.i64.wrap (0 - IntKind.i64.wrap (i0 - w))) := rfl
 rw [hf]
 by_cases h : most < mxI (IntKind.i64.wrap (i0 - w)) (IntKind.i64.wrap (0 - IntKind.i64.wrap (i0 - w)))
 ·simp only [if_pos h, frow, List.length_append, List.length_cons, List.length_nil, Nat.zero_add]
  conv => lhs; rw [A75_L0_eq]
  simp +contextual -implicitDefEqProofs (maxSteps := 2000000) only [go_sem, ↓reduceIte, A75_L0b, hl, hs, hs2, hv, t0, t1, hb, h, Nat.le_refl]
 ·simp only [if_neg h, List.append_nil]
  conv => lhs; rw [A75_L0_eq]
  simp +contextual -implicitDefEqProofs (maxSteps := 2000000) only [go_sem, ↓reduceIte, A75_L0b, hl, hs, hs2, hv, t0, hb, h, Nat.le_refl]
theorem f75_01 (V IS : List LV) (i0 i1 i2 most w : Int) (R : List (List LV)) (hl : V.length = 57) (hs : ∀ r id, LV.subs r id V = V) (hs2 : ∀ r id, LV.subs r id IS = IS) (hv : V[45]? = some (.int .i64 w)) (hr : R.length ≤ 1000) :
  (K E A75_L0 ⟨[(1, .ptr 256 0), (3, .bs 768 0 (R).length), (4, .int .i64 most), (5, .int .i64 0), (23, .agg IS), (24, .int .i64 0), (28, .agg [.int .i64 i0, .int .i64 i1, .int .i64 i2]), (29, .int .i64 1)], [], [(768, .row 4 (R)), (512, .row 4 []), (256, .box V)], 0⟩).bind (blockR 2 (some [1, 3, 4, 23, 24]) [7, 8, 9, 51]) = (K E A75_L0 ⟨[(1, .ptr 256 0), (3, .bs 768 0 (R ++ frw most i1 w 0 1).length), (4, .int .i64 most), (5, .int .i64 0), (23, .agg IS), (24, .int .i64 0), (28, .agg [.int .i64 i0, .int .i64 i1, .int .i64 i2]), (29, .int .i64 2)], [], [(768, .row 4 (R ++ frw most i1 w 0 1)), (512, .row 4 []), (256, .box V)], 0⟩).bind (blockR 2 (some [1, 3, 4, 23, 24]) [7, 8, 9, 51]) := by
 have t0 := tk_all R
 have t1 := tk_one R
 have hb : R.length + 1 ≤ 1000000000 := by omega
 unfold frw
 have hf : farW i1 w = mxI (IntKind.i64.wrap (i1 - w)) (IntKind.i64.wrap (0 - IntKind.i64.wrap (i1 - w))) := rfl
 rw [hf]
 by_cases h : most < mxI (IntKind.i64.wrap (i1 - w)) (IntKind.i64.wrap (0 - IntKind.i64.wrap (i1 - w)))
 ·simp only [if_pos h, frow, List.length_append, List.length_cons, List.length_nil, Nat.zero_add]
  conv => lhs; rw [A75_L0_eq]
  simp +contextual -implicitDefEqProofs (maxSteps := 2000000) only [go_sem, ↓reduceIte, A75_L0b, hl, hs, hs2, hv, t0, t1, hb, h, Nat.le_refl]
 ·simp only [if_neg h, List.append_nil]
  conv => lhs; rw [A75_L0_eq]
  simp +contextual -implicitDefEqProofs (maxSteps := 2000000) only [go_sem, ↓reduceIte, A75_L0b, hl, hs, hs2, hv, t0, hb, h, Nat.le_refl]
theorem f75_02 (V IS : List LV) (i0 i1 i2 most w : Int) (R : List (List LV)) (hl : V.length = 57) (hs : ∀ r id, LV.subs r id V = V) (hs2 : ∀ r id, LV.subs r id IS = IS) (hv : V[46]? = some (.int .i64 w)) (hr : R.length ≤ 1000) :
  (K E A75_L0 ⟨[(1, .ptr 256 0), (3, .bs 768 0 (R).length), (4, .int .i64 most), (5, .int .i64 0), (23, .agg IS), (24, .int .i64 0), (28, .agg [.int .i64 i0, .int .i64 i1, .int .i64 i2]), (29, .int .i64 2)], [], [(768, .row 4 (R)), (512, .row 4 []), (256, .box V)], 0⟩).bind (blockR 2 (some [1, 3, 4, 23, 24]) [7, 8, 9, 51]) = (K E A75_L0 ⟨[(1, .ptr 256 0), (3, .bs 768 0 (R ++ frw most i2 w 0 2).length), (4, .int .i64 most), (5, .int .i64 0), (23, .agg IS), (24, .int .i64 0), (28, .agg [.int .i64 i0, .int .i64 i1, .int .i64 i2]), (29, .int .i64 3)], [], [(768, .row 4 (R ++ frw most i2 w 0 2)), (512, .row 4 []), (256, .box V)], 0⟩).bind (blockR 2 (some [1, 3, 4, 23, 24]) [7, 8, 9, 51]) := by
 have t0 := tk_all R
 have t1 := tk_one R
 have hb : R.length + 1 ≤ 1000000000 := by omega
 unfold frw
 have hf : farW i2 w = mxI (IntKind.i64.wrap (i2 - w)) (IntKind.i64.wrap (0 - IntKind.i64.wrap (i2 - w))) := rfl
 rw [hf]
 by_cases h : most < mxI (IntKind.i64.wrap (i2 - w)) (IntKind.i64.wrap (0 - IntKind.i64.wrap (i2 - w)))
 ·simp only [if_pos h, frow, List.length_append, List.length_cons, List.length_nil, Nat.zero_add]
  conv => lhs; rw [A75_L0_eq]
  simp +contextual -implicitDefEqProofs (maxSteps := 2000000) only [go_sem, ↓reduceIte, A75_L0b, hl, hs, hs2, hv, t0, t1, hb, h, Nat.le_refl]
 ·simp only [if_neg h, List.append_nil]
  conv => lhs; rw [A75_L0_eq]
  simp +contextual -implicitDefEqProofs (maxSteps := 2000000) only [go_sem, ↓reduceIte, A75_L0b, hl, hs, hs2, hv, t0, hb, h, Nat.le_refl]
theorem g75_0 (V IS : List LV) (i0 i1 i2 most w0 w1 w2 : Int) (R : List (List LV)) (hl : V.length = 57) (hs : ∀ r id, LV.subs r id V = V) (hs2 : ∀ r id, LV.subs r id IS = IS) (hv0 : V[44]? = some (.int .i64 w0)) (hv1 : V[45]? = some (.int .i64 w1)) (hv2 : V[46]? = some (.int .i64 w2)) (hr : R.length ≤ 900) :
  (K E A75_L0 ⟨[(1, .ptr 256 0), (3, .bs 768 0 (R).length), (4, .int .i64 most), (5, .int .i64 0), (23, .agg IS), (24, .int .i64 0), (28, .agg [.int .i64 i0, .int .i64 i1, .int .i64 i2]), (29, .int .i64 0)], [], [(768, .row 4 (R)), (512, .row 4 []), (256, .box V)], 0⟩).bind (blockR 2 (some [1, 3, 4, 23, 24]) [7, 8, 9, 51]) = some (.ex .nrm ⟨[(1, .ptr 256 0), (3, .bs 768 0 (R ++ frw most i0 w0 0 0 ++ frw most i1 w1 0 1 ++ frw most i2 w2 0 2).length), (4, .int .i64 most), (23, .agg IS), (24, .int .i64 0)], [], [(768, .row 4 (R ++ frw most i0 w0 0 0 ++ frw most i1 w1 0 1 ++ frw most i2 w2 0 2)), (512, .row 4 []), (256, .box V)], 0⟩) := by
 have l0 : ∀ i w a k : Int, (frw most i w a k).length ≤ 1 := fun i w a k => by unfold frw; split <;> simp
 have a0 := l0 i0 w0 0 0
 have a1 := l0 i1 w1 0 1
 rw [f75_00 V IS i0 i1 i2 most w0 R hl hs hs2 hv0 (by omega), f75_01 V IS i0 i1 i2 most w1 _ hl hs hs2 hv1 (by rw [List.length_append]; omega), f75_02 V IS i0 i1 i2 most w2 _ hl hs hs2 hv2 (by rw [List.length_append, List.length_append]; omega)]
 rw [A75_L0_eq]
 simp +contextual -implicitDefEqProofs (maxSteps := 2000000) only [go_sem, ↓reduceIte, A75_L0b]
theorem f75_10 (V IS : List LV) (i0 i1 i2 most w : Int) (R : List (List LV)) (hl : V.length = 57) (hs : ∀ r id, LV.subs r id V = V) (hs2 : ∀ r id, LV.subs r id IS = IS) (hv : V[47]? = some (.int .i64 w)) (hr : R.length ≤ 1000) :
  (K E A75_L0 ⟨[(1, .ptr 256 0), (3, .bs 768 0 (R).length), (4, .int .i64 most), (5, .int .i64 1), (23, .agg IS), (24, .int .i64 1), (28, .agg [.int .i64 i0, .int .i64 i1, .int .i64 i2]), (29, .int .i64 0)], [], [(768, .row 4 (R)), (512, .row 4 []), (256, .box V)], 0⟩).bind (blockR 2 (some [1, 3, 4, 23, 24]) [7, 8, 9, 51]) = (K E A75_L0 ⟨[(1, .ptr 256 0), (3, .bs 768 0 (R ++ frw most i0 w 1 0).length), (4, .int .i64 most), (5, .int .i64 1), (23, .agg IS), (24, .int .i64 1), (28, .agg [.int .i64 i0, .int .i64 i1, .int .i64 i2]), (29, .int .i64 1)], [], [(768, .row 4 (R ++ frw most i0 w 1 0)), (512, .row 4 []), (256, .box V)], 0⟩).bind (blockR 2 (some [1, 3, 4, 23, 24]) [7, 8, 9, 51]) := by
 have t0 := tk_all R
 have t1 := tk_one R
 have hb : R.length + 1 ≤ 1000000000 := by omega
 unfold frw
 have hf : farW i0 w = mxI (IntKind.i64.wrap (i0 - w)) (IntKind.i64.wrap (0 - IntKind.i64.wrap (i0 - w))) := rfl
 rw [hf]
 by_cases h : most < mxI (IntKind.i64.wrap (i0 - w)) (IntKind.i64.wrap (0 - IntKind.i64.wrap (i0 - w)))
 ·simp only [if_pos h, frow, List.length_append, List.length_cons, List.length_nil, Nat.zero_add]
  conv => lhs; rw [A75_L0_eq]
  simp +contextual -implicitDefEqProofs (maxSteps := 2000000) only [go_sem, ↓reduceIte, A75_L0b, hl, hs, hs2, hv, t0, t1, hb, h, Nat.le_refl]
 ·simp only [if_neg h, List.append_nil]
  conv => lhs; rw [A75_L0_eq]
  simp +contextual -implicitDefEqProofs (maxSteps := 2000000) only [go_sem, ↓reduceIte, A75_L0b, hl, hs, hs2, hv, t0, hb, h, Nat.le_refl]
theorem f75_11 (V IS : List LV) (i0 i1 i2 most w : Int) (R : List (List LV)) (hl : V.length = 57) (hs : ∀ r id, LV.subs r id V = V) (hs2 : ∀ r id, LV.subs r id IS = IS) (hv : V[48]? = some (.int .i64 w)) (hr : R.length ≤ 1000) :
  (K E A75_L0 ⟨[(1, .ptr 256 0), (3, .bs 768 0 (R).length), (4, .int .i64 most), (5, .int .i64 1), (23, .agg IS), (24, .int .i64 1), (28, .agg [.int .i64 i0, .int .i64 i1, .int .i64 i2]), (29, .int .i64 1)], [], [(768, .row 4 (R)), (512, .row 4 []), (256, .box V)], 0⟩).bind (blockR 2 (some [1, 3, 4, 23, 24]) [7, 8, 9, 51]) = (K E A75_L0 ⟨[(1, .ptr 256 0), (3, .bs 768 0 (R ++ frw most i1 w 1 1).length), (4, .int .i64 most), (5, .int .i64 1), (23, .agg IS), (24, .int .i64 1), (28, .agg [.int .i64 i0, .int .i64 i1, .int .i64 i2]), (29, .int .i64 2)], [], [(768, .row 4 (R ++ frw most i1 w 1 1)), (512, .row 4 []), (256, .box V)], 0⟩).bind (blockR 2 (some [1, 3, 4, 23, 24]) [7, 8, 9, 51]) := by
 have t0 := tk_all R
 have t1 := tk_one R
 have hb : R.length + 1 ≤ 1000000000 := by omega
 unfold frw
 have hf : farW i1 w = mxI (IntKind.i64.wrap (i1 - w)) (IntKind.i64.wrap (0 - IntKind.i64.wrap (i1 - w))) := rfl
 rw [hf]
 by_cases h : most < mxI (IntKind.i64.wrap (i1 - w)) (IntKind.i64.wrap (0 - IntKind.i64.wrap (i1 - w)))
 ·simp only [if_pos h, frow, List.length_append, List.length_cons, List.length_nil, Nat.zero_add]
  conv => lhs; rw [A75_L0_eq]
  simp +contextual -implicitDefEqProofs (maxSteps := 2000000) only [go_sem, ↓reduceIte, A75_L0b, hl, hs, hs2, hv, t0, t1, hb, h, Nat.le_refl]
 ·simp only [if_neg h, List.append_nil]
  conv => lhs; rw [A75_L0_eq]
  simp +contextual -implicitDefEqProofs (maxSteps := 2000000) only [go_sem, ↓reduceIte, A75_L0b, hl, hs, hs2, hv, t0, hb, h, Nat.le_refl]
theorem f75_12 (V IS : List LV) (i0 i1 i2 most w : Int) (R : List (List LV)) (hl : V.length = 57) (hs : ∀ r id, LV.subs r id V = V) (hs2 : ∀ r id, LV.subs r id IS = IS) (hv : V[49]? = some (.int .i64 w)) (hr : R.length ≤ 1000) :
  (K E A75_L0 ⟨[(1, .ptr 256 0), (3, .bs 768 0 (R).length), (4, .int .i64 most), (5, .int .i64 1), (23, .agg IS), (24, .int .i64 1), (28, .agg [.int .i64 i0, .int .i64 i1, .int .i64 i2]), (29, .int .i64 2)], [], [(768, .row 4 (R)), (512, .row 4 []), (256, .box V)], 0⟩).bind (blockR 2 (some [1, 3, 4, 23, 24]) [7, 8, 9, 51]) = (K E A75_L0 ⟨[(1, .ptr 256 0), (3, .bs 768 0 (R ++ frw most i2 w 1 2).length), (4, .int .i64 most), (5, .int .i64 1), (23, .agg IS), (24, .int .i64 1), (28, .agg [.int .i64 i0, .int .i64 i1, .int .i64 i2]), (29, .int .i64 3)], [], [(768, .row 4 (R ++ frw most i2 w 1 2)), (512, .row 4 []), (256, .box V)], 0⟩).bind (blockR 2 (some [1, 3, 4, 23, 24]) [7, 8, 9, 51]) := by
 have t0 := tk_all R
 have t1 := tk_one R
 have hb : R.length + 1 ≤ 1000000000 := by omega
 unfold frw
 have hf : farW i2 w = mxI (IntKind.i64.wrap (i2 - w)) (IntKind.i64.wrap (0 - IntKind.i64.wrap (i2 - w))) := rfl
 rw [hf]
 by_cases h : most < mxI (IntKind.i64.wrap (i2 - w)) (IntKind.i64.wrap (0 - IntKind.i64.wrap (i2 - w)))
 ·simp only [if_pos h, frow, List.length_append, List.length_cons, List.length_nil, Nat.zero_add]
  conv => lhs; rw [A75_L0_eq]
  simp +contextual -implicitDefEqProofs (maxSteps := 2000000) only [go_sem, ↓reduceIte, A75_L0b, hl, hs, hs2, hv, t0, t1, hb, h, Nat.le_refl]
 ·simp only [if_neg h, List.append_nil]
  conv => lhs; rw [A75_L0_eq]
  simp +contextual -implicitDefEqProofs (maxSteps := 2000000) only [go_sem, ↓reduceIte, A75_L0b, hl, hs, hs2, hv, t0, hb, h, Nat.le_refl]
theorem g75_1 (V IS : List LV) (i0 i1 i2 most w0 w1 w2 : Int) (R : List (List LV)) (hl : V.length = 57) (hs : ∀ r id, LV.subs r id V = V) (hs2 : ∀ r id, LV.subs r id IS = IS) (hv0 : V[47]? = some (.int .i64 w0)) (hv1 : V[48]? = some (.int .i64 w1)) (hv2 : V[49]? = some (.int .i64 w2)) (hr : R.length ≤ 900) :
  (K E A75_L0 ⟨[(1, .ptr 256 0), (3, .bs 768 0 (R).length), (4, .int .i64 most), (5, .int .i64 1), (23, .agg IS), (24, .int .i64 1), (28, .agg [.int .i64 i0, .int .i64 i1, .int .i64 i2]), (29, .int .i64 0)], [], [(768, .row 4 (R)), (512, .row 4 []), (256, .box V)], 0⟩).bind (blockR 2 (some [1, 3, 4, 23, 24]) [7, 8, 9, 51]) = some (.ex .nrm ⟨[(1, .ptr 256 0), (3, .bs 768 0 (R ++ frw most i0 w0 1 0 ++ frw most i1 w1 1 1 ++ frw most i2 w2 1 2).length), (4, .int .i64 most), (23, .agg IS), (24, .int .i64 1)], [], [(768, .row 4 (R ++ frw most i0 w0 1 0 ++ frw most i1 w1 1 1 ++ frw most i2 w2 1 2)), (512, .row 4 []), (256, .box V)], 0⟩) := by
 have l0 : ∀ i w a k : Int, (frw most i w a k).length ≤ 1 := fun i w a k => by unfold frw; split <;> simp
 have a0 := l0 i0 w0 1 0
 have a1 := l0 i1 w1 1 1
 rw [f75_10 V IS i0 i1 i2 most w0 R hl hs hs2 hv0 (by omega), f75_11 V IS i0 i1 i2 most w1 _ hl hs hs2 hv1 (by rw [List.length_append]; omega), f75_12 V IS i0 i1 i2 most w2 _ hl hs hs2 hv2 (by rw [List.length_append, List.length_append]; omega)]
 rw [A75_L0_eq]
 simp +contextual -implicitDefEqProofs (maxSteps := 2000000) only [go_sem, ↓reduceIte, A75_L0b]
def fastR (most w0 w1 w2 w3 w4 w5 i0 i1 i2 i3 i4 i5 : Int) : List (List LV) := frw most i0 w0 0 0 ++ frw most i1 w1 0 1 ++ frw most i2 w2 0 2 ++ frw most i3 w3 1 0 ++ frw most i4 w4 1 1 ++ frw most i5 w5 1 2
theorem c116 (br : List Bool) (hl : br.length ≤ 1000000) : ∃ n : Int, pc E 116 [.vs (br.map bb1), .bool true] = some (.int .i64 n) ∧ (decide (0 ≤ n) = br.any id) := by
 have lp := loop_P (σ := Unit) (fun S => (K E A116_L0 S).bind (blockR 0 (some []) [4, 5]))
  (fun k _ => ⟨[(0, .vs (br.map bb1)), (1, .bool true), (7, .int .i64 br.length), (8, .int .i64 k)], [], [], 0⟩) br.length (fun _ _ => True)
  (fun k _ o => ((br.drop k).any id = true ∧ ∃ n : Nat, o = some (.ex .ret ⟨[(4, .int .i64 n)], [], [], 0⟩)) ∨ ((br.drop k).any id = false ∧ o = some (.ex .nrm ⟨[], [], [], 0⟩)))
  (fun x _ => by
   refine .inr ⟨by simp, ?_⟩
   show (K E A116_L0 _).bind _ = _
   rw [A116_L0_eq]; simp +contextual -implicitDefEqProofs (maxSteps := 2000000) only [go_sem, ↓reduceIte, A116_L0b, Int.lt_irrefl])
  (fun k x hk _ => by
   have hget : br[k]? = some (br[k]'hk) := List.getElem?_eq_getElem hk
   have hd := drop_get hget
   generalize br[k]'hk = b at *
   have g : (br.map bb1)[k]? = some [.bool b] := by rw [List.getElem?_map, hget]; rfl
   have k0 : (0 : Int) ≤ k := by omega
   have k1 : (k : Int) < br.length := by omega
   have hw := wr_succ (n := k) (by omega)
   cases b
   ·refine .inr ⟨(), trivial, ?_, fun o h => by rw [hd]; simpa using h⟩
    show (K E A116_L0 _).bind _ = (K E A116_L0 _).bind _
    conv => lhs; rw [A116_L0_eq]
    simp +contextual -implicitDefEqProofs (maxSteps := 2000000) only [go_sem, ↓reduceIte, A116_L0b, k0, k1, g, hw, List.length_map]
   ·refine .inl (.inl ⟨by rw [hd]; simp, k, ?_⟩)
    show (K E A116_L0 _).bind _ = _
    rw [A116_L0_eq]
    simp +contextual -implicitDefEqProofs (maxSteps := 2000000) only [go_sem, ↓reduceIte, A116_L0b, k0, k1, g, hw, List.length_map]) 0 () (by omega) trivial
 simp only [Int.natCast_zero, Int.ofNat_zero, List.drop_zero] at lp
 rcases lp with ⟨h1, n, lp⟩ | ⟨h1, lp⟩
 ·refine ⟨n, ?_, by rw [h1]; exact decide_eq_true (by omega)⟩
  rw [pc_eq]; simp +contextual -implicitDefEqProofs (maxSteps := 2000000) only [go_sem, ↓reduceIte, E_116, A116, List.length_map, lp]
 ·refine ⟨-1, ?_, by rw [h1]; decide⟩
  rw [pc_eq]; simp +contextual -implicitDefEqProofs (maxSteps := 2000000) only [go_sem, ↓reduceIte, E_116, A116, List.length_map, lp]
theorem c105 (br : List Bool) (hl : br.length ≤ 1000000) : pc E 105 [.vs (br.map bb1), .bool true] = some (.bool (br.any id)) := by
 obtain ⟨n, h, e⟩ := c116 br hl
 rw [← e, pc_eq]; simp +contextual -implicitDefEqProofs (maxSteps := 2000000) only [go_sem, ↓reduceIte, E_105, A105, h, ge_iff_le]
theorem c75 (V : List LV) (br : List Bool) (hbl : br.length ≤ 1000000) (lv slow w0 w1 w2 w3 w4 w5 i0 i1 i2 i3 i4 i5 : Int) (h0 : V.length = 57) (h1 : V[35]? = some (.int .i64 lv)) (h2 : V[56]? = some (.vs (br.map bb1))) (h3 : V[43]? = some (.int .i64 slow))
  (h4 : (V.drop 50).take 6 = [.int .i64 i0, .int .i64 i1, .int .i64 i2, .int .i64 i3, .int .i64 i4, .int .i64 i5]) (hr : ∀ s, rowsOf V 257 V s = some (V, s)) (hs : ∀ r id, LV.subs r id V = V) (h5 : V.all LV.one = true) (h6 : LV.aparts 256 V = true) (v0 : V[44]? = some (.int .i64 w0)) (v1 : V[45]? = some (.int .i64 w1)) (v2 : V[46]? = some (.int .i64 w2)) (v3 : V[47]? = some (.int .i64 w3)) (v4 : V[48]? = some (.int .i64 w4)) (v5 : V[49]? = some (.int .i64 w5)) :
  pc E 75 [.agg V] = some (.os 4 (fastR (if br.any id = true then mnI lv slow else lv) w0 w1 w2 w3 w4 w5 i0 i1 i2 i3 i4 i5)) := by
 have o := c105 br hbl
 have q0 := g75_0 V [.int .i64 i0, .int .i64 i1, .int .i64 i2, .int .i64 i3, .int .i64 i4, .int .i64 i5] i0 i1 i2 (if br.any id = true then mnI lv slow else lv) w0 w1 w2 [] h0 hs (fun _ _ => rfl) v0 v1 v2 (by simp)
 have l0 : ∀ m i w a k : Int, (frw m i w a k).length ≤ 1 := fun m i w a k => by unfold frw; split <;> simp
 have q1 := fun R hR => g75_1 V [.int .i64 i0, .int .i64 i1, .int .i64 i2, .int .i64 i3, .int .i64 i4, .int .i64 i5] i3 i4 i5 (if br.any id = true then mnI lv slow else lv) w3 w4 w5 R h0 hs (fun _ _ => rfl) v3 v4 v5 hR
 unfold fastR
 generalize hm : (if br.any id = true then mnI lv slow else lv) = most at *
 have q1 := q1 (frw most i0 w0 0 0 ++ frw most i1 w1 0 1 ++ frw most i2 w2 0 2) (by
  have := l0 most i0 w0 0 0
  have := l0 most i1 w1 0 1
  have := l0 most i2 w2 0 2
  simp only [List.length_append]; omega)
 simp only [List.nil_append] at q0
 generalize frw most i0 w0 0 0 ++ frw most i1 w1 0 1 ++ frw most i2 w2 0 2 = R1 at *
 generalize R1 ++ frw most i3 w3 1 0 ++ frw most i4 w4 1 1 ++ frw most i5 w5 1 2 = R2 at *
 have t1 := tk_all R1
 have t2 := tk_all R2
 simp only [List.length_nil] at q0
 cases hb : br.any id <;> rw [hb] at o hm
 ·simp only [Bool.false_eq_true, if_false] at hm
  subst hm
  rw [pc_eq]; simp +contextual -implicitDefEqProofs (maxSteps := 2000000) only [go_sem, ↓reduceIte, E_75, A75, A75_L1_eq, A75_L1b, h0, h1, h2, h3, h4, hr, hs, h5, h6, o, q0, q1, t1, t2, Nat.le_refl]
 ·simp only [if_true] at hm
  rw [pc_eq]; simp +contextual -implicitDefEqProofs (maxSteps := 2000000) only [go_sem, ↓reduceIte, E_75, A75, A75_L1_eq, A75_L1b, h0, h1, h2, h3, h4, hr, hs, h5, h6, o, hm, q0, q1, t1, t2, Nat.le_refl]
end Go.Proofs.Ytnecdcaaknhgpaa

namespace Go.Proofs.Ytnecdcaaknhgpaa
open Go Go.Zv
def unl (br : List Bool) : Nat → List (List LV)
 | 0 => []
 | k + 1 => unl br k ++ if br.getD k false = true then [[.int .i64 4, .int .i64 0, .int .i64 0, .int .i64 k]] else []
theorem unl_len (br : List Bool) : ∀ k, (unl br k).length ≤ k
 | 0 => by simp [unl]
 | k + 1 => by
   have := unl_len br k
   unfold unl
   rw [List.length_append]
   split <;> simp <;> omega
theorem c78 (V : List LV) (br : List Bool) (hbl : br.length ≤ 1000) (h0 : V.length = 57) (h2 : V[56]? = some (.vs (br.map bb1))) (hr : ∀ s, rowsOf V 257 V s = some (V, s)) (hs : ∀ r id, LV.subs r id V = V) (h5 : V.all LV.one = true) (h6 : LV.aparts 256 V = true) :
  pc E 78 [.agg V] = some (.os 4 (unl br br.length)) := by
 have lp := loop_to (fun S => (K E A78_L0 S).bind (blockR 0 (some [3]) [4, 5, 18]))
  (fun k => ⟨[(3, .bs 768 0 (unl br k).length), (7, .vs (br.map bb1)), (8, .int .i64 br.length), (9, .int .i64 k)], [], [(768, .row 4 (unl br k)), (512, .row 4 [])], 0⟩) br.length (fun k hk => by
   have hget : br[k]? = some (br[k]'hk) := List.getElem?_eq_getElem hk
   have hD : br.getD k false = br[k]'hk := by rw [List.getD_eq_getElem?_getD, hget]; rfl
   have hu : unl br (k + 1) = unl br k ++ if br.getD k false = true then [[.int .i64 4, .int .i64 0, .int .i64 0, .int .i64 k]] else [] := rfl
   rw [hu, hD]
   generalize br[k]'hk = b at *
   have g : (br.map bb1)[k]? = some [.bool b] := by rw [List.getElem?_map, hget]; rfl
   have k0 : (0 : Int) ≤ k := by omega
   have k1 : (k : Int) < br.length := by omega
   have hw := wr_succ (n := k) (by omega)
   have hlen := unl_len br k
   have hlb : (br.map bb1).length = br.length := List.length_map ..
   generalize unl br k = R at *
   have t0 := tk_all R
   have t1 := tk_one R
   have hb : R.length + 1 ≤ 1000000000 := by omega
   cases b
   ·simp only [Bool.false_eq_true, if_false, List.append_nil]
    show (K E A78_L0 _).bind _ = (K E A78_L0 _).bind _
    conv => lhs; rw [A78_L0_eq]
    simp +contextual -implicitDefEqProofs (maxSteps := 2000000) only [go_sem, ↓reduceIte, A78_L0b, k0, k1, g, hw, hlb]
   ·simp only [if_true, List.length_append, List.length_cons, List.length_nil, Nat.zero_add]
    show (K E A78_L0 _).bind _ = (K E A78_L0 _).bind _
    conv => lhs; rw [A78_L0_eq]
    simp +contextual -implicitDefEqProofs (maxSteps := 2000000) only [go_sem, ↓reduceIte, A78_L0b, k0, k1, g, hw, hlb, t0, t1, hb, Nat.le_refl])
 have stop : (K E A78_L0 ⟨[(3, .bs 768 0 (unl br br.length).length), (7, .vs (br.map bb1)), (8, .int .i64 br.length), (9, .int .i64 br.length)], [], [(768, .row 4 (unl br br.length)), (512, .row 4 [])], 0⟩).bind (blockR 0 (some [3]) [4, 5, 18]) =
  some (.ex .nrm ⟨[(3, .bs 768 0 (unl br br.length).length)], [], [(768, .row 4 (unl br br.length)), (512, .row 4 [])], 0⟩) := by
  rw [A78_L0_eq]; simp +contextual -implicitDefEqProofs (maxSteps := 2000000) only [go_sem, ↓reduceIte, A78_L0b, Int.lt_irrefl]
 have lp := lp.trans stop
 simp only [Int.natCast_zero, Int.ofNat_zero, show unl br 0 = [] from rfl, List.length_nil] at lp
 generalize unl br br.length = R at *
 have t0 := tk_all R
 have hlb : (br.map bb1).length = br.length := List.length_map ..
 rw [pc_eq]; simp +contextual -implicitDefEqProofs (maxSteps := 2000000) only [go_sem, ↓reduceIte, E_78, A78, h0, h2, hr, hs, h5, h6, hlb, lp, t0, Nat.le_refl]
theorem c76 (V : List LV) (kd : Bool) (cc pp : List LV) (h0 : V.length = 57) (h1 : V.take 44 = cc) (h2 : (V.drop 50).take 6 = pp) (o : pc E 44 [.agg cc, .agg pp] = some (.bool kd)) (hc : LV.closeds cc = true) (hp : LV.closeds pp = true) (hcl : ∀ O, LV.cls O cc = cc) (hpl : ∀ O, LV.cls O pp = pp) (hic : LV.idss cc = []) (hip : LV.idss pp = []) (hr : ∀ s, rowsOf V 257 V s = some (V, s)) (hs : ∀ r id, LV.subs r id V = V) (h5 : V.all LV.one = true) (h6 : LV.aparts 256 V = true) :
  pc E 76 [.agg V] = some (.os 4 (if kd = true then [] else [[.int .i64 2, .int .i64 0, .int .i64 0, .int .i64 0]])) := by
 cases kd <;> rw [pc_eq] <;> simp +contextual -implicitDefEqProofs (maxSteps := 2000000) only [go_sem, ↓reduceIte, E_76, A76, h0, h1, h2, hr, hs, h5, h6, o, hc, hp, hcl, hpl, hic, hip, Nat.le_refl]
end Go.Proofs.Ytnecdcaaknhgpaa

namespace Go.Proofs.Ytnecdcaaknhgpaa
open Go Go.Zv
def inrow (a n : Int) : List LV := [.int .i64 3, .int .i64 a, .int .i64 0, .int .i64 n]
def B77 : Out → Option Out := blockR 2 (some [1, 2, 3, 10, 11]) [6, 7, 8, 36, 41, 46]
theorem s77_0 (V IS : List LV) (zr brv : List (List LV)) (zl n : Nat) (R : List (List LV)) (arm : Arm) (x0 x1 x2 a0 a1 a2 b0 b1 b2 : Int) (P0 P1 P2 P3 P4 P5 Z : List (List LV)) (h0 h1 h2 h3 h4 h5 b : Bool)
  (hl : V.length = 57) (hs : ∀ r id, LV.subs r id V = V) (hs2 : ∀ r id, LV.subs r id IS = IS) (hv : V[56]? = some (.vs brv)) (ha : V.take 12 = avc arm) (hzl : n < zl) (hz2 : zr.length = zl) (hbl : brv.length = zl) (hzl2 : zl ≤ 1000) (hz : zr[n]? = some [.vs Z]) (hb : brv[n]? = some [.bool b]) (hR : R.length ≤ 10000)
  (e39 : pc E 39 [jv x0 x1 x2] = some (.tup [jv a0 a1 a2, jv b0 b1 b2])) (f1 : pc E 20 [av arm, jv a0 a1 a2] = some (.agg [.vs P0, .vs P1, .vs P2])) (f2 : pc E 20 [av arm, jv b0 b1 b2] = some (.agg [.vs P3, .vs P4, .vs P5])) (o0 : pc E 37 [.vs P0, .vs Z] = some (.bool h0)) (o1 : pc E 37 [.vs P1, .vs Z] = some (.bool h1)) (o2 : pc E 37 [.vs P2, .vs Z] = some (.bool h2)) (o3 : pc E 37 [.vs P3, .vs Z] = some (.bool h3)) (o4 : pc E 37 [.vs P4, .vs Z] = some (.bool h4)) (o5 : pc E 37 [.vs P5, .vs Z] = some (.bool h5)) :
  (K E A77_L1 ⟨[(1, .ptr 256 0), (2, .bs 512 0 0), (3, .ptr 768 0), (4, .ptr 1024 0), (5, .ptr 1280 0), (10, .agg IS), (11, .int .i64 0), (17, .vs zr), (18, .int .i64 zl), (19, .int .i64 n)], [], [(1280, .box [.int .i64 x0, .int .i64 x1, .int .i64 x2]), (1024, .box [.int .i64 0]), (768, .box [.bs 769 0 (R).length]), (769, .row 4 (R)), (512, .row 4 []), (256, .box V)], 0⟩).bind B77 = (K E A77_L1 ⟨[(1, .ptr 256 0), (2, .bs 512 0 0), (3, .ptr 768 0), (4, .ptr 1024 0), (5, .ptr 1280 0), (10, .agg IS), (11, .int .i64 0), (17, .vs zr), (18, .int .i64 zl), (19, .int .i64 (n + 1 : Nat))], [], [(1280, .box [.int .i64 x0, .int .i64 x1, .int .i64 x2]), (1024, .box [.int .i64 0]), (768, .box [.bs 769 0 (R ++ if (b && (h0 || (h1 || (h2 || (h3 || (h4 || h5)))))) = true then [inrow 0 n] else []).length]), (769, .row 4 (R ++ if (b && (h0 || (h1 || (h2 || (h3 || (h4 || h5)))))) = true then [inrow 0 n] else [])), (512, .row 4 []), (256, .box V)], 0⟩).bind B77 := by
 have t0 := tk_all R
 have t1 := tk_one R
 have hb1 : R.length + 1 ≤ 1000000000 := by omega
 have e79 := c79 arm x0 x1 x2
 have n0 : (0 : Int) ≤ n := by omega
 have n1 : (n : Int) < zl := by omega
 have hw := wr_succ (n := n) (by omega)
 unfold B77
 cases b
 ·simp only [Bool.false_and, Bool.false_eq_true, if_false, List.append_nil]
  conv => lhs; rw [A77_L1_eq]
  simp +contextual -implicitDefEqProofs (maxSteps := 2000000) only [go_sem, ↓reduceIte, A77_L1b, hl, hs, hs2, hv, hz2, hbl, hz, hb, n0, n1, hw]
 cases h0
 rotate_left
 ·simp only [Bool.true_and, Bool.or_true, Bool.true_or, Bool.false_or, if_true, List.length_append, List.length_cons, List.length_nil, Nat.zero_add, inrow]
  conv => lhs; rw [A77_L1_eq]
  simp +contextual -implicitDefEqProofs (maxSteps := 2000000) only [go_sem, ↓reduceIte, A77_L1b, A77_R0, A77_R0a, A77_R0b, E_106, A106, A106_L1_eq, A106_L1b, A106_L0_eq, A106_L0b, hl, hs, hs2, hv, ha, hz2, hbl, hz, hb, n0, n1, hw, t0, t1, hb1, e79, e39, f1, f2, Nat.le_refl, o0]
 cases h1
 rotate_left
 ·simp only [Bool.true_and, Bool.or_true, Bool.true_or, Bool.false_or, if_true, List.length_append, List.length_cons, List.length_nil, Nat.zero_add, inrow]
  conv => lhs; rw [A77_L1_eq]
  simp +contextual -implicitDefEqProofs (maxSteps := 2000000) only [go_sem, ↓reduceIte, A77_L1b, A77_R0, A77_R0a, A77_R0b, E_106, A106, A106_L1_eq, A106_L1b, A106_L0_eq, A106_L0b, hl, hs, hs2, hv, ha, hz2, hbl, hz, hb, n0, n1, hw, t0, t1, hb1, e79, e39, f1, f2, Nat.le_refl, o0, o1]
 cases h2
 rotate_left
 ·simp only [Bool.true_and, Bool.or_true, Bool.true_or, Bool.false_or, if_true, List.length_append, List.length_cons, List.length_nil, Nat.zero_add, inrow]
  conv => lhs; rw [A77_L1_eq]
  simp +contextual -implicitDefEqProofs (maxSteps := 2000000) only [go_sem, ↓reduceIte, A77_L1b, A77_R0, A77_R0a, A77_R0b, E_106, A106, A106_L1_eq, A106_L1b, A106_L0_eq, A106_L0b, hl, hs, hs2, hv, ha, hz2, hbl, hz, hb, n0, n1, hw, t0, t1, hb1, e79, e39, f1, f2, Nat.le_refl, o0, o1, o2]
 cases h3
 rotate_left
 ·simp only [Bool.true_and, Bool.or_true, Bool.true_or, Bool.false_or, if_true, List.length_append, List.length_cons, List.length_nil, Nat.zero_add, inrow]
  conv => lhs; rw [A77_L1_eq]
  simp +contextual -implicitDefEqProofs (maxSteps := 2000000) only [go_sem, ↓reduceIte, A77_L1b, A77_R0, A77_R0a, A77_R0b, E_106, A106, A106_L1_eq, A106_L1b, A106_L0_eq, A106_L0b, hl, hs, hs2, hv, ha, hz2, hbl, hz, hb, n0, n1, hw, t0, t1, hb1, e79, e39, f1, f2, Nat.le_refl, o0, o1, o2, o3]
 cases h4
 rotate_left
 ·simp only [Bool.true_and, Bool.or_true, Bool.true_or, Bool.false_or, if_true, List.length_append, List.length_cons, List.length_nil, Nat.zero_add, inrow]
  conv => lhs; rw [A77_L1_eq]
  simp +contextual -implicitDefEqProofs (maxSteps := 2000000) only [go_sem, ↓reduceIte, A77_L1b, A77_R0, A77_R0a, A77_R0b, E_106, A106, A106_L1_eq, A106_L1b, A106_L0_eq, A106_L0b, hl, hs, hs2, hv, ha, hz2, hbl, hz, hb, n0, n1, hw, t0, t1, hb1, e79, e39, f1, f2, Nat.le_refl, o0, o1, o2, o3, o4]
 cases h5
 rotate_left
 ·simp only [Bool.true_and, Bool.or_true, Bool.true_or, Bool.false_or, if_true, List.length_append, List.length_cons, List.length_nil, Nat.zero_add, inrow]
  conv => lhs; rw [A77_L1_eq]
  simp +contextual -implicitDefEqProofs (maxSteps := 2000000) only [go_sem, ↓reduceIte, A77_L1b, A77_R0, A77_R0a, A77_R0b, E_106, A106, A106_L1_eq, A106_L1b, A106_L0_eq, A106_L0b, hl, hs, hs2, hv, ha, hz2, hbl, hz, hb, n0, n1, hw, t0, t1, hb1, e79, e39, f1, f2, Nat.le_refl, o0, o1, o2, o3, o4, o5]
 ·simp only [Bool.true_and, Bool.or_self, Bool.false_eq_true, if_false, List.append_nil]
  conv => lhs; rw [A77_L1_eq]
  simp +contextual -implicitDefEqProofs (maxSteps := 2000000) only [go_sem, ↓reduceIte, A77_L1b, A77_R0, A77_R0a, A77_R0b, E_106, A106, A106_L1_eq, A106_L1b, A106_L0_eq, A106_L0b, hl, hs, hs2, hv, ha, hz2, hbl, hz, hb, n0, n1, hw, t0, t1, hb1, e79, e39, f1, f2, Nat.le_refl, o0, o1, o2, o3, o4, o5]
theorem s77_1 (V IS : List LV) (zr brv : List (List LV)) (zl n : Nat) (R : List (List LV)) (arm : Arm) (x0 x1 x2 a0 a1 a2 b0 b1 b2 : Int) (P0 P1 P2 P3 P4 P5 Z : List (List LV)) (h0 h1 h2 h3 h4 h5 b : Bool)
  (hl : V.length = 57) (hs : ∀ r id, LV.subs r id V = V) (hs2 : ∀ r id, LV.subs r id IS = IS) (hv : V[56]? = some (.vs brv)) (ha : (V.drop 12).take 12 = avc arm) (hzl : n < zl) (hz2 : zr.length = zl) (hbl : brv.length = zl) (hzl2 : zl ≤ 1000) (hz : zr[n]? = some [.vs Z]) (hb : brv[n]? = some [.bool b]) (hR : R.length ≤ 10000)
  (e39 : pc E 39 [jv x0 x1 x2] = some (.tup [jv a0 a1 a2, jv b0 b1 b2])) (f1 : pc E 20 [av arm, jv a0 a1 a2] = some (.agg [.vs P0, .vs P1, .vs P2])) (f2 : pc E 20 [av arm, jv b0 b1 b2] = some (.agg [.vs P3, .vs P4, .vs P5])) (o0 : pc E 37 [.vs P0, .vs Z] = some (.bool h0)) (o1 : pc E 37 [.vs P1, .vs Z] = some (.bool h1)) (o2 : pc E 37 [.vs P2, .vs Z] = some (.bool h2)) (o3 : pc E 37 [.vs P3, .vs Z] = some (.bool h3)) (o4 : pc E 37 [.vs P4, .vs Z] = some (.bool h4)) (o5 : pc E 37 [.vs P5, .vs Z] = some (.bool h5)) :
  (K E A77_L1 ⟨[(1, .ptr 256 0), (2, .bs 512 0 0), (3, .ptr 768 0), (4, .ptr 1024 0), (5, .ptr 1280 0), (10, .agg IS), (11, .int .i64 1), (17, .vs zr), (18, .int .i64 zl), (19, .int .i64 n)], [], [(1280, .box [.int .i64 x0, .int .i64 x1, .int .i64 x2]), (1024, .box [.int .i64 1]), (768, .box [.bs 769 0 (R).length]), (769, .row 4 (R)), (512, .row 4 []), (256, .box V)], 0⟩).bind B77 = (K E A77_L1 ⟨[(1, .ptr 256 0), (2, .bs 512 0 0), (3, .ptr 768 0), (4, .ptr 1024 0), (5, .ptr 1280 0), (10, .agg IS), (11, .int .i64 1), (17, .vs zr), (18, .int .i64 zl), (19, .int .i64 (n + 1 : Nat))], [], [(1280, .box [.int .i64 x0, .int .i64 x1, .int .i64 x2]), (1024, .box [.int .i64 1]), (768, .box [.bs 769 0 (R ++ if (b && (h0 || (h1 || (h2 || (h3 || (h4 || h5)))))) = true then [inrow 1 n] else []).length]), (769, .row 4 (R ++ if (b && (h0 || (h1 || (h2 || (h3 || (h4 || h5)))))) = true then [inrow 1 n] else [])), (512, .row 4 []), (256, .box V)], 0⟩).bind B77 := by
 have t0 := tk_all R
 have t1 := tk_one R
 have hb1 : R.length + 1 ≤ 1000000000 := by omega
 have e79 := c79 arm x0 x1 x2
 have n0 : (0 : Int) ≤ n := by omega
 have n1 : (n : Int) < zl := by omega
 have hw := wr_succ (n := n) (by omega)
 unfold B77
 cases b
 ·simp only [Bool.false_and, Bool.false_eq_true, if_false, List.append_nil]
  conv => lhs; rw [A77_L1_eq]
  simp +contextual -implicitDefEqProofs (maxSteps := 2000000) only [go_sem, ↓reduceIte, A77_L1b, hl, hs, hs2, hv, hz2, hbl, hz, hb, n0, n1, hw]
 cases h0
 rotate_left
 ·simp only [Bool.true_and, Bool.or_true, Bool.true_or, Bool.false_or, if_true, List.length_append, List.length_cons, List.length_nil, Nat.zero_add, inrow]
  conv => lhs; rw [A77_L1_eq]
  simp +contextual -implicitDefEqProofs (maxSteps := 2000000) only [go_sem, ↓reduceIte, A77_L1b, A77_R0, A77_R0a, A77_R0b, E_106, A106, A106_L1_eq, A106_L1b, A106_L0_eq, A106_L0b, hl, hs, hs2, hv, ha, hz2, hbl, hz, hb, n0, n1, hw, t0, t1, hb1, e79, e39, f1, f2, Nat.le_refl, o0]
 cases h1
 rotate_left
 ·simp only [Bool.true_and, Bool.or_true, Bool.true_or, Bool.false_or, if_true, List.length_append, List.length_cons, List.length_nil, Nat.zero_add, inrow]
  conv => lhs; rw [A77_L1_eq]
  simp +contextual -implicitDefEqProofs (maxSteps := 2000000) only [go_sem, ↓reduceIte, A77_L1b, A77_R0, A77_R0a, A77_R0b, E_106, A106, A106_L1_eq, A106_L1b, A106_L0_eq, A106_L0b, hl, hs, hs2, hv, ha, hz2, hbl, hz, hb, n0, n1, hw, t0, t1, hb1, e79, e39, f1, f2, Nat.le_refl, o0, o1]
 cases h2
 rotate_left
 ·simp only [Bool.true_and, Bool.or_true, Bool.true_or, Bool.false_or, if_true, List.length_append, List.length_cons, List.length_nil, Nat.zero_add, inrow]
  conv => lhs; rw [A77_L1_eq]
  simp +contextual -implicitDefEqProofs (maxSteps := 2000000) only [go_sem, ↓reduceIte, A77_L1b, A77_R0, A77_R0a, A77_R0b, E_106, A106, A106_L1_eq, A106_L1b, A106_L0_eq, A106_L0b, hl, hs, hs2, hv, ha, hz2, hbl, hz, hb, n0, n1, hw, t0, t1, hb1, e79, e39, f1, f2, Nat.le_refl, o0, o1, o2]
 cases h3
 rotate_left
 ·simp only [Bool.true_and, Bool.or_true, Bool.true_or, Bool.false_or, if_true, List.length_append, List.length_cons, List.length_nil, Nat.zero_add, inrow]
  conv => lhs; rw [A77_L1_eq]
  simp +contextual -implicitDefEqProofs (maxSteps := 2000000) only [go_sem, ↓reduceIte, A77_L1b, A77_R0, A77_R0a, A77_R0b, E_106, A106, A106_L1_eq, A106_L1b, A106_L0_eq, A106_L0b, hl, hs, hs2, hv, ha, hz2, hbl, hz, hb, n0, n1, hw, t0, t1, hb1, e79, e39, f1, f2, Nat.le_refl, o0, o1, o2, o3]
 cases h4
 rotate_left
 ·simp only [Bool.true_and, Bool.or_true, Bool.true_or, Bool.false_or, if_true, List.length_append, List.length_cons, List.length_nil, Nat.zero_add, inrow]
  conv => lhs; rw [A77_L1_eq]
  simp +contextual -implicitDefEqProofs (maxSteps := 2000000) only [go_sem, ↓reduceIte, A77_L1b, A77_R0, A77_R0a, A77_R0b, E_106, A106, A106_L1_eq, A106_L1b, A106_L0_eq, A106_L0b, hl, hs, hs2, hv, ha, hz2, hbl, hz, hb, n0, n1, hw, t0, t1, hb1, e79, e39, f1, f2, Nat.le_refl, o0, o1, o2, o3, o4]
 cases h5
 rotate_left
 ·simp only [Bool.true_and, Bool.or_true, Bool.true_or, Bool.false_or, if_true, List.length_append, List.length_cons, List.length_nil, Nat.zero_add, inrow]
  conv => lhs; rw [A77_L1_eq]
  simp +contextual -implicitDefEqProofs (maxSteps := 2000000) only [go_sem, ↓reduceIte, A77_L1b, A77_R0, A77_R0a, A77_R0b, E_106, A106, A106_L1_eq, A106_L1b, A106_L0_eq, A106_L0b, hl, hs, hs2, hv, ha, hz2, hbl, hz, hb, n0, n1, hw, t0, t1, hb1, e79, e39, f1, f2, Nat.le_refl, o0, o1, o2, o3, o4, o5]
 ·simp only [Bool.true_and, Bool.or_self, Bool.false_eq_true, if_false, List.append_nil]
  conv => lhs; rw [A77_L1_eq]
  simp +contextual -implicitDefEqProofs (maxSteps := 2000000) only [go_sem, ↓reduceIte, A77_L1b, A77_R0, A77_R0a, A77_R0b, E_106, A106, A106_L1_eq, A106_L1b, A106_L0_eq, A106_L0b, hl, hs, hs2, hv, ha, hz2, hbl, hz, hb, n0, n1, hw, t0, t1, hb1, e79, e39, f1, f2, Nat.le_refl, o0, o1, o2, o3, o4, o5]
end Go.Proofs.Ytnecdcaaknhgpaa

namespace Go.Proofs.Ytnecdcaaknhgpaa
open Go Go.Zv
abbrev Vi := Int × Int × Int × Int
def v4 (x : Vi) : List LV := [.int .i64 x.1, .int .i64 x.2.1, .int .i64 x.2.2.1, .int .i64 x.2.2.2]
def frT (most i w a k : Int) : List Vi := if most < farW i w then [(1, a, k, 0)] else []
theorem frw_T (most i w a k : Int) : frw most i w a k = (frT most i w a k).map v4 := by unfold frw frT; split <;> rfl
def fastT (most w0 w1 w2 w3 w4 w5 i0 i1 i2 i3 i4 i5 : Int) : List Vi := frT most i0 w0 0 0 ++ frT most i1 w1 0 1 ++ frT most i2 w2 0 2 ++ frT most i3 w3 1 0 ++ frT most i4 w4 1 1 ++ frT most i5 w5 1 2
theorem fastR_T (most w0 w1 w2 w3 w4 w5 i0 i1 i2 i3 i4 i5 : Int) : fastR most w0 w1 w2 w3 w4 w5 i0 i1 i2 i3 i4 i5 = (fastT most w0 w1 w2 w3 w4 w5 i0 i1 i2 i3 i4 i5).map v4 := by
 unfold fastR fastT; simp only [frw_T, List.map_append]
def nearT (kd : Bool) : List Vi := if kd = true then [] else [(2, 0, 0, 0)]
theorem near_T (kd : Bool) : (if kd = true then [] else [[LV.int .i64 2, .int .i64 0, .int .i64 0, .int .i64 0]]) = (nearT kd).map v4 := by unfold nearT; cases kd <;> rfl
def unlT (br : List Bool) : Nat → List Vi
 | 0 => []
 | k + 1 => unlT br k ++ if br.getD k false = true then [(4, 0, 0, (k : Int))] else []
theorem unl_T (br : List Bool) : ∀ k, unl br k = (unlT br k).map v4
 | 0 => rfl
 | k + 1 => by unfold unl unlT; rw [unl_T br k, List.map_append]; split <;> rfl
def inz (a : Int) (hit : Nat → Bool) (br : List Bool) : Nat → List Vi
 | 0 => []
 | k + 1 => inz a hit br k ++ if (br.getD k false && hit k) = true then [(3, a, 0, (k : Int))] else []
theorem inz_len (a : Int) (hit : Nat → Bool) (br : List Bool) : ∀ k, (inz a hit br k).length ≤ k
 | 0 => by simp [inz]
 | k + 1 => by
   have := inz_len a hit br k
   unfold inz
   rw [List.length_append]
   split <;> simp <;> omega
def bods (a : Arm) (x0 x1 x2 : Int) : List (List (Int × Int)) := lks a (dd (x0 / 12) (x1 / 12) (x2 / 12)) ++ lks a (dd (up12 x0) (up12 x1) (up12 x2))
theorem bod (a : Arm) (h : OKa a) (x0 x1 x2 : Int) : ∃ l0 l1 l2 l3 l4 l5 : List (Int × Int), bods a x0 x1 x2 = [l0, l1, l2, l3, l4, l5] ∧ pc E 20 [av a, jv (x0 / 12) (x1 / 12) (x2 / 12)] = some (.agg [lkv l0, lkv l1, lkv l2]) ∧ pc E 20 [av a, jv (up12 x0) (up12 x1) (up12 x2)] = some (.agg [lkv l3, lkv l4, lkv l5]) ∧ ∀ l ∈ [l0, l1, l2, l3, l4, l5], l.length = 4 := by
 refine ⟨_, _, _, _, _, _, rfl, c20 a h _ _ _, c20 a h _ _ _, ?_⟩
 intro l hl
 simp only [List.mem_cons, List.not_mem_nil, or_false] at hl
 rcases hl with rfl | rfl | rfl | rfl | rfl | rfl <;> rfl
def hitB (a : Arm) (x0 x1 x2 : Int) (z : List (Int × Int)) : Bool := (bods a x0 x1 x2).any fun l => (Go.Geo.FC l z).isSome
theorem l77_0 (V IS : List LV) (zn : List (List (Int × Int))) (br : List Bool) (R : List (List LV)) (arm : Arm) (hok : OKa arm) (x0 x1 x2 : Int) (hx0 : -1000000000 ≤ x0 ∧ x0 ≤ 1000000000) (hx1 : -1000000000 ≤ x1 ∧ x1 ≤ 1000000000) (hx2 : -1000000000 ≤ x2 ∧ x2 ≤ 1000000000)
  (hl : V.length = 57) (hs : ∀ r id, LV.subs r id V = V) (hs2 : ∀ r id, LV.subs r id IS = IS) (hv : V[56]? = some (.vs (br.map bb1))) (ha : V.take 12 = avc arm) (hbl : br.length = zn.length) (hzl : zn.length ≤ 1000) (hzp : ∀ z ∈ zn, z.length ≤ 1000000) (hR : R.length ≤ 1000) :
  (K E A77_L1 ⟨[(1, .ptr 256 0), (2, .bs 512 0 0), (3, .ptr 768 0), (4, .ptr 1024 0), (5, .ptr 1280 0), (10, .agg IS), (11, .int .i64 0), (17, .vs (zn.map Go.Geo.p1)), (18, .int .i64 zn.length), (19, .int .i64 0)], [], [(1280, .box [.int .i64 x0, .int .i64 x1, .int .i64 x2]), (1024, .box [.int .i64 0]), (768, .box [.bs 769 0 (R).length]), (769, .row 4 (R)), (512, .row 4 []), (256, .box V)], 0⟩).bind B77 = some (.ex .nrm ⟨[(1, .ptr 256 0), (2, .bs 512 0 0), (3, .ptr 768 0), (10, .agg IS), (11, .int .i64 0)], [], [(1280, .box [.int .i64 x0, .int .i64 x1, .int .i64 x2]), (1024, .box [.int .i64 0]), (768, .box [.bs 769 0 (R ++ (inz 0 (fun k => hitB arm x0 x1 x2 (zn.getD k [])) br zn.length).map v4).length]), (769, .row 4 (R ++ (inz 0 (fun k => hitB arm x0 x1 x2 (zn.getD k [])) br zn.length).map v4)), (512, .row 4 []), (256, .box V)], 0⟩) := by
 obtain ⟨l0, l1, l2, l3, l4, l5, hbod, f1, f2, h4⟩ := bod arm hok x0 x1 x2
 have e39 := c39 x0 x1 x2 hx0 hx1 hx2
 have g : ∀ l ∈ [l0, l1, l2, l3, l4, l5], ∀ z ∈ zn, pc E 37 [lkv l, .vs (z.map Go.Geo.c2)] = some (.bool (Go.Geo.FC l z).isSome) := fun l hl z hz => G.c37 l z (by rw [h4 l hl]; decide) (by have := hzp z hz; omega)
 have lp := loop_to (fun S => (K E A77_L1 S).bind B77) (fun k => ⟨[(1, .ptr 256 0), (2, .bs 512 0 0), (3, .ptr 768 0), (4, .ptr 1024 0), (5, .ptr 1280 0), (10, .agg IS), (11, .int .i64 0), (17, .vs (zn.map Go.Geo.p1)), (18, .int .i64 zn.length), (19, .int .i64 k)], [], [(1280, .box [.int .i64 x0, .int .i64 x1, .int .i64 x2]), (1024, .box [.int .i64 0]), (768, .box [.bs 769 0 (R ++ (inz 0 (fun k => hitB arm x0 x1 x2 (zn.getD k [])) br k).map v4).length]), (769, .row 4 (R ++ (inz 0 (fun k => hitB arm x0 x1 x2 (zn.getD k [])) br k).map v4)), (512, .row 4 []), (256, .box V)], 0⟩) zn.length (fun k hk => by
  have hzk : zn[k]? = some (zn.getD k []) := Go.Geo.getD_of [] hk
  have hbk : br[k]? = some (br.getD k false) := Go.Geo.getD_of false (by omega)
  have hmem : zn.getD k [] ∈ zn := List.mem_of_getElem? hzk
  have hin : inz 0 (fun k => hitB arm x0 x1 x2 (zn.getD k [])) br (k + 1) = inz 0 (fun k => hitB arm x0 x1 x2 (zn.getD k [])) br k ++ if (br.getD k false && hitB arm x0 x1 x2 (zn.getD k [])) = true then [(0, 0, (k : Int))].map (fun q => ((3 : Int), q)) else [] := by
   show inz _ _ _ _ ++ _ = _
   rfl
  have hlen := inz_len 0 (fun k => hitB arm x0 x1 x2 (zn.getD k [])) br k
  rw [hin, List.map_append, ← List.append_assoc]
  have hhit : hitB arm x0 x1 x2 (zn.getD k []) = ((Go.Geo.FC l0 (zn.getD k [])).isSome || ((Go.Geo.FC l1 (zn.getD k [])).isSome || ((Go.Geo.FC l2 (zn.getD k [])).isSome || ((Go.Geo.FC l3 (zn.getD k [])).isSome || ((Go.Geo.FC l4 (zn.getD k [])).isSome || (Go.Geo.FC l5 (zn.getD k [])).isSome))))) := by
   unfold hitB; rw [hbod]; simp [Bool.or_assoc]
  have hrow : (if (br.getD k false && hitB arm x0 x1 x2 (zn.getD k [])) = true then [(0, 0, (k : Int))].map (fun q => ((3 : Int), q)) else [] : List Vi).map v4 = if (br.getD k false && hitB arm x0 x1 x2 (zn.getD k [])) = true then [inrow 0 k] else [] := by split <;> rfl
  rw [hrow, hhit]
  exact s77_0 V IS (zn.map Go.Geo.p1) (br.map bb1) zn.length k _ arm x0 x1 x2 _ _ _ _ _ _ (l0.map c2) (l1.map c2) (l2.map c2) (l3.map c2) (l4.map c2) (l5.map c2) ((zn.getD k []).map Go.Geo.c2) _ _ _ _ _ _ (br.getD k false) hl hs hs2 hv ha hk (List.length_map ..) (by rw [List.length_map]; exact hbl) hzl (by rw [List.getElem?_map, hzk]; rfl) (by rw [List.getElem?_map, hbk]; rfl) (by rw [List.length_append, List.length_map]; omega) e39 f1 f2
   (g l0 (by simp) _ hmem) (g l1 (by simp) _ hmem) (g l2 (by simp) _ hmem) (g l3 (by simp) _ hmem) (g l4 (by simp) _ hmem) (g l5 (by simp) _ hmem))
 simp only [Int.natCast_zero, Int.ofNat_zero, show inz 0 (fun k => hitB arm x0 x1 x2 (zn.getD k [])) br 0 = [] from rfl, List.map_nil, List.append_nil] at lp
 refine lp.trans ?_
 unfold B77
 rw [A77_L1_eq]; simp +contextual -implicitDefEqProofs (maxSteps := 2000000) only [go_sem, ↓reduceIte, A77_L1b, Int.lt_irrefl, hs, hs2]
theorem l77_1 (V IS : List LV) (zn : List (List (Int × Int))) (br : List Bool) (R : List (List LV)) (arm : Arm) (hok : OKa arm) (x0 x1 x2 : Int) (hx0 : -1000000000 ≤ x0 ∧ x0 ≤ 1000000000) (hx1 : -1000000000 ≤ x1 ∧ x1 ≤ 1000000000) (hx2 : -1000000000 ≤ x2 ∧ x2 ≤ 1000000000)
  (hl : V.length = 57) (hs : ∀ r id, LV.subs r id V = V) (hs2 : ∀ r id, LV.subs r id IS = IS) (hv : V[56]? = some (.vs (br.map bb1))) (ha : (V.drop 12).take 12 = avc arm) (hbl : br.length = zn.length) (hzl : zn.length ≤ 1000) (hzp : ∀ z ∈ zn, z.length ≤ 1000000) (hR : R.length ≤ 1000) :
  (K E A77_L1 ⟨[(1, .ptr 256 0), (2, .bs 512 0 0), (3, .ptr 768 0), (4, .ptr 1024 0), (5, .ptr 1280 0), (10, .agg IS), (11, .int .i64 1), (17, .vs (zn.map Go.Geo.p1)), (18, .int .i64 zn.length), (19, .int .i64 0)], [], [(1280, .box [.int .i64 x0, .int .i64 x1, .int .i64 x2]), (1024, .box [.int .i64 1]), (768, .box [.bs 769 0 (R).length]), (769, .row 4 (R)), (512, .row 4 []), (256, .box V)], 0⟩).bind B77 = some (.ex .nrm ⟨[(1, .ptr 256 0), (2, .bs 512 0 0), (3, .ptr 768 0), (10, .agg IS), (11, .int .i64 1)], [], [(1280, .box [.int .i64 x0, .int .i64 x1, .int .i64 x2]), (1024, .box [.int .i64 1]), (768, .box [.bs 769 0 (R ++ (inz 1 (fun k => hitB arm x0 x1 x2 (zn.getD k [])) br zn.length).map v4).length]), (769, .row 4 (R ++ (inz 1 (fun k => hitB arm x0 x1 x2 (zn.getD k [])) br zn.length).map v4)), (512, .row 4 []), (256, .box V)], 0⟩) := by
 obtain ⟨l0, l1, l2, l3, l4, l5, hbod, f1, f2, h4⟩ := bod arm hok x0 x1 x2
 have e39 := c39 x0 x1 x2 hx0 hx1 hx2
 have g : ∀ l ∈ [l0, l1, l2, l3, l4, l5], ∀ z ∈ zn, pc E 37 [lkv l, .vs (z.map Go.Geo.c2)] = some (.bool (Go.Geo.FC l z).isSome) := fun l hl z hz => G.c37 l z (by rw [h4 l hl]; decide) (by have := hzp z hz; omega)
 have lp := loop_to (fun S => (K E A77_L1 S).bind B77) (fun k => ⟨[(1, .ptr 256 0), (2, .bs 512 0 0), (3, .ptr 768 0), (4, .ptr 1024 0), (5, .ptr 1280 0), (10, .agg IS), (11, .int .i64 1), (17, .vs (zn.map Go.Geo.p1)), (18, .int .i64 zn.length), (19, .int .i64 k)], [], [(1280, .box [.int .i64 x0, .int .i64 x1, .int .i64 x2]), (1024, .box [.int .i64 1]), (768, .box [.bs 769 0 (R ++ (inz 1 (fun k => hitB arm x0 x1 x2 (zn.getD k [])) br k).map v4).length]), (769, .row 4 (R ++ (inz 1 (fun k => hitB arm x0 x1 x2 (zn.getD k [])) br k).map v4)), (512, .row 4 []), (256, .box V)], 0⟩) zn.length (fun k hk => by
  have hzk : zn[k]? = some (zn.getD k []) := Go.Geo.getD_of [] hk
  have hbk : br[k]? = some (br.getD k false) := Go.Geo.getD_of false (by omega)
  have hmem : zn.getD k [] ∈ zn := List.mem_of_getElem? hzk
  have hin : inz 1 (fun k => hitB arm x0 x1 x2 (zn.getD k [])) br (k + 1) = inz 1 (fun k => hitB arm x0 x1 x2 (zn.getD k [])) br k ++ if (br.getD k false && hitB arm x0 x1 x2 (zn.getD k [])) = true then [(1, 0, (k : Int))].map (fun q => ((3 : Int), q)) else [] := by
   show inz _ _ _ _ ++ _ = _
   rfl
  have hlen := inz_len 1 (fun k => hitB arm x0 x1 x2 (zn.getD k [])) br k
  rw [hin, List.map_append, ← List.append_assoc]
  have hhit : hitB arm x0 x1 x2 (zn.getD k []) = ((Go.Geo.FC l0 (zn.getD k [])).isSome || ((Go.Geo.FC l1 (zn.getD k [])).isSome || ((Go.Geo.FC l2 (zn.getD k [])).isSome || ((Go.Geo.FC l3 (zn.getD k [])).isSome || ((Go.Geo.FC l4 (zn.getD k [])).isSome || (Go.Geo.FC l5 (zn.getD k [])).isSome))))) := by
   unfold hitB; rw [hbod]; simp [Bool.or_assoc]
  have hrow : (if (br.getD k false && hitB arm x0 x1 x2 (zn.getD k [])) = true then [(1, 0, (k : Int))].map (fun q => ((3 : Int), q)) else [] : List Vi).map v4 = if (br.getD k false && hitB arm x0 x1 x2 (zn.getD k [])) = true then [inrow 1 k] else [] := by split <;> rfl
  rw [hrow, hhit]
  exact s77_1 V IS (zn.map Go.Geo.p1) (br.map bb1) zn.length k _ arm x0 x1 x2 _ _ _ _ _ _ (l0.map c2) (l1.map c2) (l2.map c2) (l3.map c2) (l4.map c2) (l5.map c2) ((zn.getD k []).map Go.Geo.c2) _ _ _ _ _ _ (br.getD k false) hl hs hs2 hv ha hk (List.length_map ..) (by rw [List.length_map]; exact hbl) hzl (by rw [List.getElem?_map, hzk]; rfl) (by rw [List.getElem?_map, hbk]; rfl) (by rw [List.length_append, List.length_map]; omega) e39 f1 f2
   (g l0 (by simp) _ hmem) (g l1 (by simp) _ hmem) (g l2 (by simp) _ hmem) (g l3 (by simp) _ hmem) (g l4 (by simp) _ hmem) (g l5 (by simp) _ hmem))
 simp only [Int.natCast_zero, Int.ofNat_zero, show inz 1 (fun k => hitB arm x0 x1 x2 (zn.getD k [])) br 0 = [] from rfl, List.map_nil, List.append_nil] at lp
 refine lp.trans ?_
 unfold B77
 rw [A77_L1_eq]; simp +contextual -implicitDefEqProofs (maxSteps := 2000000) only [go_sem, ↓reduceIte, A77_L1b, Int.lt_irrefl, hs, hs2]
end Go.Proofs.Ytnecdcaaknhgpaa

namespace Go.Proofs.Ytnecdcaaknhgpaa
open Go Go.Zv
abbrev vcl (c : Cel) (w0 w1 w2 w3 w4 w5 i0 i1 i2 i3 i4 i5 : Int) (br : List Bool) : List LV := [.int .i64 c.a.bx, .int .i64 c.a.by_, .int .i64 c.a.l0, .int .i64 c.a.l1, .int .i64 c.a.l2, .int .i64 c.a.w, .int .i64 c.a.lo0, .int .i64 c.a.lo1, .int .i64 c.a.lo2, .int .i64 c.a.hi0, .int .i64 c.a.hi1, .int .i64 c.a.hi2, .int .i64 c.b.bx, .int .i64 c.b.by_, .int .i64 c.b.l0, .int .i64 c.b.l1, .int .i64 c.b.l2, .int .i64 c.b.w, .int .i64 c.b.lo0, .int .i64 c.b.lo1, .int .i64 c.b.lo2, .int .i64 c.b.hi0, .int .i64 c.b.hi1, .int .i64 c.b.hi2, .int .i64 c.h0, .int .i64 c.h1, .int .i64 c.h2, .int .i64 c.h3, .int .i64 c.h4, .int .i64 c.h5, .vs c.fx, .vs c.pl, .vs c.pt, .vs c.bt, .int .i64 c.per, .int .i64 c.lv, .int .i64 c.la, .int .i64 c.lj, .int .i64 c.mv, .int .i64 c.ma, .int .i64 c.mj, .vs c.zn, .int .i64 c.gap, .int .i64 c.slow, .int .i64 w0, .int .i64 w1, .int .i64 w2, .int .i64 w3, .int .i64 w4, .int .i64 w5, .int .i64 i0, .int .i64 i1, .int .i64 i2, .int .i64 i3, .int .i64 i4, .int .i64 i5, .vs (br.map bb1)]
def hits (a : Arm) (x0 x1 x2 : Int) (zn : List (List (Int × Int))) : Nat → Bool := fun k => hitB a x0 x1 x2 (zn.getD k [])
def inT (c : Cl) (i0 i1 i2 i3 i4 i5 : Int) (br : List Bool) : List Vi := inz 0 (hits c.a i0 i1 i2 c.zn) br c.zn.length ++ inz 1 (hits c.b i3 i4 i5 c.zn) br c.zn.length
abbrev Sm (x : Int) : Prop := -1000000000 ≤ x ∧ x ≤ 1000000000
theorem c77 (c : Cl) (ha : OKa c.a) (hb : OKa c.b) (w0 w1 w2 w3 w4 w5 i0 i1 i2 i3 i4 i5 : Int) (s0 : Sm i0) (s1 : Sm i1) (s2 : Sm i2) (s3 : Sm i3) (s4 : Sm i4) (s5 : Sm i5) (br : List Bool) (hbl : br.length = c.zn.length) (hzl : c.zn.length ≤ 16) (hzp : ∀ z ∈ c.zn, z.length ≤ 1000000) :
  pc E 77 [.agg (vcl c.cel w0 w1 w2 w3 w4 w5 i0 i1 i2 i3 i4 i5 br)] = some (.vs ((inT c i0 i1 i2 i3 i4 i5 br).map v4)) := by
 have hV : (vcl c.cel w0 w1 w2 w3 w4 w5 i0 i1 i2 i3 i4 i5 br).length = 57 := rfl
 have hs : ∀ r id, LV.subs r id (vcl c.cel w0 w1 w2 w3 w4 w5 i0 i1 i2 i3 i4 i5 br) = vcl c.cel w0 w1 w2 w3 w4 w5 i0 i1 i2 i3 i4 i5 br := fun _ _ => rfl
 have hr : ∀ s, rowsOf (vcl c.cel w0 w1 w2 w3 w4 w5 i0 i1 i2 i3 i4 i5 br) 257 (vcl c.cel w0 w1 w2 w3 w4 w5 i0 i1 i2 i3 i4 i5 br) s = some (vcl c.cel w0 w1 w2 w3 w4 w5 i0 i1 i2 i3 i4 i5 br, s) := fun _ => rfl
 have h5 : (vcl c.cel w0 w1 w2 w3 w4 w5 i0 i1 i2 i3 i4 i5 br).all LV.one = true := rfl
 have h6 : LV.aparts 256 (vcl c.cel w0 w1 w2 w3 w4 w5 i0 i1 i2 i3 i4 i5 br) = true := rfl
 have hv : (vcl c.cel w0 w1 w2 w3 w4 w5 i0 i1 i2 i3 i4 i5 br)[56]? = some (.vs (br.map bb1)) := rfl
 have hz : (vcl c.cel w0 w1 w2 w3 w4 w5 i0 i1 i2 i3 i4 i5 br)[41]? = some (.vs (c.zn.map Go.Geo.p1)) := rfl
 have hI : ((vcl c.cel w0 w1 w2 w3 w4 w5 i0 i1 i2 i3 i4 i5 br).drop 50).take 6 = [.int .i64 i0, .int .i64 i1, .int .i64 i2, .int .i64 i3, .int .i64 i4, .int .i64 i5] := rfl
 have t0 : (vcl c.cel w0 w1 w2 w3 w4 w5 i0 i1 i2 i3 i4 i5 br).take 12 = avc c.a := rfl
 have t1 : ((vcl c.cel w0 w1 w2 w3 w4 w5 i0 i1 i2 i3 i4 i5 br).drop 12).take 12 = avc c.b := rfl
 have q0 := l77_0 (vcl c.cel w0 w1 w2 w3 w4 w5 i0 i1 i2 i3 i4 i5 br) [.int .i64 i0, .int .i64 i1, .int .i64 i2, .int .i64 i3, .int .i64 i4, .int .i64 i5] c.zn br [] c.a ha i0 i1 i2 s0 s1 s2 hV hs (fun _ _ => rfl) hv t0 hbl (by omega) hzp (by simp)
 have hle := inz_len 0 (fun k => hitB c.a i0 i1 i2 (c.zn.getD k [])) br c.zn.length
 have q1 := l77_1 (vcl c.cel w0 w1 w2 w3 w4 w5 i0 i1 i2 i3 i4 i5 br) [.int .i64 i0, .int .i64 i1, .int .i64 i2, .int .i64 i3, .int .i64 i4, .int .i64 i5] c.zn br ((inz 0 (fun k => hitB c.a i0 i1 i2 (c.zn.getD k [])) br c.zn.length).map v4) c.b hb i3 i4 i5 s3 s4 s5 hV hs (fun _ _ => rfl) hv t1 hbl (by omega) hzp (by rw [List.length_map]; omega)
 unfold inT
 rw [List.map_append]
 show _ = some (LV.vs ((inz 0 (fun k => hitB c.a i0 i1 i2 (c.zn.getD k [])) br c.zn.length).map v4 ++ (inz 1 (fun k => hitB c.b i3 i4 i5 (c.zn.getD k [])) br c.zn.length).map v4))
 unfold B77 at q0 q1
 simp only [List.nil_append, List.length_nil] at q0
 have hzlen : (c.zn.map Go.Geo.p1).length = c.zn.length := List.length_map ..
 have u0 := tk_all ((inz 0 (fun k => hitB c.a i0 i1 i2 (c.zn.getD k [])) br c.zn.length).map v4)
 have u1 := tk_all ((inz 0 (fun k => hitB c.a i0 i1 i2 (c.zn.getD k [])) br c.zn.length).map v4 ++ (inz 1 (fun k => hitB c.b i3 i4 i5 (c.zn.getD k [])) br c.zn.length).map v4)
 generalize (inz 0 (fun k => hitB c.a i0 i1 i2 (c.zn.getD k [])) br c.zn.length).map v4 = R0 at *
 generalize R0 ++ (inz 1 (fun k => hitB c.b i3 i4 i5 (c.zn.getD k [])) br c.zn.length).map v4 = R1 at *
 generalize vcl c.cel w0 w1 w2 w3 w4 w5 i0 i1 i2 i3 i4 i5 br = V at *
 generalize c.zn.map Go.Geo.p1 = zr at *
 rw [pc_eq]; simp +contextual -implicitDefEqProofs (maxSteps := 2000000) only [go_sem, ↓reduceIte, E_77, A77, A77_L2_eq, A77_L2b, hV, hs, hr, h5, h6, hv, hz, hI, hzlen, q0, q1, u0, u1, Nat.le_refl]
def mostI (c : Cl) (br : List Bool) : Int := if br.any id = true then mnI c.lv c.slow else c.lv
def vioT (c : Cl) (w0 w1 w2 w3 w4 w5 i0 i1 i2 i3 i4 i5 : Int) (br : List Bool) (kd : Bool) : List Vi := fastT (mostI c br) w0 w1 w2 w3 w4 w5 i0 i1 i2 i3 i4 i5 ++ nearT kd ++ inT c i0 i1 i2 i3 i4 i5 br ++ unlT br br.length
theorem v4_all (l : List Vi) : ((l.map v4).all fun x => x.length == 4) = true := by simp [v4]
theorem v4_scal (l : List Vi) : ((l.map v4).all fun x => x.all LV.scal) = true := by simp [v4, LV.scal]
theorem frT_len (m i w a k : Int) : (frT m i w a k).length ≤ 1 := by unfold frT; split <;> simp
theorem fastT_len (m w0 w1 w2 w3 w4 w5 i0 i1 i2 i3 i4 i5 : Int) : (fastT m w0 w1 w2 w3 w4 w5 i0 i1 i2 i3 i4 i5).length ≤ 6 := by
 unfold fastT
 have h0 := frT_len m i0 w0 0 0
 have h1 := frT_len m i1 w1 0 1
 have h2 := frT_len m i2 w2 0 2
 have h3 := frT_len m i3 w3 1 0
 have h4 := frT_len m i4 w4 1 1
 have h5 := frT_len m i5 w5 1 2
 simp only [List.length_append]; omega
theorem unlT_len (br : List Bool) : ∀ k, (unlT br k).length ≤ k
 | 0 => by simp [unlT]
 | k + 1 => by
   have := unlT_len br k
   unfold unlT
   rw [List.length_append]
   split <;> simp <;> omega
theorem c41 (c : Cl) (ha : OKa c.a) (hb : OKa c.b) (w0 w1 w2 w3 w4 w5 i0 i1 i2 i3 i4 i5 : Int) (s0 : Sm i0) (s1 : Sm i1) (s2 : Sm i2) (s3 : Sm i3) (s4 : Sm i4) (s5 : Sm i5) (br : List Bool) (hbl : br.length = c.zn.length) (hzl : c.zn.length ≤ 16) (hzp : ∀ z ∈ c.zn, z.length ≤ 1000000) (kd : Bool) (o44 : pc E 44 [.agg (cec c.cel), pos i0 i1 i2 i3 i4 i5] = some (.bool kd)) :
  pc E 41 [.agg (cec c.cel), pos w0 w1 w2 w3 w4 w5, pos i0 i1 i2 i3 i4 i5, .vs (br.map bb1)] = some (.os 4 ((vioT c w0 w1 w2 w3 w4 w5 i0 i1 i2 i3 i4 i5 br kd).map v4)) := by
 have hr : ∀ s, rowsOf (vcl c.cel w0 w1 w2 w3 w4 w5 i0 i1 i2 i3 i4 i5 br) 257 (vcl c.cel w0 w1 w2 w3 w4 w5 i0 i1 i2 i3 i4 i5 br) s = some (vcl c.cel w0 w1 w2 w3 w4 w5 i0 i1 i2 i3 i4 i5 br, s) := fun _ => rfl
 have p1 := c75 (vcl c.cel w0 w1 w2 w3 w4 w5 i0 i1 i2 i3 i4 i5 br) br (by omega) c.lv c.slow w0 w1 w2 w3 w4 w5 i0 i1 i2 i3 i4 i5 rfl rfl rfl rfl rfl hr (fun _ _ => rfl) rfl rfl rfl rfl rfl rfl rfl rfl
 have p2 := c76 (vcl c.cel w0 w1 w2 w3 w4 w5 i0 i1 i2 i3 i4 i5 br) kd (cec c.cel) [.int .i64 i0, .int .i64 i1, .int .i64 i2, .int .i64 i3, .int .i64 i4, .int .i64 i5] rfl rfl rfl o44 rfl rfl (fun _ => rfl) (fun _ => rfl) rfl rfl hr (fun _ _ => rfl) rfl rfl
 have p3 := c77 c ha hb w0 w1 w2 w3 w4 w5 i0 i1 i2 i3 i4 i5 s0 s1 s2 s3 s4 s5 br hbl hzl hzp
 have p4 := c78 (vcl c.cel w0 w1 w2 w3 w4 w5 i0 i1 i2 i3 i4 i5 br) br (by omega) rfl rfl hr (fun _ _ => rfl) rfl rfl
 rw [fastR_T] at p1
 rw [near_T] at p2
 rw [unl_T] at p4
 unfold vioT
 simp only [List.map_append]
 have hm : (if br.any id = true then mnI c.lv c.slow else c.lv) = mostI c br := rfl
 rw [hm] at p1
 have b1 := fastT_len (mostI c br) w0 w1 w2 w3 w4 w5 i0 i1 i2 i3 i4 i5
 have b2 : (nearT kd).length ≤ 1 := by unfold nearT; cases kd <;> simp
 have b3 : (inT c i0 i1 i2 i3 i4 i5 br).length ≤ 40 := by
  have h0 := inz_len 0 (hits c.a i0 i1 i2 c.zn) br c.zn.length
  have h1 := inz_len 1 (hits c.b i3 i4 i5 c.zn) br c.zn.length
  unfold inT; rw [List.length_append]; omega
 have b4 := unlT_len br br.length
 have a1 := v4_all (fastT (mostI c br) w0 w1 w2 w3 w4 w5 i0 i1 i2 i3 i4 i5)
 have a2 := v4_all (nearT kd)
 have a3 := v4_all (inT c i0 i1 i2 i3 i4 i5 br)
 have a4 := v4_all (unlT br br.length)
 have c1 := v4_scal (fastT (mostI c br) w0 w1 w2 w3 w4 w5 i0 i1 i2 i3 i4 i5)
 have c2_ := v4_scal (nearT kd)
 have c3 := v4_scal (inT c i0 i1 i2 i3 i4 i5 br)
 have c4 := v4_scal (unlT br br.length)
 have d1 : ((fastT (mostI c br) w0 w1 w2 w3 w4 w5 i0 i1 i2 i3 i4 i5).map v4).length ≤ 6 := by rw [List.length_map]; exact b1
 have d2 : ((nearT kd).map v4).length ≤ 1 := by rw [List.length_map]; exact b2
 have d3 : ((inT c i0 i1 i2 i3 i4 i5 br).map v4).length ≤ 40 := by rw [List.length_map]; exact b3
 have d4 : ((unlT br br.length).map v4).length ≤ 16 := by rw [List.length_map]; omega
 generalize (fastT (mostI c br) w0 w1 w2 w3 w4 w5 i0 i1 i2 i3 i4 i5).map v4 = R1 at *
 generalize (nearT kd).map v4 = R2 at *
 generalize (inT c i0 i1 i2 i3 i4 i5 br).map v4 = R3 at *
 generalize (unlT br br.length).map v4 = R4 at *
 have t1 := tk_all R1
 have t2 := tk_all R2
 have t3 := tk_all R3
 have t4 := tk_all R4
 have t12 : (R1 ++ R2).take (R1.length + R2.length) = R1 ++ R2 := List.take_of_length_le (by simp)
 have t13 : (R1 ++ R2 ++ R3).take (R1.length + R2.length + R3.length) = R1 ++ R2 ++ R3 := List.take_of_length_le (by simp only [List.length_append]; omega)
 have t14 : (R1 ++ R2 ++ R3 ++ R4).take (R1.length + R2.length + R3.length + R4.length) = R1 ++ R2 ++ R3 ++ R4 := List.take_of_length_le (by simp only [List.length_append]; omega)
 have g1 : R1.length ≤ 1000000000 := by omega
 have g2 : R1.length + R2.length ≤ 1000000000 := by omega
 have g3 : R1.length + R2.length + R3.length ≤ 1000000000 := by omega
 have g4 : R1.length + R2.length + R3.length + R4.length ≤ 1000000000 := by omega
 unfold vcl at p1 p2 p3 p4
 unfold cec
 rw [pc_eq]; simp +contextual -implicitDefEqProofs (maxSteps := 2000000) only [go_sem, ↓reduceIte, E_41, A41, A41_L0_eq, A41_L0b, p1, p2, p3, p4, a1, a2, a3, a4, c1, c2_, c3, c4, t1, t2, t3, t4, t12, t13, t14, g1, g2, g3, g4, List.length_append, Nat.le_refl]
end Go.Proofs.Ytnecdcaaknhgpaa

namespace Go.Proofs.Ytnecdcaaknhgpaa
open Go Go.Zv
abbrev FR44 (a : Arm) (x0 x1 x2 : Int) : Env := [(2, .ptr 512 0), (3, .ptr 768 0), (4, .ptr 1024 0), (12, .fn (Fn.func 106) [] [.fp [.int .i64 x0, .int .i64 x1, .int .i64 x2], .fp (avc a)])]
abbrev O44 (c : Cel) (x0 x1 x2 y0 y1 y2 : Int) (ok : Bool) : Heap := [(1024, .box [.bool ok]), (768, .box [.int .i64 x0, .int .i64 x1, .int .i64 x2, .int .i64 y0, .int .i64 y1, .int .i64 y2]), (512, .box (cec c))]
abbrev FRi (c : Cel) (y0 y1 y2 : Int) : Env := [(2, .ptr 512 0), (4, .ptr 1024 0), (5, .ptr 2098432 0), (19, .fn (Fn.func 106) [] [.fp [.int .i64 y0, .int .i64 y1, .int .i64 y2], .fp (avc c.b)])]
abbrev FM (a : Arm) (i j : Int) (P p0 p1 p2 : List (List LV)) : Env := [(30, .vs P), (29, .yl 1024000), (0, .yl 1024000), (2, .fp (avc a)), (9, .vs P), (17, .bs 1052928 0 2), (18, .int .i64 2), (19, .int .i64 i), (25, .agg [.vs p0, .vs p1, .vs p2]), (26, .int .i64 j)]
abbrev Fin (c : Cel) (y0 y1 y2 : Int) (F : List Env) : List Env := FRi c y0 y1 y2 :: [(0, .yl 3121153)] :: [(0, .yl 1024000)] :: F
abbrev Oin (c : Cel) (x0 x1 x2 y0 y1 y2 u0 u1 u2 v0 v1 v2 a0 a1 a2 b0 b1 b2 : Int) (P : List (List LV)) : Heap :=
 (3150080, .row 3 [[.int .i64 u0, .int .i64 u1, .int .i64 u2], [.int .i64 v0, .int .i64 v1, .int .i64 v2]]) :: (3121153, .loop (FRi c y0 y1 y2) [20] A44_R0a A44_R0b .ready .nrm) :: (2098432, .box [.vs P]) :: (2098433, .row 2 []) ::
 (1052928, .row 3 [[.int .i64 a0, .int .i64 a1, .int .i64 a2], [.int .i64 b0, .int .i64 b1, .int .i64 b2]]) :: (1024000, .loop (FR44 c.a x0 x1 x2) [13] A44_R1a A44_R1b .busy .nrm) :: O44 c x0 x1 x2 y0 y1 y2 false
theorem R1a_K (S : St) : K E A44_R1a S = K E (.reg none [
  ⟨some 5, .alloc [.nils 2], none, true⟩,
  ⟨none, .store 1 (.t 5) (.t 13), none, true⟩] (some [2, 3, 4, 5]) []) S := rfl
theorem R1b_K (S : St) : K E A44_R1b S = K E ((.block 1 (
 (.seq (
 .reg none [
  ⟨some 14, .fad 0 (.t 2), none, true⟩,
  ⟨some 15, .iaa 2 12 (.t 14) (.c (.int .i64 1)), none, true⟩,
  ⟨some 16, .load true 12 (.t 15), none, true⟩,
  ⟨some 17, .iaa 2 3 (.t 3) (.c (.int .i64 1)), none, true⟩,
  ⟨some 18, .load true 3 (.t 17), none, true⟩,
  ⟨some 19, .call 79 [.t 16, .t 18], none, true⟩] (some [2, 4, 5, 19]) [3]) (
 (.block 2 (
 A44_R0) (some []) [6, 23])))) (some []) [6, 19, 23])) S := rfl
theorem R0a_K (S : St) : K E A44_R0a S = K E (.reg none [
   ⟨some 6, .as (.t 20), none, true⟩] (some [2, 4, 5, 6]) []) S := rfl
theorem R0b_K (S : St) : K E A44_R0b S = K E ((.block 3 (
  (.seq (
  .reg (some [.dr [25] [], .dr [21, 25] [], .dr [25] [], .dr [21, 23] [], .dr [21, 23] [], .dr [21, 23] [], .free]) [
   ⟨some 21, .load false 1 (.t 5), none, true⟩,
   ⟨some 22, .mv (.t 6), none, true⟩,
   ⟨some 23, .call 80 [.t 21, .t 22], none, true⟩,
   ⟨some 24, .fad 42 (.t 2), none, true⟩,
   ⟨some 25, .load false 1 (.t 24), none, true⟩,
   ⟨some 26, .bin .mul (.t 25) (.c (.int .i64 4394000)), none, true⟩,
   ⟨some 27, .bin .lss (.t 23) (.t 26), none, true⟩] (some [4, 27]) [2, 5]) (
  (.cond (.t 27) (
   (.seq (
   .reg none [
    ⟨none, .store 1 (.t 4) (.c (.bool false)), none, true⟩] (some []) []) (
   .ret))) (
   .skip))))) (some []) [23])) S := rfl
theorem inn (c : Cel) (x0 x1 x2 y0 y1 y2 a0 a1 a2 b0 b1 b2 u0 u1 u2 v0 v1 v2 : Int) (P Q0 Q1 Q2 Q3 Q4 Q5 : List (List LV)) (i j : Int) (p0 p1 p2 : List (List LV))
 (f3 : pc E 20 [av c.b, jv u0 u1 u2] = some (.agg [.vs Q0, .vs Q1, .vs Q2])) (f4 : pc E 20 [av c.b, jv v0 v1 v2] = some (.agg [.vs Q3, .vs Q4, .vs Q5]))
 (g0 g1 g2 g3 g4 g5 : Int) (e0 : pc E 80 [.vs P, .vs Q0] = some (.int .i64 g0)) (e1 : pc E 80 [.vs P, .vs Q1] = some (.int .i64 g1)) (e2 : pc E 80 [.vs P, .vs Q2] = some (.int .i64 g2)) (e3 : pc E 80 [.vs P, .vs Q3] = some (.int .i64 g3)) (e4 : pc E 80 [.vs P, .vs Q4] = some (.int .i64 g4)) (e5 : pc E 80 [.vs P, .vs Q5] = some (.int .i64 g5))
 (W : Int) (hw : IntKind.i64.wrap (c.gap * 4394000) = W) (b : Bool) (hb : b = (decide (g0 < W) || (decide (g1 < W) || (decide (g2 < W) || (decide (g3 < W) || (decide (g4 < W) || decide (g5 < W))))))) :
 ((((((((K E A106_L1 ⟨[(0, .yl 3121153), (2, .fp (avc c.b)), (17, .bs 3150080 0 2), (18, .int .i64 2), (19, .int .i64 0)], Fin c y0 y1 y2 [FM c.a i j P p0 p1 p2, FR44 c.a x0 x1 x2, [(0, .yl 1024000)]], Oin c x0 x1 x2 y0 y1 y2 u0 u1 u2 v0 v1 v2 a0 a1 a2 b0 b1 b2 P, 3⟩).bind (blockR 0 (some []) [7, 9, 25, 31])).bind (fnEnd [])).bind (afterIn 2)).bind (endRfR 3121153)).bind (blockR 2 (some []) [6, 23])).bind (blockR 1 (some []) [6, 19, 23])).bind (rndBody 1024000)).bind (afterIn 1) =
   some (.bool (!b), ⟨FM c.a i j P p0 p1 p2, [FR44 c.a x0 x1 x2, [(0, .yl 1024000)]], (1052928, .row 3 [[.int .i64 a0, .int .i64 a1, .int .i64 a2], [.int .i64 b0, .int .i64 b1, .int .i64 b2]]) :: (1024000, .loop (FR44 c.a x0 x1 x2) [13] A44_R1a A44_R1b (if b then .done else .ready) (if b then .ret else .nrm)) :: O44 c x0 x1 x2 y0 y1 y2 false, 1⟩) := by
 by_cases n0 : g0 < W
 ·simp only [show b = true by rw [hb]; simp [n0]]
  simp +contextual -implicitDefEqProofs (maxSteps := 2000000) only [go_sem, ↓reduceIte, A106_L1_eq, O44, A106_L1b, A106_L0_eq, A106_L0b, R1a_K, R1b_K, A44_R0, R0a_K, R0b_K, f3, f4, e0, e1, e2, e3, e4, e5, hw, n0]
 by_cases n1 : g1 < W
 ·simp only [show b = true by rw [hb]; simp [n1]]
  simp +contextual -implicitDefEqProofs (maxSteps := 2000000) only [go_sem, ↓reduceIte, A106_L1_eq, O44, A106_L1b, A106_L0_eq, A106_L0b, R1a_K, R1b_K, A44_R0, R0a_K, R0b_K, f3, f4, e0, e1, e2, e3, e4, e5, hw, n0, n1]
 by_cases n2 : g2 < W
 ·simp only [show b = true by rw [hb]; simp [n2]]
  simp +contextual -implicitDefEqProofs (maxSteps := 2000000) only [go_sem, ↓reduceIte, A106_L1_eq, O44, A106_L1b, A106_L0_eq, A106_L0b, R1a_K, R1b_K, A44_R0, R0a_K, R0b_K, f3, f4, e0, e1, e2, e3, e4, e5, hw, n0, n1, n2]
 by_cases n3 : g3 < W
 ·simp only [show b = true by rw [hb]; simp [n3]]
  simp +contextual -implicitDefEqProofs (maxSteps := 2000000) only [go_sem, ↓reduceIte, A106_L1_eq, O44, A106_L1b, A106_L0_eq, A106_L0b, R1a_K, R1b_K, A44_R0, R0a_K, R0b_K, f3, f4, e0, e1, e2, e3, e4, e5, hw, n0, n1, n2, n3]
 by_cases n4 : g4 < W
 ·simp only [show b = true by rw [hb]; simp [n4]]
  simp +contextual -implicitDefEqProofs (maxSteps := 2000000) only [go_sem, ↓reduceIte, A106_L1_eq, O44, A106_L1b, A106_L0_eq, A106_L0b, R1a_K, R1b_K, A44_R0, R0a_K, R0b_K, f3, f4, e0, e1, e2, e3, e4, e5, hw, n0, n1, n2, n3, n4]
 by_cases n5 : g5 < W
 ·simp only [show b = true by rw [hb]; simp [n5]]
  simp +contextual -implicitDefEqProofs (maxSteps := 2000000) only [go_sem, ↓reduceIte, A106_L1_eq, O44, A106_L1b, A106_L0_eq, A106_L0b, R1a_K, R1b_K, A44_R0, R0a_K, R0b_K, f3, f4, e0, e1, e2, e3, e4, e5, hw, n0, n1, n2, n3, n4, n5]
 have hbf : b = false := by rw [hb]; simp [n0, n1, n2, n3, n4, n5]
 simp only [hbf]
 simp +contextual -implicitDefEqProofs (maxSteps := 2000000) only [go_sem, ↓reduceIte, A106_L1_eq, O44, A106_L1b, A106_L0_eq, A106_L0b, R1a_K, R1b_K, A44_R0, R0a_K, R0b_K, f3, f4, e0, e1, e2, e3, e4, e5, hw, n0, n1, n2, n3, n4, n5]
end Go.Proofs.Ytnecdcaaknhgpaa

namespace Go.Proofs.Ytnecdcaaknhgpaa
open Go Go.Zv
def nrB (W : Int) (ms : List (List (Int × Int))) (l : List (Int × Int)) : Bool := ms.any (fun m => decide (G.gapI l m < W))
theorem c80 (l m : List (Int × Int)) (hl : l.length < 9223372036854775808) (hm : m.length < 9223372036854775808) : pc E 80 [lkv l, lkv m] = some (.int .i64 (G.gapI l m)) := G.c80 l m hl hm
theorem out2 (c : Cel) (x0 x1 x2 y0 y1 y2 a0 a1 a2 b0 b1 b2 u0 u1 u2 v0 v1 v2 : Int) (l0 l1 l2 l3 l4 l5 m0 m1 m2 m3 m4 m5 : List (Int × Int))
 (hl : ∀ l ∈ [l0, l1, l2, l3, l4, l5], l.length < 9223372036854775808) (hm : ∀ m ∈ [m0, m1, m2, m3, m4, m5], m.length < 9223372036854775808)
 (f1 : pc E 20 [av c.a, jv a0 a1 a2] = some (.agg [lkv l0, lkv l1, lkv l2])) (f2 : pc E 20 [av c.a, jv b0 b1 b2] = some (.agg [lkv l3, lkv l4, lkv l5]))
 (f3 : pc E 20 [av c.b, jv u0 u1 u2] = some (.agg [lkv m0, lkv m1, lkv m2])) (f4 : pc E 20 [av c.b, jv v0 v1 v2] = some (.agg [lkv m3, lkv m4, lkv m5]))
 (e39 : pc E 39 [jv y0 y1 y2] = some (.tup [jv u0 u1 u2, jv v0 v1 v2])) (W : Int) (hw : IntKind.i64.wrap (c.gap * 4394000) = W) : (((((K E A106_L1 ⟨[(0, .yl 1024000), (2, .fp (avc c.a)), (17, .bs 1052928 0 2), (18, .int .i64 2), (19, .int .i64 2)], [FR44 c.a x0 x1 x2, [(0, .yl 1024000)]], (1052928, .row 3 [[.int .i64 a0, .int .i64 a1, .int .i64 a2], [.int .i64 b0, .int .i64 b1, .int .i64 b2]]) :: (1024000, .loop (FR44 c.a x0 x1 x2) [13] A44_R1a A44_R1b .ready .nrm) :: O44 c x0 x1 x2 y0 y1 y2 false, 1⟩).bind (blockR 0 (some []) [7, 9, 25, 31])).bind (fnEnd [])).bind (afterIn 0)).bind (endRfR 1024000)).bind (blockR 0 (some [4]) [5, 6, 19, 23]) = some (.ex (if false then .ret else .nrm) ⟨if false then FR44 c.a x0 x1 x2 else [(4, .ptr 1024 0)], [], O44 c x0 x1 x2 y0 y1 y2 false, 0⟩) := by
 rw [A106_L1_eq]
 simp +contextual -implicitDefEqProofs (maxSteps := 2000000) only [go_sem, ↓reduceIte, O44, A106_L1b]
theorem out1 (c : Cel) (x0 x1 x2 y0 y1 y2 a0 a1 a2 b0 b1 b2 u0 u1 u2 v0 v1 v2 : Int) (l0 l1 l2 l3 l4 l5 m0 m1 m2 m3 m4 m5 : List (Int × Int))
 (hl : ∀ l ∈ [l0, l1, l2, l3, l4, l5], l.length < 9223372036854775808) (hm : ∀ m ∈ [m0, m1, m2, m3, m4, m5], m.length < 9223372036854775808)
 (f1 : pc E 20 [av c.a, jv a0 a1 a2] = some (.agg [lkv l0, lkv l1, lkv l2])) (f2 : pc E 20 [av c.a, jv b0 b1 b2] = some (.agg [lkv l3, lkv l4, lkv l5]))
 (f3 : pc E 20 [av c.b, jv u0 u1 u2] = some (.agg [lkv m0, lkv m1, lkv m2])) (f4 : pc E 20 [av c.b, jv v0 v1 v2] = some (.agg [lkv m3, lkv m4, lkv m5]))
 (e39 : pc E 39 [jv y0 y1 y2] = some (.tup [jv u0 u1 u2, jv v0 v1 v2])) (W : Int) (hw : IntKind.i64.wrap (c.gap * 4394000) = W) (b : Bool) (hb : b = (nrB W [m0, m1, m2, m3, m4, m5] l3 || nrB W [m0, m1, m2, m3, m4, m5] l4 || nrB W [m0, m1, m2, m3, m4, m5] l5)) :
 (((((K E A106_L1 ⟨[(0, .yl 1024000), (2, .fp (avc c.a)), (17, .bs 1052928 0 2), (18, .int .i64 2), (19, .int .i64 1)], [FR44 c.a x0 x1 x2, [(0, .yl 1024000)]], (1052928, .row 3 [[.int .i64 a0, .int .i64 a1, .int .i64 a2], [.int .i64 b0, .int .i64 b1, .int .i64 b2]]) :: (1024000, .loop (FR44 c.a x0 x1 x2) [13] A44_R1a A44_R1b .ready .nrm) :: O44 c x0 x1 x2 y0 y1 y2 false, 1⟩).bind (blockR 0 (some []) [7, 9, 25, 31])).bind (fnEnd [])).bind (afterIn 0)).bind (endRfR 1024000)).bind (blockR 0 (some [4]) [5, 6, 19, 23]) =
   some (.ex (if b then .ret else .nrm) ⟨if b then FR44 c.a x0 x1 x2 else [(4, .ptr 1024 0)], [], O44 c x0 x1 x2 y0 y1 y2 false, 0⟩) := by
 have h79 := c79 c.b y0 y1 y2
 have i3 := inn c x0 x1 x2 y0 y1 y2 a0 a1 a2 b0 b1 b2 u0 u1 u2 v0 v1 v2 (l3.map c2) (m0.map c2) (m1.map c2) (m2.map c2) (m3.map c2) (m4.map c2) (m5.map c2) 1 0 (l3.map c2) (l4.map c2) (l5.map c2) f3 f4 _ _ _ _ _ _ (c80 l3 m0 (hl _ (by simp)) (hm _ (by simp))) (c80 l3 m1 (hl _ (by simp)) (hm _ (by simp))) (c80 l3 m2 (hl _ (by simp)) (hm _ (by simp))) (c80 l3 m3 (hl _ (by simp)) (hm _ (by simp))) (c80 l3 m4 (hl _ (by simp)) (hm _ (by simp))) (c80 l3 m5 (hl _ (by simp)) (hm _ (by simp))) W hw (nrB W [m0, m1, m2, m3, m4, m5] l3) (by simp [nrB])
 have i4 := inn c x0 x1 x2 y0 y1 y2 a0 a1 a2 b0 b1 b2 u0 u1 u2 v0 v1 v2 (l4.map c2) (m0.map c2) (m1.map c2) (m2.map c2) (m3.map c2) (m4.map c2) (m5.map c2) 1 1 (l3.map c2) (l4.map c2) (l5.map c2) f3 f4 _ _ _ _ _ _ (c80 l4 m0 (hl _ (by simp)) (hm _ (by simp))) (c80 l4 m1 (hl _ (by simp)) (hm _ (by simp))) (c80 l4 m2 (hl _ (by simp)) (hm _ (by simp))) (c80 l4 m3 (hl _ (by simp)) (hm _ (by simp))) (c80 l4 m4 (hl _ (by simp)) (hm _ (by simp))) (c80 l4 m5 (hl _ (by simp)) (hm _ (by simp))) W hw (nrB W [m0, m1, m2, m3, m4, m5] l4) (by simp [nrB])
 have i5 := inn c x0 x1 x2 y0 y1 y2 a0 a1 a2 b0 b1 b2 u0 u1 u2 v0 v1 v2 (l5.map c2) (m0.map c2) (m1.map c2) (m2.map c2) (m3.map c2) (m4.map c2) (m5.map c2) 1 2 (l3.map c2) (l4.map c2) (l5.map c2) f3 f4 _ _ _ _ _ _ (c80 l5 m0 (hl _ (by simp)) (hm _ (by simp))) (c80 l5 m1 (hl _ (by simp)) (hm _ (by simp))) (c80 l5 m2 (hl _ (by simp)) (hm _ (by simp))) (c80 l5 m3 (hl _ (by simp)) (hm _ (by simp))) (c80 l5 m4 (hl _ (by simp)) (hm _ (by simp))) (c80 l5 m5 (hl _ (by simp)) (hm _ (by simp))) W hw (nrB W [m0, m1, m2, m3, m4, m5] l5) (by simp [nrB])
 have nx := out2 c x0 x1 x2 y0 y1 y2 a0 a1 a2 b0 b1 b2 u0 u1 u2 v0 v1 v2 l0 l1 l2 l3 l4 l5 m0 m1 m2 m3 m4 m5 hl hm f1 f2 f3 f4 e39 W hw
 by_cases n3 : nrB W [m0, m1, m2, m3, m4, m5] l3 = true
 ·have hbt : b = true := by rw [hb]; simp [n3]
  rw [n3] at i3
  simp only [Bool.not_true, Bool.not_false, ↓reduceIte, Bool.false_eq_true] at i3
  simp only [hbt]
  rw [A106_L1_eq]
  simp +contextual -implicitDefEqProofs (maxSteps := 2000000) only [go_sem, ↓reduceIte, O44, FR44, A106_L1b, A106_L0_eq, A106_L0b, R1a_K, R1b_K, A44_R1, A44_R0, R0a_K, R0b_K, E_106, A106, h79, e39, f2, i3]
 rw [Bool.not_eq_true] at n3
 rw [n3] at i3
 simp only [Bool.not_true, Bool.not_false, ↓reduceIte, Bool.false_eq_true] at i3
 by_cases n4 : nrB W [m0, m1, m2, m3, m4, m5] l4 = true
 ·have hbt : b = true := by rw [hb]; simp [n3, n4]
  rw [n4] at i4
  simp only [Bool.not_true, Bool.not_false, ↓reduceIte, Bool.false_eq_true] at i4
  simp only [hbt]
  rw [A106_L1_eq]
  simp +contextual -implicitDefEqProofs (maxSteps := 2000000) only [go_sem, ↓reduceIte, O44, FR44, A106_L1b, A106_L0_eq, A106_L0b, R1a_K, R1b_K, A44_R1, A44_R0, R0a_K, R0b_K, E_106, A106, h79, e39, f2, i3, i4]
 rw [Bool.not_eq_true] at n4
 rw [n4] at i4
 simp only [Bool.not_true, Bool.not_false, ↓reduceIte, Bool.false_eq_true] at i4
 by_cases n5 : nrB W [m0, m1, m2, m3, m4, m5] l5 = true
 ·have hbt : b = true := by rw [hb]; simp [n3, n4, n5]
  rw [n5] at i5
  simp only [Bool.not_true, Bool.not_false, ↓reduceIte, Bool.false_eq_true] at i5
  simp only [hbt]
  rw [A106_L1_eq]
  simp +contextual -implicitDefEqProofs (maxSteps := 2000000) only [go_sem, ↓reduceIte, O44, FR44, A106_L1b, A106_L0_eq, A106_L0b, R1a_K, R1b_K, A44_R1, A44_R0, R0a_K, R0b_K, E_106, A106, h79, e39, f2, i3, i4, i5]
 rw [Bool.not_eq_true] at n5
 rw [n5] at i5
 simp only [Bool.not_true, Bool.not_false, ↓reduceIte, Bool.false_eq_true] at i5
 have hbf : b = false := by rw [hb]; simp [n3, n4, n5]
 simp only [hbf]
 rw [A106_L1_eq]
 simp +contextual -implicitDefEqProofs (maxSteps := 2000000) only [go_sem, ↓reduceIte, O44, FR44, A106_L1b, A106_L0_eq, A106_L0b, R1a_K, R1b_K, A44_R1, A44_R0, R0a_K, R0b_K, E_106, A106, h79, e39, f2, i3, i4, i5, nx]
theorem out0 (c : Cel) (x0 x1 x2 y0 y1 y2 a0 a1 a2 b0 b1 b2 u0 u1 u2 v0 v1 v2 : Int) (l0 l1 l2 l3 l4 l5 m0 m1 m2 m3 m4 m5 : List (Int × Int))
 (hl : ∀ l ∈ [l0, l1, l2, l3, l4, l5], l.length < 9223372036854775808) (hm : ∀ m ∈ [m0, m1, m2, m3, m4, m5], m.length < 9223372036854775808)
 (f1 : pc E 20 [av c.a, jv a0 a1 a2] = some (.agg [lkv l0, lkv l1, lkv l2])) (f2 : pc E 20 [av c.a, jv b0 b1 b2] = some (.agg [lkv l3, lkv l4, lkv l5]))
 (f3 : pc E 20 [av c.b, jv u0 u1 u2] = some (.agg [lkv m0, lkv m1, lkv m2])) (f4 : pc E 20 [av c.b, jv v0 v1 v2] = some (.agg [lkv m3, lkv m4, lkv m5]))
 (e39 : pc E 39 [jv y0 y1 y2] = some (.tup [jv u0 u1 u2, jv v0 v1 v2])) (W : Int) (hw : IntKind.i64.wrap (c.gap * 4394000) = W) (bq : Bool) (hb1 : bq = (nrB W [m0, m1, m2, m3, m4, m5] l3 || nrB W [m0, m1, m2, m3, m4, m5] l4 || nrB W [m0, m1, m2, m3, m4, m5] l5)) (b : Bool) (hb : b = ((nrB W [m0, m1, m2, m3, m4, m5] l0 || nrB W [m0, m1, m2, m3, m4, m5] l1 || nrB W [m0, m1, m2, m3, m4, m5] l2) || bq)) :
 (((((K E A106_L1 ⟨[(0, .yl 1024000), (2, .fp (avc c.a)), (17, .bs 1052928 0 2), (18, .int .i64 2), (19, .int .i64 0)], [FR44 c.a x0 x1 x2, [(0, .yl 1024000)]], (1052928, .row 3 [[.int .i64 a0, .int .i64 a1, .int .i64 a2], [.int .i64 b0, .int .i64 b1, .int .i64 b2]]) :: (1024000, .loop (FR44 c.a x0 x1 x2) [13] A44_R1a A44_R1b .ready .nrm) :: O44 c x0 x1 x2 y0 y1 y2 false, 1⟩).bind (blockR 0 (some []) [7, 9, 25, 31])).bind (fnEnd [])).bind (afterIn 0)).bind (endRfR 1024000)).bind (blockR 0 (some [4]) [5, 6, 19, 23]) =
   some (.ex (if b then .ret else .nrm) ⟨if b then FR44 c.a x0 x1 x2 else [(4, .ptr 1024 0)], [], O44 c x0 x1 x2 y0 y1 y2 false, 0⟩) := by
 have h79 := c79 c.b y0 y1 y2
 have i0 := inn c x0 x1 x2 y0 y1 y2 a0 a1 a2 b0 b1 b2 u0 u1 u2 v0 v1 v2 (l0.map c2) (m0.map c2) (m1.map c2) (m2.map c2) (m3.map c2) (m4.map c2) (m5.map c2) 0 0 (l0.map c2) (l1.map c2) (l2.map c2) f3 f4 _ _ _ _ _ _ (c80 l0 m0 (hl _ (by simp)) (hm _ (by simp))) (c80 l0 m1 (hl _ (by simp)) (hm _ (by simp))) (c80 l0 m2 (hl _ (by simp)) (hm _ (by simp))) (c80 l0 m3 (hl _ (by simp)) (hm _ (by simp))) (c80 l0 m4 (hl _ (by simp)) (hm _ (by simp))) (c80 l0 m5 (hl _ (by simp)) (hm _ (by simp))) W hw (nrB W [m0, m1, m2, m3, m4, m5] l0) (by simp [nrB])
 have i1 := inn c x0 x1 x2 y0 y1 y2 a0 a1 a2 b0 b1 b2 u0 u1 u2 v0 v1 v2 (l1.map c2) (m0.map c2) (m1.map c2) (m2.map c2) (m3.map c2) (m4.map c2) (m5.map c2) 0 1 (l0.map c2) (l1.map c2) (l2.map c2) f3 f4 _ _ _ _ _ _ (c80 l1 m0 (hl _ (by simp)) (hm _ (by simp))) (c80 l1 m1 (hl _ (by simp)) (hm _ (by simp))) (c80 l1 m2 (hl _ (by simp)) (hm _ (by simp))) (c80 l1 m3 (hl _ (by simp)) (hm _ (by simp))) (c80 l1 m4 (hl _ (by simp)) (hm _ (by simp))) (c80 l1 m5 (hl _ (by simp)) (hm _ (by simp))) W hw (nrB W [m0, m1, m2, m3, m4, m5] l1) (by simp [nrB])
 have i2 := inn c x0 x1 x2 y0 y1 y2 a0 a1 a2 b0 b1 b2 u0 u1 u2 v0 v1 v2 (l2.map c2) (m0.map c2) (m1.map c2) (m2.map c2) (m3.map c2) (m4.map c2) (m5.map c2) 0 2 (l0.map c2) (l1.map c2) (l2.map c2) f3 f4 _ _ _ _ _ _ (c80 l2 m0 (hl _ (by simp)) (hm _ (by simp))) (c80 l2 m1 (hl _ (by simp)) (hm _ (by simp))) (c80 l2 m2 (hl _ (by simp)) (hm _ (by simp))) (c80 l2 m3 (hl _ (by simp)) (hm _ (by simp))) (c80 l2 m4 (hl _ (by simp)) (hm _ (by simp))) (c80 l2 m5 (hl _ (by simp)) (hm _ (by simp))) W hw (nrB W [m0, m1, m2, m3, m4, m5] l2) (by simp [nrB])
 have nx := out1 c x0 x1 x2 y0 y1 y2 a0 a1 a2 b0 b1 b2 u0 u1 u2 v0 v1 v2 l0 l1 l2 l3 l4 l5 m0 m1 m2 m3 m4 m5 hl hm f1 f2 f3 f4 e39 W hw bq hb1
 by_cases n0 : nrB W [m0, m1, m2, m3, m4, m5] l0 = true
 ·have hbt : b = true := by rw [hb]; simp [n0]
  rw [n0] at i0
  simp only [Bool.not_true, Bool.not_false, ↓reduceIte, Bool.false_eq_true] at i0
  simp only [hbt]
  rw [A106_L1_eq]
  simp +contextual -implicitDefEqProofs (maxSteps := 2000000) only [go_sem, ↓reduceIte, O44, FR44, A106_L1b, A106_L0_eq, A106_L0b, R1a_K, R1b_K, A44_R1, A44_R0, R0a_K, R0b_K, E_106, A106, h79, e39, f1, i0]
 rw [Bool.not_eq_true] at n0
 rw [n0] at i0
 simp only [Bool.not_true, Bool.not_false, ↓reduceIte, Bool.false_eq_true] at i0
 by_cases n1 : nrB W [m0, m1, m2, m3, m4, m5] l1 = true
 ·have hbt : b = true := by rw [hb]; simp [n0, n1]
  rw [n1] at i1
  simp only [Bool.not_true, Bool.not_false, ↓reduceIte, Bool.false_eq_true] at i1
  simp only [hbt]
  rw [A106_L1_eq]
  simp +contextual -implicitDefEqProofs (maxSteps := 2000000) only [go_sem, ↓reduceIte, O44, FR44, A106_L1b, A106_L0_eq, A106_L0b, R1a_K, R1b_K, A44_R1, A44_R0, R0a_K, R0b_K, E_106, A106, h79, e39, f1, i0, i1]
 rw [Bool.not_eq_true] at n1
 rw [n1] at i1
 simp only [Bool.not_true, Bool.not_false, ↓reduceIte, Bool.false_eq_true] at i1
 by_cases n2 : nrB W [m0, m1, m2, m3, m4, m5] l2 = true
 ·have hbt : b = true := by rw [hb]; simp [n0, n1, n2]
  rw [n2] at i2
  simp only [Bool.not_true, Bool.not_false, ↓reduceIte, Bool.false_eq_true] at i2
  simp only [hbt]
  rw [A106_L1_eq]
  simp +contextual -implicitDefEqProofs (maxSteps := 2000000) only [go_sem, ↓reduceIte, O44, FR44, A106_L1b, A106_L0_eq, A106_L0b, R1a_K, R1b_K, A44_R1, A44_R0, R0a_K, R0b_K, E_106, A106, h79, e39, f1, i0, i1, i2]
 rw [Bool.not_eq_true] at n2
 rw [n2] at i2
 simp only [Bool.not_true, Bool.not_false, ↓reduceIte, Bool.false_eq_true] at i2
 have hbf : b = bq := by rw [hb]; simp [n0, n1, n2]
 rw [hbf]
 rw [A106_L1_eq]
 simp +contextual -implicitDefEqProofs (maxSteps := 2000000) only [go_sem, ↓reduceIte, O44, FR44, A106_L1b, A106_L0_eq, A106_L0b, R1a_K, R1b_K, A44_R1, A44_R0, R0a_K, R0b_K, E_106, A106, h79, e39, f1, i0, i1, i2, nx]
theorem c44w (c : Cel) (x0 x1 x2 y0 y1 y2 a0 a1 a2 b0 b1 b2 u0 u1 u2 v0 v1 v2 : Int) (l0 l1 l2 l3 l4 l5 m0 m1 m2 m3 m4 m5 : List (Int × Int))
 (hl : ∀ l ∈ [l0, l1, l2, l3, l4, l5], l.length < 9223372036854775808) (hm : ∀ m ∈ [m0, m1, m2, m3, m4, m5], m.length < 9223372036854775808)
 (f1 : pc E 20 [av c.a, jv a0 a1 a2] = some (.agg [lkv l0, lkv l1, lkv l2])) (f2 : pc E 20 [av c.a, jv b0 b1 b2] = some (.agg [lkv l3, lkv l4, lkv l5]))
 (f3 : pc E 20 [av c.b, jv u0 u1 u2] = some (.agg [lkv m0, lkv m1, lkv m2])) (f4 : pc E 20 [av c.b, jv v0 v1 v2] = some (.agg [lkv m3, lkv m4, lkv m5]))
 (e38 : pc E 39 [jv x0 x1 x2] = some (.tup [jv a0 a1 a2, jv b0 b1 b2])) (e39 : pc E 39 [jv y0 y1 y2] = some (.tup [jv u0 u1 u2, jv v0 v1 v2])) (W : Int) (hw : IntKind.i64.wrap (c.gap * 4394000) = W) :
 pc E 44 [.agg (cec c), pos x0 x1 x2 y0 y1 y2] = some (.bool (![l0, l1, l2, l3, l4, l5].any (nrB W [m0, m1, m2, m3, m4, m5]))) := by
 have h2 := c79 c.a x0 x1 x2
 have nx := out0 c x0 x1 x2 y0 y1 y2 a0 a1 a2 b0 b1 b2 u0 u1 u2 v0 v1 v2 l0 l1 l2 l3 l4 l5 m0 m1 m2 m3 m4 m5 hl hm f1 f2 f3 f4 e39 W hw _ rfl _ rfl
 have e : [l0, l1, l2, l3, l4, l5].any (nrB W [m0, m1, m2, m3, m4, m5]) = ((nrB W [m0, m1, m2, m3, m4, m5] l0 || nrB W [m0, m1, m2, m3, m4, m5] l1 || nrB W [m0, m1, m2, m3, m4, m5] l2) || (nrB W [m0, m1, m2, m3, m4, m5] l3 || nrB W [m0, m1, m2, m3, m4, m5] l4 || nrB W [m0, m1, m2, m3, m4, m5] l5)) := by simp [Bool.or_assoc]
 rw [e]
 generalize ((nrB W [m0, m1, m2, m3, m4, m5] l0 || nrB W [m0, m1, m2, m3, m4, m5] l1 || nrB W [m0, m1, m2, m3, m4, m5] l2) || (nrB W [m0, m1, m2, m3, m4, m5] l3 || nrB W [m0, m1, m2, m3, m4, m5] l4 || nrB W [m0, m1, m2, m3, m4, m5] l5)) = b at nx ⊢
 cases b <;> simp only [Bool.false_eq_true, ↓reduceIte] at nx <;> rw [pc_eq] <;> simp +contextual -implicitDefEqProofs (maxSteps := 2000000) only [go_sem, ↓reduceIte, E_44, A44, A44_R1, E_106, A106, h2, e38, nx]
end Go.Proofs.Ytnecdcaaknhgpaa

namespace Go.Proofs.Ytnecdcaaknhgpaa
open Go Go.Zv
def veq (p b : Vi) : Bool := (p.1 == b.1) && ((p.2.1 == b.2.1) && ((p.2.2.1 == b.2.2.1) && (p.2.2.2 == b.2.2.2)))
theorem veq_iff (p b : Vi) : veq p b = decide (p = b) := by
 obtain ⟨p1, p2, p3, p4⟩ := p
 obtain ⟨b1, b2, b3, b4⟩ := b
 unfold veq
 rw [Bool.eq_iff_iff]
 simp only [Bool.and_eq_true, beq_iff_eq, decide_eq_true_eq, Prod.mk.injEq]
theorem eqs4 (p b : Vi) : eqs [0, 0, 0, 0] (v4 p) (v4 b) = some (veq p b) := by
 obtain ⟨p1, p2, p3, p4⟩ := p
 obtain ⟨b1, b2, b3, b4⟩ := b
 unfold v4 veq
 simp +contextual -implicitDefEqProofs (maxSteps := 2000000) only [go_sem, ↓reduceIte, eqs]
theorem c43 (l : List Vi) (hl : l.length ≤ 1000000) (b : Vi) : pc E 43 [.vs (l.map v4), .agg (v4 b)] = some (.bool (decide (b ∈ l))) := by
 have lp := loop_any (fun S => (K E A43_L0 S).bind (blockR 0 (some []) [4, 5]))
  (fun k => ⟨[(0, .vs (l.map v4)), (3, .ptr 768 0), (5, .int .i64 k)], [], [(768, .box (v4 b))], 0⟩) l (fun p => veq p b) (some (.ex .ret ⟨[(4, .bool true)], [], [(768, .box (v4 b))], 0⟩)) (some (.ex .nrm ⟨[], [], [(768, .box (v4 b))], 0⟩))
  (by
   show (K E A43_L0 _).bind _ = _
   rw [A43_L0_eq]; simp +contextual -implicitDefEqProofs (maxSteps := 2000000) only [go_sem, ↓reduceIte, A43_L0b, Int.lt_irrefl, List.length_map])
  (fun k p hk hget => by
   have g : (l.map v4)[k]? = some (v4 p) := by rw [List.getElem?_map, hget]; rfl
   have k0 : (0 : Int) ≤ k := by omega
   have k1 : (k : Int) < l.length := by omega
   have hw := wr_succ (n := k) (by omega)
   have e4 := eqs4 p b
   have l4 : (v4 p).length = 4 := rfl
   have m4 : (v4 b).length = 4 := rfl
   have t4 : (v4 b).take 4 = v4 b := rfl
   have t5 : (v4 p).take 4 = v4 p := rfl
   cases hq : veq p b
   ·rw [hq] at e4
    simp only [Bool.false_eq_true, if_false]
    show (K E A43_L0 _).bind _ = (K E A43_L0 _).bind _
    conv => lhs; rw [A43_L0_eq]
    simp +contextual -implicitDefEqProofs (maxSteps := 2000000) only [go_sem, ↓reduceIte, A43_L0b, k0, k1, g, hw, List.length_map, e4, l4, m4, t4, t5]
   ·rw [hq] at e4
    simp only [if_true]
    show (K E A43_L0 _).bind _ = _
    rw [A43_L0_eq]
    simp +contextual -implicitDefEqProofs (maxSteps := 2000000) only [go_sem, ↓reduceIte, A43_L0b, k0, k1, g, hw, List.length_map, e4, l4, m4, t4, t5])
 simp only [Int.natCast_zero, Int.ofNat_zero] at lp
 have hd : decide (b ∈ l) = l.any (fun p => veq p b) := by
  rw [Bool.eq_iff_iff]
  simp only [decide_eq_true_eq, List.any_eq_true, veq_iff]
  constructor
  ·intro h; exact ⟨b, h, rfl⟩
  ·rintro ⟨p, h, rfl⟩; exact h
 rw [hd]
 have vb : v4 b = [.int .i64 b.1, .int .i64 b.2.1, .int .i64 b.2.2.1, .int .i64 b.2.2.2] := rfl
 rw [vb] at lp ⊢
 cases h : l.any (fun p => veq p b)
 ·rw [h] at lp
  simp only [Bool.false_eq_true, if_false] at lp
  rw [pc_eq]; simp +contextual -implicitDefEqProofs (maxSteps := 2000000) only [go_sem, ↓reduceIte, E_43, A43, lp]
 ·rw [h] at lp
  simp only [if_true] at lp
  rw [pc_eq]; simp +contextual -implicitDefEqProofs (maxSteps := 2000000) only [go_sem, ↓reduceIte, E_43, A43, lp]
theorem c71 (l m : List Vi) (hl : l.length ≤ 1000000) (hm : m.length ≤ 1000000) : pc E 71 [.vs (l.map v4), .vs (m.map v4)] = some (.bool (decide (l = m))) := by
 by_cases hlen : l.length = m.length
 ·have lp := loop_eq (fun S => (K E A71_L0 S).bind (blockR 0 (some []) [4, 5]))
   (fun k => ⟨[(0, .vs (l.map v4)), (1, .vs (m.map v4)), (5, .int .i64 k)], [], [], 0⟩) l m hlen (some (.ex .ret ⟨[(4, .bool false)], [], [], 0⟩)) (some (.ex .nrm ⟨[], [], [], 0⟩))
   (by
    show (K E A71_L0 _).bind _ = _
    rw [A71_L0_eq]; simp +contextual -implicitDefEqProofs (maxSteps := 2000000) only [go_sem, ↓reduceIte, A71_L0b, Int.lt_irrefl, List.length_map])
   (fun k p b hk hget hget2 => by
    have g : (l.map v4)[k]? = some (v4 p) := by rw [List.getElem?_map, hget]; rfl
    have g2 : (m.map v4)[k]? = some (v4 b) := by rw [List.getElem?_map, hget2]; rfl
    have k0 : (0 : Int) ≤ k := by omega
    have k1 : (k : Int) < l.length := by omega
    have k2 : (k : Int) < m.length := by omega
    have hw := wr_succ (n := k) (by omega)
    have e4 := eqs4 p b
    rw [veq_iff] at e4
    have l4 : (v4 p).length = 4 := rfl
    have m4 : (v4 b).length = 4 := rfl
    have t4 : (v4 b).take 4 = v4 b := rfl
    have t5 : (v4 p).take 4 = v4 p := rfl
    by_cases hq : p = b
    ·rw [decide_eq_true hq] at e4
     rw [if_pos hq]
     show (K E A71_L0 _).bind _ = (K E A71_L0 _).bind _
     conv => lhs; rw [A71_L0_eq]
     simp +contextual -implicitDefEqProofs (maxSteps := 2000000) only [go_sem, ↓reduceIte, A71_L0b, k0, k1, k2, g, g2, hw, List.length_map, e4, l4, m4, t4, t5]
    ·rw [decide_eq_false hq] at e4
     rw [if_neg hq]
     show (K E A71_L0 _).bind _ = _
     rw [A71_L0_eq]
     simp +contextual -implicitDefEqProofs (maxSteps := 2000000) only [go_sem, ↓reduceIte, A71_L0b, k0, k1, k2, g, g2, hw, List.length_map, e4, l4, m4, t4, t5])
  simp only [Int.natCast_zero, Int.ofNat_zero] at lp
  have hb : (l.length : Int) = m.length := by omega
  by_cases h : l = m
  ·rw [if_pos h] at lp
   rw [decide_eq_true h, pc_eq]; simp +contextual -implicitDefEqProofs (maxSteps := 2000000) only [go_sem, ↓reduceIte, E_71, A71, lp, List.length_map, hb, not_true_eq_false, not_false_eq_true]
  ·rw [if_neg h] at lp
   rw [decide_eq_false h, pc_eq]; simp +contextual -implicitDefEqProofs (maxSteps := 2000000) only [go_sem, ↓reduceIte, E_71, A71, lp, List.length_map, hb, not_true_eq_false, not_false_eq_true]
 ·have hb : ¬ (l.length : Int) = m.length := by omega
  rw [decide_eq_false (fun h => hlen (by rw [h])), pc_eq]; simp +contextual -implicitDefEqProofs (maxSteps := 2000000) only [go_sem, ↓reduceIte, E_71, A71, List.length_map, hb, not_true_eq_false, not_false_eq_true]
def kdB (a b : Arm) (x0 x1 x2 y0 y1 y2 g : Int) : Bool := !(bods a x0 x1 x2).any (nrB (IntKind.i64.wrap (g * 4394000)) (bods b y0 y1 y2))
theorem c44 (c : Cel) (ha : OKa c.a) (hb : OKa c.b) (x0 x1 x2 y0 y1 y2 : Int) (s0 : Sm x0) (s1 : Sm x1) (s2 : Sm x2) (s3 : Sm y0) (s4 : Sm y1) (s5 : Sm y2) :
  pc E 44 [.agg (cec c), pos x0 x1 x2 y0 y1 y2] = some (.bool (kdB c.a c.b x0 x1 x2 y0 y1 y2 c.gap)) := by
 obtain ⟨l0, l1, l2, l3, l4, l5, hl, f1, f2, q1⟩ := bod c.a ha x0 x1 x2
 obtain ⟨m0, m1, m2, m3, m4, m5, hm, f3, f4, q2⟩ := bod c.b hb y0 y1 y2
 have e38 := c39 x0 x1 x2 s0 s1 s2
 have e39 := c39 y0 y1 y2 s3 s4 s5
 unfold kdB
 rw [hl, hm]
 exact c44w c x0 x1 x2 y0 y1 y2 _ _ _ _ _ _ _ _ _ _ _ _ l0 l1 l2 l3 l4 l5 m0 m1 m2 m3 m4 m5 (fun l h => by rw [q1 l h]; decide) (fun l h => by rw [q2 l h]; decide) f1 f2 f3 f4 e38 e39 _ rfl
end Go.Proofs.Ytnecdcaaknhgpaa

namespace Go.Proofs.Ytnecdcaaknhgpaa
open Go Go.Zv
structure Fit (c : Cl) (x0 x1 x2 y0 y1 y2 : Int) (br : List Bool) : Prop where
 ha : OKa c.a
 hb : OKa c.b
 zl : c.zn.length ≤ 16
 bl : br.length = c.zn.length
 zv : ∀ z ∈ c.zn, Go.Geo.valB z = true
 m0 : 12 * c.a.lo0 ≤ x0 ∧ x0 ≤ 12 * c.a.hi0
 m1 : 12 * c.a.lo1 ≤ x1 ∧ x1 ≤ 12 * c.a.hi1
 m2 : 12 * c.a.lo2 ≤ x2 ∧ x2 ≤ 12 * c.a.hi2
 m3 : 12 * c.b.lo0 ≤ y0 ∧ y0 ≤ 12 * c.b.hi0
 m4 : 12 * c.b.lo1 ≤ y1 ∧ y1 ≤ 12 * c.b.hi1
 m5 : 12 * c.b.lo2 ≤ y2 ∧ y2 ≤ 12 * c.b.hi2
 lv : 1 ≤ c.lv ∧ c.lv ≤ 8
 sl : 1 ≤ c.slow ∧ c.slow ≤ 8
 gp : 0 ≤ c.gap ∧ c.gap ≤ 20
theorem fit_of {c : Cl} {x0 x1 x2 y0 y1 y2 : Int} {br : List Bool} (h : fitB c x0 x1 x2 y0 y1 y2 br = true) : Fit c x0 x1 x2 y0 y1 y2 br := by
 unfold fitB smallB mayQ at h
 simp only [Bool.and_eq_true, decide_eq_true_eq] at h
 obtain ⟨⟨_, hz, _⟩, hr, hbl, hx, hy⟩ := h
 obtain ⟨ha, hb, hs⟩ := right_ok hr
 unfold restB limsB Go.Geo.bouB at hs
 simp only [Bool.and_eq_true, decide_eq_true_eq] at hs
 obtain ⟨_, hp, _, _, _, _, _, ⟨⟨v1, v2, _⟩, _⟩, g1, g2, s1, s2⟩ := hs
 unfold Go.Geo.polB at hp
 simp only [Bool.and_eq_true, List.all_eq_true] at hp
 exact ⟨ha, hb, by omega, by omega, hp.2, ⟨hx.1, hx.2.1⟩, ⟨hx.2.2.1, hx.2.2.2.1⟩, ⟨hx.2.2.2.2.1, hx.2.2.2.2.2⟩, ⟨hy.1, hy.2.1⟩, ⟨hy.2.2.1, hy.2.2.2.1⟩, ⟨hy.2.2.2.2.1, hy.2.2.2.2.2⟩, ⟨v1, v2⟩, ⟨s1, s2⟩, ⟨g1, g2⟩⟩
theorem Fit.b {c : Cl} {x0 x1 x2 y0 y1 y2 : Int} {br : List Bool} (h : Fit c x0 x1 x2 y0 y1 y2 br) : (-204 ≤ x0 ∧ x0 ≤ 216) ∧ (-204 ≤ x1 ∧ x1 ≤ 216) ∧ (-204 ≤ x2 ∧ x2 ≤ 216) ∧ (-204 ≤ y0 ∧ y0 ≤ 216) ∧ (-204 ≤ y1 ∧ y1 ≤ 216) ∧ (-204 ≤ y2 ∧ y2 ≤ 216) := by
 have a0 := h.ha.j0
 have a1 := h.ha.j1
 have a2 := h.ha.j2
 have b0 := h.hb.j0
 have b1 := h.hb.j1
 have b2 := h.hb.j2
 have m0 := h.m0
 have m1 := h.m1
 have m2 := h.m2
 have m3 := h.m3
 have m4 := h.m4
 have m5 := h.m5
 exact ⟨by omega, by omega, by omega, by omega, by omega, by omega⟩
theorem Fit.zp {c : Cl} {x0 x1 x2 y0 y1 y2 : Int} {br : List Bool} (h : Fit c x0 x1 x2 y0 y1 y2 br) : ∀ z ∈ c.zn, z.length ≤ 1000000 := by
 intro z hz
 have := h.zv z hz
 unfold Go.Geo.valB at this
 simp only [Bool.and_eq_true, decide_eq_true_eq] at this
 omega
theorem Sm_of {x : Int} (h : -204 ≤ x ∧ x ≤ 216) : Sm x := ⟨by omega, by omega⟩
def vioB (c : Cl) (w0 w1 w2 w3 w4 w5 i0 i1 i2 i3 i4 i5 : Int) (br : List Bool) : List Vi := vioT c w0 w1 w2 w3 w4 w5 i0 i1 i2 i3 i4 i5 br (kdB c.a c.b i0 i1 i2 i3 i4 i5 c.gap)
theorem c41f {c : Cl} {i0 i1 i2 i3 i4 i5 : Int} {br : List Bool} (h : Fit c i0 i1 i2 i3 i4 i5 br) (w0 w1 w2 w3 w4 w5 : Int) :
  pc E 41 [.agg (cec c.cel), pos w0 w1 w2 w3 w4 w5, pos i0 i1 i2 i3 i4 i5, .vs (br.map bb1)] = some (.os 4 ((vioB c w0 w1 w2 w3 w4 w5 i0 i1 i2 i3 i4 i5 br).map v4)) := by
 obtain ⟨b0, b1, b2, b3, b4, b5⟩ := h.b
 exact c41 c h.ha h.hb w0 w1 w2 w3 w4 w5 i0 i1 i2 i3 i4 i5 (Sm_of b0) (Sm_of b1) (Sm_of b2) (Sm_of b3) (Sm_of b4) (Sm_of b5) br h.bl h.zl h.zp _ (c44 c.cel h.ha h.hb i0 i1 i2 i3 i4 i5 (Sm_of b0) (Sm_of b1) (Sm_of b2) (Sm_of b3) (Sm_of b4) (Sm_of b5))
theorem frT_mem {v : Vi} {m i w a k : Int} : v ∈ frT m i w a k ↔ m < farW i w ∧ v = (1, a, k, 0) := by unfold frT; split <;> simp [*]
theorem nearT_mem {v : Vi} {kd : Bool} : v ∈ nearT kd ↔ kd = false ∧ v = (2, 0, 0, 0) := by unfold nearT; cases kd <;> simp
theorem inz_mem {v : Vi} {a : Int} {hit : Nat → Bool} {br : List Bool} : ∀ {n : Nat}, v ∈ inz a hit br n ↔ ∃ k, k < n ∧ br.getD k false = true ∧ hit k = true ∧ v = (3, a, 0, (k : Int))
 | 0 => by simp [inz]
 | n + 1 => by
   unfold inz
   rw [List.mem_append, inz_mem]
   constructor
   ·rintro (⟨k, h1, h2⟩ | h)
    ·exact ⟨k, by omega, h2⟩
    ·split at h
     ·rename_i hc
      simp only [Bool.and_eq_true] at hc
      simp only [List.mem_singleton] at h
      exact ⟨n, by omega, hc.1, hc.2, h⟩
     ·simp at h
   ·rintro ⟨k, h1, h2, h3, h4⟩
    by_cases hk : k = n
    ·subst hk
     right
     rw [if_pos (by rw [h2, h3]; rfl)]
     simp [h4]
    ·exact .inl ⟨k, by omega, h2, h3, h4⟩
theorem unlT_mem {v : Vi} {br : List Bool} : ∀ {n : Nat}, v ∈ unlT br n ↔ ∃ k, k < n ∧ br.getD k false = true ∧ v = (4, 0, 0, (k : Int))
 | 0 => by simp [unlT]
 | n + 1 => by
   unfold unlT
   rw [List.mem_append, unlT_mem]
   constructor
   ·rintro (⟨k, h1, h2⟩ | h)
    ·exact ⟨k, by omega, h2⟩
    ·split at h
     ·rename_i hc
      simp only [List.mem_singleton] at h
      exact ⟨n, by omega, hc, h⟩
     ·simp at h
   ·rintro ⟨k, h1, h2, h4⟩
    by_cases hk : k = n
    ·subst hk
     right
     rw [if_pos h2]
     simp [h4]
    ·exact .inl ⟨k, by omega, h2, h4⟩
theorem vio_len (c : Cl) (w0 w1 w2 w3 w4 w5 i0 i1 i2 i3 i4 i5 : Int) (br : List Bool) (hz : c.zn.length ≤ 16) (hb : br.length = c.zn.length) : (vioB c w0 w1 w2 w3 w4 w5 i0 i1 i2 i3 i4 i5 br).length ≤ 1000 := by
 have b1 := fastT_len (mostI c br) w0 w1 w2 w3 w4 w5 i0 i1 i2 i3 i4 i5
 have b2 : (nearT (kdB c.a c.b i0 i1 i2 i3 i4 i5 c.gap)).length ≤ 1 := by unfold nearT; split <;> simp
 have h0 := inz_len 0 (hits c.a i0 i1 i2 c.zn) br c.zn.length
 have h1 := inz_len 1 (hits c.b i3 i4 i5 c.zn) br c.zn.length
 have b4 := unlT_len br br.length
 unfold vioB vioT inT
 simp only [List.length_append]
 omega
def byI (i w : Int) : Int := mxI (i - w) (w - i)
end Go.Proofs.Ytnecdcaaknhgpaa

namespace Go.Proofs.Ytnecdcaaknhgpaa
open Go Go.Zv
def hcl (g : Int) : Cl := { a := ⟨0, 0, 4, 3, 2, 1, -17, -17, -17, 18, 18, 18⟩, b := ⟨109850000, 0, 4, 3, 2, 1, -17, -17, -17, 18, 18, 18⟩, h0 := 0, h1 := 0, h2 := 0, h3 := 9, h4 := 0, h5 := 0, fx := [[(26364000, 8788000), (39546000, 8788000), (39546000, 17576000), (26364000, 17576000)]], pl := [], pt := [], bt := [], per := 0, lv := 8, la := 4, lj := 2, mv := 4, ma := 2, mj := 1, zn := [[(35152000, -17576000), (52728000, -17576000), (52728000, 0), (35152000, 0)]], gap := g, slow := 2 }
theorem hok_a (g : Int) : OKa (hcl g).a := by constructor <;> simp [hcl]
theorem hok_b (g : Int) : OKa (hcl g).b := by constructor <;> simp [hcl]
theorem c70 : pc E 70 [] = some (.agg [.int .i64 0, .int .i64 0, .int .i64 4, .int .i64 3, .int .i64 2, .int .i64 1, .int .i64 (-17), .int .i64 (-17), .int .i64 (-17), .int .i64 18, .int .i64 18, .int .i64 18, .int .i64 109850000, .int .i64 0, .int .i64 4, .int .i64 3, .int .i64 2, .int .i64 1, .int .i64 (-17), .int .i64 (-17), .int .i64 (-17), .int .i64 18, .int .i64 18, .int .i64 18, .int .i64 0, .int .i64 0, .int .i64 0, .int .i64 9, .int .i64 0, .int .i64 0, .vs [[.vs [[.int .i64 26364000, .int .i64 8788000], [.int .i64 39546000, .int .i64 8788000], [.int .i64 39546000, .int .i64 17576000], [.int .i64 26364000, .int .i64 17576000]]]], .vs [], .vs [], .vs [], .int .i64 0, .int .i64 8, .int .i64 4, .int .i64 2, .int .i64 4, .int .i64 2, .int .i64 1, .vs [[.vs [[.int .i64 35152000, .int .i64 (-17576000)], [.int .i64 52728000, .int .i64 (-17576000)], [.int .i64 52728000, .int .i64 0], [.int .i64 35152000, .int .i64 0]]]], .int .i64 10, .int .i64 2]) := by
 refine pc_of_run 60 ?_
 kernel_rfl
theorem hv_l : vioB (hcl 10) 0 0 0 108 0 0 0 0 0 108 0 0 [true] = [(3, 0, 0, 0), (4, 0, 0, 0)] := by kernel_rfl
theorem h41_l : pc E 41 [.agg [.int .i64 0, .int .i64 0, .int .i64 4, .int .i64 3, .int .i64 2, .int .i64 1, .int .i64 (-17), .int .i64 (-17), .int .i64 (-17), .int .i64 18, .int .i64 18, .int .i64 18, .int .i64 109850000, .int .i64 0, .int .i64 4, .int .i64 3, .int .i64 2, .int .i64 1, .int .i64 (-17), .int .i64 (-17), .int .i64 (-17), .int .i64 18, .int .i64 18, .int .i64 18, .int .i64 0, .int .i64 0, .int .i64 0, .int .i64 9, .int .i64 0, .int .i64 0, .vs [[.vs [[.int .i64 26364000, .int .i64 8788000], [.int .i64 39546000, .int .i64 8788000], [.int .i64 39546000, .int .i64 17576000], [.int .i64 26364000, .int .i64 17576000]]]], .vs [], .vs [], .vs [], .int .i64 0, .int .i64 8, .int .i64 4, .int .i64 2, .int .i64 4, .int .i64 2, .int .i64 1, .vs [[.vs [[.int .i64 35152000, .int .i64 (-17576000)], [.int .i64 52728000, .int .i64 (-17576000)], [.int .i64 52728000, .int .i64 0], [.int .i64 35152000, .int .i64 0]]]], .int .i64 10, .int .i64 2], .agg [.int .i64 0, .int .i64 0, .int .i64 0, .int .i64 108, .int .i64 0, .int .i64 0], .agg [.int .i64 0, .int .i64 0, .int .i64 0, .int .i64 108, .int .i64 0, .int .i64 0], .vs [[.bool true]]] = some (.os 4 [[.int .i64 3, .int .i64 0, .int .i64 0, .int .i64 0], [.int .i64 4, .int .i64 0, .int .i64 0, .int .i64 0]]) := by
 have h := c41 (hcl 10) (hok_a 10) (hok_b 10) 0 0 0 108 0 0 0 0 0 108 0 0 (by decide) (by decide) (by decide) (by decide) (by decide) (by decide) [true] rfl (by decide) (by decide) _ (c44 (hcl 10).cel (hok_a 10) (hok_b 10) 0 0 0 108 0 0 (by decide) (by decide) (by decide) (by decide) (by decide) (by decide))
 exact h.trans (congrArg (fun l : List Vi => some (LV.os 4 (l.map v4))) hv_l)
theorem hv_n0 : vioB (hcl 10) 0 0 0 108 0 0 0 0 0 108 0 0 [false] = [] := by kernel_rfl
theorem h41_n0 : pc E 41 [.agg [.int .i64 0, .int .i64 0, .int .i64 4, .int .i64 3, .int .i64 2, .int .i64 1, .int .i64 (-17), .int .i64 (-17), .int .i64 (-17), .int .i64 18, .int .i64 18, .int .i64 18, .int .i64 109850000, .int .i64 0, .int .i64 4, .int .i64 3, .int .i64 2, .int .i64 1, .int .i64 (-17), .int .i64 (-17), .int .i64 (-17), .int .i64 18, .int .i64 18, .int .i64 18, .int .i64 0, .int .i64 0, .int .i64 0, .int .i64 9, .int .i64 0, .int .i64 0, .vs [[.vs [[.int .i64 26364000, .int .i64 8788000], [.int .i64 39546000, .int .i64 8788000], [.int .i64 39546000, .int .i64 17576000], [.int .i64 26364000, .int .i64 17576000]]]], .vs [], .vs [], .vs [], .int .i64 0, .int .i64 8, .int .i64 4, .int .i64 2, .int .i64 4, .int .i64 2, .int .i64 1, .vs [[.vs [[.int .i64 35152000, .int .i64 (-17576000)], [.int .i64 52728000, .int .i64 (-17576000)], [.int .i64 52728000, .int .i64 0], [.int .i64 35152000, .int .i64 0]]]], .int .i64 10, .int .i64 2], .agg [.int .i64 0, .int .i64 0, .int .i64 0, .int .i64 108, .int .i64 0, .int .i64 0], .agg [.int .i64 0, .int .i64 0, .int .i64 0, .int .i64 108, .int .i64 0, .int .i64 0], .vs [[.bool false]]] = some (.os 4 []) := by
 have h := c41 (hcl 10) (hok_a 10) (hok_b 10) 0 0 0 108 0 0 0 0 0 108 0 0 (by decide) (by decide) (by decide) (by decide) (by decide) (by decide) [false] rfl (by decide) (by decide) _ (c44 (hcl 10).cel (hok_a 10) (hok_b 10) 0 0 0 108 0 0 (by decide) (by decide) (by decide) (by decide) (by decide) (by decide))
 exact h.trans (congrArg (fun l : List Vi => some (LV.os 4 (l.map v4))) hv_n0)
theorem hv_m : vioB (hcl 10) 0 0 0 108 0 0 0 0 9 105 0 0 [false] = [(1, 0, 2, 0)] := by kernel_rfl
theorem h41_m : pc E 41 [.agg [.int .i64 0, .int .i64 0, .int .i64 4, .int .i64 3, .int .i64 2, .int .i64 1, .int .i64 (-17), .int .i64 (-17), .int .i64 (-17), .int .i64 18, .int .i64 18, .int .i64 18, .int .i64 109850000, .int .i64 0, .int .i64 4, .int .i64 3, .int .i64 2, .int .i64 1, .int .i64 (-17), .int .i64 (-17), .int .i64 (-17), .int .i64 18, .int .i64 18, .int .i64 18, .int .i64 0, .int .i64 0, .int .i64 0, .int .i64 9, .int .i64 0, .int .i64 0, .vs [[.vs [[.int .i64 26364000, .int .i64 8788000], [.int .i64 39546000, .int .i64 8788000], [.int .i64 39546000, .int .i64 17576000], [.int .i64 26364000, .int .i64 17576000]]]], .vs [], .vs [], .vs [], .int .i64 0, .int .i64 8, .int .i64 4, .int .i64 2, .int .i64 4, .int .i64 2, .int .i64 1, .vs [[.vs [[.int .i64 35152000, .int .i64 (-17576000)], [.int .i64 52728000, .int .i64 (-17576000)], [.int .i64 52728000, .int .i64 0], [.int .i64 35152000, .int .i64 0]]]], .int .i64 10, .int .i64 2], .agg [.int .i64 0, .int .i64 0, .int .i64 0, .int .i64 108, .int .i64 0, .int .i64 0], .agg [.int .i64 0, .int .i64 0, .int .i64 9, .int .i64 105, .int .i64 0, .int .i64 0], .vs [[.bool false]]] = some (.os 4 [[.int .i64 1, .int .i64 0, .int .i64 2, .int .i64 0]]) := by
 have h := c41 (hcl 10) (hok_a 10) (hok_b 10) 0 0 0 108 0 0 0 0 9 105 0 0 (by decide) (by decide) (by decide) (by decide) (by decide) (by decide) [false] rfl (by decide) (by decide) _ (c44 (hcl 10).cel (hok_a 10) (hok_b 10) 0 0 9 105 0 0 (by decide) (by decide) (by decide) (by decide) (by decide) (by decide))
 exact h.trans (congrArg (fun l : List Vi => some (LV.os 4 (l.map v4))) hv_m)
theorem hv_n : vioB (hcl 10) 0 0 0 108 0 0 0 0 9 105 0 0 [true] = [(1, 0, 2, 0), (1, 1, 0, 0), (3, 0, 0, 0), (4, 0, 0, 0)] := by kernel_rfl
theorem h41_n : pc E 41 [.agg [.int .i64 0, .int .i64 0, .int .i64 4, .int .i64 3, .int .i64 2, .int .i64 1, .int .i64 (-17), .int .i64 (-17), .int .i64 (-17), .int .i64 18, .int .i64 18, .int .i64 18, .int .i64 109850000, .int .i64 0, .int .i64 4, .int .i64 3, .int .i64 2, .int .i64 1, .int .i64 (-17), .int .i64 (-17), .int .i64 (-17), .int .i64 18, .int .i64 18, .int .i64 18, .int .i64 0, .int .i64 0, .int .i64 0, .int .i64 9, .int .i64 0, .int .i64 0, .vs [[.vs [[.int .i64 26364000, .int .i64 8788000], [.int .i64 39546000, .int .i64 8788000], [.int .i64 39546000, .int .i64 17576000], [.int .i64 26364000, .int .i64 17576000]]]], .vs [], .vs [], .vs [], .int .i64 0, .int .i64 8, .int .i64 4, .int .i64 2, .int .i64 4, .int .i64 2, .int .i64 1, .vs [[.vs [[.int .i64 35152000, .int .i64 (-17576000)], [.int .i64 52728000, .int .i64 (-17576000)], [.int .i64 52728000, .int .i64 0], [.int .i64 35152000, .int .i64 0]]]], .int .i64 10, .int .i64 2], .agg [.int .i64 0, .int .i64 0, .int .i64 0, .int .i64 108, .int .i64 0, .int .i64 0], .agg [.int .i64 0, .int .i64 0, .int .i64 9, .int .i64 105, .int .i64 0, .int .i64 0], .vs [[.bool true]]] = some (.os 4 [[.int .i64 1, .int .i64 0, .int .i64 2, .int .i64 0], [.int .i64 1, .int .i64 1, .int .i64 0, .int .i64 0], [.int .i64 3, .int .i64 0, .int .i64 0, .int .i64 0], [.int .i64 4, .int .i64 0, .int .i64 0, .int .i64 0]]) := by
 have h := c41 (hcl 10) (hok_a 10) (hok_b 10) 0 0 0 108 0 0 0 0 9 105 0 0 (by decide) (by decide) (by decide) (by decide) (by decide) (by decide) [true] rfl (by decide) (by decide) _ (c44 (hcl 10).cel (hok_a 10) (hok_b 10) 0 0 9 105 0 0 (by decide) (by decide) (by decide) (by decide) (by decide) (by decide))
 exact h.trans (congrArg (fun l : List Vi => some (LV.os 4 (l.map v4))) hv_n)
theorem hv_o : vioB (hcl 16) 0 0 0 108 0 0 0 0 0 108 0 0 [false] = [(2, 0, 0, 0)] := by kernel_rfl
theorem h41_o : pc E 41 [.agg [.int .i64 0, .int .i64 0, .int .i64 4, .int .i64 3, .int .i64 2, .int .i64 1, .int .i64 (-17), .int .i64 (-17), .int .i64 (-17), .int .i64 18, .int .i64 18, .int .i64 18, .int .i64 109850000, .int .i64 0, .int .i64 4, .int .i64 3, .int .i64 2, .int .i64 1, .int .i64 (-17), .int .i64 (-17), .int .i64 (-17), .int .i64 18, .int .i64 18, .int .i64 18, .int .i64 0, .int .i64 0, .int .i64 0, .int .i64 9, .int .i64 0, .int .i64 0, .vs [[.vs [[.int .i64 26364000, .int .i64 8788000], [.int .i64 39546000, .int .i64 8788000], [.int .i64 39546000, .int .i64 17576000], [.int .i64 26364000, .int .i64 17576000]]]], .vs [], .vs [], .vs [], .int .i64 0, .int .i64 8, .int .i64 4, .int .i64 2, .int .i64 4, .int .i64 2, .int .i64 1, .vs [[.vs [[.int .i64 35152000, .int .i64 (-17576000)], [.int .i64 52728000, .int .i64 (-17576000)], [.int .i64 52728000, .int .i64 0], [.int .i64 35152000, .int .i64 0]]]], .int .i64 16, .int .i64 2], .agg [.int .i64 0, .int .i64 0, .int .i64 0, .int .i64 108, .int .i64 0, .int .i64 0], .agg [.int .i64 0, .int .i64 0, .int .i64 0, .int .i64 108, .int .i64 0, .int .i64 0], .vs [[.bool false]]] = some (.os 4 [[.int .i64 2, .int .i64 0, .int .i64 0, .int .i64 0]]) := by
 have h := c41 (hcl 16) (hok_a 16) (hok_b 16) 0 0 0 108 0 0 0 0 0 108 0 0 (by decide) (by decide) (by decide) (by decide) (by decide) (by decide) [false] rfl (by decide) (by decide) _ (c44 (hcl 16).cel (hok_a 16) (hok_b 16) 0 0 0 108 0 0 (by decide) (by decide) (by decide) (by decide) (by decide) (by decide))
 exact h.trans (congrArg (fun l : List Vi => some (LV.os 4 (l.map v4))) hv_o)
theorem hkd : kdB (hcl 16).a (hcl 16).b 0 0 0 108 0 0 16 = false := by kernel_rfl
theorem h44 : pc E 44 [.agg [.int .i64 0, .int .i64 0, .int .i64 4, .int .i64 3, .int .i64 2, .int .i64 1, .int .i64 (-17), .int .i64 (-17), .int .i64 (-17), .int .i64 18, .int .i64 18, .int .i64 18, .int .i64 109850000, .int .i64 0, .int .i64 4, .int .i64 3, .int .i64 2, .int .i64 1, .int .i64 (-17), .int .i64 (-17), .int .i64 (-17), .int .i64 18, .int .i64 18, .int .i64 18, .int .i64 0, .int .i64 0, .int .i64 0, .int .i64 9, .int .i64 0, .int .i64 0, .vs [[.vs [[.int .i64 26364000, .int .i64 8788000], [.int .i64 39546000, .int .i64 8788000], [.int .i64 39546000, .int .i64 17576000], [.int .i64 26364000, .int .i64 17576000]]]], .vs [], .vs [], .vs [], .int .i64 0, .int .i64 8, .int .i64 4, .int .i64 2, .int .i64 4, .int .i64 2, .int .i64 1, .vs [[.vs [[.int .i64 35152000, .int .i64 (-17576000)], [.int .i64 52728000, .int .i64 (-17576000)], [.int .i64 52728000, .int .i64 0], [.int .i64 35152000, .int .i64 0]]]], .int .i64 16, .int .i64 2], .agg [.int .i64 0, .int .i64 0, .int .i64 0, .int .i64 108, .int .i64 0, .int .i64 0]] = some (.bool false) := by
 have h := c44 (hcl 16).cel (hok_a 16) (hok_b 16) 0 0 0 108 0 0 (by decide) (by decide) (by decide) (by decide) (by decide) (by decide)
 exact h.trans (congrArg (fun b => some (LV.bool b)) hkd)
theorem h39 : pc E 39 [.agg [.int .i64 (-1), .int .i64 12, .int .i64 13]] = some (.tup [.agg [.int .i64 (-1), .int .i64 1, .int .i64 1], .agg [.int .i64 0, .int .i64 1, .int .i64 2]]) := c39 (-1) 12 13 (by decide) (by decide) (by decide)
theorem h71_l : pc E 71 [.vs [[.int .i64 3, .int .i64 0, .int .i64 0, .int .i64 0], [.int .i64 4, .int .i64 0, .int .i64 0, .int .i64 0]], .vs [[.int .i64 3, .int .i64 0, .int .i64 0, .int .i64 0], [.int .i64 4, .int .i64 0, .int .i64 0, .int .i64 0]]] = some (.bool true) := c71 [(3, 0, 0, 0), (4, 0, 0, 0)] [(3, 0, 0, 0), (4, 0, 0, 0)] (by decide) (by decide)
theorem h71_m : pc E 71 [.vs [[.int .i64 1, .int .i64 0, .int .i64 2, .int .i64 0]], .vs [[.int .i64 1, .int .i64 0, .int .i64 2, .int .i64 0]]] = some (.bool true) := c71 [(1, 0, 2, 0)] [(1, 0, 2, 0)] (by decide) (by decide)
theorem h71_n : pc E 71 [.vs [[.int .i64 1, .int .i64 0, .int .i64 2, .int .i64 0], [.int .i64 1, .int .i64 1, .int .i64 0, .int .i64 0], [.int .i64 3, .int .i64 0, .int .i64 0, .int .i64 0], [.int .i64 4, .int .i64 0, .int .i64 0, .int .i64 0]], .vs [[.int .i64 1, .int .i64 0, .int .i64 2, .int .i64 0], [.int .i64 1, .int .i64 1, .int .i64 0, .int .i64 0], [.int .i64 3, .int .i64 0, .int .i64 0, .int .i64 0], [.int .i64 4, .int .i64 0, .int .i64 0, .int .i64 0]]] = some (.bool true) := c71 [(1, 0, 2, 0), (1, 1, 0, 0), (3, 0, 0, 0), (4, 0, 0, 0)] [(1, 0, 2, 0), (1, 1, 0, 0), (3, 0, 0, 0), (4, 0, 0, 0)] (by decide) (by decide)
theorem h71_o : pc E 71 [.vs [[.int .i64 2, .int .i64 0, .int .i64 0, .int .i64 0]], .vs [[.int .i64 2, .int .i64 0, .int .i64 0, .int .i64 0]]] = some (.bool true) := c71 [(2, 0, 0, 0)] [(2, 0, 0, 0)] (by decide) (by decide)
theorem c38 : pc E 38 [] = some (.bool true) := by
 rw [pc_eq]; simp +contextual -implicitDefEqProofs (maxSteps := 2000000) only [go_sem, ↓reduceIte, E_38, A38, c70, h39, h41_l, h41_n0, h41_m, h41_n, h41_o, h44, h71_l, h71_m, h71_n, h71_o, LV.scal, Bool.and_self]
end Go.Proofs.Ytnecdcaaknhgpaa

namespace Go.Proofs.Ytnecdcaaknhgpaa
open Go Go.Zv
open Go.Geo (rc RCok mayB locI valB areaW rc_val rc_loc rc_area rc_may mayB_iff)
def lrs (a : Arm) (d : Pts) : List (List (Int × Int)) :=
 [rc a.bx a.by_ a.l0 a.w (67600 * d.x1) (67600 * d.y1), rc (pp a d).x1 (pp a d).y1 a.l1 a.w (1040 * d.x2) (1040 * d.y2), rc (pp a d).x2 (pp a d).y2 a.l2 a.w (16 * d.x3) (16 * d.y3)]
theorem lks_rc (a : Arm) (d : Pts) : lks a d = lrs a d := by
 simp only [lks, lrs, lkc, rc, pp, Int.mul_assoc]
theorem le_mul {l X M : Int} (hl : 0 ≤ l) (hx : -M ≤ X ∧ X ≤ M) : -(l * M) ≤ l * X ∧ l * X ≤ l * M := by
 constructor
 ·have := Int.mul_le_mul_of_nonneg_left hx.1 hl
  rw [Int.mul_neg] at this; exact this
 ·exact Int.mul_le_mul_of_nonneg_left hx.2 hl
structure R3 (a : Arm) (d : Pts) : Prop where
 r0 : RCok a.bx a.by_ a.l0 a.w (67600 * d.x1) (67600 * d.y1) 19307236000000
 r1 : RCok (pp a d).x1 (pp a d).y1 a.l1 a.w (1040 * d.x2) (1040 * d.y2) 19307236000000
 r2 : RCok (pp a d).x2 (pp a d).y2 a.l2 a.w (16 * d.x3) (16 * d.y3) 19307236000000
theorem r3 {a : Arm} (h : OKa a) {d : Pts} (v : DV d) : R3 a d := by
 have l0 := h.l0
 have l1 := h.l1
 have l2 := h.l2
 have w := h.w
 have bx := h.bx
 have by_ := h.by_
 have x1 := v.v1.x
 have y1 := v.v1.y
 have x2 := v.v2.x
 have y2 := v.v2.y
 have x3 := v.v3.x
 have y3 := v.v3.y
 have n1 := v.v1.eq
 have n2 := v.v2.eq
 have n3 := v.v3.eq
 simp only [p65] at x1 y1 x2 y2 x3 y3 n1 n2 n3
 have g : ∀ l X : Int, 1 ≤ l → -4394000 ≤ X ∧ X ≤ 4394000 → -(l * 4394000) ≤ l * X ∧ l * X ≤ l * 4394000 := fun l X h1 h2 => le_mul (by omega) h2
 have a1 := g a.l0 (67600 * d.x1) (by omega) (by omega)
 have a2 := g a.l0 (67600 * d.y1) (by omega) (by omega)
 have a3 := g a.l1 (1040 * d.x2) (by omega) (by omega)
 have a4 := g a.l1 (1040 * d.y2) (by omega) (by omega)
 have a5 := g a.l2 (16 * d.x3) (by omega) (by omega)
 have a6 := g a.l2 (16 * d.y3) (by omega) (by omega)
 have b1 := g a.w (67600 * d.x1) (by omega) (by omega)
 have b2 := g a.w (67600 * d.y1) (by omega) (by omega)
 have b3 := g a.w (1040 * d.x2) (by omega) (by omega)
 have b4 := g a.w (1040 * d.y2) (by omega) (by omega)
 have b5 := g a.w (16 * d.x3) (by omega) (by omega)
 have b6 := g a.w (16 * d.y3) (by omega) (by omega)
 have m1 : (67600 * d.x1) * (67600 * d.x1) + (67600 * d.y1) * (67600 * d.y1) = 19307236000000 := by
  have e : (67600 * d.x1) * (67600 * d.x1) + (67600 * d.y1) * (67600 * d.y1) = 67600 * 67600 * (d.x1 * d.x1 + d.y1 * d.y1) := by grind
  rw [e, n1]; rfl
 have m2 : (1040 * d.x2) * (1040 * d.x2) + (1040 * d.y2) * (1040 * d.y2) = 19307236000000 := by
  have e : (1040 * d.x2) * (1040 * d.x2) + (1040 * d.y2) * (1040 * d.y2) = 1040 * 1040 * (d.x2 * d.x2 + d.y2 * d.y2) := by grind
  rw [e, n2]; rfl
 have m3 : (16 * d.x3) * (16 * d.x3) + (16 * d.y3) * (16 * d.y3) = 19307236000000 := by
  have e : (16 * d.x3) * (16 * d.x3) + (16 * d.y3) * (16 * d.y3) = 16 * 16 * (d.x3 * d.x3 + d.y3 * d.y3) := by grind
  rw [e, n3]; rfl
 refine ⟨⟨by omega, by omega, by omega, m1, ?_⟩, ⟨by omega, by omega, by omega, m2, ?_⟩, ⟨by omega, by omega, by omega, m3, ?_⟩⟩
 all_goals
  simp only [rc, List.mem_cons, List.not_mem_nil, or_false]
  rintro p (rfl | rfl | rfl | rfl) <;> simp only [pp, Int.mul_assoc] <;> omega
end Go.Proofs.Ytnecdcaaknhgpaa

namespace Go.Proofs.Ytnecdcaaknhgpaa
open Go Go.Zv
end Go.Proofs.Ytnecdcaaknhgpaa

namespace Go.Proofs.Ytnecdcaaknhgpaa
open Go Go.Zv
end Go.Proofs.Ytnecdcaaknhgpaa

namespace Go.Proofs.Ytnecdcaaknhgpaa
open Go Go.Zv
end Go.Proofs.Ytnecdcaaknhgpaa

namespace Go.Proofs.Ytnecdcaaknhgpaa
open Go Go.Zv
end Go.Proofs.Ytnecdcaaknhgpaa

namespace Go.Proofs.Ytnecdcaaknhgpaa
open Go Go.Zv
theorem T3_0 (V IS : List LV) (R BR P Q : List (List LV)) (i j : Nat) (x0 x1 x2 y0 y1 y2 : List (List LV)) (hi : i < 2) (hj : j < 2) (hP : P[i]? = some [.vs x0, .vs x1, .vs x2]) (hQ : Q[j]? = some [.vs y0, .vs y1, .vs y2]) (f0 f1 f2 : Bool) (e0 : pc E 37 [.vs x0, .vs y0] = some (.bool f0)) (e1 : pc E 37 [.vs x0, .vs y1] = some (.bool f1)) (e2 : pc E 37 [.vs x0, .vs y2] = some (.bool f2)) (t : Bool) : (K E A13_L3 ⟨[(2, .vs BR), (3, .ptr 768 0), (4, .ptr 1024 0), (7, .bool true), (8, .bs 9472 0 R.length), (9, .ptr 2304 0), (13, .bool t), (14, .int .i64 i), (15, .int .i64 0), (16, .int .i64 j), (17, .int .i64 0)], [], [(2306, .row 3 Q), (2305, .row 3 P), (2304, .box [.bs 2305 0 2, .bs 2306 0 2]), (9472, .row 4 R), (1024, .box IS), (768, .box V)], 0⟩).bind (blockR 8 (some [2, 3, 4, 7, 8, 9, 13, 14, 15, 16]) [17]) = some (.ex .nrm ⟨[(2, .vs BR), (3, .ptr 768 0), (4, .ptr 1024 0), (7, .bool true), (8, .bs 9472 0 R.length), (9, .ptr 2304 0), (13, .bool (t || (f0 || (f1 || f2)))), (14, .int .i64 i), (15, .int .i64 0), (16, .int .i64 j)], [], [(2306, .row 3 Q), (2305, .row 3 P), (2304, .box [.bs 2305 0 2, .bs 2306 0 2]), (9472, .row 4 R), (1024, .box IS), (768, .box V)], 0⟩) := by
 have k0 : (0 : Int) ≤ i := by omega
 have k1 : (i : Int) < 2 := by omega
 have k2 : (0 : Int) ≤ j := by omega
 have k3 : (j : Int) < 2 := by omega
 cases t with
 | true => simp +contextual -implicitDefEqProofs (maxSteps := 2000000) only [go_sem, ↓reduceIte, A13_L3_eq, A13_L3b, Bool.true_or]
 | false =>
 cases f0 with
 | true => simp +contextual -implicitDefEqProofs (maxSteps := 2000000) only [go_sem, ↓reduceIte, A13_L3_eq, A13_L3b, k0, k1, k2, k3, hP, hQ, e0, Bool.true_or, Bool.false_or]
 | false =>
 cases f1 with
 | true => simp +contextual -implicitDefEqProofs (maxSteps := 2000000) only [go_sem, ↓reduceIte, A13_L3_eq, A13_L3b, k0, k1, k2, k3, hP, hQ, e0, e1, Bool.true_or, Bool.false_or]
 | false => simp +contextual -implicitDefEqProofs (maxSteps := 2000000) only [go_sem, ↓reduceIte, A13_L3_eq, A13_L3b, k0, k1, k2, k3, hP, hQ, e0, e1, e2, Bool.true_or, Bool.false_or]
theorem T3_1 (V IS : List LV) (R BR P Q : List (List LV)) (i j : Nat) (x0 x1 x2 y0 y1 y2 : List (List LV)) (hi : i < 2) (hj : j < 2) (hP : P[i]? = some [.vs x0, .vs x1, .vs x2]) (hQ : Q[j]? = some [.vs y0, .vs y1, .vs y2]) (f0 f1 f2 : Bool) (e0 : pc E 37 [.vs x1, .vs y0] = some (.bool f0)) (e1 : pc E 37 [.vs x1, .vs y1] = some (.bool f1)) (e2 : pc E 37 [.vs x1, .vs y2] = some (.bool f2)) (t : Bool) : (K E A13_L3 ⟨[(2, .vs BR), (3, .ptr 768 0), (4, .ptr 1024 0), (7, .bool true), (8, .bs 9472 0 R.length), (9, .ptr 2304 0), (13, .bool t), (14, .int .i64 i), (15, .int .i64 1), (16, .int .i64 j), (17, .int .i64 0)], [], [(2306, .row 3 Q), (2305, .row 3 P), (2304, .box [.bs 2305 0 2, .bs 2306 0 2]), (9472, .row 4 R), (1024, .box IS), (768, .box V)], 0⟩).bind (blockR 8 (some [2, 3, 4, 7, 8, 9, 13, 14, 15, 16]) [17]) = some (.ex .nrm ⟨[(2, .vs BR), (3, .ptr 768 0), (4, .ptr 1024 0), (7, .bool true), (8, .bs 9472 0 R.length), (9, .ptr 2304 0), (13, .bool (t || (f0 || (f1 || f2)))), (14, .int .i64 i), (15, .int .i64 1), (16, .int .i64 j)], [], [(2306, .row 3 Q), (2305, .row 3 P), (2304, .box [.bs 2305 0 2, .bs 2306 0 2]), (9472, .row 4 R), (1024, .box IS), (768, .box V)], 0⟩) := by
 have k0 : (0 : Int) ≤ i := by omega
 have k1 : (i : Int) < 2 := by omega
 have k2 : (0 : Int) ≤ j := by omega
 have k3 : (j : Int) < 2 := by omega
 cases t with
 | true => simp +contextual -implicitDefEqProofs (maxSteps := 2000000) only [go_sem, ↓reduceIte, A13_L3_eq, A13_L3b, Bool.true_or]
 | false =>
 cases f0 with
 | true => simp +contextual -implicitDefEqProofs (maxSteps := 2000000) only [go_sem, ↓reduceIte, A13_L3_eq, A13_L3b, k0, k1, k2, k3, hP, hQ, e0, Bool.true_or, Bool.false_or]
 | false =>
 cases f1 with
 | true => simp +contextual -implicitDefEqProofs (maxSteps := 2000000) only [go_sem, ↓reduceIte, A13_L3_eq, A13_L3b, k0, k1, k2, k3, hP, hQ, e0, e1, Bool.true_or, Bool.false_or]
 | false => simp +contextual -implicitDefEqProofs (maxSteps := 2000000) only [go_sem, ↓reduceIte, A13_L3_eq, A13_L3b, k0, k1, k2, k3, hP, hQ, e0, e1, e2, Bool.true_or, Bool.false_or]
theorem T3_2 (V IS : List LV) (R BR P Q : List (List LV)) (i j : Nat) (x0 x1 x2 y0 y1 y2 : List (List LV)) (hi : i < 2) (hj : j < 2) (hP : P[i]? = some [.vs x0, .vs x1, .vs x2]) (hQ : Q[j]? = some [.vs y0, .vs y1, .vs y2]) (f0 f1 f2 : Bool) (e0 : pc E 37 [.vs x2, .vs y0] = some (.bool f0)) (e1 : pc E 37 [.vs x2, .vs y1] = some (.bool f1)) (e2 : pc E 37 [.vs x2, .vs y2] = some (.bool f2)) (t : Bool) : (K E A13_L3 ⟨[(2, .vs BR), (3, .ptr 768 0), (4, .ptr 1024 0), (7, .bool true), (8, .bs 9472 0 R.length), (9, .ptr 2304 0), (13, .bool t), (14, .int .i64 i), (15, .int .i64 2), (16, .int .i64 j), (17, .int .i64 0)], [], [(2306, .row 3 Q), (2305, .row 3 P), (2304, .box [.bs 2305 0 2, .bs 2306 0 2]), (9472, .row 4 R), (1024, .box IS), (768, .box V)], 0⟩).bind (blockR 8 (some [2, 3, 4, 7, 8, 9, 13, 14, 15, 16]) [17]) = some (.ex .nrm ⟨[(2, .vs BR), (3, .ptr 768 0), (4, .ptr 1024 0), (7, .bool true), (8, .bs 9472 0 R.length), (9, .ptr 2304 0), (13, .bool (t || (f0 || (f1 || f2)))), (14, .int .i64 i), (15, .int .i64 2), (16, .int .i64 j)], [], [(2306, .row 3 Q), (2305, .row 3 P), (2304, .box [.bs 2305 0 2, .bs 2306 0 2]), (9472, .row 4 R), (1024, .box IS), (768, .box V)], 0⟩) := by
 have k0 : (0 : Int) ≤ i := by omega
 have k1 : (i : Int) < 2 := by omega
 have k2 : (0 : Int) ≤ j := by omega
 have k3 : (j : Int) < 2 := by omega
 cases t with
 | true => simp +contextual -implicitDefEqProofs (maxSteps := 2000000) only [go_sem, ↓reduceIte, A13_L3_eq, A13_L3b, Bool.true_or]
 | false =>
 cases f0 with
 | true => simp +contextual -implicitDefEqProofs (maxSteps := 2000000) only [go_sem, ↓reduceIte, A13_L3_eq, A13_L3b, k0, k1, k2, k3, hP, hQ, e0, Bool.true_or, Bool.false_or]
 | false =>
 cases f1 with
 | true => simp +contextual -implicitDefEqProofs (maxSteps := 2000000) only [go_sem, ↓reduceIte, A13_L3_eq, A13_L3b, k0, k1, k2, k3, hP, hQ, e0, e1, Bool.true_or, Bool.false_or]
 | false => simp +contextual -implicitDefEqProofs (maxSteps := 2000000) only [go_sem, ↓reduceIte, A13_L3_eq, A13_L3b, k0, k1, k2, k3, hP, hQ, e0, e1, e2, Bool.true_or, Bool.false_or]
def anyF (F : List (Int × Int) → List (Int × Int) → Bool) (ms : List (List (Int × Int))) (l : List (Int × Int)) : Bool := ms.any (F l)
theorem or6 (t a b c d e f : Bool) : ((t || (a || (b || c))) || (d || (e || f))) = (t || (a || (b || (c || (d || (e || (f || false))))))) := by
 cases t <;> cases a <;> cases b <;> cases c <;> cases d <;> cases e <;> cases f <;> rfl
theorem T4_00 (V IS : List LV) (R BR : List (List LV)) (l0 l1 l2 l3 l4 l5 m0 m1 m2 m3 m4 m5 : List (Int × Int)) (F : List (Int × Int) → List (Int × Int) → Bool) (hF : ∀ l ∈ [l0, l1, l2, l3, l4, l5], ∀ m ∈ [m0, m1, m2, m3, m4, m5], pc E 37 [lkv l, lkv m] = some (.bool (F l m))) (t : Bool) : (K E A13_L4 ⟨[(2, .vs BR), (3, .ptr 768 0), (4, .ptr 1024 0), (7, .bool true), (8, .bs 9472 0 R.length), (9, .ptr 2304 0), (13, .bool t), (14, .int .i64 0), (15, .int .i64 0), (16, .int .i64 0)], [], [(2306, .row 3 [[lkv m0, lkv m1, lkv m2], [lkv m3, lkv m4, lkv m5]]), (2305, .row 3 [[lkv l0, lkv l1, lkv l2], [lkv l3, lkv l4, lkv l5]]), (2304, .box [.bs 2305 0 2, .bs 2306 0 2]), (9472, .row 4 R), (1024, .box IS), (768, .box V)], 0⟩).bind (blockR 6 (some [2, 3, 4, 7, 8, 9, 13, 14, 15]) [16, 17]) = some (.ex .nrm ⟨[(2, .vs BR), (3, .ptr 768 0), (4, .ptr 1024 0), (7, .bool true), (8, .bs 9472 0 R.length), (9, .ptr 2304 0), (13, .bool (t || anyF F [m0, m1, m2, m3, m4, m5] l0)), (14, .int .i64 0), (15, .int .i64 0)], [], [(2306, .row 3 [[lkv m0, lkv m1, lkv m2], [lkv m3, lkv m4, lkv m5]]), (2305, .row 3 [[lkv l0, lkv l1, lkv l2], [lkv l3, lkv l4, lkv l5]]), (2304, .box [.bs 2305 0 2, .bs 2306 0 2]), (9472, .row 4 R), (1024, .box IS), (768, .box V)], 0⟩) := by
 have h0 := T3_0 V IS R BR [[lkv l0, lkv l1, lkv l2], [lkv l3, lkv l4, lkv l5]] [[lkv m0, lkv m1, lkv m2], [lkv m3, lkv m4, lkv m5]] 0 0 (l0.map c2) (l1.map c2) (l2.map c2) (m0.map c2) (m1.map c2) (m2.map c2) (by decide) (by decide) rfl rfl (F l0 m0) (F l0 m1) (F l0 m2) (hF l0 (by simp) m0 (by simp)) (hF l0 (by simp) m1 (by simp)) (hF l0 (by simp) m2 (by simp)) t
 have h1 := T3_0 V IS R BR [[lkv l0, lkv l1, lkv l2], [lkv l3, lkv l4, lkv l5]] [[lkv m0, lkv m1, lkv m2], [lkv m3, lkv m4, lkv m5]] 0 1 (l0.map c2) (l1.map c2) (l2.map c2) (m3.map c2) (m4.map c2) (m5.map c2) (by decide) (by decide) rfl rfl (F l0 m3) (F l0 m4) (F l0 m5) (hF l0 (by simp) m3 (by simp)) (hF l0 (by simp) m4 (by simp)) (hF l0 (by simp) m5 (by simp)) (t || (F l0 m0 || (F l0 m1 || F l0 m2)))
 unfold lkv at h0 h1
 have e : anyF F [m0, m1, m2, m3, m4, m5] l0 = (F l0 m0 || (F l0 m1 || (F l0 m2 || (F l0 m3 || (F l0 m4 || (F l0 m5 || false)))))) := rfl
 rw [e, ← or6]
 unfold lkv
 simp only [Int.natCast_zero, Int.natCast_one, Int.ofNat_zero, Int.ofNat_one] at h0 h1
 simp +contextual -implicitDefEqProofs (maxSteps := 2000000) only [go_sem, ↓reduceIte, A13_L4_eq, A13_L4b, h0, h1]
theorem T4_01 (V IS : List LV) (R BR : List (List LV)) (l0 l1 l2 l3 l4 l5 m0 m1 m2 m3 m4 m5 : List (Int × Int)) (F : List (Int × Int) → List (Int × Int) → Bool) (hF : ∀ l ∈ [l0, l1, l2, l3, l4, l5], ∀ m ∈ [m0, m1, m2, m3, m4, m5], pc E 37 [lkv l, lkv m] = some (.bool (F l m))) (t : Bool) : (K E A13_L4 ⟨[(2, .vs BR), (3, .ptr 768 0), (4, .ptr 1024 0), (7, .bool true), (8, .bs 9472 0 R.length), (9, .ptr 2304 0), (13, .bool t), (14, .int .i64 0), (15, .int .i64 1), (16, .int .i64 0)], [], [(2306, .row 3 [[lkv m0, lkv m1, lkv m2], [lkv m3, lkv m4, lkv m5]]), (2305, .row 3 [[lkv l0, lkv l1, lkv l2], [lkv l3, lkv l4, lkv l5]]), (2304, .box [.bs 2305 0 2, .bs 2306 0 2]), (9472, .row 4 R), (1024, .box IS), (768, .box V)], 0⟩).bind (blockR 6 (some [2, 3, 4, 7, 8, 9, 13, 14, 15]) [16, 17]) = some (.ex .nrm ⟨[(2, .vs BR), (3, .ptr 768 0), (4, .ptr 1024 0), (7, .bool true), (8, .bs 9472 0 R.length), (9, .ptr 2304 0), (13, .bool (t || anyF F [m0, m1, m2, m3, m4, m5] l1)), (14, .int .i64 0), (15, .int .i64 1)], [], [(2306, .row 3 [[lkv m0, lkv m1, lkv m2], [lkv m3, lkv m4, lkv m5]]), (2305, .row 3 [[lkv l0, lkv l1, lkv l2], [lkv l3, lkv l4, lkv l5]]), (2304, .box [.bs 2305 0 2, .bs 2306 0 2]), (9472, .row 4 R), (1024, .box IS), (768, .box V)], 0⟩) := by
 have h0 := T3_1 V IS R BR [[lkv l0, lkv l1, lkv l2], [lkv l3, lkv l4, lkv l5]] [[lkv m0, lkv m1, lkv m2], [lkv m3, lkv m4, lkv m5]] 0 0 (l0.map c2) (l1.map c2) (l2.map c2) (m0.map c2) (m1.map c2) (m2.map c2) (by decide) (by decide) rfl rfl (F l1 m0) (F l1 m1) (F l1 m2) (hF l1 (by simp) m0 (by simp)) (hF l1 (by simp) m1 (by simp)) (hF l1 (by simp) m2 (by simp)) t
 have h1 := T3_1 V IS R BR [[lkv l0, lkv l1, lkv l2], [lkv l3, lkv l4, lkv l5]] [[lkv m0, lkv m1, lkv m2], [lkv m3, lkv m4, lkv m5]] 0 1 (l0.map c2) (l1.map c2) (l2.map c2) (m3.map c2) (m4.map c2) (m5.map c2) (by decide) (by decide) rfl rfl (F l1 m3) (F l1 m4) (F l1 m5) (hF l1 (by simp) m3 (by simp)) (hF l1 (by simp) m4 (by simp)) (hF l1 (by simp) m5 (by simp)) (t || (F l1 m0 || (F l1 m1 || F l1 m2)))
 unfold lkv at h0 h1
 have e : anyF F [m0, m1, m2, m3, m4, m5] l1 = (F l1 m0 || (F l1 m1 || (F l1 m2 || (F l1 m3 || (F l1 m4 || (F l1 m5 || false)))))) := rfl
 rw [e, ← or6]
 unfold lkv
 simp only [Int.natCast_zero, Int.natCast_one, Int.ofNat_zero, Int.ofNat_one] at h0 h1
 simp +contextual -implicitDefEqProofs (maxSteps := 2000000) only [go_sem, ↓reduceIte, A13_L4_eq, A13_L4b, h0, h1]
theorem T4_02 (V IS : List LV) (R BR : List (List LV)) (l0 l1 l2 l3 l4 l5 m0 m1 m2 m3 m4 m5 : List (Int × Int)) (F : List (Int × Int) → List (Int × Int) → Bool) (hF : ∀ l ∈ [l0, l1, l2, l3, l4, l5], ∀ m ∈ [m0, m1, m2, m3, m4, m5], pc E 37 [lkv l, lkv m] = some (.bool (F l m))) (t : Bool) : (K E A13_L4 ⟨[(2, .vs BR), (3, .ptr 768 0), (4, .ptr 1024 0), (7, .bool true), (8, .bs 9472 0 R.length), (9, .ptr 2304 0), (13, .bool t), (14, .int .i64 0), (15, .int .i64 2), (16, .int .i64 0)], [], [(2306, .row 3 [[lkv m0, lkv m1, lkv m2], [lkv m3, lkv m4, lkv m5]]), (2305, .row 3 [[lkv l0, lkv l1, lkv l2], [lkv l3, lkv l4, lkv l5]]), (2304, .box [.bs 2305 0 2, .bs 2306 0 2]), (9472, .row 4 R), (1024, .box IS), (768, .box V)], 0⟩).bind (blockR 6 (some [2, 3, 4, 7, 8, 9, 13, 14, 15]) [16, 17]) = some (.ex .nrm ⟨[(2, .vs BR), (3, .ptr 768 0), (4, .ptr 1024 0), (7, .bool true), (8, .bs 9472 0 R.length), (9, .ptr 2304 0), (13, .bool (t || anyF F [m0, m1, m2, m3, m4, m5] l2)), (14, .int .i64 0), (15, .int .i64 2)], [], [(2306, .row 3 [[lkv m0, lkv m1, lkv m2], [lkv m3, lkv m4, lkv m5]]), (2305, .row 3 [[lkv l0, lkv l1, lkv l2], [lkv l3, lkv l4, lkv l5]]), (2304, .box [.bs 2305 0 2, .bs 2306 0 2]), (9472, .row 4 R), (1024, .box IS), (768, .box V)], 0⟩) := by
 have h0 := T3_2 V IS R BR [[lkv l0, lkv l1, lkv l2], [lkv l3, lkv l4, lkv l5]] [[lkv m0, lkv m1, lkv m2], [lkv m3, lkv m4, lkv m5]] 0 0 (l0.map c2) (l1.map c2) (l2.map c2) (m0.map c2) (m1.map c2) (m2.map c2) (by decide) (by decide) rfl rfl (F l2 m0) (F l2 m1) (F l2 m2) (hF l2 (by simp) m0 (by simp)) (hF l2 (by simp) m1 (by simp)) (hF l2 (by simp) m2 (by simp)) t
 have h1 := T3_2 V IS R BR [[lkv l0, lkv l1, lkv l2], [lkv l3, lkv l4, lkv l5]] [[lkv m0, lkv m1, lkv m2], [lkv m3, lkv m4, lkv m5]] 0 1 (l0.map c2) (l1.map c2) (l2.map c2) (m3.map c2) (m4.map c2) (m5.map c2) (by decide) (by decide) rfl rfl (F l2 m3) (F l2 m4) (F l2 m5) (hF l2 (by simp) m3 (by simp)) (hF l2 (by simp) m4 (by simp)) (hF l2 (by simp) m5 (by simp)) (t || (F l2 m0 || (F l2 m1 || F l2 m2)))
 unfold lkv at h0 h1
 have e : anyF F [m0, m1, m2, m3, m4, m5] l2 = (F l2 m0 || (F l2 m1 || (F l2 m2 || (F l2 m3 || (F l2 m4 || (F l2 m5 || false)))))) := rfl
 rw [e, ← or6]
 unfold lkv
 simp only [Int.natCast_zero, Int.natCast_one, Int.ofNat_zero, Int.ofNat_one] at h0 h1
 simp +contextual -implicitDefEqProofs (maxSteps := 2000000) only [go_sem, ↓reduceIte, A13_L4_eq, A13_L4b, h0, h1]
theorem T4_10 (V IS : List LV) (R BR : List (List LV)) (l0 l1 l2 l3 l4 l5 m0 m1 m2 m3 m4 m5 : List (Int × Int)) (F : List (Int × Int) → List (Int × Int) → Bool) (hF : ∀ l ∈ [l0, l1, l2, l3, l4, l5], ∀ m ∈ [m0, m1, m2, m3, m4, m5], pc E 37 [lkv l, lkv m] = some (.bool (F l m))) (t : Bool) : (K E A13_L4 ⟨[(2, .vs BR), (3, .ptr 768 0), (4, .ptr 1024 0), (7, .bool true), (8, .bs 9472 0 R.length), (9, .ptr 2304 0), (13, .bool t), (14, .int .i64 1), (15, .int .i64 0), (16, .int .i64 0)], [], [(2306, .row 3 [[lkv m0, lkv m1, lkv m2], [lkv m3, lkv m4, lkv m5]]), (2305, .row 3 [[lkv l0, lkv l1, lkv l2], [lkv l3, lkv l4, lkv l5]]), (2304, .box [.bs 2305 0 2, .bs 2306 0 2]), (9472, .row 4 R), (1024, .box IS), (768, .box V)], 0⟩).bind (blockR 6 (some [2, 3, 4, 7, 8, 9, 13, 14, 15]) [16, 17]) = some (.ex .nrm ⟨[(2, .vs BR), (3, .ptr 768 0), (4, .ptr 1024 0), (7, .bool true), (8, .bs 9472 0 R.length), (9, .ptr 2304 0), (13, .bool (t || anyF F [m0, m1, m2, m3, m4, m5] l3)), (14, .int .i64 1), (15, .int .i64 0)], [], [(2306, .row 3 [[lkv m0, lkv m1, lkv m2], [lkv m3, lkv m4, lkv m5]]), (2305, .row 3 [[lkv l0, lkv l1, lkv l2], [lkv l3, lkv l4, lkv l5]]), (2304, .box [.bs 2305 0 2, .bs 2306 0 2]), (9472, .row 4 R), (1024, .box IS), (768, .box V)], 0⟩) := by
 have h0 := T3_0 V IS R BR [[lkv l0, lkv l1, lkv l2], [lkv l3, lkv l4, lkv l5]] [[lkv m0, lkv m1, lkv m2], [lkv m3, lkv m4, lkv m5]] 1 0 (l3.map c2) (l4.map c2) (l5.map c2) (m0.map c2) (m1.map c2) (m2.map c2) (by decide) (by decide) rfl rfl (F l3 m0) (F l3 m1) (F l3 m2) (hF l3 (by simp) m0 (by simp)) (hF l3 (by simp) m1 (by simp)) (hF l3 (by simp) m2 (by simp)) t
 have h1 := T3_0 V IS R BR [[lkv l0, lkv l1, lkv l2], [lkv l3, lkv l4, lkv l5]] [[lkv m0, lkv m1, lkv m2], [lkv m3, lkv m4, lkv m5]] 1 1 (l3.map c2) (l4.map c2) (l5.map c2) (m3.map c2) (m4.map c2) (m5.map c2) (by decide) (by decide) rfl rfl (F l3 m3) (F l3 m4) (F l3 m5) (hF l3 (by simp) m3 (by simp)) (hF l3 (by simp) m4 (by simp)) (hF l3 (by simp) m5 (by simp)) (t || (F l3 m0 || (F l3 m1 || F l3 m2)))
 unfold lkv at h0 h1
 have e : anyF F [m0, m1, m2, m3, m4, m5] l3 = (F l3 m0 || (F l3 m1 || (F l3 m2 || (F l3 m3 || (F l3 m4 || (F l3 m5 || false)))))) := rfl
 rw [e, ← or6]
 unfold lkv
 simp only [Int.natCast_zero, Int.natCast_one, Int.ofNat_zero, Int.ofNat_one] at h0 h1
 simp +contextual -implicitDefEqProofs (maxSteps := 2000000) only [go_sem, ↓reduceIte, A13_L4_eq, A13_L4b, h0, h1]
theorem T4_11 (V IS : List LV) (R BR : List (List LV)) (l0 l1 l2 l3 l4 l5 m0 m1 m2 m3 m4 m5 : List (Int × Int)) (F : List (Int × Int) → List (Int × Int) → Bool) (hF : ∀ l ∈ [l0, l1, l2, l3, l4, l5], ∀ m ∈ [m0, m1, m2, m3, m4, m5], pc E 37 [lkv l, lkv m] = some (.bool (F l m))) (t : Bool) : (K E A13_L4 ⟨[(2, .vs BR), (3, .ptr 768 0), (4, .ptr 1024 0), (7, .bool true), (8, .bs 9472 0 R.length), (9, .ptr 2304 0), (13, .bool t), (14, .int .i64 1), (15, .int .i64 1), (16, .int .i64 0)], [], [(2306, .row 3 [[lkv m0, lkv m1, lkv m2], [lkv m3, lkv m4, lkv m5]]), (2305, .row 3 [[lkv l0, lkv l1, lkv l2], [lkv l3, lkv l4, lkv l5]]), (2304, .box [.bs 2305 0 2, .bs 2306 0 2]), (9472, .row 4 R), (1024, .box IS), (768, .box V)], 0⟩).bind (blockR 6 (some [2, 3, 4, 7, 8, 9, 13, 14, 15]) [16, 17]) = some (.ex .nrm ⟨[(2, .vs BR), (3, .ptr 768 0), (4, .ptr 1024 0), (7, .bool true), (8, .bs 9472 0 R.length), (9, .ptr 2304 0), (13, .bool (t || anyF F [m0, m1, m2, m3, m4, m5] l4)), (14, .int .i64 1), (15, .int .i64 1)], [], [(2306, .row 3 [[lkv m0, lkv m1, lkv m2], [lkv m3, lkv m4, lkv m5]]), (2305, .row 3 [[lkv l0, lkv l1, lkv l2], [lkv l3, lkv l4, lkv l5]]), (2304, .box [.bs 2305 0 2, .bs 2306 0 2]), (9472, .row 4 R), (1024, .box IS), (768, .box V)], 0⟩) := by
 have h0 := T3_1 V IS R BR [[lkv l0, lkv l1, lkv l2], [lkv l3, lkv l4, lkv l5]] [[lkv m0, lkv m1, lkv m2], [lkv m3, lkv m4, lkv m5]] 1 0 (l3.map c2) (l4.map c2) (l5.map c2) (m0.map c2) (m1.map c2) (m2.map c2) (by decide) (by decide) rfl rfl (F l4 m0) (F l4 m1) (F l4 m2) (hF l4 (by simp) m0 (by simp)) (hF l4 (by simp) m1 (by simp)) (hF l4 (by simp) m2 (by simp)) t
 have h1 := T3_1 V IS R BR [[lkv l0, lkv l1, lkv l2], [lkv l3, lkv l4, lkv l5]] [[lkv m0, lkv m1, lkv m2], [lkv m3, lkv m4, lkv m5]] 1 1 (l3.map c2) (l4.map c2) (l5.map c2) (m3.map c2) (m4.map c2) (m5.map c2) (by decide) (by decide) rfl rfl (F l4 m3) (F l4 m4) (F l4 m5) (hF l4 (by simp) m3 (by simp)) (hF l4 (by simp) m4 (by simp)) (hF l4 (by simp) m5 (by simp)) (t || (F l4 m0 || (F l4 m1 || F l4 m2)))
 unfold lkv at h0 h1
 have e : anyF F [m0, m1, m2, m3, m4, m5] l4 = (F l4 m0 || (F l4 m1 || (F l4 m2 || (F l4 m3 || (F l4 m4 || (F l4 m5 || false)))))) := rfl
 rw [e, ← or6]
 unfold lkv
 simp only [Int.natCast_zero, Int.natCast_one, Int.ofNat_zero, Int.ofNat_one] at h0 h1
 simp +contextual -implicitDefEqProofs (maxSteps := 2000000) only [go_sem, ↓reduceIte, A13_L4_eq, A13_L4b, h0, h1]
theorem T4_12 (V IS : List LV) (R BR : List (List LV)) (l0 l1 l2 l3 l4 l5 m0 m1 m2 m3 m4 m5 : List (Int × Int)) (F : List (Int × Int) → List (Int × Int) → Bool) (hF : ∀ l ∈ [l0, l1, l2, l3, l4, l5], ∀ m ∈ [m0, m1, m2, m3, m4, m5], pc E 37 [lkv l, lkv m] = some (.bool (F l m))) (t : Bool) : (K E A13_L4 ⟨[(2, .vs BR), (3, .ptr 768 0), (4, .ptr 1024 0), (7, .bool true), (8, .bs 9472 0 R.length), (9, .ptr 2304 0), (13, .bool t), (14, .int .i64 1), (15, .int .i64 2), (16, .int .i64 0)], [], [(2306, .row 3 [[lkv m0, lkv m1, lkv m2], [lkv m3, lkv m4, lkv m5]]), (2305, .row 3 [[lkv l0, lkv l1, lkv l2], [lkv l3, lkv l4, lkv l5]]), (2304, .box [.bs 2305 0 2, .bs 2306 0 2]), (9472, .row 4 R), (1024, .box IS), (768, .box V)], 0⟩).bind (blockR 6 (some [2, 3, 4, 7, 8, 9, 13, 14, 15]) [16, 17]) = some (.ex .nrm ⟨[(2, .vs BR), (3, .ptr 768 0), (4, .ptr 1024 0), (7, .bool true), (8, .bs 9472 0 R.length), (9, .ptr 2304 0), (13, .bool (t || anyF F [m0, m1, m2, m3, m4, m5] l5)), (14, .int .i64 1), (15, .int .i64 2)], [], [(2306, .row 3 [[lkv m0, lkv m1, lkv m2], [lkv m3, lkv m4, lkv m5]]), (2305, .row 3 [[lkv l0, lkv l1, lkv l2], [lkv l3, lkv l4, lkv l5]]), (2304, .box [.bs 2305 0 2, .bs 2306 0 2]), (9472, .row 4 R), (1024, .box IS), (768, .box V)], 0⟩) := by
 have h0 := T3_2 V IS R BR [[lkv l0, lkv l1, lkv l2], [lkv l3, lkv l4, lkv l5]] [[lkv m0, lkv m1, lkv m2], [lkv m3, lkv m4, lkv m5]] 1 0 (l3.map c2) (l4.map c2) (l5.map c2) (m0.map c2) (m1.map c2) (m2.map c2) (by decide) (by decide) rfl rfl (F l5 m0) (F l5 m1) (F l5 m2) (hF l5 (by simp) m0 (by simp)) (hF l5 (by simp) m1 (by simp)) (hF l5 (by simp) m2 (by simp)) t
 have h1 := T3_2 V IS R BR [[lkv l0, lkv l1, lkv l2], [lkv l3, lkv l4, lkv l5]] [[lkv m0, lkv m1, lkv m2], [lkv m3, lkv m4, lkv m5]] 1 1 (l3.map c2) (l4.map c2) (l5.map c2) (m3.map c2) (m4.map c2) (m5.map c2) (by decide) (by decide) rfl rfl (F l5 m3) (F l5 m4) (F l5 m5) (hF l5 (by simp) m3 (by simp)) (hF l5 (by simp) m4 (by simp)) (hF l5 (by simp) m5 (by simp)) (t || (F l5 m0 || (F l5 m1 || F l5 m2)))
 unfold lkv at h0 h1
 have e : anyF F [m0, m1, m2, m3, m4, m5] l5 = (F l5 m0 || (F l5 m1 || (F l5 m2 || (F l5 m3 || (F l5 m4 || (F l5 m5 || false)))))) := rfl
 rw [e, ← or6]
 unfold lkv
 simp only [Int.natCast_zero, Int.natCast_one, Int.ofNat_zero, Int.ofNat_one] at h0 h1
 simp +contextual -implicitDefEqProofs (maxSteps := 2000000) only [go_sem, ↓reduceIte, A13_L4_eq, A13_L4b, h0, h1]
theorem T5_0 (V IS : List LV) (R BR : List (List LV)) (l0 l1 l2 l3 l4 l5 m0 m1 m2 m3 m4 m5 : List (Int × Int)) (F : List (Int × Int) → List (Int × Int) → Bool) (hF : ∀ l ∈ [l0, l1, l2, l3, l4, l5], ∀ m ∈ [m0, m1, m2, m3, m4, m5], pc E 37 [lkv l, lkv m] = some (.bool (F l m))) (t : Bool) : (K E A13_L5 ⟨[(2, .vs BR), (3, .ptr 768 0), (4, .ptr 1024 0), (7, .bool true), (8, .bs 9472 0 R.length), (9, .ptr 2304 0), (13, .bool t), (14, .int .i64 0), (15, .int .i64 0)], [], [(2306, .row 3 [[lkv m0, lkv m1, lkv m2], [lkv m3, lkv m4, lkv m5]]), (2305, .row 3 [[lkv l0, lkv l1, lkv l2], [lkv l3, lkv l4, lkv l5]]), (2304, .box [.bs 2305 0 2, .bs 2306 0 2]), (9472, .row 4 R), (1024, .box IS), (768, .box V)], 0⟩).bind (blockR 4 (some [2, 3, 4, 7, 8, 9, 13, 14]) [15, 16, 17]) = some (.ex .nrm ⟨[(2, .vs BR), (3, .ptr 768 0), (4, .ptr 1024 0), (7, .bool true), (8, .bs 9472 0 R.length), (9, .ptr 2304 0), (13, .bool (((t || anyF F [m0, m1, m2, m3, m4, m5] l0) || anyF F [m0, m1, m2, m3, m4, m5] l1) || anyF F [m0, m1, m2, m3, m4, m5] l2)), (14, .int .i64 0)], [], [(2306, .row 3 [[lkv m0, lkv m1, lkv m2], [lkv m3, lkv m4, lkv m5]]), (2305, .row 3 [[lkv l0, lkv l1, lkv l2], [lkv l3, lkv l4, lkv l5]]), (2304, .box [.bs 2305 0 2, .bs 2306 0 2]), (9472, .row 4 R), (1024, .box IS), (768, .box V)], 0⟩) := by
 have h0 := T4_00 V IS R BR l0 l1 l2 l3 l4 l5 m0 m1 m2 m3 m4 m5 F hF t
 have h1 := T4_01 V IS R BR l0 l1 l2 l3 l4 l5 m0 m1 m2 m3 m4 m5 F hF (t || anyF F [m0, m1, m2, m3, m4, m5] l0)
 have h2 := T4_02 V IS R BR l0 l1 l2 l3 l4 l5 m0 m1 m2 m3 m4 m5 F hF ((t || anyF F [m0, m1, m2, m3, m4, m5] l0) || anyF F [m0, m1, m2, m3, m4, m5] l1)
 generalize anyF F [m0, m1, m2, m3, m4, m5] l0 = u0 at *
 generalize anyF F [m0, m1, m2, m3, m4, m5] l1 = u1 at *
 generalize anyF F [m0, m1, m2, m3, m4, m5] l2 = u2 at *
 unfold lkv at h0 h1 h2 ⊢
 simp +contextual -implicitDefEqProofs (maxSteps := 2000000) only [go_sem, ↓reduceIte, A13_L5_eq, A13_L5b, h0, h1, h2]
theorem T5_1 (V IS : List LV) (R BR : List (List LV)) (l0 l1 l2 l3 l4 l5 m0 m1 m2 m3 m4 m5 : List (Int × Int)) (F : List (Int × Int) → List (Int × Int) → Bool) (hF : ∀ l ∈ [l0, l1, l2, l3, l4, l5], ∀ m ∈ [m0, m1, m2, m3, m4, m5], pc E 37 [lkv l, lkv m] = some (.bool (F l m))) (t : Bool) : (K E A13_L5 ⟨[(2, .vs BR), (3, .ptr 768 0), (4, .ptr 1024 0), (7, .bool true), (8, .bs 9472 0 R.length), (9, .ptr 2304 0), (13, .bool t), (14, .int .i64 1), (15, .int .i64 0)], [], [(2306, .row 3 [[lkv m0, lkv m1, lkv m2], [lkv m3, lkv m4, lkv m5]]), (2305, .row 3 [[lkv l0, lkv l1, lkv l2], [lkv l3, lkv l4, lkv l5]]), (2304, .box [.bs 2305 0 2, .bs 2306 0 2]), (9472, .row 4 R), (1024, .box IS), (768, .box V)], 0⟩).bind (blockR 4 (some [2, 3, 4, 7, 8, 9, 13, 14]) [15, 16, 17]) = some (.ex .nrm ⟨[(2, .vs BR), (3, .ptr 768 0), (4, .ptr 1024 0), (7, .bool true), (8, .bs 9472 0 R.length), (9, .ptr 2304 0), (13, .bool (((t || anyF F [m0, m1, m2, m3, m4, m5] l3) || anyF F [m0, m1, m2, m3, m4, m5] l4) || anyF F [m0, m1, m2, m3, m4, m5] l5)), (14, .int .i64 1)], [], [(2306, .row 3 [[lkv m0, lkv m1, lkv m2], [lkv m3, lkv m4, lkv m5]]), (2305, .row 3 [[lkv l0, lkv l1, lkv l2], [lkv l3, lkv l4, lkv l5]]), (2304, .box [.bs 2305 0 2, .bs 2306 0 2]), (9472, .row 4 R), (1024, .box IS), (768, .box V)], 0⟩) := by
 have h0 := T4_10 V IS R BR l0 l1 l2 l3 l4 l5 m0 m1 m2 m3 m4 m5 F hF t
 have h1 := T4_11 V IS R BR l0 l1 l2 l3 l4 l5 m0 m1 m2 m3 m4 m5 F hF (t || anyF F [m0, m1, m2, m3, m4, m5] l3)
 have h2 := T4_12 V IS R BR l0 l1 l2 l3 l4 l5 m0 m1 m2 m3 m4 m5 F hF ((t || anyF F [m0, m1, m2, m3, m4, m5] l3) || anyF F [m0, m1, m2, m3, m4, m5] l4)
 generalize anyF F [m0, m1, m2, m3, m4, m5] l3 = u0 at *
 generalize anyF F [m0, m1, m2, m3, m4, m5] l4 = u1 at *
 generalize anyF F [m0, m1, m2, m3, m4, m5] l5 = u2 at *
 unfold lkv at h0 h1 h2 ⊢
 simp +contextual -implicitDefEqProofs (maxSteps := 2000000) only [go_sem, ↓reduceIte, A13_L5_eq, A13_L5b, h0, h1, h2]
theorem T6 (V IS : List LV) (R BR : List (List LV)) (l0 l1 l2 l3 l4 l5 m0 m1 m2 m3 m4 m5 : List (Int × Int)) (F : List (Int × Int) → List (Int × Int) → Bool) (hF : ∀ l ∈ [l0, l1, l2, l3, l4, l5], ∀ m ∈ [m0, m1, m2, m3, m4, m5], pc E 37 [lkv l, lkv m] = some (.bool (F l m))) : (K E A13_L6 ⟨[(2, .vs BR), (3, .ptr 768 0), (4, .ptr 1024 0), (7, .bool true), (8, .bs 9472 0 R.length), (9, .ptr 2304 0), (13, .bool false), (14, .int .i64 0)], [], [(2306, .row 3 [[lkv m0, lkv m1, lkv m2], [lkv m3, lkv m4, lkv m5]]), (2305, .row 3 [[lkv l0, lkv l1, lkv l2], [lkv l3, lkv l4, lkv l5]]), (2304, .box [.bs 2305 0 2, .bs 2306 0 2]), (9472, .row 4 R), (1024, .box IS), (768, .box V)], 0⟩).bind (blockR 2 (some [2, 3, 4, 7, 8, 9, 13]) [14, 15, 16, 17]) = some (.ex .nrm ⟨[(2, .vs BR), (3, .ptr 768 0), (4, .ptr 1024 0), (7, .bool true), (8, .bs 9472 0 R.length), (9, .ptr 2304 0), (13, .bool ([l0, l1, l2, l3, l4, l5].any (anyF F [m0, m1, m2, m3, m4, m5])))], [], [(2306, .row 3 [[lkv m0, lkv m1, lkv m2], [lkv m3, lkv m4, lkv m5]]), (2305, .row 3 [[lkv l0, lkv l1, lkv l2], [lkv l3, lkv l4, lkv l5]]), (2304, .box [.bs 2305 0 2, .bs 2306 0 2]), (9472, .row 4 R), (1024, .box IS), (768, .box V)], 0⟩) := by
 have h0 := T5_0 V IS R BR l0 l1 l2 l3 l4 l5 m0 m1 m2 m3 m4 m5 F hF false
 have h1 := T5_1 V IS R BR l0 l1 l2 l3 l4 l5 m0 m1 m2 m3 m4 m5 F hF (((false || anyF F [m0, m1, m2, m3, m4, m5] l0) || anyF F [m0, m1, m2, m3, m4, m5] l1) || anyF F [m0, m1, m2, m3, m4, m5] l2)
 have e : [l0, l1, l2, l3, l4, l5].any (anyF F [m0, m1, m2, m3, m4, m5]) = ((((((false || anyF F [m0, m1, m2, m3, m4, m5] l0) || anyF F [m0, m1, m2, m3, m4, m5] l1) || anyF F [m0, m1, m2, m3, m4, m5] l2) || anyF F [m0, m1, m2, m3, m4, m5] l3) || anyF F [m0, m1, m2, m3, m4, m5] l4) || anyF F [m0, m1, m2, m3, m4, m5] l5) := by
  simp only [List.any_cons, List.any_nil, Bool.false_or, Bool.or_false, Bool.or_assoc]
 rw [e]
 generalize (((false || anyF F [m0, m1, m2, m3, m4, m5] l0) || anyF F [m0, m1, m2, m3, m4, m5] l1) || anyF F [m0, m1, m2, m3, m4, m5] l2) = u at *
 generalize (((u || anyF F [m0, m1, m2, m3, m4, m5] l3) || anyF F [m0, m1, m2, m3, m4, m5] l4) || anyF F [m0, m1, m2, m3, m4, m5] l5) = v at *
 unfold lkv at h0 h1 ⊢
 simp +contextual -implicitDefEqProofs (maxSteps := 2000000) only [go_sem, ↓reduceIte, A13_L6_eq, A13_L6b, h0, h1]
end Go.Proofs.Ytnecdcaaknhgpaa

namespace Go.Proofs.Ytnecdcaaknhgpaa
open Go Go.Zv
theorem dw0 : IntKind.i64.wrap (Int.tdiv 0 3) = 0 := by decide
theorem dm0 : Int.tmod 0 3 = 0 := by decide
theorem dw1 : IntKind.i64.wrap (Int.tdiv 1 3) = 0 := by decide
theorem dm1 : Int.tmod 1 3 = 1 := by decide
theorem dw2 : IntKind.i64.wrap (Int.tdiv 2 3) = 0 := by decide
theorem dm2 : Int.tmod 2 3 = 2 := by decide
theorem dw3 : IntKind.i64.wrap (Int.tdiv 3 3) = 1 := by decide
theorem dm3 : Int.tmod 3 3 = 0 := by decide
theorem dw4 : IntKind.i64.wrap (Int.tdiv 4 3) = 1 := by decide
theorem dm4 : Int.tmod 4 3 = 1 := by decide
theorem dw5 : IntKind.i64.wrap (Int.tdiv 5 3) = 1 := by decide
theorem dm5 : Int.tmod 5 3 = 2 := by decide
theorem Z0_0 (V IS : List LV) (R BR ZR : List (List LV)) (l0 l1 l2 l3 l4 l5 m0 m1 m2 m3 m4 m5 : List (Int × Int)) (t : Bool) (z : Nat) (b : Bool) (zp : List (List LV)) (n : Nat) (hz : z < n) (hn1 : BR.length = n) (hn2 : ZR.length = n) (hn3 : n ≤ 1000) (hV : V[41]? = some (.vs ZR)) (hV4 : V.length = 44) (hb : BR[z]? = some [.bool b]) (hzp : ZR[z]? = some [.vs zp]) (f0 f1 f2 f3 f4 f5 : Bool) (e0 : pc E 37 [lkv l0, .vs zp] = some (.bool f0)) (e1 : pc E 37 [lkv l1, .vs zp] = some (.bool f1)) (e2 : pc E 37 [lkv l2, .vs zp] = some (.bool f2)) (e3 : pc E 37 [lkv l3, .vs zp] = some (.bool f3)) (e4 : pc E 37 [lkv l4, .vs zp] = some (.bool f4)) (e5 : pc E 37 [lkv l5, .vs zp] = some (.bool f5)) :
  (K E A13_L0 ⟨[(2, .vs BR), (3, .ptr 768 0), (4, .ptr 1024 0), (7, .bool true), (8, .bs 9472 0 R.length), (9, .ptr 2304 0), (13, .bool t), (18, .int .i64 0), (19, .int .i64 z), (20, .bool false), (21, .int .i64 0)], [], [(2306, .row 3 [[lkv m0, lkv m1, lkv m2], [lkv m3, lkv m4, lkv m5]]), (2305, .row 3 [[lkv l0, lkv l1, lkv l2], [lkv l3, lkv l4, lkv l5]]), (2304, .box [.bs 2305 0 2, .bs 2306 0 2]), (9472, .row 4 R), (1024, .box IS), (768, .box V)], 0⟩).bind (blockR 14 (some [2, 3, 4, 7, 8, 9, 13, 18, 19, 20]) [21]) = some (.ex .nrm ⟨[(2, .vs BR), (3, .ptr 768 0), (4, .ptr 1024 0), (7, .bool true), (8, .bs 9472 0 R.length), (9, .ptr 2304 0), (13, .bool t), (18, .int .i64 0), (19, .int .i64 z), (20, .bool (b && (f0 || (f1 || (f2 || (f3 || (f4 || f5)))))))], [], [(2306, .row 3 [[lkv m0, lkv m1, lkv m2], [lkv m3, lkv m4, lkv m5]]), (2305, .row 3 [[lkv l0, lkv l1, lkv l2], [lkv l3, lkv l4, lkv l5]]), (2304, .box [.bs 2305 0 2, .bs 2306 0 2]), (9472, .row 4 R), (1024, .box IS), (768, .box V)], 0⟩) := by
 have k0 : (0 : Int) ≤ z := by omega
 have k1 : (z : Int) < n := by omega
 unfold lkv at *
 cases b with
 | false => simp +contextual -implicitDefEqProofs (maxSteps := 2000000) only [go_sem, ↓reduceIte, A13_L0_eq, A13_L0b, k0, k1, hn1, hn2, hV, hV4, hb, hzp, Bool.false_and]
 | true =>
 cases f0 with
 | true => simp +contextual -implicitDefEqProofs (maxSteps := 2000000) only [go_sem, ↓reduceIte, A13_L0_eq, A13_L0b, k0, k1, hn1, hn2, hV, hV4, hb, hzp, dw0, dw1, dw2, dw3, dw4, dw5, dm0, dm1, dm2, dm3, dm4, dm5, e0, Bool.true_and, Bool.true_or, Bool.false_or]
 | false =>
 cases f1 with
 | true => simp +contextual -implicitDefEqProofs (maxSteps := 2000000) only [go_sem, ↓reduceIte, A13_L0_eq, A13_L0b, k0, k1, hn1, hn2, hV, hV4, hb, hzp, dw0, dw1, dw2, dw3, dw4, dw5, dm0, dm1, dm2, dm3, dm4, dm5, e0, e1, Bool.true_and, Bool.true_or, Bool.false_or]
 | false =>
 cases f2 with
 | true => simp +contextual -implicitDefEqProofs (maxSteps := 2000000) only [go_sem, ↓reduceIte, A13_L0_eq, A13_L0b, k0, k1, hn1, hn2, hV, hV4, hb, hzp, dw0, dw1, dw2, dw3, dw4, dw5, dm0, dm1, dm2, dm3, dm4, dm5, e0, e1, e2, Bool.true_and, Bool.true_or, Bool.false_or]
 | false =>
 cases f3 with
 | true => simp +contextual -implicitDefEqProofs (maxSteps := 2000000) only [go_sem, ↓reduceIte, A13_L0_eq, A13_L0b, k0, k1, hn1, hn2, hV, hV4, hb, hzp, dw0, dw1, dw2, dw3, dw4, dw5, dm0, dm1, dm2, dm3, dm4, dm5, e0, e1, e2, e3, Bool.true_and, Bool.true_or, Bool.false_or]
 | false =>
 cases f4 with
 | true => simp +contextual -implicitDefEqProofs (maxSteps := 2000000) only [go_sem, ↓reduceIte, A13_L0_eq, A13_L0b, k0, k1, hn1, hn2, hV, hV4, hb, hzp, dw0, dw1, dw2, dw3, dw4, dw5, dm0, dm1, dm2, dm3, dm4, dm5, e0, e1, e2, e3, e4, Bool.true_and, Bool.true_or, Bool.false_or]
 | false =>
 simp +contextual -implicitDefEqProofs (maxSteps := 2000000) only [go_sem, ↓reduceIte, A13_L0_eq, A13_L0b, k0, k1, hn1, hn2, hV, hV4, hb, hzp, dw0, dw1, dw2, dw3, dw4, dw5, dm0, dm1, dm2, dm3, dm4, dm5, e0, e1, e2, e3, e4, e5, Bool.true_and, Bool.true_or, Bool.false_or]
theorem Z0_1 (V IS : List LV) (R BR ZR : List (List LV)) (l0 l1 l2 l3 l4 l5 m0 m1 m2 m3 m4 m5 : List (Int × Int)) (t : Bool) (z : Nat) (b : Bool) (zp : List (List LV)) (n : Nat) (hz : z < n) (hn1 : BR.length = n) (hn2 : ZR.length = n) (hn3 : n ≤ 1000) (hV : V[41]? = some (.vs ZR)) (hV4 : V.length = 44) (hb : BR[z]? = some [.bool b]) (hzp : ZR[z]? = some [.vs zp]) (f0 f1 f2 f3 f4 f5 : Bool) (e0 : pc E 37 [lkv m0, .vs zp] = some (.bool f0)) (e1 : pc E 37 [lkv m1, .vs zp] = some (.bool f1)) (e2 : pc E 37 [lkv m2, .vs zp] = some (.bool f2)) (e3 : pc E 37 [lkv m3, .vs zp] = some (.bool f3)) (e4 : pc E 37 [lkv m4, .vs zp] = some (.bool f4)) (e5 : pc E 37 [lkv m5, .vs zp] = some (.bool f5)) :
  (K E A13_L0 ⟨[(2, .vs BR), (3, .ptr 768 0), (4, .ptr 1024 0), (7, .bool true), (8, .bs 9472 0 R.length), (9, .ptr 2304 0), (13, .bool t), (18, .int .i64 1), (19, .int .i64 z), (20, .bool false), (21, .int .i64 0)], [], [(2306, .row 3 [[lkv m0, lkv m1, lkv m2], [lkv m3, lkv m4, lkv m5]]), (2305, .row 3 [[lkv l0, lkv l1, lkv l2], [lkv l3, lkv l4, lkv l5]]), (2304, .box [.bs 2305 0 2, .bs 2306 0 2]), (9472, .row 4 R), (1024, .box IS), (768, .box V)], 0⟩).bind (blockR 14 (some [2, 3, 4, 7, 8, 9, 13, 18, 19, 20]) [21]) = some (.ex .nrm ⟨[(2, .vs BR), (3, .ptr 768 0), (4, .ptr 1024 0), (7, .bool true), (8, .bs 9472 0 R.length), (9, .ptr 2304 0), (13, .bool t), (18, .int .i64 1), (19, .int .i64 z), (20, .bool (b && (f0 || (f1 || (f2 || (f3 || (f4 || f5)))))))], [], [(2306, .row 3 [[lkv m0, lkv m1, lkv m2], [lkv m3, lkv m4, lkv m5]]), (2305, .row 3 [[lkv l0, lkv l1, lkv l2], [lkv l3, lkv l4, lkv l5]]), (2304, .box [.bs 2305 0 2, .bs 2306 0 2]), (9472, .row 4 R), (1024, .box IS), (768, .box V)], 0⟩) := by
 have k0 : (0 : Int) ≤ z := by omega
 have k1 : (z : Int) < n := by omega
 unfold lkv at *
 cases b with
 | false => simp +contextual -implicitDefEqProofs (maxSteps := 2000000) only [go_sem, ↓reduceIte, A13_L0_eq, A13_L0b, k0, k1, hn1, hn2, hV, hV4, hb, hzp, Bool.false_and]
 | true =>
 cases f0 with
 | true => simp +contextual -implicitDefEqProofs (maxSteps := 2000000) only [go_sem, ↓reduceIte, A13_L0_eq, A13_L0b, k0, k1, hn1, hn2, hV, hV4, hb, hzp, dw0, dw1, dw2, dw3, dw4, dw5, dm0, dm1, dm2, dm3, dm4, dm5, e0, Bool.true_and, Bool.true_or, Bool.false_or]
 | false =>
 cases f1 with
 | true => simp +contextual -implicitDefEqProofs (maxSteps := 2000000) only [go_sem, ↓reduceIte, A13_L0_eq, A13_L0b, k0, k1, hn1, hn2, hV, hV4, hb, hzp, dw0, dw1, dw2, dw3, dw4, dw5, dm0, dm1, dm2, dm3, dm4, dm5, e0, e1, Bool.true_and, Bool.true_or, Bool.false_or]
 | false =>
 cases f2 with
 | true => simp +contextual -implicitDefEqProofs (maxSteps := 2000000) only [go_sem, ↓reduceIte, A13_L0_eq, A13_L0b, k0, k1, hn1, hn2, hV, hV4, hb, hzp, dw0, dw1, dw2, dw3, dw4, dw5, dm0, dm1, dm2, dm3, dm4, dm5, e0, e1, e2, Bool.true_and, Bool.true_or, Bool.false_or]
 | false =>
 cases f3 with
 | true => simp +contextual -implicitDefEqProofs (maxSteps := 2000000) only [go_sem, ↓reduceIte, A13_L0_eq, A13_L0b, k0, k1, hn1, hn2, hV, hV4, hb, hzp, dw0, dw1, dw2, dw3, dw4, dw5, dm0, dm1, dm2, dm3, dm4, dm5, e0, e1, e2, e3, Bool.true_and, Bool.true_or, Bool.false_or]
 | false =>
 cases f4 with
 | true => simp +contextual -implicitDefEqProofs (maxSteps := 2000000) only [go_sem, ↓reduceIte, A13_L0_eq, A13_L0b, k0, k1, hn1, hn2, hV, hV4, hb, hzp, dw0, dw1, dw2, dw3, dw4, dw5, dm0, dm1, dm2, dm3, dm4, dm5, e0, e1, e2, e3, e4, Bool.true_and, Bool.true_or, Bool.false_or]
 | false =>
 simp +contextual -implicitDefEqProofs (maxSteps := 2000000) only [go_sem, ↓reduceIte, A13_L0_eq, A13_L0b, k0, k1, hn1, hn2, hV, hV4, hb, hzp, dw0, dw1, dw2, dw3, dw4, dw5, dm0, dm1, dm2, dm3, dm4, dm5, e0, e1, e2, e3, e4, e5, Bool.true_and, Bool.true_or, Bool.false_or]
theorem Z1_0 (V IS : List LV) (vs : List Vi) (br : List Bool) (zn : List (List (Int × Int))) (l0 l1 l2 l3 l4 l5 m0 m1 m2 m3 m4 m5 : List (Int × Int)) (t : Bool) (hlen : zn.length ≤ 16) (hbl : br.length = zn.length) (hvl : vs.length ≤ 1000) (hV : V[41]? = some (.vs (zn.map Go.Geo.p1))) (hV4 : V.length = 44)
  (F : List (Int × Int) → List (Int × Int) → Bool) (hF : ∀ l ∈ [l0, l1, l2, l3, l4, l5], ∀ m ∈ zn, pc E 37 [lkv l, .vs (m.map Go.Geo.c2)] = some (.bool (F l m)))
  (hvs : ∀ z : Nat, z < zn.length → (((3, 0, 0, (z : Int)) : Vi) ∈ vs ↔ br.getD z false = true ∧ ([l0, l1, l2, l3, l4, l5].any fun l => F l (zn.getD z [])) = true)) :
  (K E A13_L1 ⟨[(2, .vs (br.map bb1)), (3, .ptr 768 0), (4, .ptr 1024 0), (7, .bool true), (8, .bs 9472 0 vs.length), (9, .ptr 2304 0), (13, .bool t), (18, .int .i64 0), (19, .int .i64 0)], [], [(2306, .row 3 [[lkv m0, lkv m1, lkv m2], [lkv m3, lkv m4, lkv m5]]), (2305, .row 3 [[lkv l0, lkv l1, lkv l2], [lkv l3, lkv l4, lkv l5]]), (2304, .box [.bs 2305 0 2, .bs 2306 0 2]), (9472, .row 4 (vs.map v4)), (1024, .box IS), (768, .box V)], 0⟩).bind (blockR 12 (some [2, 3, 4, 7, 8, 9, 13, 18]) [6, 19, 20, 21, 157, 165]) = some (.ex .nrm ⟨[(2, .vs (br.map bb1)), (3, .ptr 768 0), (4, .ptr 1024 0), (7, .bool true), (8, .bs 9472 0 vs.length), (9, .ptr 2304 0), (13, .bool t), (18, .int .i64 0)], [], [(2306, .row 3 [[lkv m0, lkv m1, lkv m2], [lkv m3, lkv m4, lkv m5]]), (2305, .row 3 [[lkv l0, lkv l1, lkv l2], [lkv l3, lkv l4, lkv l5]]), (2304, .box [.bs 2305 0 2, .bs 2306 0 2]), (9472, .row 4 (vs.map v4)), (1024, .box IS), (768, .box V)], 0⟩) := by
 have hv4 := v4_all vs
 have hvs4 := v4_scal vs
 have hvm : (vs.map v4).length = vs.length := List.length_map ..
 have tk : (vs.map v4).take vs.length = vs.map v4 := List.take_of_length_le (by rw [hvm]; omega)
 have hv2 : vs.length ≤ 1000000000 := by omega
 have hzl : (zn.map Go.Geo.p1).length = zn.length := List.length_map ..
 have lp := loop_to (fun S => (K E A13_L1 S).bind (blockR 12 (some [2, 3, 4, 7, 8, 9, 13, 18]) [6, 19, 20, 21, 157, 165])) (fun z => ⟨[(2, .vs (br.map bb1)), (3, .ptr 768 0), (4, .ptr 1024 0), (7, .bool true), (8, .bs 9472 0 vs.length), (9, .ptr 2304 0), (13, .bool t), (18, .int .i64 0), (19, .int .i64 z)], [], [(2306, .row 3 [[lkv m0, lkv m1, lkv m2], [lkv m3, lkv m4, lkv m5]]), (2305, .row 3 [[lkv l0, lkv l1, lkv l2], [lkv l3, lkv l4, lkv l5]]), (2304, .box [.bs 2305 0 2, .bs 2306 0 2]), (9472, .row 4 (vs.map v4)), (1024, .box IS), (768, .box V)], 0⟩) zn.length (fun z hz => by
  have hzk : zn[z]? = some (zn.getD z []) := Go.Geo.getD_of [] hz
  have hbk : br[z]? = some (br.getD z false) := Go.Geo.getD_of false (by omega)
  have hmem : zn.getD z [] ∈ zn := List.mem_of_getElem? hzk
  have w := Z0_0 V IS (vs.map v4) (br.map bb1) (zn.map Go.Geo.p1) l0 l1 l2 l3 l4 l5 m0 m1 m2 m3 m4 m5 t z (br.getD z false) ((zn.getD z []).map Go.Geo.c2) zn.length hz (by rw [List.length_map]; exact hbl) hzl (by omega) hV hV4 (by rw [List.getElem?_map, hbk]; rfl) (by rw [List.getElem?_map, hzk]; rfl) _ _ _ _ _ _ (hF _ (by simp) _ hmem) (hF _ (by simp) _ hmem) (hF _ (by simp) _ hmem) (hF _ (by simp) _ hmem) (hF _ (by simp) _ hmem) (hF _ (by simp) _ hmem)
  have hh := hvs z hz
  generalize zn.getD z [] = zz at *
  have e : ([l0, l1, l2, l3, l4, l5].any fun l => F l zz) = (F l0 zz || (F l1 zz || (F l2 zz || (F l3 zz || (F l4 zz || F l5 zz))))) := by
   simp only [List.any_cons, List.any_nil, Bool.or_false]
  rw [e] at hh
  generalize (F l0 zz || (F l1 zz || (F l2 zz || (F l3 zz || (F l4 zz || F l5 zz))))) = h at *
  have o := c43 vs (by omega) (3, 0, 0, (z : Int))
  have hd : decide (((3, 0, 0, (z : Int)) : Vi) ∈ vs) = (br.getD z false && h) := by
   rw [Bool.eq_iff_iff, decide_eq_true_eq, Bool.and_eq_true]; exact hh
  rw [hd] at o
  have e4 : v4 (3, 0, 0, (z : Int)) = [.int .i64 3, .int .i64 0, .int .i64 0, .int .i64 z] := rfl
  rw [e4] at o
  generalize (br.getD z false && h) = hb at *
  have k0 : (0 : Int) ≤ z := by omega
  have k1 : (z : Int) < zn.length := by omega
  have hw := wr_succ (n := z) (by omega)
  rw [hvm] at w
  generalize vs.map v4 = R at *
  generalize zn.map Go.Geo.p1 = ZR at *
  show (K E A13_L1 _).bind _ = (K E A13_L1 _).bind _
  conv => lhs; rw [A13_L1_eq]
  unfold lkv at *
  cases hb <;> simp +contextual -implicitDefEqProofs (maxSteps := 2000000) only [go_sem, ↓reduceIte, A13_L1b, k0, k1, hw, hV, hV4, hzl, w, o, hv4, hvs4, hvm, tk, hv2, Nat.le_refl])
 have stop : (K E A13_L1 ⟨[(2, .vs (br.map bb1)), (3, .ptr 768 0), (4, .ptr 1024 0), (7, .bool true), (8, .bs 9472 0 vs.length), (9, .ptr 2304 0), (13, .bool t), (18, .int .i64 0), (19, .int .i64 zn.length)], [], [(2306, .row 3 [[lkv m0, lkv m1, lkv m2], [lkv m3, lkv m4, lkv m5]]), (2305, .row 3 [[lkv l0, lkv l1, lkv l2], [lkv l3, lkv l4, lkv l5]]), (2304, .box [.bs 2305 0 2, .bs 2306 0 2]), (9472, .row 4 (vs.map v4)), (1024, .box IS), (768, .box V)], 0⟩).bind (blockR 12 (some [2, 3, 4, 7, 8, 9, 13, 18]) [6, 19, 20, 21, 157, 165]) = some (.ex .nrm ⟨[(2, .vs (br.map bb1)), (3, .ptr 768 0), (4, .ptr 1024 0), (7, .bool true), (8, .bs 9472 0 vs.length), (9, .ptr 2304 0), (13, .bool t), (18, .int .i64 0)], [], [(2306, .row 3 [[lkv m0, lkv m1, lkv m2], [lkv m3, lkv m4, lkv m5]]), (2305, .row 3 [[lkv l0, lkv l1, lkv l2], [lkv l3, lkv l4, lkv l5]]), (2304, .box [.bs 2305 0 2, .bs 2306 0 2]), (9472, .row 4 (vs.map v4)), (1024, .box IS), (768, .box V)], 0⟩) := by
  generalize vs.map v4 = R at *
  generalize zn.map Go.Geo.p1 = ZR at *
  unfold lkv
  rw [A13_L1_eq]; simp +contextual -implicitDefEqProofs (maxSteps := 2000000) only [go_sem, ↓reduceIte, A13_L1b, hV, hV4, hzl, Int.lt_irrefl]
 have lp := lp.trans stop
 simpa only [Int.natCast_zero, Int.ofNat_zero] using lp
theorem Z1_1 (V IS : List LV) (vs : List Vi) (br : List Bool) (zn : List (List (Int × Int))) (l0 l1 l2 l3 l4 l5 m0 m1 m2 m3 m4 m5 : List (Int × Int)) (t : Bool) (hlen : zn.length ≤ 16) (hbl : br.length = zn.length) (hvl : vs.length ≤ 1000) (hV : V[41]? = some (.vs (zn.map Go.Geo.p1))) (hV4 : V.length = 44)
  (F : List (Int × Int) → List (Int × Int) → Bool) (hF : ∀ l ∈ [m0, m1, m2, m3, m4, m5], ∀ m ∈ zn, pc E 37 [lkv l, .vs (m.map Go.Geo.c2)] = some (.bool (F l m)))
  (hvs : ∀ z : Nat, z < zn.length → (((3, 1, 0, (z : Int)) : Vi) ∈ vs ↔ br.getD z false = true ∧ ([m0, m1, m2, m3, m4, m5].any fun l => F l (zn.getD z [])) = true)) :
  (K E A13_L1 ⟨[(2, .vs (br.map bb1)), (3, .ptr 768 0), (4, .ptr 1024 0), (7, .bool true), (8, .bs 9472 0 vs.length), (9, .ptr 2304 0), (13, .bool t), (18, .int .i64 1), (19, .int .i64 0)], [], [(2306, .row 3 [[lkv m0, lkv m1, lkv m2], [lkv m3, lkv m4, lkv m5]]), (2305, .row 3 [[lkv l0, lkv l1, lkv l2], [lkv l3, lkv l4, lkv l5]]), (2304, .box [.bs 2305 0 2, .bs 2306 0 2]), (9472, .row 4 (vs.map v4)), (1024, .box IS), (768, .box V)], 0⟩).bind (blockR 12 (some [2, 3, 4, 7, 8, 9, 13, 18]) [6, 19, 20, 21, 157, 165]) = some (.ex .nrm ⟨[(2, .vs (br.map bb1)), (3, .ptr 768 0), (4, .ptr 1024 0), (7, .bool true), (8, .bs 9472 0 vs.length), (9, .ptr 2304 0), (13, .bool t), (18, .int .i64 1)], [], [(2306, .row 3 [[lkv m0, lkv m1, lkv m2], [lkv m3, lkv m4, lkv m5]]), (2305, .row 3 [[lkv l0, lkv l1, lkv l2], [lkv l3, lkv l4, lkv l5]]), (2304, .box [.bs 2305 0 2, .bs 2306 0 2]), (9472, .row 4 (vs.map v4)), (1024, .box IS), (768, .box V)], 0⟩) := by
 have hv4 := v4_all vs
 have hvs4 := v4_scal vs
 have hvm : (vs.map v4).length = vs.length := List.length_map ..
 have tk : (vs.map v4).take vs.length = vs.map v4 := List.take_of_length_le (by rw [hvm]; omega)
 have hv2 : vs.length ≤ 1000000000 := by omega
 have hzl : (zn.map Go.Geo.p1).length = zn.length := List.length_map ..
 have lp := loop_to (fun S => (K E A13_L1 S).bind (blockR 12 (some [2, 3, 4, 7, 8, 9, 13, 18]) [6, 19, 20, 21, 157, 165])) (fun z => ⟨[(2, .vs (br.map bb1)), (3, .ptr 768 0), (4, .ptr 1024 0), (7, .bool true), (8, .bs 9472 0 vs.length), (9, .ptr 2304 0), (13, .bool t), (18, .int .i64 1), (19, .int .i64 z)], [], [(2306, .row 3 [[lkv m0, lkv m1, lkv m2], [lkv m3, lkv m4, lkv m5]]), (2305, .row 3 [[lkv l0, lkv l1, lkv l2], [lkv l3, lkv l4, lkv l5]]), (2304, .box [.bs 2305 0 2, .bs 2306 0 2]), (9472, .row 4 (vs.map v4)), (1024, .box IS), (768, .box V)], 0⟩) zn.length (fun z hz => by
  have hzk : zn[z]? = some (zn.getD z []) := Go.Geo.getD_of [] hz
  have hbk : br[z]? = some (br.getD z false) := Go.Geo.getD_of false (by omega)
  have hmem : zn.getD z [] ∈ zn := List.mem_of_getElem? hzk
  have w := Z0_1 V IS (vs.map v4) (br.map bb1) (zn.map Go.Geo.p1) l0 l1 l2 l3 l4 l5 m0 m1 m2 m3 m4 m5 t z (br.getD z false) ((zn.getD z []).map Go.Geo.c2) zn.length hz (by rw [List.length_map]; exact hbl) hzl (by omega) hV hV4 (by rw [List.getElem?_map, hbk]; rfl) (by rw [List.getElem?_map, hzk]; rfl) _ _ _ _ _ _ (hF _ (by simp) _ hmem) (hF _ (by simp) _ hmem) (hF _ (by simp) _ hmem) (hF _ (by simp) _ hmem) (hF _ (by simp) _ hmem) (hF _ (by simp) _ hmem)
  have hh := hvs z hz
  generalize zn.getD z [] = zz at *
  have e : ([m0, m1, m2, m3, m4, m5].any fun l => F l zz) = (F m0 zz || (F m1 zz || (F m2 zz || (F m3 zz || (F m4 zz || F m5 zz))))) := by
   simp only [List.any_cons, List.any_nil, Bool.or_false]
  rw [e] at hh
  generalize (F m0 zz || (F m1 zz || (F m2 zz || (F m3 zz || (F m4 zz || F m5 zz))))) = h at *
  have o := c43 vs (by omega) (3, 1, 0, (z : Int))
  have hd : decide (((3, 1, 0, (z : Int)) : Vi) ∈ vs) = (br.getD z false && h) := by
   rw [Bool.eq_iff_iff, decide_eq_true_eq, Bool.and_eq_true]; exact hh
  rw [hd] at o
  have e4 : v4 (3, 1, 0, (z : Int)) = [.int .i64 3, .int .i64 1, .int .i64 0, .int .i64 z] := rfl
  rw [e4] at o
  generalize (br.getD z false && h) = hb at *
  have k0 : (0 : Int) ≤ z := by omega
  have k1 : (z : Int) < zn.length := by omega
  have hw := wr_succ (n := z) (by omega)
  rw [hvm] at w
  generalize vs.map v4 = R at *
  generalize zn.map Go.Geo.p1 = ZR at *
  show (K E A13_L1 _).bind _ = (K E A13_L1 _).bind _
  conv => lhs; rw [A13_L1_eq]
  unfold lkv at *
  cases hb <;> simp +contextual -implicitDefEqProofs (maxSteps := 2000000) only [go_sem, ↓reduceIte, A13_L1b, k0, k1, hw, hV, hV4, hzl, w, o, hv4, hvs4, hvm, tk, hv2, Nat.le_refl])
 have stop : (K E A13_L1 ⟨[(2, .vs (br.map bb1)), (3, .ptr 768 0), (4, .ptr 1024 0), (7, .bool true), (8, .bs 9472 0 vs.length), (9, .ptr 2304 0), (13, .bool t), (18, .int .i64 1), (19, .int .i64 zn.length)], [], [(2306, .row 3 [[lkv m0, lkv m1, lkv m2], [lkv m3, lkv m4, lkv m5]]), (2305, .row 3 [[lkv l0, lkv l1, lkv l2], [lkv l3, lkv l4, lkv l5]]), (2304, .box [.bs 2305 0 2, .bs 2306 0 2]), (9472, .row 4 (vs.map v4)), (1024, .box IS), (768, .box V)], 0⟩).bind (blockR 12 (some [2, 3, 4, 7, 8, 9, 13, 18]) [6, 19, 20, 21, 157, 165]) = some (.ex .nrm ⟨[(2, .vs (br.map bb1)), (3, .ptr 768 0), (4, .ptr 1024 0), (7, .bool true), (8, .bs 9472 0 vs.length), (9, .ptr 2304 0), (13, .bool t), (18, .int .i64 1)], [], [(2306, .row 3 [[lkv m0, lkv m1, lkv m2], [lkv m3, lkv m4, lkv m5]]), (2305, .row 3 [[lkv l0, lkv l1, lkv l2], [lkv l3, lkv l4, lkv l5]]), (2304, .box [.bs 2305 0 2, .bs 2306 0 2]), (9472, .row 4 (vs.map v4)), (1024, .box IS), (768, .box V)], 0⟩) := by
  generalize vs.map v4 = R at *
  generalize zn.map Go.Geo.p1 = ZR at *
  unfold lkv
  rw [A13_L1_eq]; simp +contextual -implicitDefEqProofs (maxSteps := 2000000) only [go_sem, ↓reduceIte, A13_L1b, hV, hV4, hzl, Int.lt_irrefl]
 have lp := lp.trans stop
 simpa only [Int.natCast_zero, Int.ofNat_zero] using lp
end Go.Proofs.Ytnecdcaaknhgpaa

namespace Go.Proofs.Ytnecdcaaknhgpaa
open Go Go.Zv
theorem bods_val {a : Arm} (h : OKa a) (x0 x1 x2 : Int) : ∀ l ∈ bods a x0 x1 x2, Go.Geo.valB l = true := by
 have key : ∀ d, DV d → ∀ l ∈ lks a d, Go.Geo.valB l = true := by
  intro d v l hl
  have R := r3 h v
  rw [lks_rc] at hl
  simp only [lrs, List.mem_cons, List.not_mem_nil, or_false] at hl
  rcases hl with rfl | rfl | rfl
  ·exact Go.Geo.rc_val R.r0
  ·exact Go.Geo.rc_val R.r1
  ·exact Go.Geo.rc_val R.r2
 intro l hl
 unfold bods at hl
 rcases List.mem_append.1 hl with h1 | h1
 ·exact key _ (ddV _ _ _) l h1
 ·exact key _ (ddV _ _ _) l h1
theorem val_may {l : List (Int × Int)} (h : Go.Geo.valB l = true) : l.all Go.Geo.mayB = true ∧ l ≠ [] := by
 unfold Go.Geo.valB at h
 simp only [Bool.and_eq_true, decide_eq_true_eq] at h
 exact ⟨h.2.2.1, fun e => by have := h.1; rw [e] at this; simp at this⟩
theorem box_B {l : List (Int × Int)} (h : l.all Go.Geo.mayB = true) (hn : l ≠ []) : (-439400000 ≤ (Go.Geo.bbL l).1 ∧ (Go.Geo.bbL l).1 ≤ 439400000) ∧ (-439400000 ≤ (Go.Geo.bbL l).2 ∧ (Go.Geo.bbL l).2 ≤ 439400000) ∧ (-439400000 ≤ (Go.Geo.bbH l).1 ∧ (Go.Geo.bbH l).1 ≤ 439400000) ∧ (-439400000 ≤ (Go.Geo.bbH l).2 ∧ (Go.Geo.bbH l).2 ≤ 439400000) := by
 have X := Go.Geo.box hn
 have m : ∀ p ∈ l, (-439400000 ≤ p.1 ∧ p.1 ≤ 439400000) ∧ (-439400000 ≤ p.2 ∧ p.2 ≤ 439400000) := fun p hp => Go.Geo.mayB_iff.1 (List.all_eq_true.1 h p hp)
 obtain ⟨p1, h1, e1⟩ := X.m1
 obtain ⟨p2, h2, e2⟩ := X.m2
 obtain ⟨p3, h3, e3⟩ := X.m3
 obtain ⟨p4, h4, e4⟩ := X.m4
 rw [← e1, ← e2, ← e3, ← e4]
 exact ⟨(m p1 h1).1, (m p2 h2).2, (m p3 h3).1, (m p4 h4).2⟩
theorem gap_touch {l m : List (Int × Int)} (hl : Go.Geo.valB l = true) (hm : Go.Geo.valB m = true) (h : (Go.Geo.FC l m).isSome = true) : G.gapI l m ≤ 0 := by
 obtain ⟨a1, a2⟩ := val_may hl
 obtain ⟨b1, b2⟩ := val_may hm
 obtain ⟨⟨t1, t2⟩, t3, t4⟩ := Go.Geo.FC_lap a1 b1 a2 b2 h
 obtain ⟨u1, u2, u3, u4⟩ := box_B a1 a2
 obtain ⟨v1, v2, v3, v4⟩ := box_B b1 b2
 unfold G.gapI
 rw [if_neg (by simp [a2, b2])]
 have k : ∀ x y : Int, x ≤ 0 → y ≤ 0 → mxI x y ≤ 0 := fun x y hx hy => by unfold mxI; split <;> omega
 have w : ∀ x : Int, -1000000000 ≤ x → x ≤ 0 → w64 x ≤ 0 := fun x hx h0 => by
  have : w64 x = x := wrap_small (by omega) (by omega)
  omega
 exact k _ _ (k _ _ (k _ _ (k _ _ (by omega) (w _ (by omega) (by omega))) (w _ (by omega) (by omega))) (w _ (by omega) (by omega))) (w _ (by omega) (by omega))
theorem vio_zone0 (c : Cl) (w0 w1 w2 w3 w4 w5 i0 i1 i2 i3 i4 i5 : Int) (br : List Bool) (z : Nat) (hz : z < c.zn.length) : ((3, 0, 0, (z : Int)) : Vi) ∈ vioB c w0 w1 w2 w3 w4 w5 i0 i1 i2 i3 i4 i5 br ↔ br.getD z false = true ∧ hitB c.a i0 i1 i2 (c.zn.getD z []) = true := by
 unfold vioB vioT fastT inT
 simp only [List.mem_append, frT_mem, nearT_mem, inz_mem, unlT_mem, Prod.mk.injEq]
 constructor
 ·intro h
  simp (config := { decide := true }) only [and_false, false_and, or_false, false_or, true_and, exists_false] at h
  obtain ⟨k, h1, h2, h3, h4⟩ := h
  have e : z = k := by omega
  subst e
  exact ⟨h2, h3⟩
 ·rintro ⟨h1, h2⟩
  exact .inl (.inr (.inl ⟨z, hz, h1, h2, by simp⟩))
theorem vio_zone1 (c : Cl) (w0 w1 w2 w3 w4 w5 i0 i1 i2 i3 i4 i5 : Int) (br : List Bool) (z : Nat) (hz : z < c.zn.length) : ((3, 1, 0, (z : Int)) : Vi) ∈ vioB c w0 w1 w2 w3 w4 w5 i0 i1 i2 i3 i4 i5 br ↔ br.getD z false = true ∧ hitB c.b i3 i4 i5 (c.zn.getD z []) = true := by
 unfold vioB vioT fastT inT
 simp only [List.mem_append, frT_mem, nearT_mem, inz_mem, unlT_mem, Prod.mk.injEq]
 constructor
 ·intro h
  simp (config := { decide := true }) only [and_false, false_and, or_false, false_or, true_and, exists_false] at h
  obtain ⟨k, h1, h2, h3, h4⟩ := h
  have e : z = k := by omega
  subst e
  exact ⟨h2, h3⟩
 ·rintro ⟨h1, h2⟩
  exact .inl (.inr (.inr ⟨z, hz, h1, h2, by simp⟩))
theorem lims {a : Arm} {x0 x1 x2 : Int} (h0 : 12 * a.lo0 ≤ x0 ∧ x0 ≤ 12 * a.hi0) (h1 : 12 * a.lo1 ≤ x1 ∧ x1 ≤ 12 * a.hi1) (h2 : 12 * a.lo2 ≤ x2 ∧ x2 ≤ 12 * a.hi2) : limB a (x0 / 12) (x1 / 12) (x2 / 12) = true ∧ limB a (up12 x0) (up12 x1) (up12 x2) = true := by
 unfold up12
 exact ⟨limT ⟨⟨by omega, by omega⟩, ⟨by omega, by omega⟩, ⟨by omega, by omega⟩⟩, limT ⟨⟨by omega, by omega⟩, ⟨by omega, by omega⟩, ⟨by omega, by omega⟩⟩⟩
theorem fit_gap {c : Cl} {x0 x1 x2 y0 y1 y2 : Int} {br : List Bool} (h : Fit c x0 x1 x2 y0 y1 y2 br) (g : Int) (hg : 0 ≤ g ∧ g ≤ 20) : Fit { c with gap := g } x0 x1 x2 y0 y1 y2 br :=
 ⟨h.ha, h.hb, h.zl, h.bl, h.zv, h.m0, h.m1, h.m2, h.m3, h.m4, h.m5, h.lv, h.sl, hg⟩
theorem kd_touch {a b : Arm} (ha : OKa a) (hb : OKa b) (x0 x1 x2 y0 y1 y2 g : Int) (hg : 1 ≤ g ∧ g ≤ 20) (h : (bods a x0 x1 x2).any (anyF (fun l m => (Go.Geo.FC l m).isSome) (bods b y0 y1 y2)) = true) : kdB a b x0 x1 x2 y0 y1 y2 g = false := by
 unfold kdB
 have e1 : IntKind.i64.wrap (g * 4394000) = g * 4394000 := wrap_small (by omega) (by omega)
 rw [e1]
 simp only [Bool.not_eq_false', List.any_eq_true]
 rw [List.any_eq_true] at h
 obtain ⟨l, hl, h⟩ := h
 unfold anyF at h
 rw [List.any_eq_true] at h
 obtain ⟨m, hm, h⟩ := h
 refine ⟨l, hl, ?_⟩
 unfold nrB
 rw [List.any_eq_true]
 have := gap_touch (bods_val ha _ _ _ l hl) (bods_val hb _ _ _ m hm) h
 exact ⟨m, hm, decide_eq_true (by omega)⟩
theorem law13 (hd : pc E 38 [] = some (.bool true)) (c : Cl) (i0 i1 i2 i3 i4 i5 : Int) (br : List Bool) :
 pc E 13 [.agg (cec c.cel), pos i0 i1 i2 i3 i4 i5, .vs (br.map bb1)] = some (.bool true) := by
 have o2 := c40 c i0 i1 i2 i3 i4 i5 br
 cases hf2 : fitB c i0 i1 i2 i3 i4 i5 br with
 | false =>
   rw [hf2] at o2
   unfold cec at o2 ⊢
   rw [pc_eq]; simp +contextual -implicitDefEqProofs (maxSteps := 2000000) only [go_sem, ↓reduceIte, E_13, A13, hd, o2]
 | true =>
 rw [hf2] at o2
 have f := fit_of hf2
 have gg := f.gp
 have hg1 : 1 ≤ mxI 1 c.gap ∧ mxI 1 c.gap ≤ 20 := by unfold mxI; split <;> omega
 have f' := fit_gap f (mxI 1 c.gap) ⟨by omega, hg1.2⟩
 have o3 := c41f f' i0 i1 i2 i3 i4 i5
 obtain ⟨b0, b1, b2, b3, b4, b5⟩ := f.b
 have e5 := c39 i0 i1 i2 (Sm_of b0) (Sm_of b1) (Sm_of b2)
 have e6 := c39 i3 i4 i5 (Sm_of b3) (Sm_of b4) (Sm_of b5)
 obtain ⟨t1, t2⟩ := lims f.m0 f.m1 f.m2
 obtain ⟨t3, t4⟩ := lims f.m3 f.m4 f.m5
 have e1 := c17 c.a (i0 / 12) (i1 / 12) (i2 / 12)
 have e2 := c17 c.a (up12 i0) (up12 i1) (up12 i2)
 have e3 := c17 c.b (i3 / 12) (i4 / 12) (i5 / 12)
 have e4 := c17 c.b (up12 i3) (up12 i4) (up12 i5)
 rw [t1] at e1
 rw [t2] at e2
 rw [t3] at e3
 rw [t4] at e4
 have hkd := kd_touch f.ha f.hb i0 i1 i2 i3 i4 i5 (mxI 1 c.gap) hg1
 have okd := c44 ({ c with gap := mxI 1 c.gap } : Cl).cel f.ha f.hb i0 i1 i2 i3 i4 i5 (Sm_of b0) (Sm_of b1) (Sm_of b2) (Sm_of b3) (Sm_of b4) (Sm_of b5)
 obtain ⟨l0, l1, l2, l3, l4, l5, hl, a1, a2, q1⟩ := bod c.a f.ha i0 i1 i2
 obtain ⟨m0, m1, m2, m3, m4, m5, hm, p1, p2, q2⟩ := bod c.b f.hb i3 i4 i5
 rw [hl, hm] at hkd
 have hF : ∀ l ∈ [l0, l1, l2, l3, l4, l5], ∀ m ∈ [m0, m1, m2, m3, m4, m5], pc E 37 [lkv l, lkv m] = some (.bool (Go.Geo.FC l m).isSome) := fun l hl m hm => G.c37 l m (by rw [q1 l hl]; decide) (by rw [q2 m hm]; decide)
 have hz1 : ∀ l ∈ [l0, l1, l2, l3, l4, l5], ∀ m ∈ c.zn, pc E 37 [lkv l, .vs (m.map Go.Geo.c2)] = some (.bool (Go.Geo.FC l m).isSome) := fun l hl m hm => G.c37 l m (by rw [q1 l hl]; decide) (by have := f.zp m hm; omega)
 have hz2 : ∀ l ∈ [m0, m1, m2, m3, m4, m5], ∀ m ∈ c.zn, pc E 37 [lkv l, .vs (m.map Go.Geo.c2)] = some (.bool (Go.Geo.FC l m).isSome) := fun l hl m hm => G.c37 l m (by rw [q2 l hl]; decide) (by have := f.zp m hm; omega)
 have hvl := vio_len { c with gap := mxI 1 c.gap } i0 i1 i2 i3 i4 i5 i0 i1 i2 i3 i4 i5 br f'.zl f'.bl
 have z0 := fun z hz => vio_zone0 { c with gap := mxI 1 c.gap } i0 i1 i2 i3 i4 i5 i0 i1 i2 i3 i4 i5 br z hz
 have z1 := fun z hz => vio_zone1 { c with gap := mxI 1 c.gap } i0 i1 i2 i3 i4 i5 i0 i1 i2 i3 i4 i5 br z hz
 unfold hitB at z0 z1
 have y1 := v4_all (vioB { c with gap := mxI 1 c.gap } i0 i1 i2 i3 i4 i5 i0 i1 i2 i3 i4 i5 br)
 have y2 := v4_scal (vioB { c with gap := mxI 1 c.gap } i0 i1 i2 i3 i4 i5 i0 i1 i2 i3 i4 i5 br)
 generalize vioB { c with gap := mxI 1 c.gap } i0 i1 i2 i3 i4 i5 i0 i1 i2 i3 i4 i5 br = vs at *
 simp only [hl, hm] at z0 z1
 have w6 := T6 (cec ({ c with gap := mxI 1 c.gap } : Cl).cel) [.int .i64 i0, .int .i64 i1, .int .i64 i2, .int .i64 i3, .int .i64 i4, .int .i64 i5] (vs.map v4) (br.map bb1) l0 l1 l2 l3 l4 l5 m0 m1 m2 m3 m4 m5 (fun l m => (Go.Geo.FC l m).isSome) hF
 have x0 := Z1_0 (cec ({ c with gap := mxI 1 c.gap } : Cl).cel) [.int .i64 i0, .int .i64 i1, .int .i64 i2, .int .i64 i3, .int .i64 i4, .int .i64 i5] vs br c.zn l0 l1 l2 l3 l4 l5 m0 m1 m2 m3 m4 m5 ([l0, l1, l2, l3, l4, l5].any (anyF (fun l m => (Go.Geo.FC l m).isSome) [m0, m1, m2, m3, m4, m5])) f.zl f.bl hvl rfl rfl (fun l m => (Go.Geo.FC l m).isSome) hz1 z0
 have x1 := Z1_1 (cec ({ c with gap := mxI 1 c.gap } : Cl).cel) [.int .i64 i0, .int .i64 i1, .int .i64 i2, .int .i64 i3, .int .i64 i4, .int .i64 i5] vs br c.zn l0 l1 l2 l3 l4 l5 m0 m1 m2 m3 m4 m5 ([l0, l1, l2, l3, l4, l5].any (anyF (fun l m => (Go.Geo.FC l m).isSome) [m0, m1, m2, m3, m4, m5])) f.zl f.bl hvl rfl rfl (fun l m => (Go.Geo.FC l m).isSome) hz2 z1
 have hvm : (vs.map v4).length = vs.length := List.length_map ..
 rw [hvm] at w6
 generalize [l0, l1, l2, l3, l4, l5].any (anyF (fun l m => (Go.Geo.FC l m).isSome) [m0, m1, m2, m3, m4, m5]) = tt at *
 generalize vs.map v4 = R at *
 have g : ∀ kd, kdB c.a c.b i0 i1 i2 i3 i4 i5 (mxI 1 c.gap) = kd → kdB ({ c with gap := mxI 1 c.gap } : Cl).cel.a ({ c with gap := mxI 1 c.gap } : Cl).cel.b i0 i1 i2 i3 i4 i5 ({ c with gap := mxI 1 c.gap } : Cl).cel.gap = kd := fun _ h => h
 cases tt with
 | true =>
   rw [g _ (hkd rfl)] at okd
   unfold cec at o2 o3 okd w6 x0 x1 ⊢
   unfold lkv at a1 a2 p1 p2 w6 x0 x1
   rw [pc_eq]; simp +contextual -implicitDefEqProofs (maxSteps := 2000000) only [go_sem, ↓reduceIte, E_13, A13, hd, o2, o3, y1, y2, hvm, A13_L7_eq, A13_L7b, a1, a2, p1, p2, e1, e2, e3, e4, e5, e6, w6, A13_L2_eq, A13_L2b, x0, x1, okd]
 | false =>
   unfold cec at o2 o3 okd w6 x0 x1 ⊢
   unfold lkv at a1 a2 p1 p2 w6 x0 x1
   rw [pc_eq]; simp +contextual -implicitDefEqProofs (maxSteps := 2000000) only [go_sem, ↓reduceIte, E_13, A13, hd, o2, o3, y1, y2, hvm, A13_L7_eq, A13_L7b, a1, a2, p1, p2, e1, e2, e3, e4, e5, e6, w6, A13_L2_eq, A13_L2b, x0, x1, okd]
end Go.Proofs.Ytnecdcaaknhgpaa
