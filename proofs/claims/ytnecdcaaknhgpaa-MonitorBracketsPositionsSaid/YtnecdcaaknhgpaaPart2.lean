/- Part of the proof: the evaluation of the program's code and its tie to the machine, or what functions of the program compute over it. -/
import Derived.Test.YtnecdcaaknhgpaaPart1
namespace Go.Proofs.Ytnecdcaaknhgpaa
set_option maxRecDepth 100000
set_option maxHeartbeats 4000000
set_option linter.unusedSimpArgs false
set_option linter.unusedVariables false
open Go Go.Zv
theorem c82 (x y : Int) (n : Nat) (h3 : n ≤ 3) (hv : VD x y (p65 n)) : pc E 82 [.agg [.int .i64 x, .int .i64 y, .int .i64 n]] = some (.bool true) := by
  have h := c86 n h3
  have hx := hv.x
  have hy := hv.y
  have he := hv.eq
  have pb := p65_bd n
  have h0 : ¬ ((n : Int) < 0) := by omega
  have h2 : ¬ ((3 : Int) < n) := by omega
  generalize p65 n = r at *
  have m1 := mul_bd (A := 274625) (C := 274625) (x := x) (y := x) (by omega) (by omega) (by omega) (by omega)
  have m2 := mul_bd (A := 274625) (C := 274625) (x := y) (y := y) (by omega) (by omega) (by omega) (by omega)
  have m3 := mul_bd (A := 274625) (C := 274625) (x := r) (y := r) (by omega) (by omega) (by omega) (by omega)
  have w1 : IntKind.i64.wrap (x * x) = x * x := wrap_small (by omega) (by omega)
  have w2 : IntKind.i64.wrap (y * y) = y * y := wrap_small (by omega) (by omega)
  have w3 : IntKind.i64.wrap (r * r) = r * r := wrap_small (by omega) (by omega)
  have w4 : IntKind.i64.wrap (x * x + y * y) = r * r := by rw [he]; exact w3
  have w5 : IntKind.i64.wrap (0 - r) = -r := by rw [wrap_small (by omega) (by omega)]; omega
  rw [pc_eq]; simp +contextual -implicitDefEqProofs (maxSteps := 2000000) only [go_sem, ↓reduceIte, E_82, A82, E_108, A108, h, h0, h2, hx.1, hx.2, hy.1, hy.2, w1, w2, w3, w4, w5]
def cx (x y q : Int) : Int := x * (csI q).1 - y * (csI q).2
def cy (x y q : Int) : Int := x * (csI q).2 + y * (csI q).1
theorem cV {x y : Int} {n : Nat} (hn : n ≤ 2) (h : VD x y (p65 n)) (q : Int) : VD (cx x y q) (cy x y q) (p65 (n + 1)) := by
  have := h.mul (csV q)
  rwa [p65_succ hn] at this
theorem VD.bd {x y : Int} {n : Nat} (h : VD x y (p65 n)) : (-274625 ≤ x ∧ x ≤ 274625) ∧ (-274625 ≤ y ∧ y ≤ 274625) := by
  have := h.x; have := h.y; have := p65_bd n; omega
theorem c51 (x y q : Int) (n : Nat) (hn : n ≤ 2) (hv : VD x y (p65 n)) : pc E 51 [.agg [.int .i64 x, .int .i64 y, .int .i64 n], .int .i64 q] = some (.agg [.int .i64 (cx x y q), .int .i64 (cy x y q), .int .i64 (n + 1 : Nat)]) := by
  have h := c82 x y n (by omega) hv
  have h2 := c83 x y q hv.bd.1 hv.bd.2
  have h3 : ((n : Int) == 3) = false := by simp; omega
  have w := wr_succ (n := n) (by omega)
  rw [← cx, ← cy] at h2
  rw [pc_eq]; simp +contextual -implicitDefEqProofs (maxSteps := 2000000) only [go_sem, ↓reduceIte, E_51, A51, h, h2, h3, w]
def u65 : Nat → Int
  | 0 => 4394000 | 1 => 67600 | 2 => 1040 | _ => 16
theorem tdiv_u : ∀ n : Nat, (4394000 : Int).tdiv (p65 n) = u65 n
  | 0 => rfl | 1 => rfl | 2 => rfl | _ + 3 => rfl
theorem u65_p : ∀ n : Nat, u65 n * p65 n = 4394000
  | 0 => rfl | 1 => rfl | 2 => rfl | _ + 3 => rfl
theorem u65_bd (n : Nat) : 16 ≤ u65 n ∧ u65 n ≤ 4394000 := by unfold u65; split <;> omega
theorem ux_bd {x y : Int} {n : Nat} (hv : VD x y (p65 n)) (m : Int) (hm : 0 ≤ m ∧ m ≤ 40) : (-175760000 ≤ m * u65 n * x ∧ m * u65 n * x ≤ 175760000) ∧ (-175760000 ≤ m * u65 n * y ∧ m * u65 n * y ≤ 175760000) := by
  have hx := hv.x
  have hy := hv.y
  have e := u65_p n
  have pb := p65_bd n
  have ub := u65_bd n
  generalize p65 n = r at *
  generalize u65 n = u at *
  have mu : 0 ≤ m * u := Int.mul_nonneg hm.1 (by omega)
  have k1 : m * u * r ≤ 175760000 := by
    have : m * u * r = m * 4394000 := by rw [Int.mul_assoc, e]
    omega
  have a1 := Int.mul_le_mul_of_nonneg_left hx.1 mu
  have a2 := Int.mul_le_mul_of_nonneg_left hx.2 mu
  have a3 := Int.mul_le_mul_of_nonneg_left hy.1 mu
  have a4 := Int.mul_le_mul_of_nonneg_left hy.2 mu
  rw [Int.mul_neg] at a1 a3
  omega
theorem mu_bd (n : Nat) (m : Int) (hm : 0 ≤ m ∧ m ≤ 40) : 0 ≤ m * u65 n ∧ m * u65 n ≤ 175760000 := by
  have ub := u65_bd n
  have := mul_bd (A := 40) (C := 4394000) (x := m) (y := u65 n) (by omega) (by omega) (by omega) (by omega)
  exact ⟨Int.mul_nonneg hm.1 (by omega), by omega⟩
theorem c55 (x y : Int) (n : Nat) (hn : n ≤ 3) (hv : VD x y (p65 n)) (m : Int) (hm : 0 ≤ m ∧ m ≤ 40) : pc E 55 [.agg [.int .i64 x, .int .i64 y, .int .i64 n], .int .i64 m] = some (.agg [.int .i64 (m * u65 n * x), .int .i64 (m * u65 n * y)]) := by
  have h := c86 n hn
  have t := tdiv_u n
  have b := ux_bd hv m hm
  have mb := mu_bd n m hm
  have ub := u65_bd n
  have pb := p65_bd n
  have nz : ¬ (p65 n = 0) := by omega
  generalize p65 n = r at *
  generalize u65 n = u at *
  have w0 : IntKind.i64.wrap u = u := wrap_small (by omega) (by omega)
  have w1 : IntKind.i64.wrap (m * u) = m * u := wrap_small (by omega) (by omega)
  have w2 : IntKind.i64.wrap (m * u * x) = m * u * x := wrap_small (by omega) (by omega)
  have w3 : IntKind.i64.wrap (m * u * y) = m * u * y := wrap_small (by omega) (by omega)
  rw [pc_eq]; simp +contextual -implicitDefEqProofs (maxSteps := 2000000) only [go_sem, ↓reduceIte, E_55, A55, h, t, w0, w1, w2, w3, nz]
end Go.Proofs.Ytnecdcaaknhgpaa

namespace Go.Proofs.Ytnecdcaaknhgpaa
set_option maxRecDepth 100000
set_option maxHeartbeats 4000000
set_option linter.unusedSimpArgs false
set_option linter.unusedVariables false
open Go Go.Zv
structure Arm where
  bx : Int
  by_ : Int
  l0 : Int
  l1 : Int
  l2 : Int
  w : Int
  lo0 : Int
  lo1 : Int
  lo2 : Int
  hi0 : Int
  hi1 : Int
  hi2 : Int
abbrev avc (a : Arm) : List LV := [.int .i64 a.bx, .int .i64 a.by_, .int .i64 a.l0, .int .i64 a.l1, .int .i64 a.l2, .int .i64 a.w, .int .i64 a.lo0, .int .i64 a.lo1, .int .i64 a.lo2, .int .i64 a.hi0, .int .i64 a.hi1, .int .i64 a.hi2]
abbrev av (a : Arm) : LV := .agg (avc a)
abbrev jv (q0 q1 q2 : Int) : LV := .agg [.int .i64 q0, .int .i64 q1, .int .i64 q2]
structure OKa (a : Arm) : Prop where
  l0 : 1 ≤ a.l0 ∧ a.l0 ≤ 40
  l1 : 1 ≤ a.l1 ∧ a.l1 ≤ 40
  l2 : 1 ≤ a.l2 ∧ a.l2 ≤ 40
  w : 1 ≤ a.w ∧ a.w ≤ 4
  j0 : -17 ≤ a.lo0 ∧ a.lo0 ≤ a.hi0 ∧ a.hi0 ≤ 18
  j1 : -17 ≤ a.lo1 ∧ a.lo1 ≤ a.hi1 ∧ a.hi1 ≤ 18
  j2 : -17 ≤ a.lo2 ∧ a.lo2 ≤ a.hi2 ∧ a.hi2 ≤ 18
  bx : -((100 - (a.w + a.l0 + a.l1 + a.l2)) * 4394000) ≤ a.bx ∧ a.bx ≤ (100 - (a.w + a.l0 + a.l1 + a.l2)) * 4394000
  by_ : -((100 - (a.w + a.l0 + a.l1 + a.l2)) * 4394000) ≤ a.by_ ∧ a.by_ ≤ (100 - (a.w + a.l0 + a.l1 + a.l2)) * 4394000
  mx : a.bx.tmod 16 = 0
  my : a.by_.tmod 16 = 0
theorem VD0 : VD 1 0 (p65 0) := ⟨by simp [p65], by simp [p65]⟩
abbrev dirs (q0 q1 q2 : Int) : List LV := [.int .i64 (cx 1 0 q0), .int .i64 (cy 1 0 q0), .int .i64 1, .int .i64 (cx (cx 1 0 q0) (cy 1 0 q0) q1), .int .i64 (cy (cx 1 0 q0) (cy 1 0 q0) q1), .int .i64 2,
  .int .i64 (cx (cx (cx 1 0 q0) (cy 1 0 q0) q1) (cy (cx 1 0 q0) (cy 1 0 q0) q1) q2), .int .i64 (cy (cx (cx 1 0 q0) (cy 1 0 q0) q1) (cy (cx 1 0 q0) (cy 1 0 q0) q1) q2), .int .i64 3]
theorem c25 (a : Arm) (q0 q1 q2 : Int) : pc E 25 [av a, jv q0 q1 q2] = some (.agg (dirs q0 q1 q2)) := by
  have v1 := cV (n := 0) (by omega) VD0 q0
  have v2 := cV (n := 1) (by omega) v1 q1
  have h1 := c51 1 0 q0 0 (by omega) VD0
  have h2 := c51 _ _ q1 1 (by omega) v1
  have h3 := c51 _ _ q2 2 (by omega) v2
  simp only [Int.natCast_zero, Int.ofNat_zero, Int.natCast_one, Nat.zero_add, Nat.reduceAdd, Int.cast_ofNat_Int] at h1 h2 h3
  unfold dirs
  generalize cx 1 0 q0 = x1 at *
  generalize cy 1 0 q0 = y1 at *
  generalize cx x1 y1 q1 = x2 at *
  generalize cy x1 y1 q1 = y2 at *
  rw [pc_eq]; simp +contextual -implicitDefEqProofs (maxSteps := 2000000) only [go_sem, ↓reduceIte, E_25, A25, A25_L0_eq, A25_L0b, h1, h2, h3]
end Go.Proofs.Ytnecdcaaknhgpaa

namespace Go.Proofs.Ytnecdcaaknhgpaa
set_option maxRecDepth 100000
set_option maxHeartbeats 4000000
set_option linter.unusedSimpArgs false
set_option linter.unusedVariables false
open Go Go.Zv
theorem c54 (ax ay bx by_ : Int) : pc E 54 [.agg [.int .i64 ax, .int .i64 ay], .agg [.int .i64 bx, .int .i64 by_]] = some (.agg [.int .i64 (IntKind.i64.wrap (ax + bx)), .int .i64 (IntKind.i64.wrap (ay + by_))]) := by
  rw [pc_eq]; simp +contextual -implicitDefEqProofs (maxSteps := 2000000) only [go_sem, ↓reduceIte, E_54, A54]
theorem c67 (ax ay bx by_ : Int) : pc E 67 [.agg [.int .i64 ax, .int .i64 ay], .agg [.int .i64 bx, .int .i64 by_]] = some (.agg [.int .i64 (IntKind.i64.wrap (ax - bx)), .int .i64 (IntKind.i64.wrap (ay - by_))]) := by
  rw [pc_eq]; simp +contextual -implicitDefEqProofs (maxSteps := 2000000) only [go_sem, ↓reduceIte, E_67, A67]
structure Pts where
  x1 : Int
  y1 : Int
  x2 : Int
  y2 : Int
  x3 : Int
  y3 : Int
def dd (q0 q1 q2 : Int) : Pts := ⟨cx 1 0 q0, cy 1 0 q0, cx (cx 1 0 q0) (cy 1 0 q0) q1, cy (cx 1 0 q0) (cy 1 0 q0) q1, cx (cx (cx 1 0 q0) (cy 1 0 q0) q1) (cy (cx 1 0 q0) (cy 1 0 q0) q1) q2, cy (cx (cx 1 0 q0) (cy 1 0 q0) q1) (cy (cx 1 0 q0) (cy 1 0 q0) q1) q2⟩
structure DV (d : Pts) : Prop where
  v1 : VD d.x1 d.y1 (p65 1)
  v2 : VD d.x2 d.y2 (p65 2)
  v3 : VD d.x3 d.y3 (p65 3)
theorem ddV (q0 q1 q2 : Int) : DV (dd q0 q1 q2) := ⟨cV (n := 0) (by omega) VD0 q0, cV (n := 1) (by omega) (cV (n := 0) (by omega) VD0 q0) q1, cV (n := 2) (by omega) (cV (n := 1) (by omega) (cV (n := 0) (by omega) VD0 q0) q1) q2⟩
abbrev ddv (d : Pts) : List LV := [.int .i64 d.x1, .int .i64 d.y1, .int .i64 1, .int .i64 d.x2, .int .i64 d.y2, .int .i64 2, .int .i64 d.x3, .int .i64 d.y3, .int .i64 3]
theorem c25' (a : Arm) (q0 q1 q2 : Int) : pc E 25 [av a, jv q0 q1 q2] = some (.agg (ddv (dd q0 q1 q2))) := c25 a q0 q1 q2
def pp (a : Arm) (d : Pts) : Pts := ⟨a.bx + a.l0 * 67600 * d.x1, a.by_ + a.l0 * 67600 * d.y1, a.bx + a.l0 * 67600 * d.x1 + a.l1 * 1040 * d.x2, a.by_ + a.l0 * 67600 * d.y1 + a.l1 * 1040 * d.y2,
  a.bx + a.l0 * 67600 * d.x1 + a.l1 * 1040 * d.x2 + a.l2 * 16 * d.x3, a.by_ + a.l0 * 67600 * d.y1 + a.l1 * 1040 * d.y2 + a.l2 * 16 * d.y3⟩
abbrev ppv (a : Arm) (p : Pts) : List LV := [.int .i64 a.bx, .int .i64 a.by_, .int .i64 p.x1, .int .i64 p.y1, .int .i64 p.x2, .int .i64 p.y2, .int .i64 p.x3, .int .i64 p.y3]
structure Bds (a : Arm) (d : Pts) : Prop where
  o0x : -175760000 ≤ a.l0 * 67600 * d.x1 ∧ a.l0 * 67600 * d.x1 ≤ 175760000
  o0y : -175760000 ≤ a.l0 * 67600 * d.y1 ∧ a.l0 * 67600 * d.y1 ≤ 175760000
  o1x : -175760000 ≤ a.l1 * 1040 * d.x2 ∧ a.l1 * 1040 * d.x2 ≤ 175760000
  o1y : -175760000 ≤ a.l1 * 1040 * d.y2 ∧ a.l1 * 1040 * d.y2 ≤ 175760000
  o2x : -175760000 ≤ a.l2 * 16 * d.x3 ∧ a.l2 * 16 * d.x3 ≤ 175760000
  o2y : -175760000 ≤ a.l2 * 16 * d.y3 ∧ a.l2 * 16 * d.y3 ≤ 175760000
  bx : -439400000 ≤ a.bx ∧ a.bx ≤ 439400000
  by_ : -439400000 ≤ a.by_ ∧ a.by_ ≤ 439400000
theorem bds {a : Arm} (h : OKa a) {d : Pts} (v : DV d) : Bds a d := by
  have a1 := ux_bd v.v1 a.l0 (by have := h.l0; omega)
  have a2 := ux_bd v.v2 a.l1 (by have := h.l1; omega)
  have a3 := ux_bd v.v3 a.l2 (by have := h.l2; omega)
  exact ⟨a1.1, a1.2, a2.1, a2.2, a3.1, a3.2, by have := h.bx; have := h.w; have := h.l0; have := h.l1; have := h.l2; omega, by have := h.by_; have := h.w; have := h.l0; have := h.l1; have := h.l2; omega⟩
theorem c27 (a : Arm) (h : OKa a) (q0 q1 q2 : Int) : pc E 27 [av a, jv q0 q1 q2] = some (.agg (ppv a (pp a (dd q0 q1 q2)))) := by
  have hd := c25' a q0 q1 q2
  have v := ddV q0 q1 q2
  have b := bds h v
  have k1 := c55 _ _ 1 (by omega) v.v1 a.l0 (by have := h.l0; omega)
  have k2 := c55 _ _ 2 (by omega) v.v2 a.l1 (by have := h.l1; omega)
  have k3 := c55 _ _ 3 (by omega) v.v3 a.l2 (by have := h.l2; omega)
  simp only [u65, Int.natCast_one, Int.cast_ofNat_Int] at k1 k2 k3
  generalize dd q0 q1 q2 = d at *
  obtain ⟨o0x, o0y, o1x, o1y, o2x, o2y, bx, by_⟩ := b
  unfold pp
  have g1 := c54 a.bx a.by_ (a.l0 * 67600 * d.x1) (a.l0 * 67600 * d.y1)
  rw [wrap_small (by omega) (by omega), wrap_small (by omega) (by omega)] at g1
  have g2 := c54 (a.bx + a.l0 * 67600 * d.x1) (a.by_ + a.l0 * 67600 * d.y1) (a.l1 * 1040 * d.x2) (a.l1 * 1040 * d.y2)
  rw [wrap_small (by omega) (by omega), wrap_small (by omega) (by omega)] at g2
  have g3 := c54 (a.bx + a.l0 * 67600 * d.x1 + a.l1 * 1040 * d.x2) (a.by_ + a.l0 * 67600 * d.y1 + a.l1 * 1040 * d.y2) (a.l2 * 16 * d.x3) (a.l2 * 16 * d.y3)
  rw [wrap_small (by omega) (by omega), wrap_small (by omega) (by omega)] at g3
  generalize a.l0 * 67600 * d.x1 = e1 at *
  generalize a.l0 * 67600 * d.y1 = e2 at *
  generalize a.l1 * 1040 * d.x2 = e3 at *
  generalize a.l1 * 1040 * d.y2 = e4 at *
  generalize a.l2 * 16 * d.x3 = e5 at *
  generalize a.l2 * 16 * d.y3 = e6 at *
  rw [pc_eq]; simp +contextual -implicitDefEqProofs (maxSteps := 2000000) only [go_sem, ↓reduceIte, E_27, A27, A27_L0_eq, A27_L0b, hd, k1, k2, k3, E_53, A53, g1, g2, g3]
end Go.Proofs.Ytnecdcaaknhgpaa

namespace Go.Proofs.Ytnecdcaaknhgpaa
set_option maxRecDepth 100000
set_option maxHeartbeats 4000000
set_option linter.unusedSimpArgs false
set_option linter.unusedVariables false
open Go Go.Zv
theorem c64 (x y : Int) (h : -1000000000 ≤ y ∧ y ≤ 1000000000) : pc E 64 [.agg [.int .i64 x, .int .i64 y]] = some (.agg [.int .i64 (-y), .int .i64 x]) := by
  have h1 := c91 x y (by omega) (by omega)
  rw [pc_eq]; simp +contextual -implicitDefEqProofs (maxSteps := 2000000) only [go_sem, ↓reduceIte, E_64, A64, h1]
def lkc (fx fy tx ty ox oy : Int) : List (Int × Int) := [(fx + oy, fy - ox), (tx + oy, ty - ox), (tx - oy, ty + ox), (fx - oy, fy + ox)]
abbrev pt (p : Int × Int) : LV := .agg [.int .i64 p.1, .int .i64 p.2]
def c2 (p : Int × Int) : List LV := [.int .i64 p.1, .int .i64 p.2]
theorem c48 (a : Arm) (hw : 0 ≤ a.w ∧ a.w ≤ 40) (q0 q1 q2 x y : Int) (n : Nat) (hn : n ≤ 3) (hv : VD x y (p65 n)) (fx fy tx ty : Int) (h1 : -1000000000 ≤ fx ∧ fx ≤ 1000000000) (h2 : -1000000000 ≤ fy ∧ fy ≤ 1000000000) (h3 : -1000000000 ≤ tx ∧ tx ≤ 1000000000) (h4 : -1000000000 ≤ ty ∧ ty ≤ 1000000000) :
    pc E 48 [.agg [.int .i64 a.bx, .int .i64 a.by_, .int .i64 a.l0, .int .i64 a.l1, .int .i64 a.l2, .int .i64 a.w, .int .i64 a.lo0, .int .i64 a.lo1, .int .i64 a.lo2, .int .i64 a.hi0, .int .i64 a.hi1, .int .i64 a.hi2, .int .i64 q0, .int .i64 q1, .int .i64 q2], .agg [.int .i64 x, .int .i64 y, .int .i64 n], .agg [.int .i64 fx, .int .i64 fy], .agg [.int .i64 tx, .int .i64 ty]] =
    some (.os 2 ((lkc fx fy tx ty (a.w * u65 n * x) (a.w * u65 n * y)).map c2)) := by
  have k := c55 x y n hn hv a.w hw
  have b := ux_bd hv a.w hw
  generalize a.w * u65 n * x = ox at *
  generalize a.w * u65 n * y = oy at *
  have r := c64 ox oy (by omega)
  have s1 := c67 fx fy (-oy) ox
  rw [wrap_small (by omega) (by omega), wrap_small (by omega) (by omega), show fx - -oy = fx + oy by omega] at s1
  have s2 := c67 tx ty (-oy) ox
  rw [wrap_small (by omega) (by omega), wrap_small (by omega) (by omega), show tx - -oy = tx + oy by omega] at s2
  have s3 := c54 tx ty (-oy) ox
  rw [wrap_small (by omega) (by omega), wrap_small (by omega) (by omega), show tx + -oy = tx - oy by omega] at s3
  have s4 := c54 fx fy (-oy) ox
  rw [wrap_small (by omega) (by omega), wrap_small (by omega) (by omega), show fx + -oy = fx - oy by omega] at s4
  rw [pc_eq]; simp +contextual -implicitDefEqProofs (maxSteps := 2000000) only [go_sem, ↓reduceIte, E_48, A48, k, r, s1, s2, s3, s4, lkc, c2, List.map_cons, List.map_nil]
end Go.Proofs.Ytnecdcaaknhgpaa

namespace Go.Proofs.Ytnecdcaaknhgpaa
set_option maxRecDepth 100000
set_option maxHeartbeats 4000000
set_option linter.unusedSimpArgs false
set_option linter.unusedVariables false
open Go Go.Zv
def lks (a : Arm) (d : Pts) : List (List (Int × Int)) :=
  [lkc a.bx a.by_ (pp a d).x1 (pp a d).y1 (a.w * 67600 * d.x1) (a.w * 67600 * d.y1),
   lkc (pp a d).x1 (pp a d).y1 (pp a d).x2 (pp a d).y2 (a.w * 1040 * d.x2) (a.w * 1040 * d.y2),
   lkc (pp a d).x2 (pp a d).y2 (pp a d).x3 (pp a d).y3 (a.w * 16 * d.x3) (a.w * 16 * d.y3)]
abbrev lkv (l : List (Int × Int)) : LV := .vs (l.map c2)
theorem lkc_len (a b c d e f : Int) : (lkc a b c d e f).length = 4 := rfl
theorem c20 (a : Arm) (h : OKa a) (q0 q1 q2 : Int) : pc E 20 [av a, jv q0 q1 q2] = some (.agg ((lks a (dd q0 q1 q2)).map lkv)) := by
  have h1 := c25' a q0 q1 q2
  have h2 := c27 a h q0 q1 q2
  have v := ddV q0 q1 q2
  have b := bds h v
  obtain ⟨o0x, o0y, o1x, o1y, o2x, o2y, bx, by_⟩ := b
  have hw : 0 ≤ a.w ∧ a.w ≤ 40 := by have := h.w; omega
  generalize dd q0 q1 q2 = d at *
  have k1 := c48 a hw q0 q1 q2 _ _ 1 (by omega) v.v1 a.bx a.by_ (pp a d).x1 (pp a d).y1 (by omega) (by omega) (by simp only [pp]; omega) (by simp only [pp]; omega)
  have k2 := c48 a hw q0 q1 q2 _ _ 2 (by omega) v.v2 (pp a d).x1 (pp a d).y1 (pp a d).x2 (pp a d).y2 (by simp only [pp]; omega) (by simp only [pp]; omega) (by simp only [pp]; omega) (by simp only [pp]; omega)
  have k3 := c48 a hw q0 q1 q2 _ _ 3 (by omega) v.v3 (pp a d).x2 (pp a d).y2 (pp a d).x3 (pp a d).y3 (by simp only [pp]; omega) (by simp only [pp]; omega) (by simp only [pp]; omega) (by simp only [pp]; omega)
  simp only [u65, Int.natCast_one, Int.cast_ofNat_Int] at k1 k2 k3
  unfold lks
  have t : ∀ l : List (Int × Int), l.length = 4 → (l.map c2).take 4 = l.map c2 := fun l hl => List.take_of_length_le (by simp [hl])
  have t1 := t _ (lkc_len a.bx a.by_ (pp a d).x1 (pp a d).y1 (a.w * 67600 * d.x1) (a.w * 67600 * d.y1))
  have t2 := t _ (lkc_len (pp a d).x1 (pp a d).y1 (pp a d).x2 (pp a d).y2 (a.w * 1040 * d.x2) (a.w * 1040 * d.y2))
  have t3 := t _ (lkc_len (pp a d).x2 (pp a d).y2 (pp a d).x3 (pp a d).y3 (a.w * 16 * d.x3) (a.w * 16 * d.y3))
  have n1 := lkc_len a.bx a.by_ (pp a d).x1 (pp a d).y1 (a.w * 67600 * d.x1) (a.w * 67600 * d.y1)
  have n2 := lkc_len (pp a d).x1 (pp a d).y1 (pp a d).x2 (pp a d).y2 (a.w * 1040 * d.x2) (a.w * 1040 * d.y2)
  have n3 := lkc_len (pp a d).x2 (pp a d).y2 (pp a d).x3 (pp a d).y3 (a.w * 16 * d.x3) (a.w * 16 * d.y3)
  generalize lkc a.bx a.by_ (pp a d).x1 (pp a d).y1 (a.w * 67600 * d.x1) (a.w * 67600 * d.y1) = L1 at *
  generalize lkc (pp a d).x1 (pp a d).y1 (pp a d).x2 (pp a d).y2 (a.w * 1040 * d.x2) (a.w * 1040 * d.y2) = L2 at *
  generalize lkc (pp a d).x2 (pp a d).y2 (pp a d).x3 (pp a d).y3 (a.w * 16 * d.x3) (a.w * 16 * d.y3) = L3 at *
  rw [pc_eq]; simp +contextual -implicitDefEqProofs (maxSteps := 2000000) only [go_sem, ↓reduceIte, E_20, A20, A20_L0_eq, A20_L0b, h1, h2, k1, k2, k3, List.length_map, t1, t2, t3, n1, n2, n3, List.map_cons, List.map_nil]
end Go.Proofs.Ytnecdcaaknhgpaa

namespace Go.Proofs.Ytnecdcaaknhgpaa
set_option maxRecDepth 100000
set_option maxHeartbeats 4000000
set_option linter.unusedSimpArgs false
set_option linter.unusedVariables false
open Go Go.Zv
def fr (a : Arm) : Int := (100 - (a.w + a.l0 + a.l1 + a.l2)) * 4394000
open Classical in
noncomputable def okB (a : Arm) : Bool := decide (OKa a)
open Classical in
open Classical in
open Classical in
structure Pre (a : Arm) : Prop where
  l0 : 1 ≤ a.l0 ∧ a.l0 ≤ 40
  l1 : 1 ≤ a.l1 ∧ a.l1 ≤ 40
  l2 : 1 ≤ a.l2 ∧ a.l2 ≤ 40
  w : 1 ≤ a.w ∧ a.w ≤ 4
  j0 : -17 ≤ a.lo0 ∧ a.lo0 ≤ a.hi0 ∧ a.hi0 ≤ 18
  j1 : -17 ≤ a.lo1 ∧ a.lo1 ≤ a.hi1 ∧ a.hi1 ≤ 18
  j2 : -17 ≤ a.lo2 ∧ a.lo2 ≤ a.hi2 ∧ a.hi2 ≤ 18
end Go.Proofs.Ytnecdcaaknhgpaa

namespace Go.Proofs.Ytnecdcaaknhgpaa
set_option maxRecDepth 100000
set_option maxHeartbeats 4000000
set_option linter.unusedSimpArgs false
set_option linter.unusedVariables false
open Go Go.Zv
def farB (a : Arm) : Bool := decide (1000000000 < a.bx) || (decide (a.bx < -1000000000) || (decide (1000000000 < a.by_) || decide (a.by_ < -1000000000)))
def ab (n : Int) : Int := if n < 0 then -n else n
end Go.Proofs.Ytnecdcaaknhgpaa

namespace Go.Proofs.Ytnecdcaaknhgpaa
set_option maxRecDepth 100000
set_option maxHeartbeats 4000000
set_option linter.unusedSimpArgs false
set_option linter.unusedVariables false
open Go Go.Zv
structure Lim (a : Arm) (q0 q1 q2 : Int) : Prop where
  a0 : a.lo0 ≤ q0 ∧ q0 ≤ a.hi0
  a1 : a.lo1 ≤ q1 ∧ q1 ≤ a.hi1
  a2 : a.lo2 ≤ q2 ∧ q2 ≤ a.hi2
def limB (a : Arm) (q0 q1 q2 : Int) : Bool := decide (a.lo0 ≤ q0 ∧ q0 ≤ a.hi0 ∧ a.lo1 ≤ q1 ∧ q1 ≤ a.hi1 ∧ a.lo2 ≤ q2 ∧ q2 ≤ a.hi2)
def jt (lo hi r : Int) : Int := lo + r % (hi - lo + 1)
def st1 (q0 q1 q2 : Int) (k : Int) (b : Int) : Int × Int × Int := if k = 0 then (q0 + b, q1, q2) else if k = 1 then (q0, q1 + b, q2) else (q0, q1, q2 + b)
def stp (a : Arm) (q0 q1 q2 k b : Int) : LV :=
  if (0 ≤ k ∧ k ≤ 2) ∧ (b = 1 ∨ b = -1) ∧ limB a (st1 q0 q1 q2 k b).1 (st1 q0 q1 q2 k b).2.1 (st1 q0 q1 q2 k b).2.2 = true then .tup [jv (st1 q0 q1 q2 k b).1 (st1 q0 q1 q2 k b).2.1 (st1 q0 q1 q2 k b).2.2, .bool true]
  else .tup [jv 0 0 0, .bool false]
end Go.Proofs.Ytnecdcaaknhgpaa

namespace Go.Proofs.Ytnecdcaaknhgpaa
set_option maxRecDepth 100000
set_option maxHeartbeats 4000000
set_option linter.unusedSimpArgs false
set_option linter.unusedVariables false
open Go Go.Zv
theorem fl12 (n : Int) : (if n.tmod 12 < 0 then n.tdiv 12 - 1 else n.tdiv 12) = n / 12 := by
  have h1 := Int.mul_tdiv_add_tmod n 12
  by_cases h : 0 ≤ n
  · have h2 := Int.tmod_nonneg 12 h
    have h3 := Int.tmod_lt_of_pos n (show (0 : Int) < 12 by omega)
    rw [if_neg (by omega)]; omega
  · have h2 := Int.lt_tmod_of_pos n (show (0 : Int) < 12 by omega)
    have h3 : n.tmod 12 ≤ 0 := by have := Int.tmod_nonneg 12 (show 0 ≤ -n by omega); rw [Int.neg_tmod] at this; omega
    split <;> omega
theorem c72 (n : Int) (h : -1000000000 ≤ n ∧ n ≤ 1000000000) : pc E 72 [.int .i64 n, .int .i64 12] = some (.int .i64 (n / 12)) := by
  have f := fl12 n
  have h1 := Int.mul_tdiv_add_tmod n 12
  have h2 := Int.lt_tmod_of_pos n (show (0 : Int) < 12 by omega)
  have h3 := Int.tmod_lt_of_pos n (show (0 : Int) < 12 by omega)
  have w1 : IntKind.i64.wrap (n.tdiv 12) = n.tdiv 12 := wrap_small (by omega) (by omega)
  have w2 : IntKind.i64.wrap (n.tdiv 12 - 1) = n.tdiv 12 - 1 := wrap_small (by omega) (by omega)
  have w3 : IntKind.i64.wrap (n / 12) = n / 12 := wrap_small (by omega) (by omega)
  by_cases hc : n.tmod 12 < 0
  · rw [if_pos hc] at f
    rw [pc_eq]; simp +contextual -implicitDefEqProofs (maxSteps := 2000000) only [go_sem, ↓reduceIte, E_72, A72, w1, w2, w3, hc, f]
  · rw [if_neg hc] at f
    rw [← f]
    rw [pc_eq]; simp +contextual -implicitDefEqProofs (maxSteps := 2000000) only [go_sem, ↓reduceIte, E_72, A72, w1, w2, hc]
def up12 (n : Int) : Int := -((-n) / 12)
theorem c39 (x0 x1 x2 : Int) (h0 : -1000000000 ≤ x0 ∧ x0 ≤ 1000000000) (h1 : -1000000000 ≤ x1 ∧ x1 ≤ 1000000000) (h2 : -1000000000 ≤ x2 ∧ x2 ≤ 1000000000) : pc E 39 [jv x0 x1 x2] = some (.tup [jv (x0 / 12) (x1 / 12) (x2 / 12), jv (up12 x0) (up12 x1) (up12 x2)]) := by
  have a0 := c72 x0 h0
  have a1 := c72 x1 h1
  have a2 := c72 x2 h2
  have b0 := c72 (-x0) (by omega)
  have b1 := c72 (-x1) (by omega)
  have b2 := c72 (-x2) (by omega)
  have w : ∀ n : Int, -1000000000 ≤ n ∧ n ≤ 1000000000 → IntKind.i64.wrap (0 - n) = -n := fun n h => by rw [wrap_small (by omega) (by omega)]; omega
  have u0 := w x0 h0
  have u1 := w x1 h1
  have u2 := w x2 h2
  have v0 := w (-x0 / 12) (by omega)
  have v1 := w (-x1 / 12) (by omega)
  have v2 := w (-x2 / 12) (by omega)
  rw [pc_eq]; simp +contextual -implicitDefEqProofs (maxSteps := 2000000) only [go_sem, ↓reduceIte, E_39, A39, A39_L0_eq, A39_L0b, a0, a1, a2, b0, b1, b2, u0, u1, u2, v0, v1, v2, up12]
theorem c79 (a : Arm) (x0 x1 x2 : Int) : pc E 79 [av a, jv x0 x1 x2] = some (.fn (.func 106) [] [.fp [.int .i64 x0, .int .i64 x1, .int .i64 x2], .fp (avc a)]) := by
  rw [pc_eq]; simp +contextual -implicitDefEqProofs (maxSteps := 2000000) only [go_sem, ↓reduceIte, E_79, A79]
end Go.Proofs.Ytnecdcaaknhgpaa

namespace Go.Proofs.Ytnecdcaaknhgpaa
set_option maxRecDepth 100000
set_option maxHeartbeats 4000000
set_option linter.unusedSimpArgs false
set_option linter.unusedVariables false
open Go Go.Zv
structure Cel where
  a : Arm
  b : Arm
  h0 : Int
  h1 : Int
  h2 : Int
  h3 : Int
  h4 : Int
  h5 : Int
  fx : List (List LV)
  pl : List (List LV)
  pt : List (List LV)
  bt : List (List LV)
  per : Int
  lv : Int
  la : Int
  lj : Int
  mv : Int
  ma : Int
  mj : Int
  zn : List (List LV)
  gap : Int
  slow : Int
abbrev cec (c : Cel) : List LV := [.int .i64 c.a.bx, .int .i64 c.a.by_, .int .i64 c.a.l0, .int .i64 c.a.l1, .int .i64 c.a.l2, .int .i64 c.a.w, .int .i64 c.a.lo0, .int .i64 c.a.lo1, .int .i64 c.a.lo2, .int .i64 c.a.hi0, .int .i64 c.a.hi1, .int .i64 c.a.hi2, .int .i64 c.b.bx, .int .i64 c.b.by_, .int .i64 c.b.l0, .int .i64 c.b.l1, .int .i64 c.b.l2, .int .i64 c.b.w, .int .i64 c.b.lo0, .int .i64 c.b.lo1, .int .i64 c.b.lo2, .int .i64 c.b.hi0, .int .i64 c.b.hi1, .int .i64 c.b.hi2, .int .i64 c.h0, .int .i64 c.h1, .int .i64 c.h2, .int .i64 c.h3, .int .i64 c.h4, .int .i64 c.h5, .vs c.fx, .vs c.pl, .vs c.pt, .vs c.bt, .int .i64 c.per, .int .i64 c.lv, .int .i64 c.la, .int .i64 c.lj, .int .i64 c.mv, .int .i64 c.ma, .int .i64 c.mj, .vs c.zn, .int .i64 c.gap, .int .i64 c.slow]
abbrev pos (x0 x1 x2 y0 y1 y2 : Int) : LV := .agg [.int .i64 x0, .int .i64 x1, .int .i64 x2, .int .i64 y0, .int .i64 y1, .int .i64 y2]
end Go.Proofs.Ytnecdcaaknhgpaa

namespace Go.Proofs.Ytnecdcaaknhgpaa
set_option maxRecDepth 100000
set_option maxHeartbeats 4000000
set_option linter.unusedSimpArgs false
set_option linter.unusedVariables false
open Go Go.Zv
theorem t200 (n : Int) : -200 < n.tmod 200 ∧ n.tmod 200 < 200 :=
  ⟨Int.lt_tmod_of_pos n (by omega), Int.tmod_lt_of_pos n (by omega)⟩
structure Bk (p l u d m : Int) : Prop where
  w1 : IntKind.i64.wrap (12 * l) = 12 * l
  w2 : IntKind.i64.wrap (12 * u) = 12 * u
  w3 : IntKind.i64.wrap (u - l) = u - l
  a1 : ¬ (p < 12 * l)
  a2 : ¬ (12 * u < p)
  a3 : ¬ (1 < u - l)
  w4 : IntKind.i64.wrap (p.tmod 12) = p.tmod 12
  a4 : (p.tmod 12 == 0) = (l == u)
  a5 : ¬ (d < l)
  a6 : ¬ (m < u)
theorem bk (p d : Int) (hp : -200 < p ∧ p < 200) (hd : 0 ≤ d) : Bk p (p / 12) (up12 p) ((p + d) / 12) (up12 (p + d)) := by
  have f := fl12 p
  have f1 := Int.mul_tdiv_add_tmod p 12
  have l2 := Int.lt_tmod_of_pos p (show (0 : Int) < 12 by omega)
  have l3 := Int.tmod_lt_of_pos p (show (0 : Int) < 12 by omega)
  unfold up12
  refine ⟨wrap_small (by omega) (by omega), wrap_small (by omega) (by omega), wrap_small (by omega) (by omega), by omega, by omega, by omega, wrap_small (by omega) (by omega), ?_, by omega, by omega⟩
  rw [Bool.eq_iff_iff, beq_iff_eq, beq_iff_eq]
  constructor <;> intro h <;> omega
theorem law10 (hd : pc E 38 [] = some (.bool true)) (x0 x1 x2 b : Int) (h0 : -32768 ≤ x0 ∧ x0 ≤ 32767) (h1 : -32768 ≤ x1 ∧ x1 ≤ 32767) (h2 : -32768 ≤ x2 ∧ x2 ≤ 32767) (hb : 0 ≤ b ∧ b ≤ 255) : pc E 10 [.agg [.int .i16 x0, .int .i16 x1, .int .i16 x2], .int .u8 b] = some (.bool true) := by
  have w0 : IntKind.i64.wrap x0 = x0 := wrap_small (by omega) (by omega)
  have w1 : IntKind.i64.wrap x1 = x1 := wrap_small (by omega) (by omega)
  have w2 : IntKind.i64.wrap x2 = x2 := wrap_small (by omega) (by omega)
  have wb : IntKind.i64.wrap b = b := wrap_small (by omega) (by omega)
  have t0 := t200 x0
  have t1 := t200 x1
  have t2 := t200 x2
  generalize e0 : x0.tmod 200 = p0 at t0
  generalize e1 : x1.tmod 200 = p1 at t1
  generalize e2 : x2.tmod 200 = p2 at t2
  have v0 : IntKind.i64.wrap p0 = p0 := wrap_small (by omega) (by omega)
  have v1 : IntKind.i64.wrap p1 = p1 := wrap_small (by omega) (by omega)
  have v2 : IntKind.i64.wrap p2 = p2 := wrap_small (by omega) (by omega)
  have g1 := Int.tmod_nonneg 12 (show 0 ≤ b by omega)
  have g2 := Int.tmod_lt_of_pos b (show (0 : Int) < 12 by omega)
  have k1 := Int.tmod_nonneg 3 (show 0 ≤ b by omega)
  have k2 := Int.tmod_lt_of_pos b (show (0 : Int) < 3 by omega)
  generalize ed : b.tmod 12 = d at g1 g2
  generalize ek : b.tmod 3 = k at k1 k2
  have vd : IntKind.i64.wrap d = d := wrap_small (by omega) (by omega)
  have vk : IntKind.i64.wrap k = k := wrap_small (by omega) (by omega)
  have vp0 : IntKind.i64.wrap (p0 + d) = p0 + d := wrap_small (by omega) (by omega)
  have vp1 : IntKind.i64.wrap (p1 + d) = p1 + d := wrap_small (by omega) (by omega)
  have vp2 : IntKind.i64.wrap (p2 + d) = p2 + d := wrap_small (by omega) (by omega)
  have c := c39 p0 p1 p2 (by omega) (by omega) (by omega)
  have hk : k = 0 ∨ k = 1 ∨ k = 2 := by omega
  have z0 := bk p0 0 t0 (by omega)
  have z1 := bk p1 0 t1 (by omega)
  have z2 := bk p2 0 t2 (by omega)
  rw [Int.add_zero] at z0 z1 z2
  rcases hk with rfl | rfl | rfl
  · have c' := c39 (p0 + d) p1 p2 (by omega) (by omega) (by omega)
    have z0 := bk p0 d t0 (by omega)
    generalize p0 / 12 = l0, up12 p0 = u0, p1 / 12 = l1, up12 p1 = u1, p2 / 12 = l2, up12 p2 = u2, (p0 + d) / 12 = n0, up12 (p0 + d) = m0 at *
    obtain ⟨a1, a2, a3, a4, a5, a6, a7, a8, a9, a0⟩ := z0
    obtain ⟨b1, b2, b3, b4, b5, b6, b7, b8, b9, b0⟩ := z1
    obtain ⟨c1, c2, c3, c4, c5, c6, c7, c8, c9, c0⟩ := z2
    rw [pc_eq]; simp +contextual -implicitDefEqProofs (maxSteps := 2000000) only [go_sem, ↓reduceIte, E_10, A10, A10_L0_eq, A10_L0b, hd, w0, w1, w2, wb, e0, e1, e2, v0, v1, v2, ed, ek, vd, vk, vp0, c, c', a1, a2, a3, a4, a5, a6, a7, a8, a9, a0, b1, b2, b3, b4, b5, b6, b7, b8, b9, b0, c1, c2, c3, c4, c5, c6, c7, c8, c9, c0]
  · have c' := c39 p0 (p1 + d) p2 (by omega) (by omega) (by omega)
    have z1 := bk p1 d t1 (by omega)
    generalize p0 / 12 = l0, up12 p0 = u0, p1 / 12 = l1, up12 p1 = u1, p2 / 12 = l2, up12 p2 = u2, (p1 + d) / 12 = n0, up12 (p1 + d) = m0 at *
    obtain ⟨a1, a2, a3, a4, a5, a6, a7, a8, a9, a0⟩ := z0
    obtain ⟨b1, b2, b3, b4, b5, b6, b7, b8, b9, b0⟩ := z1
    obtain ⟨c1, c2, c3, c4, c5, c6, c7, c8, c9, c0⟩ := z2
    rw [pc_eq]; simp +contextual -implicitDefEqProofs (maxSteps := 2000000) only [go_sem, ↓reduceIte, E_10, A10, A10_L0_eq, A10_L0b, hd, w0, w1, w2, wb, e0, e1, e2, v0, v1, v2, ed, ek, vd, vk, vp1, c, c', a1, a2, a3, a4, a5, a6, a7, a8, a9, a0, b1, b2, b3, b4, b5, b6, b7, b8, b9, b0, c1, c2, c3, c4, c5, c6, c7, c8, c9, c0]
  · have c' := c39 p0 p1 (p2 + d) (by omega) (by omega) (by omega)
    have z2 := bk p2 d t2 (by omega)
    generalize p0 / 12 = l0, up12 p0 = u0, p1 / 12 = l1, up12 p1 = u1, p2 / 12 = l2, up12 p2 = u2, (p2 + d) / 12 = n0, up12 (p2 + d) = m0 at *
    obtain ⟨a1, a2, a3, a4, a5, a6, a7, a8, a9, a0⟩ := z0
    obtain ⟨b1, b2, b3, b4, b5, b6, b7, b8, b9, b0⟩ := z1
    obtain ⟨c1, c2, c3, c4, c5, c6, c7, c8, c9, c0⟩ := z2
    rw [pc_eq]; simp +contextual -implicitDefEqProofs (maxSteps := 2000000) only [go_sem, ↓reduceIte, E_10, A10, A10_L0_eq, A10_L0b, hd, w0, w1, w2, wb, e0, e1, e2, v0, v1, v2, ed, ek, vd, vk, vp2, c, c', a1, a2, a3, a4, a5, a6, a7, a8, a9, a0, b1, b2, b3, b4, b5, b6, b7, b8, b9, b0, c1, c2, c3, c4, c5, c6, c7, c8, c9, c0]
end Go.Proofs.Ytnecdcaaknhgpaa

namespace Go.Proofs.Ytnecdcaaknhgpaa
set_option maxRecDepth 100000
set_option maxHeartbeats 4000000
set_option linter.unusedSimpArgs false
set_option linter.unusedVariables false
open Go Go.Zv
structure Cl where
  a : Arm
  b : Arm
  h0 : Int
  h1 : Int
  h2 : Int
  h3 : Int
  h4 : Int
  h5 : Int
  fx : List (List Go.Geo.Pt)
  pl : List Go.Geo.Plc
  pt : List Go.Geo.Prt
  bt : List Int
  per : Int
  lv : Int
  la : Int
  lj : Int
  mv : Int
  ma : Int
  mj : Int
  zn : List (List Go.Geo.Pt)
  gap : Int
  slow : Int
abbrev Cl.cel (c : Cl) : Cel := ⟨c.a, c.b, c.h0, c.h1, c.h2, c.h3, c.h4, c.h5, c.fx.map Go.Geo.p1, c.pl.map Go.Geo.plv, c.pt.map Go.Geo.prv, c.bt.map Go.Geo.c1, c.per, c.lv, c.la, c.lj, c.mv, c.ma, c.mj, c.zn.map Go.Geo.p1, c.gap, c.slow⟩
def zrows (l : List (List Go.Geo.Pt)) (k : Nat) : List (List LV) := (l.take k).map Go.Geo.p1
end Go.Proofs.Ytnecdcaaknhgpaa

namespace Go.Proofs.Ytnecdcaaknhgpaa
set_option maxRecDepth 100000
set_option maxHeartbeats 4000000
set_option linter.unusedSimpArgs false
set_option linter.unusedVariables false
open Go Go.Zv
open Go.Geo (polB plcB prtB unlB bouB)
def C73a : ACode := .reg none [
  ⟨some 1, .box (.t 0), none, true⟩,
  ⟨some 2, .as (.c (.bool false)), none, true⟩] (some [1]) []
def C73c : ACode := .seq (
.reg none [
  ⟨some 66, .fad 31 (.t 1), none, true⟩,
  ⟨some 67, .load false 1 (.t 66), none, true⟩,
  ⟨some 68, .len 0 (.t 67), none, true⟩,
  ⟨some 69, .bin .gtr (.t 68) (.c (.int .i64 16)), none, true⟩,
  ⟨some 70, .mv (.t 69), none, true⟩,
  ⟨some 71, .fad 32 (.t 1), some (70, false), true⟩,
  ⟨some 72, .load false 1 (.t 71), some (70, false), true⟩,
  ⟨some 73, .len 0 (.t 72), some (70, false), true⟩,
  ⟨some 74, .bin .gtr (.t 73) (.c (.int .i64 8)), some (70, false), true⟩,
  ⟨some 75, .pick (.t 70) (.c (.bool true)) (.t 74), none, true⟩,
  ⟨some 76, .mv (.t 75), none, true⟩,
  ⟨some 77, .fad 33 (.t 1), some (76, false), true⟩,
  ⟨some 78, .load false 1 (.t 77), some (76, false), true⟩,
  ⟨some 79, .len 0 (.t 78), some (76, false), true⟩,
  ⟨some 80, .bin .gtr (.t 79) (.c (.int .i64 16)), some (76, false), true⟩,
  ⟨some 81, .pick (.t 76) (.c (.bool true)) (.t 80), none, true⟩] (some [1, 81]) []) (
(.cond (.t 81) (
  (.seq (
  .reg none [
    ⟨some 2, .as (.c (.bool false)), none, true⟩] (some [2]) []) (
  .ret))) (
  .skip)))
def C73l : ACode := .reg none [
  ⟨some 82, .fad 35 (.t 1), none, true⟩,
  ⟨some 83, .load true 3 (.t 82), none, true⟩,
  ⟨some 84, .call 99 [.t 83], none, true⟩,
  ⟨some 85, .mv (.t 84), none, true⟩,
  ⟨some 86, .fad 38 (.t 1), some (85, true), true⟩,
  ⟨some 87, .load true 3 (.t 86), some (85, true), true⟩,
  ⟨some 88, .call 99 [.t 87], some (85, true), true⟩,
  ⟨some 89, .pick (.t 85) (.t 88) (.c (.bool false)), none, true⟩,
  ⟨some 90, .mv (.t 89), none, true⟩,
  ⟨some 91, .fad 38 (.t 1), some (90, true), true⟩,
  ⟨some 92, .fad 0 (.t 91), some (90, true), true⟩,
  ⟨some 93, .load false 1 (.t 92), some (90, true), true⟩,
  ⟨some 94, .fad 35 (.t 1), some (90, true), true⟩,
  ⟨some 95, .fad 0 (.t 94), some (90, true), true⟩,
  ⟨some 96, .load false 1 (.t 95), some (90, true), true⟩,
  ⟨some 97, .bin .leq (.t 93) (.t 96), some (90, true), true⟩,
  ⟨some 98, .pick (.t 90) (.t 97) (.c (.bool false)), none, true⟩,
  ⟨some 99, .mv (.t 98), none, true⟩,
  ⟨some 100, .fad 38 (.t 1), some (99, true), true⟩,
  ⟨some 101, .fad 1 (.t 100), some (99, true), true⟩,
  ⟨some 102, .load false 1 (.t 101), some (99, true), true⟩,
  ⟨some 103, .fad 35 (.t 1), some (99, true), true⟩,
  ⟨some 104, .fad 1 (.t 103), some (99, true), true⟩,
  ⟨some 105, .load false 1 (.t 104), some (99, true), true⟩,
  ⟨some 106, .bin .leq (.t 102) (.t 105), some (99, true), true⟩,
  ⟨some 107, .pick (.t 99) (.t 106) (.c (.bool false)), none, true⟩,
  ⟨some 108, .mv (.t 107), none, true⟩,
  ⟨some 109, .fad 38 (.t 1), some (108, true), true⟩,
  ⟨some 110, .fad 2 (.t 109), some (108, true), true⟩,
  ⟨some 111, .load false 1 (.t 110), some (108, true), true⟩,
  ⟨some 112, .fad 35 (.t 1), some (108, true), true⟩,
  ⟨some 113, .fad 2 (.t 112), some (108, true), true⟩,
  ⟨some 114, .load false 1 (.t 113), some (108, true), true⟩,
  ⟨some 115, .bin .leq (.t 111) (.t 114), some (108, true), true⟩,
  ⟨some 116, .pick (.t 108) (.t 115) (.c (.bool false)), none, true⟩,
  ⟨some 6, .as (.t 116), none, true⟩] (some [1, 6]) []
def C73t : ACode := .seq (.reg none [
  ⟨some 117, .fad 30 (.t 1), none, true⟩,
  ⟨some 118, .load false 1 (.t 117), none, true⟩,
  ⟨some 119, .call 100 [.t 118], none, true⟩,
  ⟨some 120, .mv (.t 119), none, true⟩,
  ⟨some 121, .load true 44 (.t 1), some (120, true), true⟩,
  ⟨some 122, .call 101 [.t 121], some (120, true), true⟩,
  ⟨some 123, .call 100 [.t 122], some (120, true), true⟩,
  ⟨some 124, .pick (.t 120) (.t 123) (.c (.bool false)), none, true⟩,
  ⟨some 125, .mv (.t 124), none, true⟩,
  ⟨some 126, .fad 31 (.t 1), some (125, true), true⟩,
  ⟨some 127, .load false 1 (.t 126), some (125, true), true⟩,
  ⟨some 128, .call 102 [.t 127], some (125, true), true⟩,
  ⟨some 129, .pick (.t 125) (.t 128) (.c (.bool false)), none, true⟩,
  ⟨some 130, .mv (.t 129), none, true⟩,
  ⟨some 131, .fad 32 (.t 1), some (130, true), true⟩,
  ⟨some 132, .load false 1 (.t 131), some (130, true), true⟩,
  ⟨some 133, .fad 31 (.t 1), some (130, true), true⟩,
  ⟨some 134, .load false 1 (.t 133), some (130, true), true⟩,
  ⟨some 135, .len 0 (.t 134), some (130, true), true⟩,
  ⟨some 136, .call 103 [.t 132, .t 135], some (130, true), true⟩,
  ⟨some 137, .pick (.t 130) (.t 136) (.c (.bool false)), none, true⟩,
  ⟨some 138, .mv (.t 137), none, true⟩,
  ⟨some 139, .fad 33 (.t 1), some (138, true), true⟩,
  ⟨some 140, .load false 1 (.t 139), some (138, true), true⟩,
  ⟨some 141, .fad 31 (.t 1), some (138, true), true⟩,
  ⟨some 142, .load false 1 (.t 141), some (138, true), true⟩,
  ⟨some 143, .len 0 (.t 142), some (138, true), true⟩,
  ⟨some 144, .call 104 [.t 140, .t 143], some (138, true), true⟩,
  ⟨some 145, .pick (.t 138) (.t 144) (.c (.bool false)), none, true⟩,
  ⟨some 146, .mv (.t 145), none, true⟩,
  ⟨some 147, .fad 34 (.t 1), some (146, true), true⟩,
  ⟨some 148, .load false 1 (.t 147), some (146, true), true⟩,
  ⟨some 149, .bin .geq (.t 148) (.c (.int .i64 0)), some (146, true), true⟩,
  ⟨some 150, .pick (.t 146) (.t 149) (.c (.bool false)), none, true⟩,
  ⟨some 151, .mv (.t 150), none, true⟩,
  ⟨some 152, .fad 34 (.t 1), some (151, true), true⟩,
  ⟨some 153, .load false 1 (.t 152), some (151, true), true⟩,
  ⟨some 154, .bin .leq (.t 153) (.c (.int .i64 100)), some (151, true), true⟩,
  ⟨some 155, .pick (.t 151) (.t 154) (.c (.bool false)), none, true⟩,
  ⟨some 156, .mv (.t 155), none, true⟩,
  ⟨some 157, .mv (.t 6), some (156, true), true⟩,
  ⟨some 158, .pick (.t 156) (.t 157) (.c (.bool false)), none, true⟩,
  ⟨some 159, .mv (.t 158), none, true⟩,
  ⟨some 160, .fad 42 (.t 1), some (159, true), true⟩,
  ⟨some 161, .load false 1 (.t 160), some (159, true), true⟩,
  ⟨some 162, .bin .geq (.t 161) (.c (.int .i64 0)), some (159, true), true⟩,
  ⟨some 163, .pick (.t 159) (.t 162) (.c (.bool false)), none, true⟩,
  ⟨some 164, .mv (.t 163), none, true⟩,
  ⟨some 165, .fad 42 (.t 1), some (164, true), true⟩,
  ⟨some 166, .load false 1 (.t 165), some (164, true), true⟩,
  ⟨some 167, .bin .leq (.t 166) (.c (.int .i64 20)), some (164, true), true⟩,
  ⟨some 168, .pick (.t 164) (.t 167) (.c (.bool false)), none, true⟩,
  ⟨some 169, .mv (.t 168), none, true⟩,
  ⟨some 170, .fad 43 (.t 1), some (169, true), true⟩,
  ⟨some 171, .load false 1 (.t 170), some (169, true), true⟩,
  ⟨some 172, .bin .geq (.t 171) (.c (.int .i64 1)), some (169, true), true⟩,
  ⟨some 173, .pick (.t 169) (.t 172) (.c (.bool false)), none, true⟩,
  ⟨some 174, .mv (.t 173), none, true⟩,
  ⟨some 175, .fad 43 (.t 1), some (174, true), true⟩,
  ⟨some 176, .load false 1 (.t 175), some (174, true), true⟩,
  ⟨some 177, .bin .leq (.t 176) (.c (.int .i64 8)), some (174, true), true⟩,
  ⟨some 178, .pick (.t 174) (.t 177) (.c (.bool false)), none, true⟩,
  ⟨some 2, .as (.t 178), none, true⟩] (some [2]) [1]) .ret
def rchX (a : Arm) (x : Int) : Int := 8 * mxI x (-x) + 39546000 * (a.l0 + a.l1 + a.l2 + 15)
structure RW (a : Arm) (x : Int) : Prop where
  w1 : IntKind.i64.wrap (a.l0 + a.l1) = a.l0 + a.l1
  w2 : IntKind.i64.wrap (a.l0 + a.l1 + a.l2) = a.l0 + a.l1 + a.l2
  w3 : IntKind.i64.wrap (a.l0 + a.l1 + a.l2 + 15) = a.l0 + a.l1 + a.l2 + 15
  w4 : IntKind.i64.wrap (39546000 * (a.l0 + a.l1 + a.l2 + 15)) = 39546000 * (a.l0 + a.l1 + a.l2 + 15)
  w5 : IntKind.i64.wrap (0 - x) = -x
  w6 : IntKind.i64.wrap (8 * mxI x (-x)) = 8 * mxI x (-x)
  w7 : IntKind.i64.wrap (8 * mxI x (-x) + 39546000 * (a.l0 + a.l1 + a.l2 + 15)) = rchX a x
noncomputable def armOK (a : Arm) (q0 q1 q2 : Int) : Bool := okB a && (limB a q0 q1 q2 && (!decide (3515200000 < rchX a a.bx) && !decide (3515200000 < rchX a a.by_)))
def limsB (c : Cl) : Bool := bouB c.lv c.la c.lj && (bouB c.mv c.ma c.mj && (decide (c.mv ≤ c.lv) && (decide (c.ma ≤ c.la) && decide (c.mj ≤ c.lj))))
def restB (c : Cl) : Bool := polB c.fx && (polB c.zn && (plcB c.pl && (prtB c.pt c.pl.length && (unlB c.bt c.pl.length && (decide (0 ≤ c.per) && (decide (c.per ≤ 100) && (limsB c && (decide (0 ≤ c.gap) && (decide (c.gap ≤ 20) && (decide (1 ≤ c.slow) && decide (c.slow ≤ 8)))))))))))
noncomputable def rightB (c : Cl) : Bool := armOK c.a c.h0 c.h1 c.h2 && (armOK c.b c.h3 c.h4 c.h5 && (decide ((c.pl.length : Int) ≤ 16) && (decide ((c.pt.length : Int) ≤ 8) && (decide ((c.bt.length : Int) ≤ 16) && restB c))))
end Go.Proofs.Ytnecdcaaknhgpaa

namespace Go.Proofs.Ytnecdcaaknhgpaa
set_option maxRecDepth 100000
set_option maxHeartbeats 4000000
set_option linter.unusedSimpArgs false
set_option linter.unusedVariables false
open Go Go.Zv
open Go.Geo (polB plcB prtB unlB bouB)
end Go.Proofs.Ytnecdcaaknhgpaa

namespace Go.Proofs.Ytnecdcaaknhgpaa
set_option maxRecDepth 100000
set_option maxHeartbeats 4000000
set_option linter.unusedSimpArgs false
set_option linter.unusedVariables false
open Go Go.Zv
open Go.Geo (polB plcB prtB unlB bouB)
def XT (c : Cl) : Heap := if polB c.fx = true then [(31232, .row 1 (c.zn.map Go.Geo.p1))] else []
end Go.Proofs.Ytnecdcaaknhgpaa

namespace Go.Proofs.Ytnecdcaaknhgpaa
set_option maxRecDepth 100000
set_option maxHeartbeats 4000000
set_option linter.unusedSimpArgs false
set_option linter.unusedVariables false
open Go Go.Zv
open Go.Geo (polB plcB prtB unlB bouB)
end Go.Proofs.Ytnecdcaaknhgpaa

namespace Go.Proofs.Ytnecdcaaknhgpaa
set_option maxRecDepth 100000
set_option maxHeartbeats 4000000
set_option linter.unusedSimpArgs false
set_option linter.unusedVariables false
open Go Go.Zv
open Go.Geo (polB plcB prtB unlB bouB)
end Go.Proofs.Ytnecdcaaknhgpaa

namespace Go.Proofs.Ytnecdcaaknhgpaa
set_option maxRecDepth 100000
set_option maxHeartbeats 4000000
set_option linter.unusedSimpArgs false
set_option linter.unusedVariables false
open Go Go.Zv
def mayQ (a : Arm) (x0 x1 x2 : Int) : Bool := decide (12 * a.lo0 ≤ x0) && (decide (x0 ≤ 12 * a.hi0) && (decide (12 * a.lo1 ≤ x1) && (decide (x1 ≤ 12 * a.hi1) && (decide (12 * a.lo2 ≤ x2) && decide (x2 ≤ 12 * a.hi2)))))
def smallB (c : Cl) : Bool := decide ((c.fx.length : Int) ≤ 16) && (decide ((c.zn.length : Int) ≤ 16) && (decide ((c.pl.length : Int) ≤ 16) && (decide ((c.pt.length : Int) ≤ 8) && decide ((c.bt.length : Int) ≤ 16))))
noncomputable def fitB (c : Cl) (x0 x1 x2 y0 y1 y2 : Int) (br : List Bool) : Bool := smallB c && (rightB c && (decide ((br.length : Int) = c.zn.length) && (mayQ c.a x0 x1 x2 && mayQ c.b y0 y1 y2)))
def bb1 (b : Bool) : List LV := [.bool b]
end Go.Proofs.Ytnecdcaaknhgpaa

namespace Go.Proofs.Ytnecdcaaknhgpaa
set_option maxRecDepth 100000
set_option maxHeartbeats 4000000
set_option linter.unusedSimpArgs false
set_option linter.unusedVariables false
open Go Go.Zv
def farW (i w : Int) : Int := mxI (w64 (i - w)) (w64 (0 - w64 (i - w)))
def frow (a k : Int) : List LV := [.int .i64 1, .int .i64 a, .int .i64 k, .int .i64 0]
def frw (most i w a k : Int) : List (List LV) := if most < farW i w then [frow a k] else []
theorem tk_all (R : List (List LV)) : R.take R.length = R := List.take_length
theorem tk_one (R : List (List LV)) (r : List LV) : (R ++ [r]).take (R.length + 1) = R ++ [r] := List.take_of_length_le (by simp)
theorem f75_00 (V IS : List LV) (i0 i1 i2 most w : Int) (R : List (List LV)) (hl : V.length = 57) (hs : ∀ r id, LV.subs r id V = V) (hs2 : ∀ r id, LV.subs r id IS = IS) (hv : V[44]? = some (.int .i64 w)) (hr : R.length ≤ 1000) :
    (K E A75_L0 ⟨[(1, .ptr 256 0), (3, .bs 768 0 (R).length), (4, .int .i64 most), (5, .int .i64 0), (23, .agg IS), (24, .int .i64 0), (28, .agg [.int .i64 i0, .int .i64 i1, .int .i64 i2]), (29, .int .i64 0)], [], [(768, .row 4 (R)), (512, .row 4 []), (256, .box V)], 0⟩).bind (blockR 2 (some [1, 3, 4, 23, 24]) [7, 8, 9, 51]) = (K E A75_L0 ⟨[(1, .ptr 256 0), (3, .bs 768 0 (R ++ frw most i0 w 0 0).length), (4, .int .i64 most), (5, .int .i64 0), (23, .agg IS), (24, .int .i64 0), (28, .agg [.int .i64 i0, .int .i64 i1, .int .i64 i2]), (29, .int .i64 1)], [], [(768, .row 4 (R ++ frw most i0 w 0 0)), (512, .row 4 []), (256, .box V)], 0⟩).bind (blockR 2 (some [1, 3, 4, 23, 24]) [7, 8, 9, 51]) := by
  have t0 := tk_all R
  have t1 := tk_one R
  have hb : R.length + 1 ≤ 1000000000 := by omega
  unfold frw
  have hf : farW i0 w = mxI (IntKind.i64.wrap (i0 - w)) (IntKind.i64.wrap (0 - IntKind.i64.wrap (i0 - w))) := rfl
  rw [hf]
  by_cases h : most < mxI (IntKind.i64.wrap (i0 - w)) (IntKind.i64.wrap (0 - IntKind.i64.wrap (i0 - w)))
  · simp only [if_pos h, frow, List.length_append, List.length_cons, List.length_nil, Nat.zero_add]
    conv => lhs; rw [A75_L0_eq]
    simp +contextual -implicitDefEqProofs (maxSteps := 2000000) only [go_sem, ↓reduceIte, A75_L0b, hl, hs, hs2, hv, t0, t1, hb, h, Nat.le_refl]
  · simp only [if_neg h, List.append_nil]
    conv => lhs; rw [A75_L0_eq]
    simp +contextual -implicitDefEqProofs (maxSteps := 2000000) only [go_sem, ↓reduceIte, A75_L0b, hl, hs, hs2, hv, t0, hb, h, Nat.le_refl]
theorem f75_01 (V IS : List LV) (i0 i1 i2 most w : Int) (R : List (List LV)) (hl : V.length = 57) (hs : ∀ r id, LV.subs r id V = V) (hs2 : ∀ r id, LV.subs r id IS = IS) (hv : V[45]? = some (.int .i64 w)) (hr : R.length ≤ 1000) :
    (K E A75_L0 ⟨[(1, .ptr 256 0), (3, .bs 768 0 (R).length), (4, .int .i64 most), (5, .int .i64 0), (23, .agg IS), (24, .int .i64 0), (28, .agg [.int .i64 i0, .int .i64 i1, .int .i64 i2]), (29, .int .i64 1)], [], [(768, .row 4 (R)), (512, .row 4 []), (256, .box V)], 0⟩).bind (blockR 2 (some [1, 3, 4, 23, 24]) [7, 8, 9, 51]) = (K E A75_L0 ⟨[(1, .ptr 256 0), (3, .bs 768 0 (R ++ frw most i1 w 0 1).length), (4, .int .i64 most), (5, .int .i64 0), (23, .agg IS), (24, .int .i64 0), (28, .agg [.int .i64 i0, .int .i64 i1, .int .i64 i2]), (29, .int .i64 2)], [], [(768, .row 4 (R ++ frw most i1 w 0 1)), (512, .row 4 []), (256, .box V)], 0⟩).bind (blockR 2 (some [1, 3, 4, 23, 24]) [7, 8, 9, 51]) := by
  have t0 := tk_all R
  have t1 := tk_one R
  have hb : R.length + 1 ≤ 1000000000 := by omega
  unfold frw
  have hf : farW i1 w = mxI (IntKind.i64.wrap (i1 - w)) (IntKind.i64.wrap (0 - IntKind.i64.wrap (i1 - w))) := rfl
  rw [hf]
  by_cases h : most < mxI (IntKind.i64.wrap (i1 - w)) (IntKind.i64.wrap (0 - IntKind.i64.wrap (i1 - w)))
  · simp only [if_pos h, frow, List.length_append, List.length_cons, List.length_nil, Nat.zero_add]
    conv => lhs; rw [A75_L0_eq]
    simp +contextual -implicitDefEqProofs (maxSteps := 2000000) only [go_sem, ↓reduceIte, A75_L0b, hl, hs, hs2, hv, t0, t1, hb, h, Nat.le_refl]
  · simp only [if_neg h, List.append_nil]
    conv => lhs; rw [A75_L0_eq]
    simp +contextual -implicitDefEqProofs (maxSteps := 2000000) only [go_sem, ↓reduceIte, A75_L0b, hl, hs, hs2, hv, t0, hb, h, Nat.le_refl]
theorem f75_02 (V IS : List LV) (i0 i1 i2 most w : Int) (R : List (List LV)) (hl : V.length = 57) (hs : ∀ r id, LV.subs r id V = V) (hs2 : ∀ r id, LV.subs r id IS = IS) (hv : V[46]? = some (.int .i64 w)) (hr : R.length ≤ 1000) :
    (K E A75_L0 ⟨[(1, .ptr 256 0), (3, .bs 768 0 (R).length), (4, .int .i64 most), (5, .int .i64 0), (23, .agg IS), (24, .int .i64 0), (28, .agg [.int .i64 i0, .int .i64 i1, .int .i64 i2]), (29, .int .i64 2)], [], [(768, .row 4 (R)), (512, .row 4 []), (256, .box V)], 0⟩).bind (blockR 2 (some [1, 3, 4, 23, 24]) [7, 8, 9, 51]) = (K E A75_L0 ⟨[(1, .ptr 256 0), (3, .bs 768 0 (R ++ frw most i2 w 0 2).length), (4, .int .i64 most), (5, .int .i64 0), (23, .agg IS), (24, .int .i64 0), (28, .agg [.int .i64 i0, .int .i64 i1, .int .i64 i2]), (29, .int .i64 3)], [], [(768, .row 4 (R ++ frw most i2 w 0 2)), (512, .row 4 []), (256, .box V)], 0⟩).bind (blockR 2 (some [1, 3, 4, 23, 24]) [7, 8, 9, 51]) := by
  have t0 := tk_all R
  have t1 := tk_one R
  have hb : R.length + 1 ≤ 1000000000 := by omega
  unfold frw
  have hf : farW i2 w = mxI (IntKind.i64.wrap (i2 - w)) (IntKind.i64.wrap (0 - IntKind.i64.wrap (i2 - w))) := rfl
  rw [hf]
  by_cases h : most < mxI (IntKind.i64.wrap (i2 - w)) (IntKind.i64.wrap (0 - IntKind.i64.wrap (i2 - w)))
  · simp only [if_pos h, frow, List.length_append, List.length_cons, List.length_nil, Nat.zero_add]
    conv => lhs; rw [A75_L0_eq]
    simp +contextual -implicitDefEqProofs (maxSteps := 2000000) only [go_sem, ↓reduceIte, A75_L0b, hl, hs, hs2, hv, t0, t1, hb, h, Nat.le_refl]
  · simp only [if_neg h, List.append_nil]
    conv => lhs; rw [A75_L0_eq]
    simp +contextual -implicitDefEqProofs (maxSteps := 2000000) only [go_sem, ↓reduceIte, A75_L0b, hl, hs, hs2, hv, t0, hb, h, Nat.le_refl]
theorem g75_0 (V IS : List LV) (i0 i1 i2 most w0 w1 w2 : Int) (R : List (List LV)) (hl : V.length = 57) (hs : ∀ r id, LV.subs r id V = V) (hs2 : ∀ r id, LV.subs r id IS = IS) (hv0 : V[44]? = some (.int .i64 w0)) (hv1 : V[45]? = some (.int .i64 w1)) (hv2 : V[46]? = some (.int .i64 w2)) (hr : R.length ≤ 900) :
    (K E A75_L0 ⟨[(1, .ptr 256 0), (3, .bs 768 0 (R).length), (4, .int .i64 most), (5, .int .i64 0), (23, .agg IS), (24, .int .i64 0), (28, .agg [.int .i64 i0, .int .i64 i1, .int .i64 i2]), (29, .int .i64 0)], [], [(768, .row 4 (R)), (512, .row 4 []), (256, .box V)], 0⟩).bind (blockR 2 (some [1, 3, 4, 23, 24]) [7, 8, 9, 51]) = some (.ex .nrm ⟨[(1, .ptr 256 0), (3, .bs 768 0 (R ++ frw most i0 w0 0 0 ++ frw most i1 w1 0 1 ++ frw most i2 w2 0 2).length), (4, .int .i64 most), (23, .agg IS), (24, .int .i64 0)], [], [(768, .row 4 (R ++ frw most i0 w0 0 0 ++ frw most i1 w1 0 1 ++ frw most i2 w2 0 2)), (512, .row 4 []), (256, .box V)], 0⟩) := by
  have l0 : ∀ i w a k : Int, (frw most i w a k).length ≤ 1 := fun i w a k => by unfold frw; split <;> simp
  have a0 := l0 i0 w0 0 0
  have a1 := l0 i1 w1 0 1
  rw [f75_00 V IS i0 i1 i2 most w0 R hl hs hs2 hv0 (by omega), f75_01 V IS i0 i1 i2 most w1 _ hl hs hs2 hv1 (by rw [List.length_append]; omega), f75_02 V IS i0 i1 i2 most w2 _ hl hs hs2 hv2 (by rw [List.length_append, List.length_append]; omega)]
  rw [A75_L0_eq]
  simp +contextual -implicitDefEqProofs (maxSteps := 2000000) only [go_sem, ↓reduceIte, A75_L0b]
theorem f75_10 (V IS : List LV) (i0 i1 i2 most w : Int) (R : List (List LV)) (hl : V.length = 57) (hs : ∀ r id, LV.subs r id V = V) (hs2 : ∀ r id, LV.subs r id IS = IS) (hv : V[47]? = some (.int .i64 w)) (hr : R.length ≤ 1000) :
    (K E A75_L0 ⟨[(1, .ptr 256 0), (3, .bs 768 0 (R).length), (4, .int .i64 most), (5, .int .i64 1), (23, .agg IS), (24, .int .i64 1), (28, .agg [.int .i64 i0, .int .i64 i1, .int .i64 i2]), (29, .int .i64 0)], [], [(768, .row 4 (R)), (512, .row 4 []), (256, .box V)], 0⟩).bind (blockR 2 (some [1, 3, 4, 23, 24]) [7, 8, 9, 51]) = (K E A75_L0 ⟨[(1, .ptr 256 0), (3, .bs 768 0 (R ++ frw most i0 w 1 0).length), (4, .int .i64 most), (5, .int .i64 1), (23, .agg IS), (24, .int .i64 1), (28, .agg [.int .i64 i0, .int .i64 i1, .int .i64 i2]), (29, .int .i64 1)], [], [(768, .row 4 (R ++ frw most i0 w 1 0)), (512, .row 4 []), (256, .box V)], 0⟩).bind (blockR 2 (some [1, 3, 4, 23, 24]) [7, 8, 9, 51]) := by
  have t0 := tk_all R
  have t1 := tk_one R
  have hb : R.length + 1 ≤ 1000000000 := by omega
  unfold frw
  have hf : farW i0 w = mxI (IntKind.i64.wrap (i0 - w)) (IntKind.i64.wrap (0 - IntKind.i64.wrap (i0 - w))) := rfl
  rw [hf]
  by_cases h : most < mxI (IntKind.i64.wrap (i0 - w)) (IntKind.i64.wrap (0 - IntKind.i64.wrap (i0 - w)))
  · simp only [if_pos h, frow, List.length_append, List.length_cons, List.length_nil, Nat.zero_add]
    conv => lhs; rw [A75_L0_eq]
    simp +contextual -implicitDefEqProofs (maxSteps := 2000000) only [go_sem, ↓reduceIte, A75_L0b, hl, hs, hs2, hv, t0, t1, hb, h, Nat.le_refl]
  · simp only [if_neg h, List.append_nil]
    conv => lhs; rw [A75_L0_eq]
    simp +contextual -implicitDefEqProofs (maxSteps := 2000000) only [go_sem, ↓reduceIte, A75_L0b, hl, hs, hs2, hv, t0, hb, h, Nat.le_refl]
theorem f75_11 (V IS : List LV) (i0 i1 i2 most w : Int) (R : List (List LV)) (hl : V.length = 57) (hs : ∀ r id, LV.subs r id V = V) (hs2 : ∀ r id, LV.subs r id IS = IS) (hv : V[48]? = some (.int .i64 w)) (hr : R.length ≤ 1000) :
    (K E A75_L0 ⟨[(1, .ptr 256 0), (3, .bs 768 0 (R).length), (4, .int .i64 most), (5, .int .i64 1), (23, .agg IS), (24, .int .i64 1), (28, .agg [.int .i64 i0, .int .i64 i1, .int .i64 i2]), (29, .int .i64 1)], [], [(768, .row 4 (R)), (512, .row 4 []), (256, .box V)], 0⟩).bind (blockR 2 (some [1, 3, 4, 23, 24]) [7, 8, 9, 51]) = (K E A75_L0 ⟨[(1, .ptr 256 0), (3, .bs 768 0 (R ++ frw most i1 w 1 1).length), (4, .int .i64 most), (5, .int .i64 1), (23, .agg IS), (24, .int .i64 1), (28, .agg [.int .i64 i0, .int .i64 i1, .int .i64 i2]), (29, .int .i64 2)], [], [(768, .row 4 (R ++ frw most i1 w 1 1)), (512, .row 4 []), (256, .box V)], 0⟩).bind (blockR 2 (some [1, 3, 4, 23, 24]) [7, 8, 9, 51]) := by
  have t0 := tk_all R
  have t1 := tk_one R
  have hb : R.length + 1 ≤ 1000000000 := by omega
  unfold frw
  have hf : farW i1 w = mxI (IntKind.i64.wrap (i1 - w)) (IntKind.i64.wrap (0 - IntKind.i64.wrap (i1 - w))) := rfl
  rw [hf]
  by_cases h : most < mxI (IntKind.i64.wrap (i1 - w)) (IntKind.i64.wrap (0 - IntKind.i64.wrap (i1 - w)))
  · simp only [if_pos h, frow, List.length_append, List.length_cons, List.length_nil, Nat.zero_add]
    conv => lhs; rw [A75_L0_eq]
    simp +contextual -implicitDefEqProofs (maxSteps := 2000000) only [go_sem, ↓reduceIte, A75_L0b, hl, hs, hs2, hv, t0, t1, hb, h, Nat.le_refl]
  · simp only [if_neg h, List.append_nil]
    conv => lhs; rw [A75_L0_eq]
    simp +contextual -implicitDefEqProofs (maxSteps := 2000000) only [go_sem, ↓reduceIte, A75_L0b, hl, hs, hs2, hv, t0, hb, h, Nat.le_refl]
theorem f75_12 (V IS : List LV) (i0 i1 i2 most w : Int) (R : List (List LV)) (hl : V.length = 57) (hs : ∀ r id, LV.subs r id V = V) (hs2 : ∀ r id, LV.subs r id IS = IS) (hv : V[49]? = some (.int .i64 w)) (hr : R.length ≤ 1000) :
    (K E A75_L0 ⟨[(1, .ptr 256 0), (3, .bs 768 0 (R).length), (4, .int .i64 most), (5, .int .i64 1), (23, .agg IS), (24, .int .i64 1), (28, .agg [.int .i64 i0, .int .i64 i1, .int .i64 i2]), (29, .int .i64 2)], [], [(768, .row 4 (R)), (512, .row 4 []), (256, .box V)], 0⟩).bind (blockR 2 (some [1, 3, 4, 23, 24]) [7, 8, 9, 51]) = (K E A75_L0 ⟨[(1, .ptr 256 0), (3, .bs 768 0 (R ++ frw most i2 w 1 2).length), (4, .int .i64 most), (5, .int .i64 1), (23, .agg IS), (24, .int .i64 1), (28, .agg [.int .i64 i0, .int .i64 i1, .int .i64 i2]), (29, .int .i64 3)], [], [(768, .row 4 (R ++ frw most i2 w 1 2)), (512, .row 4 []), (256, .box V)], 0⟩).bind (blockR 2 (some [1, 3, 4, 23, 24]) [7, 8, 9, 51]) := by
  have t0 := tk_all R
  have t1 := tk_one R
  have hb : R.length + 1 ≤ 1000000000 := by omega
  unfold frw
  have hf : farW i2 w = mxI (IntKind.i64.wrap (i2 - w)) (IntKind.i64.wrap (0 - IntKind.i64.wrap (i2 - w))) := rfl
  rw [hf]
  by_cases h : most < mxI (IntKind.i64.wrap (i2 - w)) (IntKind.i64.wrap (0 - IntKind.i64.wrap (i2 - w)))
  · simp only [if_pos h, frow, List.length_append, List.length_cons, List.length_nil, Nat.zero_add]
    conv => lhs; rw [A75_L0_eq]
    simp +contextual -implicitDefEqProofs (maxSteps := 2000000) only [go_sem, ↓reduceIte, A75_L0b, hl, hs, hs2, hv, t0, t1, hb, h, Nat.le_refl]
  · simp only [if_neg h, List.append_nil]
    conv => lhs; rw [A75_L0_eq]
    simp +contextual -implicitDefEqProofs (maxSteps := 2000000) only [go_sem, ↓reduceIte, A75_L0b, hl, hs, hs2, hv, t0, hb, h, Nat.le_refl]
theorem g75_1 (V IS : List LV) (i0 i1 i2 most w0 w1 w2 : Int) (R : List (List LV)) (hl : V.length = 57) (hs : ∀ r id, LV.subs r id V = V) (hs2 : ∀ r id, LV.subs r id IS = IS) (hv0 : V[47]? = some (.int .i64 w0)) (hv1 : V[48]? = some (.int .i64 w1)) (hv2 : V[49]? = some (.int .i64 w2)) (hr : R.length ≤ 900) :
    (K E A75_L0 ⟨[(1, .ptr 256 0), (3, .bs 768 0 (R).length), (4, .int .i64 most), (5, .int .i64 1), (23, .agg IS), (24, .int .i64 1), (28, .agg [.int .i64 i0, .int .i64 i1, .int .i64 i2]), (29, .int .i64 0)], [], [(768, .row 4 (R)), (512, .row 4 []), (256, .box V)], 0⟩).bind (blockR 2 (some [1, 3, 4, 23, 24]) [7, 8, 9, 51]) = some (.ex .nrm ⟨[(1, .ptr 256 0), (3, .bs 768 0 (R ++ frw most i0 w0 1 0 ++ frw most i1 w1 1 1 ++ frw most i2 w2 1 2).length), (4, .int .i64 most), (23, .agg IS), (24, .int .i64 1)], [], [(768, .row 4 (R ++ frw most i0 w0 1 0 ++ frw most i1 w1 1 1 ++ frw most i2 w2 1 2)), (512, .row 4 []), (256, .box V)], 0⟩) := by
  have l0 : ∀ i w a k : Int, (frw most i w a k).length ≤ 1 := fun i w a k => by unfold frw; split <;> simp
  have a0 := l0 i0 w0 1 0
  have a1 := l0 i1 w1 1 1
  rw [f75_10 V IS i0 i1 i2 most w0 R hl hs hs2 hv0 (by omega), f75_11 V IS i0 i1 i2 most w1 _ hl hs hs2 hv1 (by rw [List.length_append]; omega), f75_12 V IS i0 i1 i2 most w2 _ hl hs hs2 hv2 (by rw [List.length_append, List.length_append]; omega)]
  rw [A75_L0_eq]
  simp +contextual -implicitDefEqProofs (maxSteps := 2000000) only [go_sem, ↓reduceIte, A75_L0b]
def fastR (most w0 w1 w2 w3 w4 w5 i0 i1 i2 i3 i4 i5 : Int) : List (List LV) := frw most i0 w0 0 0 ++ frw most i1 w1 0 1 ++ frw most i2 w2 0 2 ++ frw most i3 w3 1 0 ++ frw most i4 w4 1 1 ++ frw most i5 w5 1 2
theorem c116 (br : List Bool) (hl : br.length ≤ 1000000) : ∃ n : Int, pc E 116 [.vs (br.map bb1), .bool true] = some (.int .i64 n) ∧ (decide (0 ≤ n) = br.any id) := by
  have lp := loop_P (σ := Unit) (fun S => (K E A116_L0 S).bind (blockR 0 (some []) [4, 5]))
    (fun k _ => ⟨[(0, .vs (br.map bb1)), (1, .bool true), (7, .int .i64 br.length), (8, .int .i64 k)], [], [], 0⟩) br.length (fun _ _ => True)
    (fun k _ o => ((br.drop k).any id = true ∧ ∃ n : Nat, o = some (.ex .ret ⟨[(4, .int .i64 n)], [], [], 0⟩)) ∨ ((br.drop k).any id = false ∧ o = some (.ex .nrm ⟨[], [], [], 0⟩)))
    (fun x _ => by
      refine .inr ⟨by simp, ?_⟩
      show (K E A116_L0 _).bind _ = _
      rw [A116_L0_eq]; simp +contextual -implicitDefEqProofs (maxSteps := 2000000) only [go_sem, ↓reduceIte, A116_L0b, Int.lt_irrefl])
    (fun k x hk _ => by
      have hget : br[k]? = some (br[k]'hk) := List.getElem?_eq_getElem hk
      have hd := drop_get hget
      generalize br[k]'hk = b at *
      have g : (br.map bb1)[k]? = some [.bool b] := by rw [List.getElem?_map, hget]; rfl
      have k0 : (0 : Int) ≤ k := by omega
      have k1 : (k : Int) < br.length := by omega
      have hw := wr_succ (n := k) (by omega)
      cases b
      · refine .inr ⟨(), trivial, ?_, fun o h => by rw [hd]; simpa using h⟩
        show (K E A116_L0 _).bind _ = (K E A116_L0 _).bind _
        conv => lhs; rw [A116_L0_eq]
        simp +contextual -implicitDefEqProofs (maxSteps := 2000000) only [go_sem, ↓reduceIte, A116_L0b, k0, k1, g, hw, List.length_map]
      · refine .inl (.inl ⟨by rw [hd]; simp, k, ?_⟩)
        show (K E A116_L0 _).bind _ = _
        rw [A116_L0_eq]
        simp +contextual -implicitDefEqProofs (maxSteps := 2000000) only [go_sem, ↓reduceIte, A116_L0b, k0, k1, g, hw, List.length_map]) 0 () (by omega) trivial
  simp only [Int.natCast_zero, Int.ofNat_zero, List.drop_zero] at lp
  rcases lp with ⟨h1, n, lp⟩ | ⟨h1, lp⟩
  · refine ⟨n, ?_, by rw [h1]; exact decide_eq_true (by omega)⟩
    rw [pc_eq]; simp +contextual -implicitDefEqProofs (maxSteps := 2000000) only [go_sem, ↓reduceIte, E_116, A116, List.length_map, lp]
  · refine ⟨-1, ?_, by rw [h1]; decide⟩
    rw [pc_eq]; simp +contextual -implicitDefEqProofs (maxSteps := 2000000) only [go_sem, ↓reduceIte, E_116, A116, List.length_map, lp]
theorem c105 (br : List Bool) (hl : br.length ≤ 1000000) : pc E 105 [.vs (br.map bb1), .bool true] = some (.bool (br.any id)) := by
  obtain ⟨n, h, e⟩ := c116 br hl
  rw [← e, pc_eq]; simp +contextual -implicitDefEqProofs (maxSteps := 2000000) only [go_sem, ↓reduceIte, E_105, A105, h, ge_iff_le]
theorem c75 (V : List LV) (br : List Bool) (hbl : br.length ≤ 1000000) (lv slow w0 w1 w2 w3 w4 w5 i0 i1 i2 i3 i4 i5 : Int) (h0 : V.length = 57) (h1 : V[35]? = some (.int .i64 lv)) (h2 : V[56]? = some (.vs (br.map bb1))) (h3 : V[43]? = some (.int .i64 slow))
    (h4 : (V.drop 50).take 6 = [.int .i64 i0, .int .i64 i1, .int .i64 i2, .int .i64 i3, .int .i64 i4, .int .i64 i5]) (hr : ∀ s, rowsOf V 257 V s = some (V, s)) (hs : ∀ r id, LV.subs r id V = V) (h5 : V.all LV.one = true) (h6 : LV.aparts 256 V = true) (v0 : V[44]? = some (.int .i64 w0)) (v1 : V[45]? = some (.int .i64 w1)) (v2 : V[46]? = some (.int .i64 w2)) (v3 : V[47]? = some (.int .i64 w3)) (v4 : V[48]? = some (.int .i64 w4)) (v5 : V[49]? = some (.int .i64 w5)) :
    pc E 75 [.agg V] = some (.os 4 (fastR (if br.any id = true then mnI lv slow else lv) w0 w1 w2 w3 w4 w5 i0 i1 i2 i3 i4 i5)) := by
  have o := c105 br hbl
  have q0 := g75_0 V [.int .i64 i0, .int .i64 i1, .int .i64 i2, .int .i64 i3, .int .i64 i4, .int .i64 i5] i0 i1 i2 (if br.any id = true then mnI lv slow else lv) w0 w1 w2 [] h0 hs (fun _ _ => rfl) v0 v1 v2 (by simp)
  have l0 : ∀ m i w a k : Int, (frw m i w a k).length ≤ 1 := fun m i w a k => by unfold frw; split <;> simp
  have q1 := fun R hR => g75_1 V [.int .i64 i0, .int .i64 i1, .int .i64 i2, .int .i64 i3, .int .i64 i4, .int .i64 i5] i3 i4 i5 (if br.any id = true then mnI lv slow else lv) w3 w4 w5 R h0 hs (fun _ _ => rfl) v3 v4 v5 hR
  unfold fastR
  generalize hm : (if br.any id = true then mnI lv slow else lv) = most at *
  have q1 := q1 (frw most i0 w0 0 0 ++ frw most i1 w1 0 1 ++ frw most i2 w2 0 2) (by
    have := l0 most i0 w0 0 0
    have := l0 most i1 w1 0 1
    have := l0 most i2 w2 0 2
    simp only [List.length_append]; omega)
  simp only [List.nil_append] at q0
  generalize frw most i0 w0 0 0 ++ frw most i1 w1 0 1 ++ frw most i2 w2 0 2 = R1 at *
  generalize R1 ++ frw most i3 w3 1 0 ++ frw most i4 w4 1 1 ++ frw most i5 w5 1 2 = R2 at *
  have t1 := tk_all R1
  have t2 := tk_all R2
  simp only [List.length_nil] at q0
  cases hb : br.any id <;> rw [hb] at o hm
  · simp only [Bool.false_eq_true, if_false] at hm
    subst hm
    rw [pc_eq]; simp +contextual -implicitDefEqProofs (maxSteps := 2000000) only [go_sem, ↓reduceIte, E_75, A75, A75_L1_eq, A75_L1b, h0, h1, h2, h3, h4, hr, hs, h5, h6, o, q0, q1, t1, t2, Nat.le_refl]
  · simp only [if_true] at hm
    rw [pc_eq]; simp +contextual -implicitDefEqProofs (maxSteps := 2000000) only [go_sem, ↓reduceIte, E_75, A75, A75_L1_eq, A75_L1b, h0, h1, h2, h3, h4, hr, hs, h5, h6, o, hm, q0, q1, t1, t2, Nat.le_refl]
end Go.Proofs.Ytnecdcaaknhgpaa

namespace Go.Proofs.Ytnecdcaaknhgpaa
set_option maxRecDepth 100000
set_option maxHeartbeats 4000000
set_option linter.unusedSimpArgs false
set_option linter.unusedVariables false
open Go Go.Zv
def unl (br : List Bool) : Nat → List (List LV)
  | 0 => []
  | k + 1 => unl br k ++ if br.getD k false = true then [[.int .i64 4, .int .i64 0, .int .i64 0, .int .i64 k]] else []
theorem unl_len (br : List Bool) : ∀ k, (unl br k).length ≤ k
  | 0 => by simp [unl]
  | k + 1 => by
    have := unl_len br k
    unfold unl
    rw [List.length_append]
    split <;> simp <;> omega
theorem c78 (V : List LV) (br : List Bool) (hbl : br.length ≤ 1000) (h0 : V.length = 57) (h2 : V[56]? = some (.vs (br.map bb1))) (hr : ∀ s, rowsOf V 257 V s = some (V, s)) (hs : ∀ r id, LV.subs r id V = V) (h5 : V.all LV.one = true) (h6 : LV.aparts 256 V = true) :
    pc E 78 [.agg V] = some (.os 4 (unl br br.length)) := by
  have lp := loop_to (fun S => (K E A78_L0 S).bind (blockR 0 (some [3]) [4, 5, 18]))
    (fun k => ⟨[(3, .bs 768 0 (unl br k).length), (7, .vs (br.map bb1)), (8, .int .i64 br.length), (9, .int .i64 k)], [], [(768, .row 4 (unl br k)), (512, .row 4 [])], 0⟩) br.length (fun k hk => by
      have hget : br[k]? = some (br[k]'hk) := List.getElem?_eq_getElem hk
      have hD : br.getD k false = br[k]'hk := by rw [List.getD_eq_getElem?_getD, hget]; rfl
      have hu : unl br (k + 1) = unl br k ++ if br.getD k false = true then [[.int .i64 4, .int .i64 0, .int .i64 0, .int .i64 k]] else [] := rfl
      rw [hu, hD]
      generalize br[k]'hk = b at *
      have g : (br.map bb1)[k]? = some [.bool b] := by rw [List.getElem?_map, hget]; rfl
      have k0 : (0 : Int) ≤ k := by omega
      have k1 : (k : Int) < br.length := by omega
      have hw := wr_succ (n := k) (by omega)
      have hlen := unl_len br k
      have hlb : (br.map bb1).length = br.length := List.length_map ..
      generalize unl br k = R at *
      have t0 := tk_all R
      have t1 := tk_one R
      have hb : R.length + 1 ≤ 1000000000 := by omega
      cases b
      · simp only [Bool.false_eq_true, if_false, List.append_nil]
        show (K E A78_L0 _).bind _ = (K E A78_L0 _).bind _
        conv => lhs; rw [A78_L0_eq]
        simp +contextual -implicitDefEqProofs (maxSteps := 2000000) only [go_sem, ↓reduceIte, A78_L0b, k0, k1, g, hw, hlb]
      · simp only [if_true, List.length_append, List.length_cons, List.length_nil, Nat.zero_add]
        show (K E A78_L0 _).bind _ = (K E A78_L0 _).bind _
        conv => lhs; rw [A78_L0_eq]
        simp +contextual -implicitDefEqProofs (maxSteps := 2000000) only [go_sem, ↓reduceIte, A78_L0b, k0, k1, g, hw, hlb, t0, t1, hb, Nat.le_refl])
  have stop : (K E A78_L0 ⟨[(3, .bs 768 0 (unl br br.length).length), (7, .vs (br.map bb1)), (8, .int .i64 br.length), (9, .int .i64 br.length)], [], [(768, .row 4 (unl br br.length)), (512, .row 4 [])], 0⟩).bind (blockR 0 (some [3]) [4, 5, 18]) =
    some (.ex .nrm ⟨[(3, .bs 768 0 (unl br br.length).length)], [], [(768, .row 4 (unl br br.length)), (512, .row 4 [])], 0⟩) := by
    rw [A78_L0_eq]; simp +contextual -implicitDefEqProofs (maxSteps := 2000000) only [go_sem, ↓reduceIte, A78_L0b, Int.lt_irrefl]
  have lp := lp.trans stop
  simp only [Int.natCast_zero, Int.ofNat_zero, show unl br 0 = [] from rfl, List.length_nil] at lp
  generalize unl br br.length = R at *
  have t0 := tk_all R
  have hlb : (br.map bb1).length = br.length := List.length_map ..
  rw [pc_eq]; simp +contextual -implicitDefEqProofs (maxSteps := 2000000) only [go_sem, ↓reduceIte, E_78, A78, h0, h2, hr, hs, h5, h6, hlb, lp, t0, Nat.le_refl]
theorem c76 (V : List LV) (kd : Bool) (cc pp : List LV) (h0 : V.length = 57) (h1 : V.take 44 = cc) (h2 : (V.drop 50).take 6 = pp) (o : pc E 44 [.agg cc, .agg pp] = some (.bool kd)) (hc : LV.closeds cc = true) (hp : LV.closeds pp = true) (hcl : ∀ O, LV.cls O cc = cc) (hpl : ∀ O, LV.cls O pp = pp) (hic : LV.idss cc = []) (hip : LV.idss pp = []) (hr : ∀ s, rowsOf V 257 V s = some (V, s)) (hs : ∀ r id, LV.subs r id V = V) (h5 : V.all LV.one = true) (h6 : LV.aparts 256 V = true) :
    pc E 76 [.agg V] = some (.os 4 (if kd = true then [] else [[.int .i64 2, .int .i64 0, .int .i64 0, .int .i64 0]])) := by
  cases kd <;> rw [pc_eq] <;> simp +contextual -implicitDefEqProofs (maxSteps := 2000000) only [go_sem, ↓reduceIte, E_76, A76, h0, h1, h2, hr, hs, h5, h6, o, hc, hp, hcl, hpl, hic, hip, Nat.le_refl]
end Go.Proofs.Ytnecdcaaknhgpaa

namespace Go.Proofs.Ytnecdcaaknhgpaa
set_option maxRecDepth 100000
set_option maxHeartbeats 4000000
set_option linter.unusedSimpArgs false
set_option linter.unusedVariables false
open Go Go.Zv
def inrow (a n : Int) : List LV := [.int .i64 3, .int .i64 a, .int .i64 0, .int .i64 n]
def B77 : Out → Option Out := blockR 2 (some [1, 2, 3, 10, 11]) [6, 7, 8, 36, 41, 46]
theorem s77_0 (V IS : List LV) (zr brv : List (List LV)) (zl n : Nat) (R : List (List LV)) (arm : Arm) (x0 x1 x2 a0 a1 a2 b0 b1 b2 : Int) (P0 P1 P2 P3 P4 P5 Z : List (List LV)) (h0 h1 h2 h3 h4 h5 b : Bool)
    (hl : V.length = 57) (hs : ∀ r id, LV.subs r id V = V) (hs2 : ∀ r id, LV.subs r id IS = IS) (hv : V[56]? = some (.vs brv)) (ha : V.take 12 = avc arm) (hzl : n < zl) (hz2 : zr.length = zl) (hbl : brv.length = zl) (hzl2 : zl ≤ 1000) (hz : zr[n]? = some [.vs Z]) (hb : brv[n]? = some [.bool b]) (hR : R.length ≤ 10000)
    (e39 : pc E 39 [jv x0 x1 x2] = some (.tup [jv a0 a1 a2, jv b0 b1 b2])) (f1 : pc E 20 [av arm, jv a0 a1 a2] = some (.agg [.vs P0, .vs P1, .vs P2])) (f2 : pc E 20 [av arm, jv b0 b1 b2] = some (.agg [.vs P3, .vs P4, .vs P5])) (o0 : pc E 37 [.vs P0, .vs Z] = some (.bool h0)) (o1 : pc E 37 [.vs P1, .vs Z] = some (.bool h1)) (o2 : pc E 37 [.vs P2, .vs Z] = some (.bool h2)) (o3 : pc E 37 [.vs P3, .vs Z] = some (.bool h3)) (o4 : pc E 37 [.vs P4, .vs Z] = some (.bool h4)) (o5 : pc E 37 [.vs P5, .vs Z] = some (.bool h5)) :
    (K E A77_L1 ⟨[(1, .ptr 256 0), (2, .bs 512 0 0), (3, .ptr 768 0), (4, .ptr 1024 0), (5, .ptr 1280 0), (10, .agg IS), (11, .int .i64 0), (17, .vs zr), (18, .int .i64 zl), (19, .int .i64 n)], [], [(1280, .box [.int .i64 x0, .int .i64 x1, .int .i64 x2]), (1024, .box [.int .i64 0]), (768, .box [.bs 769 0 (R).length]), (769, .row 4 (R)), (512, .row 4 []), (256, .box V)], 0⟩).bind B77 = (K E A77_L1 ⟨[(1, .ptr 256 0), (2, .bs 512 0 0), (3, .ptr 768 0), (4, .ptr 1024 0), (5, .ptr 1280 0), (10, .agg IS), (11, .int .i64 0), (17, .vs zr), (18, .int .i64 zl), (19, .int .i64 (n + 1 : Nat))], [], [(1280, .box [.int .i64 x0, .int .i64 x1, .int .i64 x2]), (1024, .box [.int .i64 0]), (768, .box [.bs 769 0 (R ++ if (b && (h0 || (h1 || (h2 || (h3 || (h4 || h5)))))) = true then [inrow 0 n] else []).length]), (769, .row 4 (R ++ if (b && (h0 || (h1 || (h2 || (h3 || (h4 || h5)))))) = true then [inrow 0 n] else [])), (512, .row 4 []), (256, .box V)], 0⟩).bind B77 := by
  have t0 := tk_all R
  have t1 := tk_one R
  have hb1 : R.length + 1 ≤ 1000000000 := by omega
  have e79 := c79 arm x0 x1 x2
  have n0 : (0 : Int) ≤ n := by omega
  have n1 : (n : Int) < zl := by omega
  have hw := wr_succ (n := n) (by omega)
  unfold B77
  cases b
  · simp only [Bool.false_and, Bool.false_eq_true, if_false, List.append_nil]
    conv => lhs; rw [A77_L1_eq]
    simp +contextual -implicitDefEqProofs (maxSteps := 2000000) only [go_sem, ↓reduceIte, A77_L1b, hl, hs, hs2, hv, hz2, hbl, hz, hb, n0, n1, hw]
  cases h0
  rotate_left
  · simp only [Bool.true_and, Bool.or_true, Bool.true_or, Bool.false_or, if_true, List.length_append, List.length_cons, List.length_nil, Nat.zero_add, inrow]
    conv => lhs; rw [A77_L1_eq]
    simp +contextual -implicitDefEqProofs (maxSteps := 2000000) only [go_sem, ↓reduceIte, A77_L1b, A77_R0, A77_R0a, A77_R0b, E_106, A106, A106_L1_eq, A106_L1b, A106_L0_eq, A106_L0b, hl, hs, hs2, hv, ha, hz2, hbl, hz, hb, n0, n1, hw, t0, t1, hb1, e79, e39, f1, f2, Nat.le_refl, o0]
  cases h1
  rotate_left
  · simp only [Bool.true_and, Bool.or_true, Bool.true_or, Bool.false_or, if_true, List.length_append, List.length_cons, List.length_nil, Nat.zero_add, inrow]
    conv => lhs; rw [A77_L1_eq]
    simp +contextual -implicitDefEqProofs (maxSteps := 2000000) only [go_sem, ↓reduceIte, A77_L1b, A77_R0, A77_R0a, A77_R0b, E_106, A106, A106_L1_eq, A106_L1b, A106_L0_eq, A106_L0b, hl, hs, hs2, hv, ha, hz2, hbl, hz, hb, n0, n1, hw, t0, t1, hb1, e79, e39, f1, f2, Nat.le_refl, o0, o1]
  cases h2
  rotate_left
  · simp only [Bool.true_and, Bool.or_true, Bool.true_or, Bool.false_or, if_true, List.length_append, List.length_cons, List.length_nil, Nat.zero_add, inrow]
    conv => lhs; rw [A77_L1_eq]
    simp +contextual -implicitDefEqProofs (maxSteps := 2000000) only [go_sem, ↓reduceIte, A77_L1b, A77_R0, A77_R0a, A77_R0b, E_106, A106, A106_L1_eq, A106_L1b, A106_L0_eq, A106_L0b, hl, hs, hs2, hv, ha, hz2, hbl, hz, hb, n0, n1, hw, t0, t1, hb1, e79, e39, f1, f2, Nat.le_refl, o0, o1, o2]
  cases h3
  rotate_left
  · simp only [Bool.true_and, Bool.or_true, Bool.true_or, Bool.false_or, if_true, List.length_append, List.length_cons, List.length_nil, Nat.zero_add, inrow]
    conv => lhs; rw [A77_L1_eq]
    simp +contextual -implicitDefEqProofs (maxSteps := 2000000) only [go_sem, ↓reduceIte, A77_L1b, A77_R0, A77_R0a, A77_R0b, E_106, A106, A106_L1_eq, A106_L1b, A106_L0_eq, A106_L0b, hl, hs, hs2, hv, ha, hz2, hbl, hz, hb, n0, n1, hw, t0, t1, hb1, e79, e39, f1, f2, Nat.le_refl, o0, o1, o2, o3]
  cases h4
  rotate_left
  · simp only [Bool.true_and, Bool.or_true, Bool.true_or, Bool.false_or, if_true, List.length_append, List.length_cons, List.length_nil, Nat.zero_add, inrow]
    conv => lhs; rw [A77_L1_eq]
    simp +contextual -implicitDefEqProofs (maxSteps := 2000000) only [go_sem, ↓reduceIte, A77_L1b, A77_R0, A77_R0a, A77_R0b, E_106, A106, A106_L1_eq, A106_L1b, A106_L0_eq, A106_L0b, hl, hs, hs2, hv, ha, hz2, hbl, hz, hb, n0, n1, hw, t0, t1, hb1, e79, e39, f1, f2, Nat.le_refl, o0, o1, o2, o3, o4]
  cases h5
  rotate_left
  · simp only [Bool.true_and, Bool.or_true, Bool.true_or, Bool.false_or, if_true, List.length_append, List.length_cons, List.length_nil, Nat.zero_add, inrow]
    conv => lhs; rw [A77_L1_eq]
    simp +contextual -implicitDefEqProofs (maxSteps := 2000000) only [go_sem, ↓reduceIte, A77_L1b, A77_R0, A77_R0a, A77_R0b, E_106, A106, A106_L1_eq, A106_L1b, A106_L0_eq, A106_L0b, hl, hs, hs2, hv, ha, hz2, hbl, hz, hb, n0, n1, hw, t0, t1, hb1, e79, e39, f1, f2, Nat.le_refl, o0, o1, o2, o3, o4, o5]
  · simp only [Bool.true_and, Bool.or_self, Bool.false_eq_true, if_false, List.append_nil]
    conv => lhs; rw [A77_L1_eq]
    simp +contextual -implicitDefEqProofs (maxSteps := 2000000) only [go_sem, ↓reduceIte, A77_L1b, A77_R0, A77_R0a, A77_R0b, E_106, A106, A106_L1_eq, A106_L1b, A106_L0_eq, A106_L0b, hl, hs, hs2, hv, ha, hz2, hbl, hz, hb, n0, n1, hw, t0, t1, hb1, e79, e39, f1, f2, Nat.le_refl, o0, o1, o2, o3, o4, o5]
theorem s77_1 (V IS : List LV) (zr brv : List (List LV)) (zl n : Nat) (R : List (List LV)) (arm : Arm) (x0 x1 x2 a0 a1 a2 b0 b1 b2 : Int) (P0 P1 P2 P3 P4 P5 Z : List (List LV)) (h0 h1 h2 h3 h4 h5 b : Bool)
    (hl : V.length = 57) (hs : ∀ r id, LV.subs r id V = V) (hs2 : ∀ r id, LV.subs r id IS = IS) (hv : V[56]? = some (.vs brv)) (ha : (V.drop 12).take 12 = avc arm) (hzl : n < zl) (hz2 : zr.length = zl) (hbl : brv.length = zl) (hzl2 : zl ≤ 1000) (hz : zr[n]? = some [.vs Z]) (hb : brv[n]? = some [.bool b]) (hR : R.length ≤ 10000)
    (e39 : pc E 39 [jv x0 x1 x2] = some (.tup [jv a0 a1 a2, jv b0 b1 b2])) (f1 : pc E 20 [av arm, jv a0 a1 a2] = some (.agg [.vs P0, .vs P1, .vs P2])) (f2 : pc E 20 [av arm, jv b0 b1 b2] = some (.agg [.vs P3, .vs P4, .vs P5])) (o0 : pc E 37 [.vs P0, .vs Z] = some (.bool h0)) (o1 : pc E 37 [.vs P1, .vs Z] = some (.bool h1)) (o2 : pc E 37 [.vs P2, .vs Z] = some (.bool h2)) (o3 : pc E 37 [.vs P3, .vs Z] = some (.bool h3)) (o4 : pc E 37 [.vs P4, .vs Z] = some (.bool h4)) (o5 : pc E 37 [.vs P5, .vs Z] = some (.bool h5)) :
    (K E A77_L1 ⟨[(1, .ptr 256 0), (2, .bs 512 0 0), (3, .ptr 768 0), (4, .ptr 1024 0), (5, .ptr 1280 0), (10, .agg IS), (11, .int .i64 1), (17, .vs zr), (18, .int .i64 zl), (19, .int .i64 n)], [], [(1280, .box [.int .i64 x0, .int .i64 x1, .int .i64 x2]), (1024, .box [.int .i64 1]), (768, .box [.bs 769 0 (R).length]), (769, .row 4 (R)), (512, .row 4 []), (256, .box V)], 0⟩).bind B77 = (K E A77_L1 ⟨[(1, .ptr 256 0), (2, .bs 512 0 0), (3, .ptr 768 0), (4, .ptr 1024 0), (5, .ptr 1280 0), (10, .agg IS), (11, .int .i64 1), (17, .vs zr), (18, .int .i64 zl), (19, .int .i64 (n + 1 : Nat))], [], [(1280, .box [.int .i64 x0, .int .i64 x1, .int .i64 x2]), (1024, .box [.int .i64 1]), (768, .box [.bs 769 0 (R ++ if (b && (h0 || (h1 || (h2 || (h3 || (h4 || h5)))))) = true then [inrow 1 n] else []).length]), (769, .row 4 (R ++ if (b && (h0 || (h1 || (h2 || (h3 || (h4 || h5)))))) = true then [inrow 1 n] else [])), (512, .row 4 []), (256, .box V)], 0⟩).bind B77 := by
  have t0 := tk_all R
  have t1 := tk_one R
  have hb1 : R.length + 1 ≤ 1000000000 := by omega
  have e79 := c79 arm x0 x1 x2
  have n0 : (0 : Int) ≤ n := by omega
  have n1 : (n : Int) < zl := by omega
  have hw := wr_succ (n := n) (by omega)
  unfold B77
  cases b
  · simp only [Bool.false_and, Bool.false_eq_true, if_false, List.append_nil]
    conv => lhs; rw [A77_L1_eq]
    simp +contextual -implicitDefEqProofs (maxSteps := 2000000) only [go_sem, ↓reduceIte, A77_L1b, hl, hs, hs2, hv, hz2, hbl, hz, hb, n0, n1, hw]
  cases h0
  rotate_left
  · simp only [Bool.true_and, Bool.or_true, Bool.true_or, Bool.false_or, if_true, List.length_append, List.length_cons, List.length_nil, Nat.zero_add, inrow]
    conv => lhs; rw [A77_L1_eq]
    simp +contextual -implicitDefEqProofs (maxSteps := 2000000) only [go_sem, ↓reduceIte, A77_L1b, A77_R0, A77_R0a, A77_R0b, E_106, A106, A106_L1_eq, A106_L1b, A106_L0_eq, A106_L0b, hl, hs, hs2, hv, ha, hz2, hbl, hz, hb, n0, n1, hw, t0, t1, hb1, e79, e39, f1, f2, Nat.le_refl, o0]
  cases h1
  rotate_left
  · simp only [Bool.true_and, Bool.or_true, Bool.true_or, Bool.false_or, if_true, List.length_append, List.length_cons, List.length_nil, Nat.zero_add, inrow]
    conv => lhs; rw [A77_L1_eq]
    simp +contextual -implicitDefEqProofs (maxSteps := 2000000) only [go_sem, ↓reduceIte, A77_L1b, A77_R0, A77_R0a, A77_R0b, E_106, A106, A106_L1_eq, A106_L1b, A106_L0_eq, A106_L0b, hl, hs, hs2, hv, ha, hz2, hbl, hz, hb, n0, n1, hw, t0, t1, hb1, e79, e39, f1, f2, Nat.le_refl, o0, o1]
  cases h2
  rotate_left
  · simp only [Bool.true_and, Bool.or_true, Bool.true_or, Bool.false_or, if_true, List.length_append, List.length_cons, List.length_nil, Nat.zero_add, inrow]
    conv => lhs; rw [A77_L1_eq]
    simp +contextual -implicitDefEqProofs (maxSteps := 2000000) only [go_sem, ↓reduceIte, A77_L1b, A77_R0, A77_R0a, A77_R0b, E_106, A106, A106_L1_eq, A106_L1b, A106_L0_eq, A106_L0b, hl, hs, hs2, hv, ha, hz2, hbl, hz, hb, n0, n1, hw, t0, t1, hb1, e79, e39, f1, f2, Nat.le_refl, o0, o1, o2]
  cases h3
  rotate_left
  · simp only [Bool.true_and, Bool.or_true, Bool.true_or, Bool.false_or, if_true, List.length_append, List.length_cons, List.length_nil, Nat.zero_add, inrow]
    conv => lhs; rw [A77_L1_eq]
    simp +contextual -implicitDefEqProofs (maxSteps := 2000000) only [go_sem, ↓reduceIte, A77_L1b, A77_R0, A77_R0a, A77_R0b, E_106, A106, A106_L1_eq, A106_L1b, A106_L0_eq, A106_L0b, hl, hs, hs2, hv, ha, hz2, hbl, hz, hb, n0, n1, hw, t0, t1, hb1, e79, e39, f1, f2, Nat.le_refl, o0, o1, o2, o3]
  cases h4
  rotate_left
  · simp only [Bool.true_and, Bool.or_true, Bool.true_or, Bool.false_or, if_true, List.length_append, List.length_cons, List.length_nil, Nat.zero_add, inrow]
    conv => lhs; rw [A77_L1_eq]
    simp +contextual -implicitDefEqProofs (maxSteps := 2000000) only [go_sem, ↓reduceIte, A77_L1b, A77_R0, A77_R0a, A77_R0b, E_106, A106, A106_L1_eq, A106_L1b, A106_L0_eq, A106_L0b, hl, hs, hs2, hv, ha, hz2, hbl, hz, hb, n0, n1, hw, t0, t1, hb1, e79, e39, f1, f2, Nat.le_refl, o0, o1, o2, o3, o4]
  cases h5
  rotate_left
  · simp only [Bool.true_and, Bool.or_true, Bool.true_or, Bool.false_or, if_true, List.length_append, List.length_cons, List.length_nil, Nat.zero_add, inrow]
    conv => lhs; rw [A77_L1_eq]
    simp +contextual -implicitDefEqProofs (maxSteps := 2000000) only [go_sem, ↓reduceIte, A77_L1b, A77_R0, A77_R0a, A77_R0b, E_106, A106, A106_L1_eq, A106_L1b, A106_L0_eq, A106_L0b, hl, hs, hs2, hv, ha, hz2, hbl, hz, hb, n0, n1, hw, t0, t1, hb1, e79, e39, f1, f2, Nat.le_refl, o0, o1, o2, o3, o4, o5]
  · simp only [Bool.true_and, Bool.or_self, Bool.false_eq_true, if_false, List.append_nil]
    conv => lhs; rw [A77_L1_eq]
    simp +contextual -implicitDefEqProofs (maxSteps := 2000000) only [go_sem, ↓reduceIte, A77_L1b, A77_R0, A77_R0a, A77_R0b, E_106, A106, A106_L1_eq, A106_L1b, A106_L0_eq, A106_L0b, hl, hs, hs2, hv, ha, hz2, hbl, hz, hb, n0, n1, hw, t0, t1, hb1, e79, e39, f1, f2, Nat.le_refl, o0, o1, o2, o3, o4, o5]
end Go.Proofs.Ytnecdcaaknhgpaa

namespace Go.Proofs.Ytnecdcaaknhgpaa
set_option maxRecDepth 100000
set_option maxHeartbeats 4000000
set_option linter.unusedSimpArgs false
set_option linter.unusedVariables false
open Go Go.Zv
abbrev Vi := Int × Int × Int × Int
def v4 (x : Vi) : List LV := [.int .i64 x.1, .int .i64 x.2.1, .int .i64 x.2.2.1, .int .i64 x.2.2.2]
def frT (most i w a k : Int) : List Vi := if most < farW i w then [(1, a, k, 0)] else []
theorem frw_T (most i w a k : Int) : frw most i w a k = (frT most i w a k).map v4 := by unfold frw frT; split <;> rfl
def fastT (most w0 w1 w2 w3 w4 w5 i0 i1 i2 i3 i4 i5 : Int) : List Vi := frT most i0 w0 0 0 ++ frT most i1 w1 0 1 ++ frT most i2 w2 0 2 ++ frT most i3 w3 1 0 ++ frT most i4 w4 1 1 ++ frT most i5 w5 1 2
theorem fastR_T (most w0 w1 w2 w3 w4 w5 i0 i1 i2 i3 i4 i5 : Int) : fastR most w0 w1 w2 w3 w4 w5 i0 i1 i2 i3 i4 i5 = (fastT most w0 w1 w2 w3 w4 w5 i0 i1 i2 i3 i4 i5).map v4 := by
  unfold fastR fastT; simp only [frw_T, List.map_append]
def nearT (kd : Bool) : List Vi := if kd = true then [] else [(2, 0, 0, 0)]
theorem near_T (kd : Bool) : (if kd = true then [] else [[LV.int .i64 2, .int .i64 0, .int .i64 0, .int .i64 0]]) = (nearT kd).map v4 := by unfold nearT; cases kd <;> rfl
def unlT (br : List Bool) : Nat → List Vi
  | 0 => []
  | k + 1 => unlT br k ++ if br.getD k false = true then [(4, 0, 0, (k : Int))] else []
theorem unl_T (br : List Bool) : ∀ k, unl br k = (unlT br k).map v4
  | 0 => rfl
  | k + 1 => by unfold unl unlT; rw [unl_T br k, List.map_append]; split <;> rfl
def inz (a : Int) (hit : Nat → Bool) (br : List Bool) : Nat → List Vi
  | 0 => []
  | k + 1 => inz a hit br k ++ if (br.getD k false && hit k) = true then [(3, a, 0, (k : Int))] else []
theorem inz_len (a : Int) (hit : Nat → Bool) (br : List Bool) : ∀ k, (inz a hit br k).length ≤ k
  | 0 => by simp [inz]
  | k + 1 => by
    have := inz_len a hit br k
    unfold inz
    rw [List.length_append]
    split <;> simp <;> omega
def bods (a : Arm) (x0 x1 x2 : Int) : List (List (Int × Int)) := lks a (dd (x0 / 12) (x1 / 12) (x2 / 12)) ++ lks a (dd (up12 x0) (up12 x1) (up12 x2))
theorem bod (a : Arm) (h : OKa a) (x0 x1 x2 : Int) : ∃ l0 l1 l2 l3 l4 l5 : List (Int × Int), bods a x0 x1 x2 = [l0, l1, l2, l3, l4, l5] ∧ pc E 20 [av a, jv (x0 / 12) (x1 / 12) (x2 / 12)] = some (.agg [lkv l0, lkv l1, lkv l2]) ∧ pc E 20 [av a, jv (up12 x0) (up12 x1) (up12 x2)] = some (.agg [lkv l3, lkv l4, lkv l5]) ∧ ∀ l ∈ [l0, l1, l2, l3, l4, l5], l.length = 4 := by
  refine ⟨_, _, _, _, _, _, rfl, c20 a h _ _ _, c20 a h _ _ _, ?_⟩
  intro l hl
  simp only [List.mem_cons, List.not_mem_nil, or_false] at hl
  rcases hl with rfl | rfl | rfl | rfl | rfl | rfl <;> rfl
def hitB (a : Arm) (x0 x1 x2 : Int) (z : List (Int × Int)) : Bool := (bods a x0 x1 x2).any fun l => (Go.Geo.FC l z).isSome
theorem l77_0 (V IS : List LV) (zn : List (List (Int × Int))) (br : List Bool) (R : List (List LV)) (arm : Arm) (hok : OKa arm) (x0 x1 x2 : Int) (hx0 : -1000000000 ≤ x0 ∧ x0 ≤ 1000000000) (hx1 : -1000000000 ≤ x1 ∧ x1 ≤ 1000000000) (hx2 : -1000000000 ≤ x2 ∧ x2 ≤ 1000000000)
    (hl : V.length = 57) (hs : ∀ r id, LV.subs r id V = V) (hs2 : ∀ r id, LV.subs r id IS = IS) (hv : V[56]? = some (.vs (br.map bb1))) (ha : V.take 12 = avc arm) (hbl : br.length = zn.length) (hzl : zn.length ≤ 1000) (hzp : ∀ z ∈ zn, z.length ≤ 1000000) (hR : R.length ≤ 1000) :
    (K E A77_L1 ⟨[(1, .ptr 256 0), (2, .bs 512 0 0), (3, .ptr 768 0), (4, .ptr 1024 0), (5, .ptr 1280 0), (10, .agg IS), (11, .int .i64 0), (17, .vs (zn.map Go.Geo.p1)), (18, .int .i64 zn.length), (19, .int .i64 0)], [], [(1280, .box [.int .i64 x0, .int .i64 x1, .int .i64 x2]), (1024, .box [.int .i64 0]), (768, .box [.bs 769 0 (R).length]), (769, .row 4 (R)), (512, .row 4 []), (256, .box V)], 0⟩).bind B77 = some (.ex .nrm ⟨[(1, .ptr 256 0), (2, .bs 512 0 0), (3, .ptr 768 0), (10, .agg IS), (11, .int .i64 0)], [], [(1280, .box [.int .i64 x0, .int .i64 x1, .int .i64 x2]), (1024, .box [.int .i64 0]), (768, .box [.bs 769 0 (R ++ (inz 0 (fun k => hitB arm x0 x1 x2 (zn.getD k [])) br zn.length).map v4).length]), (769, .row 4 (R ++ (inz 0 (fun k => hitB arm x0 x1 x2 (zn.getD k [])) br zn.length).map v4)), (512, .row 4 []), (256, .box V)], 0⟩) := by
  obtain ⟨l0, l1, l2, l3, l4, l5, hbod, f1, f2, h4⟩ := bod arm hok x0 x1 x2
  have e39 := c39 x0 x1 x2 hx0 hx1 hx2
  have g : ∀ l ∈ [l0, l1, l2, l3, l4, l5], ∀ z ∈ zn, pc E 37 [lkv l, .vs (z.map Go.Geo.c2)] = some (.bool (Go.Geo.FC l z).isSome) := fun l hl z hz => G.c37 l z (by rw [h4 l hl]; decide) (by have := hzp z hz; omega)
  have lp := loop_to (fun S => (K E A77_L1 S).bind B77) (fun k => ⟨[(1, .ptr 256 0), (2, .bs 512 0 0), (3, .ptr 768 0), (4, .ptr 1024 0), (5, .ptr 1280 0), (10, .agg IS), (11, .int .i64 0), (17, .vs (zn.map Go.Geo.p1)), (18, .int .i64 zn.length), (19, .int .i64 k)], [], [(1280, .box [.int .i64 x0, .int .i64 x1, .int .i64 x2]), (1024, .box [.int .i64 0]), (768, .box [.bs 769 0 (R ++ (inz 0 (fun k => hitB arm x0 x1 x2 (zn.getD k [])) br k).map v4).length]), (769, .row 4 (R ++ (inz 0 (fun k => hitB arm x0 x1 x2 (zn.getD k [])) br k).map v4)), (512, .row 4 []), (256, .box V)], 0⟩) zn.length (fun k hk => by
    have hzk : zn[k]? = some (zn.getD k []) := Go.Geo.getD_of [] hk
    have hbk : br[k]? = some (br.getD k false) := Go.Geo.getD_of false (by omega)
    have hmem : zn.getD k [] ∈ zn := List.mem_of_getElem? hzk
    have hin : inz 0 (fun k => hitB arm x0 x1 x2 (zn.getD k [])) br (k + 1) = inz 0 (fun k => hitB arm x0 x1 x2 (zn.getD k [])) br k ++ if (br.getD k false && hitB arm x0 x1 x2 (zn.getD k [])) = true then [(0, 0, (k : Int))].map (fun q => ((3 : Int), q)) else [] := by
      show inz _ _ _ _ ++ _ = _
      rfl
    have hlen := inz_len 0 (fun k => hitB arm x0 x1 x2 (zn.getD k [])) br k
    rw [hin, List.map_append, ← List.append_assoc]
    have hhit : hitB arm x0 x1 x2 (zn.getD k []) = ((Go.Geo.FC l0 (zn.getD k [])).isSome || ((Go.Geo.FC l1 (zn.getD k [])).isSome || ((Go.Geo.FC l2 (zn.getD k [])).isSome || ((Go.Geo.FC l3 (zn.getD k [])).isSome || ((Go.Geo.FC l4 (zn.getD k [])).isSome || (Go.Geo.FC l5 (zn.getD k [])).isSome))))) := by
      unfold hitB; rw [hbod]; simp [Bool.or_assoc]
    have hrow : (if (br.getD k false && hitB arm x0 x1 x2 (zn.getD k [])) = true then [(0, 0, (k : Int))].map (fun q => ((3 : Int), q)) else [] : List Vi).map v4 = if (br.getD k false && hitB arm x0 x1 x2 (zn.getD k [])) = true then [inrow 0 k] else [] := by split <;> rfl
    rw [hrow, hhit]
    exact s77_0 V IS (zn.map Go.Geo.p1) (br.map bb1) zn.length k _ arm x0 x1 x2 _ _ _ _ _ _ (l0.map c2) (l1.map c2) (l2.map c2) (l3.map c2) (l4.map c2) (l5.map c2) ((zn.getD k []).map Go.Geo.c2) _ _ _ _ _ _ (br.getD k false) hl hs hs2 hv ha hk (List.length_map ..) (by rw [List.length_map]; exact hbl) hzl (by rw [List.getElem?_map, hzk]; rfl) (by rw [List.getElem?_map, hbk]; rfl) (by rw [List.length_append, List.length_map]; omega) e39 f1 f2
      (g l0 (by simp) _ hmem) (g l1 (by simp) _ hmem) (g l2 (by simp) _ hmem) (g l3 (by simp) _ hmem) (g l4 (by simp) _ hmem) (g l5 (by simp) _ hmem))
  simp only [Int.natCast_zero, Int.ofNat_zero, show inz 0 (fun k => hitB arm x0 x1 x2 (zn.getD k [])) br 0 = [] from rfl, List.map_nil, List.append_nil] at lp
  refine lp.trans ?_
  unfold B77
  rw [A77_L1_eq]; simp +contextual -implicitDefEqProofs (maxSteps := 2000000) only [go_sem, ↓reduceIte, A77_L1b, Int.lt_irrefl, hs, hs2]
theorem l77_1 (V IS : List LV) (zn : List (List (Int × Int))) (br : List Bool) (R : List (List LV)) (arm : Arm) (hok : OKa arm) (x0 x1 x2 : Int) (hx0 : -1000000000 ≤ x0 ∧ x0 ≤ 1000000000) (hx1 : -1000000000 ≤ x1 ∧ x1 ≤ 1000000000) (hx2 : -1000000000 ≤ x2 ∧ x2 ≤ 1000000000)
    (hl : V.length = 57) (hs : ∀ r id, LV.subs r id V = V) (hs2 : ∀ r id, LV.subs r id IS = IS) (hv : V[56]? = some (.vs (br.map bb1))) (ha : (V.drop 12).take 12 = avc arm) (hbl : br.length = zn.length) (hzl : zn.length ≤ 1000) (hzp : ∀ z ∈ zn, z.length ≤ 1000000) (hR : R.length ≤ 1000) :
    (K E A77_L1 ⟨[(1, .ptr 256 0), (2, .bs 512 0 0), (3, .ptr 768 0), (4, .ptr 1024 0), (5, .ptr 1280 0), (10, .agg IS), (11, .int .i64 1), (17, .vs (zn.map Go.Geo.p1)), (18, .int .i64 zn.length), (19, .int .i64 0)], [], [(1280, .box [.int .i64 x0, .int .i64 x1, .int .i64 x2]), (1024, .box [.int .i64 1]), (768, .box [.bs 769 0 (R).length]), (769, .row 4 (R)), (512, .row 4 []), (256, .box V)], 0⟩).bind B77 = some (.ex .nrm ⟨[(1, .ptr 256 0), (2, .bs 512 0 0), (3, .ptr 768 0), (10, .agg IS), (11, .int .i64 1)], [], [(1280, .box [.int .i64 x0, .int .i64 x1, .int .i64 x2]), (1024, .box [.int .i64 1]), (768, .box [.bs 769 0 (R ++ (inz 1 (fun k => hitB arm x0 x1 x2 (zn.getD k [])) br zn.length).map v4).length]), (769, .row 4 (R ++ (inz 1 (fun k => hitB arm x0 x1 x2 (zn.getD k [])) br zn.length).map v4)), (512, .row 4 []), (256, .box V)], 0⟩) := by
  obtain ⟨l0, l1, l2, l3, l4, l5, hbod, f1, f2, h4⟩ := bod arm hok x0 x1 x2
  have e39 := c39 x0 x1 x2 hx0 hx1 hx2
  have g : ∀ l ∈ [l0, l1, l2, l3, l4, l5], ∀ z ∈ zn, pc E 37 [lkv l, .vs (z.map Go.Geo.c2)] = some (.bool (Go.Geo.FC l z).isSome) := fun l hl z hz => G.c37 l z (by rw [h4 l hl]; decide) (by have := hzp z hz; omega)
  have lp := loop_to (fun S => (K E A77_L1 S).bind B77) (fun k => ⟨[(1, .ptr 256 0), (2, .bs 512 0 0), (3, .ptr 768 0), (4, .ptr 1024 0), (5, .ptr 1280 0), (10, .agg IS), (11, .int .i64 1), (17, .vs (zn.map Go.Geo.p1)), (18, .int .i64 zn.length), (19, .int .i64 k)], [], [(1280, .box [.int .i64 x0, .int .i64 x1, .int .i64 x2]), (1024, .box [.int .i64 1]), (768, .box [.bs 769 0 (R ++ (inz 1 (fun k => hitB arm x0 x1 x2 (zn.getD k [])) br k).map v4).length]), (769, .row 4 (R ++ (inz 1 (fun k => hitB arm x0 x1 x2 (zn.getD k [])) br k).map v4)), (512, .row 4 []), (256, .box V)], 0⟩) zn.length (fun k hk => by
    have hzk : zn[k]? = some (zn.getD k []) := Go.Geo.getD_of [] hk
    have hbk : br[k]? = some (br.getD k false) := Go.Geo.getD_of false (by omega)
    have hmem : zn.getD k [] ∈ zn := List.mem_of_getElem? hzk
    have hin : inz 1 (fun k => hitB arm x0 x1 x2 (zn.getD k [])) br (k + 1) = inz 1 (fun k => hitB arm x0 x1 x2 (zn.getD k [])) br k ++ if (br.getD k false && hitB arm x0 x1 x2 (zn.getD k [])) = true then [(1, 0, (k : Int))].map (fun q => ((3 : Int), q)) else [] := by
      show inz _ _ _ _ ++ _ = _
      rfl
    have hlen := inz_len 1 (fun k => hitB arm x0 x1 x2 (zn.getD k [])) br k
    rw [hin, List.map_append, ← List.append_assoc]
    have hhit : hitB arm x0 x1 x2 (zn.getD k []) = ((Go.Geo.FC l0 (zn.getD k [])).isSome || ((Go.Geo.FC l1 (zn.getD k [])).isSome || ((Go.Geo.FC l2 (zn.getD k [])).isSome || ((Go.Geo.FC l3 (zn.getD k [])).isSome || ((Go.Geo.FC l4 (zn.getD k [])).isSome || (Go.Geo.FC l5 (zn.getD k [])).isSome))))) := by
      unfold hitB; rw [hbod]; simp [Bool.or_assoc]
    have hrow : (if (br.getD k false && hitB arm x0 x1 x2 (zn.getD k [])) = true then [(1, 0, (k : Int))].map (fun q => ((3 : Int), q)) else [] : List Vi).map v4 = if (br.getD k false && hitB arm x0 x1 x2 (zn.getD k [])) = true then [inrow 1 k] else [] := by split <;> rfl
    rw [hrow, hhit]
    exact s77_1 V IS (zn.map Go.Geo.p1) (br.map bb1) zn.length k _ arm x0 x1 x2 _ _ _ _ _ _ (l0.map c2) (l1.map c2) (l2.map c2) (l3.map c2) (l4.map c2) (l5.map c2) ((zn.getD k []).map Go.Geo.c2) _ _ _ _ _ _ (br.getD k false) hl hs hs2 hv ha hk (List.length_map ..) (by rw [List.length_map]; exact hbl) hzl (by rw [List.getElem?_map, hzk]; rfl) (by rw [List.getElem?_map, hbk]; rfl) (by rw [List.length_append, List.length_map]; omega) e39 f1 f2
      (g l0 (by simp) _ hmem) (g l1 (by simp) _ hmem) (g l2 (by simp) _ hmem) (g l3 (by simp) _ hmem) (g l4 (by simp) _ hmem) (g l5 (by simp) _ hmem))
  simp only [Int.natCast_zero, Int.ofNat_zero, show inz 1 (fun k => hitB arm x0 x1 x2 (zn.getD k [])) br 0 = [] from rfl, List.map_nil, List.append_nil] at lp
  refine lp.trans ?_
  unfold B77
  rw [A77_L1_eq]; simp +contextual -implicitDefEqProofs (maxSteps := 2000000) only [go_sem, ↓reduceIte, A77_L1b, Int.lt_irrefl, hs, hs2]
end Go.Proofs.Ytnecdcaaknhgpaa

namespace Go.Proofs.Ytnecdcaaknhgpaa
set_option maxRecDepth 100000
set_option maxHeartbeats 4000000
set_option linter.unusedSimpArgs false
set_option linter.unusedVariables false
open Go Go.Zv
abbrev vcl (c : Cel) (w0 w1 w2 w3 w4 w5 i0 i1 i2 i3 i4 i5 : Int) (br : List Bool) : List LV := [.int .i64 c.a.bx, .int .i64 c.a.by_, .int .i64 c.a.l0, .int .i64 c.a.l1, .int .i64 c.a.l2, .int .i64 c.a.w, .int .i64 c.a.lo0, .int .i64 c.a.lo1, .int .i64 c.a.lo2, .int .i64 c.a.hi0, .int .i64 c.a.hi1, .int .i64 c.a.hi2, .int .i64 c.b.bx, .int .i64 c.b.by_, .int .i64 c.b.l0, .int .i64 c.b.l1, .int .i64 c.b.l2, .int .i64 c.b.w, .int .i64 c.b.lo0, .int .i64 c.b.lo1, .int .i64 c.b.lo2, .int .i64 c.b.hi0, .int .i64 c.b.hi1, .int .i64 c.b.hi2, .int .i64 c.h0, .int .i64 c.h1, .int .i64 c.h2, .int .i64 c.h3, .int .i64 c.h4, .int .i64 c.h5, .vs c.fx, .vs c.pl, .vs c.pt, .vs c.bt, .int .i64 c.per, .int .i64 c.lv, .int .i64 c.la, .int .i64 c.lj, .int .i64 c.mv, .int .i64 c.ma, .int .i64 c.mj, .vs c.zn, .int .i64 c.gap, .int .i64 c.slow, .int .i64 w0, .int .i64 w1, .int .i64 w2, .int .i64 w3, .int .i64 w4, .int .i64 w5, .int .i64 i0, .int .i64 i1, .int .i64 i2, .int .i64 i3, .int .i64 i4, .int .i64 i5, .vs (br.map bb1)]
def hits (a : Arm) (x0 x1 x2 : Int) (zn : List (List (Int × Int))) : Nat → Bool := fun k => hitB a x0 x1 x2 (zn.getD k [])
def inT (c : Cl) (i0 i1 i2 i3 i4 i5 : Int) (br : List Bool) : List Vi := inz 0 (hits c.a i0 i1 i2 c.zn) br c.zn.length ++ inz 1 (hits c.b i3 i4 i5 c.zn) br c.zn.length
abbrev Sm (x : Int) : Prop := -1000000000 ≤ x ∧ x ≤ 1000000000
theorem c77 (c : Cl) (ha : OKa c.a) (hb : OKa c.b) (w0 w1 w2 w3 w4 w5 i0 i1 i2 i3 i4 i5 : Int) (s0 : Sm i0) (s1 : Sm i1) (s2 : Sm i2) (s3 : Sm i3) (s4 : Sm i4) (s5 : Sm i5) (br : List Bool) (hbl : br.length = c.zn.length) (hzl : c.zn.length ≤ 16) (hzp : ∀ z ∈ c.zn, z.length ≤ 1000000) :
    pc E 77 [.agg (vcl c.cel w0 w1 w2 w3 w4 w5 i0 i1 i2 i3 i4 i5 br)] = some (.vs ((inT c i0 i1 i2 i3 i4 i5 br).map v4)) := by
  have hV : (vcl c.cel w0 w1 w2 w3 w4 w5 i0 i1 i2 i3 i4 i5 br).length = 57 := rfl
  have hs : ∀ r id, LV.subs r id (vcl c.cel w0 w1 w2 w3 w4 w5 i0 i1 i2 i3 i4 i5 br) = vcl c.cel w0 w1 w2 w3 w4 w5 i0 i1 i2 i3 i4 i5 br := fun _ _ => rfl
  have hr : ∀ s, rowsOf (vcl c.cel w0 w1 w2 w3 w4 w5 i0 i1 i2 i3 i4 i5 br) 257 (vcl c.cel w0 w1 w2 w3 w4 w5 i0 i1 i2 i3 i4 i5 br) s = some (vcl c.cel w0 w1 w2 w3 w4 w5 i0 i1 i2 i3 i4 i5 br, s) := fun _ => rfl
  have h5 : (vcl c.cel w0 w1 w2 w3 w4 w5 i0 i1 i2 i3 i4 i5 br).all LV.one = true := rfl
  have h6 : LV.aparts 256 (vcl c.cel w0 w1 w2 w3 w4 w5 i0 i1 i2 i3 i4 i5 br) = true := rfl
  have hv : (vcl c.cel w0 w1 w2 w3 w4 w5 i0 i1 i2 i3 i4 i5 br)[56]? = some (.vs (br.map bb1)) := rfl
  have hz : (vcl c.cel w0 w1 w2 w3 w4 w5 i0 i1 i2 i3 i4 i5 br)[41]? = some (.vs (c.zn.map Go.Geo.p1)) := rfl
  have hI : ((vcl c.cel w0 w1 w2 w3 w4 w5 i0 i1 i2 i3 i4 i5 br).drop 50).take 6 = [.int .i64 i0, .int .i64 i1, .int .i64 i2, .int .i64 i3, .int .i64 i4, .int .i64 i5] := rfl
  have t0 : (vcl c.cel w0 w1 w2 w3 w4 w5 i0 i1 i2 i3 i4 i5 br).take 12 = avc c.a := rfl
  have t1 : ((vcl c.cel w0 w1 w2 w3 w4 w5 i0 i1 i2 i3 i4 i5 br).drop 12).take 12 = avc c.b := rfl
  have q0 := l77_0 (vcl c.cel w0 w1 w2 w3 w4 w5 i0 i1 i2 i3 i4 i5 br) [.int .i64 i0, .int .i64 i1, .int .i64 i2, .int .i64 i3, .int .i64 i4, .int .i64 i5] c.zn br [] c.a ha i0 i1 i2 s0 s1 s2 hV hs (fun _ _ => rfl) hv t0 hbl (by omega) hzp (by simp)
  have hle := inz_len 0 (fun k => hitB c.a i0 i1 i2 (c.zn.getD k [])) br c.zn.length
  have q1 := l77_1 (vcl c.cel w0 w1 w2 w3 w4 w5 i0 i1 i2 i3 i4 i5 br) [.int .i64 i0, .int .i64 i1, .int .i64 i2, .int .i64 i3, .int .i64 i4, .int .i64 i5] c.zn br ((inz 0 (fun k => hitB c.a i0 i1 i2 (c.zn.getD k [])) br c.zn.length).map v4) c.b hb i3 i4 i5 s3 s4 s5 hV hs (fun _ _ => rfl) hv t1 hbl (by omega) hzp (by rw [List.length_map]; omega)
  unfold inT
  rw [List.map_append]
  show _ = some (LV.vs ((inz 0 (fun k => hitB c.a i0 i1 i2 (c.zn.getD k [])) br c.zn.length).map v4 ++ (inz 1 (fun k => hitB c.b i3 i4 i5 (c.zn.getD k [])) br c.zn.length).map v4))
  unfold B77 at q0 q1
  simp only [List.nil_append, List.length_nil] at q0
  have hzlen : (c.zn.map Go.Geo.p1).length = c.zn.length := List.length_map ..
  have u0 := tk_all ((inz 0 (fun k => hitB c.a i0 i1 i2 (c.zn.getD k [])) br c.zn.length).map v4)
  have u1 := tk_all ((inz 0 (fun k => hitB c.a i0 i1 i2 (c.zn.getD k [])) br c.zn.length).map v4 ++ (inz 1 (fun k => hitB c.b i3 i4 i5 (c.zn.getD k [])) br c.zn.length).map v4)
  generalize (inz 0 (fun k => hitB c.a i0 i1 i2 (c.zn.getD k [])) br c.zn.length).map v4 = R0 at *
  generalize R0 ++ (inz 1 (fun k => hitB c.b i3 i4 i5 (c.zn.getD k [])) br c.zn.length).map v4 = R1 at *
  generalize vcl c.cel w0 w1 w2 w3 w4 w5 i0 i1 i2 i3 i4 i5 br = V at *
  generalize c.zn.map Go.Geo.p1 = zr at *
  rw [pc_eq]; simp +contextual -implicitDefEqProofs (maxSteps := 2000000) only [go_sem, ↓reduceIte, E_77, A77, A77_L2_eq, A77_L2b, hV, hs, hr, h5, h6, hv, hz, hI, hzlen, q0, q1, u0, u1, Nat.le_refl]
def mostI (c : Cl) (br : List Bool) : Int := if br.any id = true then mnI c.lv c.slow else c.lv
def vioT (c : Cl) (w0 w1 w2 w3 w4 w5 i0 i1 i2 i3 i4 i5 : Int) (br : List Bool) (kd : Bool) : List Vi := fastT (mostI c br) w0 w1 w2 w3 w4 w5 i0 i1 i2 i3 i4 i5 ++ nearT kd ++ inT c i0 i1 i2 i3 i4 i5 br ++ unlT br br.length
theorem v4_all (l : List Vi) : ((l.map v4).all fun x => x.length == 4) = true := by simp [v4]
theorem v4_scal (l : List Vi) : ((l.map v4).all fun x => x.all LV.scal) = true := by simp [v4, LV.scal]
theorem frT_len (m i w a k : Int) : (frT m i w a k).length ≤ 1 := by unfold frT; split <;> simp
theorem fastT_len (m w0 w1 w2 w3 w4 w5 i0 i1 i2 i3 i4 i5 : Int) : (fastT m w0 w1 w2 w3 w4 w5 i0 i1 i2 i3 i4 i5).length ≤ 6 := by
  unfold fastT
  have h0 := frT_len m i0 w0 0 0
  have h1 := frT_len m i1 w1 0 1
  have h2 := frT_len m i2 w2 0 2
  have h3 := frT_len m i3 w3 1 0
  have h4 := frT_len m i4 w4 1 1
  have h5 := frT_len m i5 w5 1 2
  simp only [List.length_append]; omega
theorem unlT_len (br : List Bool) : ∀ k, (unlT br k).length ≤ k
  | 0 => by simp [unlT]
  | k + 1 => by
    have := unlT_len br k
    unfold unlT
    rw [List.length_append]
    split <;> simp <;> omega
theorem c41 (c : Cl) (ha : OKa c.a) (hb : OKa c.b) (w0 w1 w2 w3 w4 w5 i0 i1 i2 i3 i4 i5 : Int) (s0 : Sm i0) (s1 : Sm i1) (s2 : Sm i2) (s3 : Sm i3) (s4 : Sm i4) (s5 : Sm i5) (br : List Bool) (hbl : br.length = c.zn.length) (hzl : c.zn.length ≤ 16) (hzp : ∀ z ∈ c.zn, z.length ≤ 1000000) (kd : Bool) (o44 : pc E 44 [.agg (cec c.cel), pos i0 i1 i2 i3 i4 i5] = some (.bool kd)) :
    pc E 41 [.agg (cec c.cel), pos w0 w1 w2 w3 w4 w5, pos i0 i1 i2 i3 i4 i5, .vs (br.map bb1)] = some (.os 4 ((vioT c w0 w1 w2 w3 w4 w5 i0 i1 i2 i3 i4 i5 br kd).map v4)) := by
  have hr : ∀ s, rowsOf (vcl c.cel w0 w1 w2 w3 w4 w5 i0 i1 i2 i3 i4 i5 br) 257 (vcl c.cel w0 w1 w2 w3 w4 w5 i0 i1 i2 i3 i4 i5 br) s = some (vcl c.cel w0 w1 w2 w3 w4 w5 i0 i1 i2 i3 i4 i5 br, s) := fun _ => rfl
  have p1 := c75 (vcl c.cel w0 w1 w2 w3 w4 w5 i0 i1 i2 i3 i4 i5 br) br (by omega) c.lv c.slow w0 w1 w2 w3 w4 w5 i0 i1 i2 i3 i4 i5 rfl rfl rfl rfl rfl hr (fun _ _ => rfl) rfl rfl rfl rfl rfl rfl rfl rfl
  have p2 := c76 (vcl c.cel w0 w1 w2 w3 w4 w5 i0 i1 i2 i3 i4 i5 br) kd (cec c.cel) [.int .i64 i0, .int .i64 i1, .int .i64 i2, .int .i64 i3, .int .i64 i4, .int .i64 i5] rfl rfl rfl o44 rfl rfl (fun _ => rfl) (fun _ => rfl) rfl rfl hr (fun _ _ => rfl) rfl rfl
  have p3 := c77 c ha hb w0 w1 w2 w3 w4 w5 i0 i1 i2 i3 i4 i5 s0 s1 s2 s3 s4 s5 br hbl hzl hzp
  have p4 := c78 (vcl c.cel w0 w1 w2 w3 w4 w5 i0 i1 i2 i3 i4 i5 br) br (by omega) rfl rfl hr (fun _ _ => rfl) rfl rfl
  rw [fastR_T] at p1
  rw [near_T] at p2
  rw [unl_T] at p4
  unfold vioT
  simp only [List.map_append]
  have hm : (if br.any id = true then mnI c.lv c.slow else c.lv) = mostI c br := rfl
  rw [hm] at p1
  have b1 := fastT_len (mostI c br) w0 w1 w2 w3 w4 w5 i0 i1 i2 i3 i4 i5
  have b2 : (nearT kd).length ≤ 1 := by unfold nearT; cases kd <;> simp
  have b3 : (inT c i0 i1 i2 i3 i4 i5 br).length ≤ 40 := by
    have h0 := inz_len 0 (hits c.a i0 i1 i2 c.zn) br c.zn.length
    have h1 := inz_len 1 (hits c.b i3 i4 i5 c.zn) br c.zn.length
    unfold inT; rw [List.length_append]; omega
  have b4 := unlT_len br br.length
  have a1 := v4_all (fastT (mostI c br) w0 w1 w2 w3 w4 w5 i0 i1 i2 i3 i4 i5)
  have a2 := v4_all (nearT kd)
  have a3 := v4_all (inT c i0 i1 i2 i3 i4 i5 br)
  have a4 := v4_all (unlT br br.length)
  have c1 := v4_scal (fastT (mostI c br) w0 w1 w2 w3 w4 w5 i0 i1 i2 i3 i4 i5)
  have c2_ := v4_scal (nearT kd)
  have c3 := v4_scal (inT c i0 i1 i2 i3 i4 i5 br)
  have c4 := v4_scal (unlT br br.length)
  have d1 : ((fastT (mostI c br) w0 w1 w2 w3 w4 w5 i0 i1 i2 i3 i4 i5).map v4).length ≤ 6 := by rw [List.length_map]; exact b1
  have d2 : ((nearT kd).map v4).length ≤ 1 := by rw [List.length_map]; exact b2
  have d3 : ((inT c i0 i1 i2 i3 i4 i5 br).map v4).length ≤ 40 := by rw [List.length_map]; exact b3
  have d4 : ((unlT br br.length).map v4).length ≤ 16 := by rw [List.length_map]; omega
  generalize (fastT (mostI c br) w0 w1 w2 w3 w4 w5 i0 i1 i2 i3 i4 i5).map v4 = R1 at *
  generalize (nearT kd).map v4 = R2 at *
  generalize (inT c i0 i1 i2 i3 i4 i5 br).map v4 = R3 at *
  generalize (unlT br br.length).map v4 = R4 at *
  have t1 := tk_all R1
  have t2 := tk_all R2
  have t3 := tk_all R3
  have t4 := tk_all R4
  have t12 : (R1 ++ R2).take (R1.length + R2.length) = R1 ++ R2 := List.take_of_length_le (by simp)
  have t13 : (R1 ++ R2 ++ R3).take (R1.length + R2.length + R3.length) = R1 ++ R2 ++ R3 := List.take_of_length_le (by simp only [List.length_append]; omega)
  have t14 : (R1 ++ R2 ++ R3 ++ R4).take (R1.length + R2.length + R3.length + R4.length) = R1 ++ R2 ++ R3 ++ R4 := List.take_of_length_le (by simp only [List.length_append]; omega)
  have g1 : R1.length ≤ 1000000000 := by omega
  have g2 : R1.length + R2.length ≤ 1000000000 := by omega
  have g3 : R1.length + R2.length + R3.length ≤ 1000000000 := by omega
  have g4 : R1.length + R2.length + R3.length + R4.length ≤ 1000000000 := by omega
  unfold vcl at p1 p2 p3 p4
  unfold cec
  rw [pc_eq]; simp +contextual -implicitDefEqProofs (maxSteps := 2000000) only [go_sem, ↓reduceIte, E_41, A41, A41_L0_eq, A41_L0b, p1, p2, p3, p4, a1, a2, a3, a4, c1, c2_, c3, c4, t1, t2, t3, t4, t12, t13, t14, g1, g2, g3, g4, List.length_append, Nat.le_refl]
end Go.Proofs.Ytnecdcaaknhgpaa

namespace Go.Proofs.Ytnecdcaaknhgpaa
set_option maxRecDepth 100000
set_option maxHeartbeats 4000000
set_option linter.unusedSimpArgs false
set_option linter.unusedVariables false
open Go Go.Zv
abbrev FR44 (a : Arm) (x0 x1 x2 : Int) : Env := [(2, .ptr 512 0), (3, .ptr 768 0), (4, .ptr 1024 0), (12, .fn (Fn.func 106) [] [.fp [.int .i64 x0, .int .i64 x1, .int .i64 x2], .fp (avc a)])]
abbrev O44 (c : Cel) (x0 x1 x2 y0 y1 y2 : Int) (ok : Bool) : Heap := [(1024, .box [.bool ok]), (768, .box [.int .i64 x0, .int .i64 x1, .int .i64 x2, .int .i64 y0, .int .i64 y1, .int .i64 y2]), (512, .box (cec c))]
abbrev FRi (c : Cel) (y0 y1 y2 : Int) : Env := [(2, .ptr 512 0), (4, .ptr 1024 0), (5, .ptr 2098432 0), (19, .fn (Fn.func 106) [] [.fp [.int .i64 y0, .int .i64 y1, .int .i64 y2], .fp (avc c.b)])]
abbrev FM (a : Arm) (i j : Int) (P p0 p1 p2 : List (List LV)) : Env := [(30, .vs P), (29, .yl 1024000), (0, .yl 1024000), (2, .fp (avc a)), (9, .vs P), (17, .bs 1052928 0 2), (18, .int .i64 2), (19, .int .i64 i), (25, .agg [.vs p0, .vs p1, .vs p2]), (26, .int .i64 j)]
abbrev Fin (c : Cel) (y0 y1 y2 : Int) (F : List Env) : List Env := FRi c y0 y1 y2 :: [(0, .yl 3121153)] :: [(0, .yl 1024000)] :: F
abbrev Oin (c : Cel) (x0 x1 x2 y0 y1 y2 u0 u1 u2 v0 v1 v2 a0 a1 a2 b0 b1 b2 : Int) (P : List (List LV)) : Heap :=
  (3150080, .row 3 [[.int .i64 u0, .int .i64 u1, .int .i64 u2], [.int .i64 v0, .int .i64 v1, .int .i64 v2]]) :: (3121153, .loop (FRi c y0 y1 y2) [20] A44_R0a A44_R0b .ready .nrm) :: (2098432, .box [.vs P]) :: (2098433, .row 2 []) ::
  (1052928, .row 3 [[.int .i64 a0, .int .i64 a1, .int .i64 a2], [.int .i64 b0, .int .i64 b1, .int .i64 b2]]) :: (1024000, .loop (FR44 c.a x0 x1 x2) [13] A44_R1a A44_R1b .busy .nrm) :: O44 c x0 x1 x2 y0 y1 y2 false
theorem R1a_K (S : St) : K E A44_R1a S = K E (.reg none [
    ⟨some 5, .alloc [.nils 2], none, true⟩,
    ⟨none, .store 1 (.t 5) (.t 13), none, true⟩] (some [2, 3, 4, 5]) []) S := rfl
theorem R1b_K (S : St) : K E A44_R1b S = K E ((.block 1 (
  (.seq (
  .reg none [
    ⟨some 14, .fad 0 (.t 2), none, true⟩,
    ⟨some 15, .iaa 2 12 (.t 14) (.c (.int .i64 1)), none, true⟩,
    ⟨some 16, .load true 12 (.t 15), none, true⟩,
    ⟨some 17, .iaa 2 3 (.t 3) (.c (.int .i64 1)), none, true⟩,
    ⟨some 18, .load true 3 (.t 17), none, true⟩,
    ⟨some 19, .call 79 [.t 16, .t 18], none, true⟩] (some [2, 4, 5, 19]) [3]) (
  (.block 2 (
  A44_R0) (some []) [6, 23])))) (some []) [6, 19, 23])) S := rfl
theorem R0a_K (S : St) : K E A44_R0a S = K E (.reg none [
      ⟨some 6, .as (.t 20), none, true⟩] (some [2, 4, 5, 6]) []) S := rfl
theorem R0b_K (S : St) : K E A44_R0b S = K E ((.block 3 (
    (.seq (
    .reg (some [.dr [25] [], .dr [21, 25] [], .dr [25] [], .dr [21, 23] [], .dr [21, 23] [], .dr [21, 23] [], .free]) [
      ⟨some 21, .load false 1 (.t 5), none, true⟩,
      ⟨some 22, .mv (.t 6), none, true⟩,
      ⟨some 23, .call 80 [.t 21, .t 22], none, true⟩,
      ⟨some 24, .fad 42 (.t 2), none, true⟩,
      ⟨some 25, .load false 1 (.t 24), none, true⟩,
      ⟨some 26, .bin .mul (.t 25) (.c (.int .i64 4394000)), none, true⟩,
      ⟨some 27, .bin .lss (.t 23) (.t 26), none, true⟩] (some [4, 27]) [2, 5]) (
    (.cond (.t 27) (
      (.seq (
      .reg none [
        ⟨none, .store 1 (.t 4) (.c (.bool false)), none, true⟩] (some []) []) (
      .ret))) (
      .skip))))) (some []) [23])) S := rfl
theorem inn (c : Cel) (x0 x1 x2 y0 y1 y2 a0 a1 a2 b0 b1 b2 u0 u1 u2 v0 v1 v2 : Int) (P Q0 Q1 Q2 Q3 Q4 Q5 : List (List LV)) (i j : Int) (p0 p1 p2 : List (List LV))
  (f3 : pc E 20 [av c.b, jv u0 u1 u2] = some (.agg [.vs Q0, .vs Q1, .vs Q2])) (f4 : pc E 20 [av c.b, jv v0 v1 v2] = some (.agg [.vs Q3, .vs Q4, .vs Q5]))
  (g0 g1 g2 g3 g4 g5 : Int) (e0 : pc E 80 [.vs P, .vs Q0] = some (.int .i64 g0)) (e1 : pc E 80 [.vs P, .vs Q1] = some (.int .i64 g1)) (e2 : pc E 80 [.vs P, .vs Q2] = some (.int .i64 g2)) (e3 : pc E 80 [.vs P, .vs Q3] = some (.int .i64 g3)) (e4 : pc E 80 [.vs P, .vs Q4] = some (.int .i64 g4)) (e5 : pc E 80 [.vs P, .vs Q5] = some (.int .i64 g5))
  (W : Int) (hw : IntKind.i64.wrap (c.gap * 4394000) = W) (b : Bool) (hb : b = (decide (g0 < W) || (decide (g1 < W) || (decide (g2 < W) || (decide (g3 < W) || (decide (g4 < W) || decide (g5 < W))))))) :
  ((((((((K E A106_L1 ⟨[(0, .yl 3121153), (2, .fp (avc c.b)), (17, .bs 3150080 0 2), (18, .int .i64 2), (19, .int .i64 0)], Fin c y0 y1 y2 [FM c.a i j P p0 p1 p2, FR44 c.a x0 x1 x2, [(0, .yl 1024000)]], Oin c x0 x1 x2 y0 y1 y2 u0 u1 u2 v0 v1 v2 a0 a1 a2 b0 b1 b2 P, 3⟩).bind (blockR 0 (some []) [7, 9, 25, 31])).bind (fnEnd [])).bind (afterIn 2)).bind (endRfR 3121153)).bind (blockR 2 (some []) [6, 23])).bind (blockR 1 (some []) [6, 19, 23])).bind (rndBody 1024000)).bind (afterIn 1) =
    some (.bool (!b), ⟨FM c.a i j P p0 p1 p2, [FR44 c.a x0 x1 x2, [(0, .yl 1024000)]], (1052928, .row 3 [[.int .i64 a0, .int .i64 a1, .int .i64 a2], [.int .i64 b0, .int .i64 b1, .int .i64 b2]]) :: (1024000, .loop (FR44 c.a x0 x1 x2) [13] A44_R1a A44_R1b (if b then .done else .ready) (if b then .ret else .nrm)) :: O44 c x0 x1 x2 y0 y1 y2 false, 1⟩) := by
  by_cases n0 : g0 < W
  · simp only [show b = true by rw [hb]; simp [n0]]
    simp +contextual -implicitDefEqProofs (maxSteps := 2000000) only [go_sem, ↓reduceIte, A106_L1_eq, O44, A106_L1b, A106_L0_eq, A106_L0b, R1a_K, R1b_K, A44_R0, R0a_K, R0b_K, f3, f4, e0, e1, e2, e3, e4, e5, hw, n0]
  by_cases n1 : g1 < W
  · simp only [show b = true by rw [hb]; simp [n1]]
    simp +contextual -implicitDefEqProofs (maxSteps := 2000000) only [go_sem, ↓reduceIte, A106_L1_eq, O44, A106_L1b, A106_L0_eq, A106_L0b, R1a_K, R1b_K, A44_R0, R0a_K, R0b_K, f3, f4, e0, e1, e2, e3, e4, e5, hw, n0, n1]
  by_cases n2 : g2 < W
  · simp only [show b = true by rw [hb]; simp [n2]]
    simp +contextual -implicitDefEqProofs (maxSteps := 2000000) only [go_sem, ↓reduceIte, A106_L1_eq, O44, A106_L1b, A106_L0_eq, A106_L0b, R1a_K, R1b_K, A44_R0, R0a_K, R0b_K, f3, f4, e0, e1, e2, e3, e4, e5, hw, n0, n1, n2]
  by_cases n3 : g3 < W
  · simp only [show b = true by rw [hb]; simp [n3]]
    simp +contextual -implicitDefEqProofs (maxSteps := 2000000) only [go_sem, ↓reduceIte, A106_L1_eq, O44, A106_L1b, A106_L0_eq, A106_L0b, R1a_K, R1b_K, A44_R0, R0a_K, R0b_K, f3, f4, e0, e1, e2, e3, e4, e5, hw, n0, n1, n2, n3]
  by_cases n4 : g4 < W
  · simp only [show b = true by rw [hb]; simp [n4]]
    simp +contextual -implicitDefEqProofs (maxSteps := 2000000) only [go_sem, ↓reduceIte, A106_L1_eq, O44, A106_L1b, A106_L0_eq, A106_L0b, R1a_K, R1b_K, A44_R0, R0a_K, R0b_K, f3, f4, e0, e1, e2, e3, e4, e5, hw, n0, n1, n2, n3, n4]
  by_cases n5 : g5 < W
  · simp only [show b = true by rw [hb]; simp [n5]]
    simp +contextual -implicitDefEqProofs (maxSteps := 2000000) only [go_sem, ↓reduceIte, A106_L1_eq, O44, A106_L1b, A106_L0_eq, A106_L0b, R1a_K, R1b_K, A44_R0, R0a_K, R0b_K, f3, f4, e0, e1, e2, e3, e4, e5, hw, n0, n1, n2, n3, n4, n5]
  have hbf : b = false := by rw [hb]; simp [n0, n1, n2, n3, n4, n5]
  simp only [hbf]
  simp +contextual -implicitDefEqProofs (maxSteps := 2000000) only [go_sem, ↓reduceIte, A106_L1_eq, O44, A106_L1b, A106_L0_eq, A106_L0b, R1a_K, R1b_K, A44_R0, R0a_K, R0b_K, f3, f4, e0, e1, e2, e3, e4, e5, hw, n0, n1, n2, n3, n4, n5]
end Go.Proofs.Ytnecdcaaknhgpaa

namespace Go.Proofs.Ytnecdcaaknhgpaa
set_option maxRecDepth 100000
set_option maxHeartbeats 4000000
set_option linter.unusedSimpArgs false
set_option linter.unusedVariables false
open Go Go.Zv
def nrB (W : Int) (ms : List (List (Int × Int))) (l : List (Int × Int)) : Bool := ms.any (fun m => decide (G.gapI l m < W))
theorem c80 (l m : List (Int × Int)) (hl : l.length < 9223372036854775808) (hm : m.length < 9223372036854775808) : pc E 80 [lkv l, lkv m] = some (.int .i64 (G.gapI l m)) := G.c80 l m hl hm
theorem out2 (c : Cel) (x0 x1 x2 y0 y1 y2 a0 a1 a2 b0 b1 b2 u0 u1 u2 v0 v1 v2 : Int) (l0 l1 l2 l3 l4 l5 m0 m1 m2 m3 m4 m5 : List (Int × Int))
  (hl : ∀ l ∈ [l0, l1, l2, l3, l4, l5], l.length < 9223372036854775808) (hm : ∀ m ∈ [m0, m1, m2, m3, m4, m5], m.length < 9223372036854775808)
  (f1 : pc E 20 [av c.a, jv a0 a1 a2] = some (.agg [lkv l0, lkv l1, lkv l2])) (f2 : pc E 20 [av c.a, jv b0 b1 b2] = some (.agg [lkv l3, lkv l4, lkv l5]))
  (f3 : pc E 20 [av c.b, jv u0 u1 u2] = some (.agg [lkv m0, lkv m1, lkv m2])) (f4 : pc E 20 [av c.b, jv v0 v1 v2] = some (.agg [lkv m3, lkv m4, lkv m5]))
  (e39 : pc E 39 [jv y0 y1 y2] = some (.tup [jv u0 u1 u2, jv v0 v1 v2])) (W : Int) (hw : IntKind.i64.wrap (c.gap * 4394000) = W) : (((((K E A106_L1 ⟨[(0, .yl 1024000), (2, .fp (avc c.a)), (17, .bs 1052928 0 2), (18, .int .i64 2), (19, .int .i64 2)], [FR44 c.a x0 x1 x2, [(0, .yl 1024000)]], (1052928, .row 3 [[.int .i64 a0, .int .i64 a1, .int .i64 a2], [.int .i64 b0, .int .i64 b1, .int .i64 b2]]) :: (1024000, .loop (FR44 c.a x0 x1 x2) [13] A44_R1a A44_R1b .ready .nrm) :: O44 c x0 x1 x2 y0 y1 y2 false, 1⟩).bind (blockR 0 (some []) [7, 9, 25, 31])).bind (fnEnd [])).bind (afterIn 0)).bind (endRfR 1024000)).bind (blockR 0 (some [4]) [5, 6, 19, 23]) = some (.ex (if false then .ret else .nrm) ⟨if false then FR44 c.a x0 x1 x2 else [(4, .ptr 1024 0)], [], O44 c x0 x1 x2 y0 y1 y2 false, 0⟩) := by
  rw [A106_L1_eq]
  simp +contextual -implicitDefEqProofs (maxSteps := 2000000) only [go_sem, ↓reduceIte, O44, A106_L1b]
theorem out1 (c : Cel) (x0 x1 x2 y0 y1 y2 a0 a1 a2 b0 b1 b2 u0 u1 u2 v0 v1 v2 : Int) (l0 l1 l2 l3 l4 l5 m0 m1 m2 m3 m4 m5 : List (Int × Int))
  (hl : ∀ l ∈ [l0, l1, l2, l3, l4, l5], l.length < 9223372036854775808) (hm : ∀ m ∈ [m0, m1, m2, m3, m4, m5], m.length < 9223372036854775808)
  (f1 : pc E 20 [av c.a, jv a0 a1 a2] = some (.agg [lkv l0, lkv l1, lkv l2])) (f2 : pc E 20 [av c.a, jv b0 b1 b2] = some (.agg [lkv l3, lkv l4, lkv l5]))
  (f3 : pc E 20 [av c.b, jv u0 u1 u2] = some (.agg [lkv m0, lkv m1, lkv m2])) (f4 : pc E 20 [av c.b, jv v0 v1 v2] = some (.agg [lkv m3, lkv m4, lkv m5]))
  (e39 : pc E 39 [jv y0 y1 y2] = some (.tup [jv u0 u1 u2, jv v0 v1 v2])) (W : Int) (hw : IntKind.i64.wrap (c.gap * 4394000) = W) (b : Bool) (hb : b = (nrB W [m0, m1, m2, m3, m4, m5] l3 || nrB W [m0, m1, m2, m3, m4, m5] l4 || nrB W [m0, m1, m2, m3, m4, m5] l5)) :
  (((((K E A106_L1 ⟨[(0, .yl 1024000), (2, .fp (avc c.a)), (17, .bs 1052928 0 2), (18, .int .i64 2), (19, .int .i64 1)], [FR44 c.a x0 x1 x2, [(0, .yl 1024000)]], (1052928, .row 3 [[.int .i64 a0, .int .i64 a1, .int .i64 a2], [.int .i64 b0, .int .i64 b1, .int .i64 b2]]) :: (1024000, .loop (FR44 c.a x0 x1 x2) [13] A44_R1a A44_R1b .ready .nrm) :: O44 c x0 x1 x2 y0 y1 y2 false, 1⟩).bind (blockR 0 (some []) [7, 9, 25, 31])).bind (fnEnd [])).bind (afterIn 0)).bind (endRfR 1024000)).bind (blockR 0 (some [4]) [5, 6, 19, 23]) =
    some (.ex (if b then .ret else .nrm) ⟨if b then FR44 c.a x0 x1 x2 else [(4, .ptr 1024 0)], [], O44 c x0 x1 x2 y0 y1 y2 false, 0⟩) := by
  have h79 := c79 c.b y0 y1 y2
  have i3 := inn c x0 x1 x2 y0 y1 y2 a0 a1 a2 b0 b1 b2 u0 u1 u2 v0 v1 v2 (l3.map c2) (m0.map c2) (m1.map c2) (m2.map c2) (m3.map c2) (m4.map c2) (m5.map c2) 1 0 (l3.map c2) (l4.map c2) (l5.map c2) f3 f4 _ _ _ _ _ _ (c80 l3 m0 (hl _ (by simp)) (hm _ (by simp))) (c80 l3 m1 (hl _ (by simp)) (hm _ (by simp))) (c80 l3 m2 (hl _ (by simp)) (hm _ (by simp))) (c80 l3 m3 (hl _ (by simp)) (hm _ (by simp))) (c80 l3 m4 (hl _ (by simp)) (hm _ (by simp))) (c80 l3 m5 (hl _ (by simp)) (hm _ (by simp))) W hw (nrB W [m0, m1, m2, m3, m4, m5] l3) (by simp [nrB])
  have i4 := inn c x0 x1 x2 y0 y1 y2 a0 a1 a2 b0 b1 b2 u0 u1 u2 v0 v1 v2 (l4.map c2) (m0.map c2) (m1.map c2) (m2.map c2) (m3.map c2) (m4.map c2) (m5.map c2) 1 1 (l3.map c2) (l4.map c2) (l5.map c2) f3 f4 _ _ _ _ _ _ (c80 l4 m0 (hl _ (by simp)) (hm _ (by simp))) (c80 l4 m1 (hl _ (by simp)) (hm _ (by simp))) (c80 l4 m2 (hl _ (by simp)) (hm _ (by simp))) (c80 l4 m3 (hl _ (by simp)) (hm _ (by simp))) (c80 l4 m4 (hl _ (by simp)) (hm _ (by simp))) (c80 l4 m5 (hl _ (by simp)) (hm _ (by simp))) W hw (nrB W [m0, m1, m2, m3, m4, m5] l4) (by simp [nrB])
  have i5 := inn c x0 x1 x2 y0 y1 y2 a0 a1 a2 b0 b1 b2 u0 u1 u2 v0 v1 v2 (l5.map c2) (m0.map c2) (m1.map c2) (m2.map c2) (m3.map c2) (m4.map c2) (m5.map c2) 1 2 (l3.map c2) (l4.map c2) (l5.map c2) f3 f4 _ _ _ _ _ _ (c80 l5 m0 (hl _ (by simp)) (hm _ (by simp))) (c80 l5 m1 (hl _ (by simp)) (hm _ (by simp))) (c80 l5 m2 (hl _ (by simp)) (hm _ (by simp))) (c80 l5 m3 (hl _ (by simp)) (hm _ (by simp))) (c80 l5 m4 (hl _ (by simp)) (hm _ (by simp))) (c80 l5 m5 (hl _ (by simp)) (hm _ (by simp))) W hw (nrB W [m0, m1, m2, m3, m4, m5] l5) (by simp [nrB])
  have nx := out2 c x0 x1 x2 y0 y1 y2 a0 a1 a2 b0 b1 b2 u0 u1 u2 v0 v1 v2 l0 l1 l2 l3 l4 l5 m0 m1 m2 m3 m4 m5 hl hm f1 f2 f3 f4 e39 W hw
  by_cases n3 : nrB W [m0, m1, m2, m3, m4, m5] l3 = true
  · have hbt : b = true := by rw [hb]; simp [n3]
    rw [n3] at i3
    simp only [Bool.not_true, Bool.not_false, ↓reduceIte, Bool.false_eq_true] at i3
    simp only [hbt]
    rw [A106_L1_eq]
    simp +contextual -implicitDefEqProofs (maxSteps := 2000000) only [go_sem, ↓reduceIte, O44, FR44, A106_L1b, A106_L0_eq, A106_L0b, R1a_K, R1b_K, A44_R1, A44_R0, R0a_K, R0b_K, E_106, A106, h79, e39, f2, i3]
  rw [Bool.not_eq_true] at n3
  rw [n3] at i3
  simp only [Bool.not_true, Bool.not_false, ↓reduceIte, Bool.false_eq_true] at i3
  by_cases n4 : nrB W [m0, m1, m2, m3, m4, m5] l4 = true
  · have hbt : b = true := by rw [hb]; simp [n3, n4]
    rw [n4] at i4
    simp only [Bool.not_true, Bool.not_false, ↓reduceIte, Bool.false_eq_true] at i4
    simp only [hbt]
    rw [A106_L1_eq]
    simp +contextual -implicitDefEqProofs (maxSteps := 2000000) only [go_sem, ↓reduceIte, O44, FR44, A106_L1b, A106_L0_eq, A106_L0b, R1a_K, R1b_K, A44_R1, A44_R0, R0a_K, R0b_K, E_106, A106, h79, e39, f2, i3, i4]
  rw [Bool.not_eq_true] at n4
  rw [n4] at i4
  simp only [Bool.not_true, Bool.not_false, ↓reduceIte, Bool.false_eq_true] at i4
  by_cases n5 : nrB W [m0, m1, m2, m3, m4, m5] l5 = true
  · have hbt : b = true := by rw [hb]; simp [n3, n4, n5]
    rw [n5] at i5
    simp only [Bool.not_true, Bool.not_false, ↓reduceIte, Bool.false_eq_true] at i5
    simp only [hbt]
    rw [A106_L1_eq]
    simp +contextual -implicitDefEqProofs (maxSteps := 2000000) only [go_sem, ↓reduceIte, O44, FR44, A106_L1b, A106_L0_eq, A106_L0b, R1a_K, R1b_K, A44_R1, A44_R0, R0a_K, R0b_K, E_106, A106, h79, e39, f2, i3, i4, i5]
  rw [Bool.not_eq_true] at n5
  rw [n5] at i5
  simp only [Bool.not_true, Bool.not_false, ↓reduceIte, Bool.false_eq_true] at i5
  have hbf : b = false := by rw [hb]; simp [n3, n4, n5]
  simp only [hbf]
  rw [A106_L1_eq]
  simp +contextual -implicitDefEqProofs (maxSteps := 2000000) only [go_sem, ↓reduceIte, O44, FR44, A106_L1b, A106_L0_eq, A106_L0b, R1a_K, R1b_K, A44_R1, A44_R0, R0a_K, R0b_K, E_106, A106, h79, e39, f2, i3, i4, i5, nx]
theorem out0 (c : Cel) (x0 x1 x2 y0 y1 y2 a0 a1 a2 b0 b1 b2 u0 u1 u2 v0 v1 v2 : Int) (l0 l1 l2 l3 l4 l5 m0 m1 m2 m3 m4 m5 : List (Int × Int))
  (hl : ∀ l ∈ [l0, l1, l2, l3, l4, l5], l.length < 9223372036854775808) (hm : ∀ m ∈ [m0, m1, m2, m3, m4, m5], m.length < 9223372036854775808)
  (f1 : pc E 20 [av c.a, jv a0 a1 a2] = some (.agg [lkv l0, lkv l1, lkv l2])) (f2 : pc E 20 [av c.a, jv b0 b1 b2] = some (.agg [lkv l3, lkv l4, lkv l5]))
  (f3 : pc E 20 [av c.b, jv u0 u1 u2] = some (.agg [lkv m0, lkv m1, lkv m2])) (f4 : pc E 20 [av c.b, jv v0 v1 v2] = some (.agg [lkv m3, lkv m4, lkv m5]))
  (e39 : pc E 39 [jv y0 y1 y2] = some (.tup [jv u0 u1 u2, jv v0 v1 v2])) (W : Int) (hw : IntKind.i64.wrap (c.gap * 4394000) = W) (bq : Bool) (hb1 : bq = (nrB W [m0, m1, m2, m3, m4, m5] l3 || nrB W [m0, m1, m2, m3, m4, m5] l4 || nrB W [m0, m1, m2, m3, m4, m5] l5)) (b : Bool) (hb : b = ((nrB W [m0, m1, m2, m3, m4, m5] l0 || nrB W [m0, m1, m2, m3, m4, m5] l1 || nrB W [m0, m1, m2, m3, m4, m5] l2) || bq)) :
  (((((K E A106_L1 ⟨[(0, .yl 1024000), (2, .fp (avc c.a)), (17, .bs 1052928 0 2), (18, .int .i64 2), (19, .int .i64 0)], [FR44 c.a x0 x1 x2, [(0, .yl 1024000)]], (1052928, .row 3 [[.int .i64 a0, .int .i64 a1, .int .i64 a2], [.int .i64 b0, .int .i64 b1, .int .i64 b2]]) :: (1024000, .loop (FR44 c.a x0 x1 x2) [13] A44_R1a A44_R1b .ready .nrm) :: O44 c x0 x1 x2 y0 y1 y2 false, 1⟩).bind (blockR 0 (some []) [7, 9, 25, 31])).bind (fnEnd [])).bind (afterIn 0)).bind (endRfR 1024000)).bind (blockR 0 (some [4]) [5, 6, 19, 23]) =
    some (.ex (if b then .ret else .nrm) ⟨if b then FR44 c.a x0 x1 x2 else [(4, .ptr 1024 0)], [], O44 c x0 x1 x2 y0 y1 y2 false, 0⟩) := by
  have h79 := c79 c.b y0 y1 y2
  have i0 := inn c x0 x1 x2 y0 y1 y2 a0 a1 a2 b0 b1 b2 u0 u1 u2 v0 v1 v2 (l0.map c2) (m0.map c2) (m1.map c2) (m2.map c2) (m3.map c2) (m4.map c2) (m5.map c2) 0 0 (l0.map c2) (l1.map c2) (l2.map c2) f3 f4 _ _ _ _ _ _ (c80 l0 m0 (hl _ (by simp)) (hm _ (by simp))) (c80 l0 m1 (hl _ (by simp)) (hm _ (by simp))) (c80 l0 m2 (hl _ (by simp)) (hm _ (by simp))) (c80 l0 m3 (hl _ (by simp)) (hm _ (by simp))) (c80 l0 m4 (hl _ (by simp)) (hm _ (by simp))) (c80 l0 m5 (hl _ (by simp)) (hm _ (by simp))) W hw (nrB W [m0, m1, m2, m3, m4, m5] l0) (by simp [nrB])
  have i1 := inn c x0 x1 x2 y0 y1 y2 a0 a1 a2 b0 b1 b2 u0 u1 u2 v0 v1 v2 (l1.map c2) (m0.map c2) (m1.map c2) (m2.map c2) (m3.map c2) (m4.map c2) (m5.map c2) 0 1 (l0.map c2) (l1.map c2) (l2.map c2) f3 f4 _ _ _ _ _ _ (c80 l1 m0 (hl _ (by simp)) (hm _ (by simp))) (c80 l1 m1 (hl _ (by simp)) (hm _ (by simp))) (c80 l1 m2 (hl _ (by simp)) (hm _ (by simp))) (c80 l1 m3 (hl _ (by simp)) (hm _ (by simp))) (c80 l1 m4 (hl _ (by simp)) (hm _ (by simp))) (c80 l1 m5 (hl _ (by simp)) (hm _ (by simp))) W hw (nrB W [m0, m1, m2, m3, m4, m5] l1) (by simp [nrB])
  have i2 := inn c x0 x1 x2 y0 y1 y2 a0 a1 a2 b0 b1 b2 u0 u1 u2 v0 v1 v2 (l2.map c2) (m0.map c2) (m1.map c2) (m2.map c2) (m3.map c2) (m4.map c2) (m5.map c2) 0 2 (l0.map c2) (l1.map c2) (l2.map c2) f3 f4 _ _ _ _ _ _ (c80 l2 m0 (hl _ (by simp)) (hm _ (by simp))) (c80 l2 m1 (hl _ (by simp)) (hm _ (by simp))) (c80 l2 m2 (hl _ (by simp)) (hm _ (by simp))) (c80 l2 m3 (hl _ (by simp)) (hm _ (by simp))) (c80 l2 m4 (hl _ (by simp)) (hm _ (by simp))) (c80 l2 m5 (hl _ (by simp)) (hm _ (by simp))) W hw (nrB W [m0, m1, m2, m3, m4, m5] l2) (by simp [nrB])
  have nx := out1 c x0 x1 x2 y0 y1 y2 a0 a1 a2 b0 b1 b2 u0 u1 u2 v0 v1 v2 l0 l1 l2 l3 l4 l5 m0 m1 m2 m3 m4 m5 hl hm f1 f2 f3 f4 e39 W hw bq hb1
  by_cases n0 : nrB W [m0, m1, m2, m3, m4, m5] l0 = true
  · have hbt : b = true := by rw [hb]; simp [n0]
    rw [n0] at i0
    simp only [Bool.not_true, Bool.not_false, ↓reduceIte, Bool.false_eq_true] at i0
    simp only [hbt]
    rw [A106_L1_eq]
    simp +contextual -implicitDefEqProofs (maxSteps := 2000000) only [go_sem, ↓reduceIte, O44, FR44, A106_L1b, A106_L0_eq, A106_L0b, R1a_K, R1b_K, A44_R1, A44_R0, R0a_K, R0b_K, E_106, A106, h79, e39, f1, i0]
  rw [Bool.not_eq_true] at n0
  rw [n0] at i0
  simp only [Bool.not_true, Bool.not_false, ↓reduceIte, Bool.false_eq_true] at i0
  by_cases n1 : nrB W [m0, m1, m2, m3, m4, m5] l1 = true
  · have hbt : b = true := by rw [hb]; simp [n0, n1]
    rw [n1] at i1
    simp only [Bool.not_true, Bool.not_false, ↓reduceIte, Bool.false_eq_true] at i1
    simp only [hbt]
    rw [A106_L1_eq]
    simp +contextual -implicitDefEqProofs (maxSteps := 2000000) only [go_sem, ↓reduceIte, O44, FR44, A106_L1b, A106_L0_eq, A106_L0b, R1a_K, R1b_K, A44_R1, A44_R0, R0a_K, R0b_K, E_106, A106, h79, e39, f1, i0, i1]
  rw [Bool.not_eq_true] at n1
  rw [n1] at i1
  simp only [Bool.not_true, Bool.not_false, ↓reduceIte, Bool.false_eq_true] at i1
  by_cases n2 : nrB W [m0, m1, m2, m3, m4, m5] l2 = true
  · have hbt : b = true := by rw [hb]; simp [n0, n1, n2]
    rw [n2] at i2
    simp only [Bool.not_true, Bool.not_false, ↓reduceIte, Bool.false_eq_true] at i2
    simp only [hbt]
    rw [A106_L1_eq]
    simp +contextual -implicitDefEqProofs (maxSteps := 2000000) only [go_sem, ↓reduceIte, O44, FR44, A106_L1b, A106_L0_eq, A106_L0b, R1a_K, R1b_K, A44_R1, A44_R0, R0a_K, R0b_K, E_106, A106, h79, e39, f1, i0, i1, i2]
  rw [Bool.not_eq_true] at n2
  rw [n2] at i2
  simp only [Bool.not_true, Bool.not_false, ↓reduceIte, Bool.false_eq_true] at i2
  have hbf : b = bq := by rw [hb]; simp [n0, n1, n2]
  rw [hbf]
  rw [A106_L1_eq]
  simp +contextual -implicitDefEqProofs (maxSteps := 2000000) only [go_sem, ↓reduceIte, O44, FR44, A106_L1b, A106_L0_eq, A106_L0b, R1a_K, R1b_K, A44_R1, A44_R0, R0a_K, R0b_K, E_106, A106, h79, e39, f1, i0, i1, i2, nx]
theorem c44w (c : Cel) (x0 x1 x2 y0 y1 y2 a0 a1 a2 b0 b1 b2 u0 u1 u2 v0 v1 v2 : Int) (l0 l1 l2 l3 l4 l5 m0 m1 m2 m3 m4 m5 : List (Int × Int))
  (hl : ∀ l ∈ [l0, l1, l2, l3, l4, l5], l.length < 9223372036854775808) (hm : ∀ m ∈ [m0, m1, m2, m3, m4, m5], m.length < 9223372036854775808)
  (f1 : pc E 20 [av c.a, jv a0 a1 a2] = some (.agg [lkv l0, lkv l1, lkv l2])) (f2 : pc E 20 [av c.a, jv b0 b1 b2] = some (.agg [lkv l3, lkv l4, lkv l5]))
  (f3 : pc E 20 [av c.b, jv u0 u1 u2] = some (.agg [lkv m0, lkv m1, lkv m2])) (f4 : pc E 20 [av c.b, jv v0 v1 v2] = some (.agg [lkv m3, lkv m4, lkv m5]))
  (e38 : pc E 39 [jv x0 x1 x2] = some (.tup [jv a0 a1 a2, jv b0 b1 b2])) (e39 : pc E 39 [jv y0 y1 y2] = some (.tup [jv u0 u1 u2, jv v0 v1 v2])) (W : Int) (hw : IntKind.i64.wrap (c.gap * 4394000) = W) :
  pc E 44 [.agg (cec c), pos x0 x1 x2 y0 y1 y2] = some (.bool (![l0, l1, l2, l3, l4, l5].any (nrB W [m0, m1, m2, m3, m4, m5]))) := by
  have h2 := c79 c.a x0 x1 x2
  have nx := out0 c x0 x1 x2 y0 y1 y2 a0 a1 a2 b0 b1 b2 u0 u1 u2 v0 v1 v2 l0 l1 l2 l3 l4 l5 m0 m1 m2 m3 m4 m5 hl hm f1 f2 f3 f4 e39 W hw _ rfl _ rfl
  have e : [l0, l1, l2, l3, l4, l5].any (nrB W [m0, m1, m2, m3, m4, m5]) = ((nrB W [m0, m1, m2, m3, m4, m5] l0 || nrB W [m0, m1, m2, m3, m4, m5] l1 || nrB W [m0, m1, m2, m3, m4, m5] l2) || (nrB W [m0, m1, m2, m3, m4, m5] l3 || nrB W [m0, m1, m2, m3, m4, m5] l4 || nrB W [m0, m1, m2, m3, m4, m5] l5)) := by simp [Bool.or_assoc]
  rw [e]
  generalize ((nrB W [m0, m1, m2, m3, m4, m5] l0 || nrB W [m0, m1, m2, m3, m4, m5] l1 || nrB W [m0, m1, m2, m3, m4, m5] l2) || (nrB W [m0, m1, m2, m3, m4, m5] l3 || nrB W [m0, m1, m2, m3, m4, m5] l4 || nrB W [m0, m1, m2, m3, m4, m5] l5)) = b at nx ⊢
  cases b <;> simp only [Bool.false_eq_true, ↓reduceIte] at nx <;> rw [pc_eq] <;> simp +contextual -implicitDefEqProofs (maxSteps := 2000000) only [go_sem, ↓reduceIte, E_44, A44, A44_R1, E_106, A106, h2, e38, nx]
end Go.Proofs.Ytnecdcaaknhgpaa

namespace Go.Proofs.Ytnecdcaaknhgpaa
set_option maxRecDepth 100000
set_option maxHeartbeats 4000000
set_option linter.unusedSimpArgs false
set_option linter.unusedVariables false
open Go Go.Zv
def veq (p b : Vi) : Bool := (p.1 == b.1) && ((p.2.1 == b.2.1) && ((p.2.2.1 == b.2.2.1) && (p.2.2.2 == b.2.2.2)))
theorem veq_iff (p b : Vi) : veq p b = decide (p = b) := by
  obtain ⟨p1, p2, p3, p4⟩ := p
  obtain ⟨b1, b2, b3, b4⟩ := b
  unfold veq
  rw [Bool.eq_iff_iff]
  simp only [Bool.and_eq_true, beq_iff_eq, decide_eq_true_eq, Prod.mk.injEq]
theorem eqs4 (p b : Vi) : eqs [0, 0, 0, 0] (v4 p) (v4 b) = some (veq p b) := by
  obtain ⟨p1, p2, p3, p4⟩ := p
  obtain ⟨b1, b2, b3, b4⟩ := b
  unfold v4 veq
  simp +contextual -implicitDefEqProofs (maxSteps := 2000000) only [go_sem, ↓reduceIte, eqs]
theorem c71 (l m : List Vi) (hl : l.length ≤ 1000000) (hm : m.length ≤ 1000000) : pc E 71 [.vs (l.map v4), .vs (m.map v4)] = some (.bool (decide (l = m))) := by
  by_cases hlen : l.length = m.length
  · have lp := loop_eq (fun S => (K E A71_L0 S).bind (blockR 0 (some []) [4, 5]))
      (fun k => ⟨[(0, .vs (l.map v4)), (1, .vs (m.map v4)), (5, .int .i64 k)], [], [], 0⟩) l m hlen (some (.ex .ret ⟨[(4, .bool false)], [], [], 0⟩)) (some (.ex .nrm ⟨[], [], [], 0⟩))
      (by
        show (K E A71_L0 _).bind _ = _
        rw [A71_L0_eq]; simp +contextual -implicitDefEqProofs (maxSteps := 2000000) only [go_sem, ↓reduceIte, A71_L0b, Int.lt_irrefl, List.length_map])
      (fun k p b hk hget hget2 => by
        have g : (l.map v4)[k]? = some (v4 p) := by rw [List.getElem?_map, hget]; rfl
        have g2 : (m.map v4)[k]? = some (v4 b) := by rw [List.getElem?_map, hget2]; rfl
        have k0 : (0 : Int) ≤ k := by omega
        have k1 : (k : Int) < l.length := by omega
        have k2 : (k : Int) < m.length := by omega
        have hw := wr_succ (n := k) (by omega)
        have e4 := eqs4 p b
        rw [veq_iff] at e4
        have l4 : (v4 p).length = 4 := rfl
        have m4 : (v4 b).length = 4 := rfl
        have t4 : (v4 b).take 4 = v4 b := rfl
        have t5 : (v4 p).take 4 = v4 p := rfl
        by_cases hq : p = b
        · rw [decide_eq_true hq] at e4
          rw [if_pos hq]
          show (K E A71_L0 _).bind _ = (K E A71_L0 _).bind _
          conv => lhs; rw [A71_L0_eq]
          simp +contextual -implicitDefEqProofs (maxSteps := 2000000) only [go_sem, ↓reduceIte, A71_L0b, k0, k1, k2, g, g2, hw, List.length_map, e4, l4, m4, t4, t5]
        · rw [decide_eq_false hq] at e4
          rw [if_neg hq]
          show (K E A71_L0 _).bind _ = _
          rw [A71_L0_eq]
          simp +contextual -implicitDefEqProofs (maxSteps := 2000000) only [go_sem, ↓reduceIte, A71_L0b, k0, k1, k2, g, g2, hw, List.length_map, e4, l4, m4, t4, t5])
    simp only [Int.natCast_zero, Int.ofNat_zero] at lp
    have hb : (l.length : Int) = m.length := by omega
    by_cases h : l = m
    · rw [if_pos h] at lp
      rw [decide_eq_true h, pc_eq]; simp +contextual -implicitDefEqProofs (maxSteps := 2000000) only [go_sem, ↓reduceIte, E_71, A71, lp, List.length_map, hb, not_true_eq_false, not_false_eq_true]
    · rw [if_neg h] at lp
      rw [decide_eq_false h, pc_eq]; simp +contextual -implicitDefEqProofs (maxSteps := 2000000) only [go_sem, ↓reduceIte, E_71, A71, lp, List.length_map, hb, not_true_eq_false, not_false_eq_true]
  · have hb : ¬ (l.length : Int) = m.length := by omega
    rw [decide_eq_false (fun h => hlen (by rw [h])), pc_eq]; simp +contextual -implicitDefEqProofs (maxSteps := 2000000) only [go_sem, ↓reduceIte, E_71, A71, List.length_map, hb, not_true_eq_false, not_false_eq_true]
def kdB (a b : Arm) (x0 x1 x2 y0 y1 y2 g : Int) : Bool := !(bods a x0 x1 x2).any (nrB (IntKind.i64.wrap (g * 4394000)) (bods b y0 y1 y2))
theorem c44 (c : Cel) (ha : OKa c.a) (hb : OKa c.b) (x0 x1 x2 y0 y1 y2 : Int) (s0 : Sm x0) (s1 : Sm x1) (s2 : Sm x2) (s3 : Sm y0) (s4 : Sm y1) (s5 : Sm y2) :
    pc E 44 [.agg (cec c), pos x0 x1 x2 y0 y1 y2] = some (.bool (kdB c.a c.b x0 x1 x2 y0 y1 y2 c.gap)) := by
  obtain ⟨l0, l1, l2, l3, l4, l5, hl, f1, f2, q1⟩ := bod c.a ha x0 x1 x2
  obtain ⟨m0, m1, m2, m3, m4, m5, hm, f3, f4, q2⟩ := bod c.b hb y0 y1 y2
  have e38 := c39 x0 x1 x2 s0 s1 s2
  have e39 := c39 y0 y1 y2 s3 s4 s5
  unfold kdB
  rw [hl, hm]
  exact c44w c x0 x1 x2 y0 y1 y2 _ _ _ _ _ _ _ _ _ _ _ _ l0 l1 l2 l3 l4 l5 m0 m1 m2 m3 m4 m5 (fun l h => by rw [q1 l h]; decide) (fun l h => by rw [q2 l h]; decide) f1 f2 f3 f4 e38 e39 _ rfl
end Go.Proofs.Ytnecdcaaknhgpaa

namespace Go.Proofs.Ytnecdcaaknhgpaa
set_option maxRecDepth 100000
set_option maxHeartbeats 4000000
set_option linter.unusedSimpArgs false
set_option linter.unusedVariables false
open Go Go.Zv
structure Fit (c : Cl) (x0 x1 x2 y0 y1 y2 : Int) (br : List Bool) : Prop where
  ha : OKa c.a
  hb : OKa c.b
  zl : c.zn.length ≤ 16
  bl : br.length = c.zn.length
  zv : ∀ z ∈ c.zn, Go.Geo.valB z = true
  m0 : 12 * c.a.lo0 ≤ x0 ∧ x0 ≤ 12 * c.a.hi0
  m1 : 12 * c.a.lo1 ≤ x1 ∧ x1 ≤ 12 * c.a.hi1
  m2 : 12 * c.a.lo2 ≤ x2 ∧ x2 ≤ 12 * c.a.hi2
  m3 : 12 * c.b.lo0 ≤ y0 ∧ y0 ≤ 12 * c.b.hi0
  m4 : 12 * c.b.lo1 ≤ y1 ∧ y1 ≤ 12 * c.b.hi1
  m5 : 12 * c.b.lo2 ≤ y2 ∧ y2 ≤ 12 * c.b.hi2
  lv : 1 ≤ c.lv ∧ c.lv ≤ 8
  sl : 1 ≤ c.slow ∧ c.slow ≤ 8
  gp : 0 ≤ c.gap ∧ c.gap ≤ 20
theorem Fit.b {c : Cl} {x0 x1 x2 y0 y1 y2 : Int} {br : List Bool} (h : Fit c x0 x1 x2 y0 y1 y2 br) : (-204 ≤ x0 ∧ x0 ≤ 216) ∧ (-204 ≤ x1 ∧ x1 ≤ 216) ∧ (-204 ≤ x2 ∧ x2 ≤ 216) ∧ (-204 ≤ y0 ∧ y0 ≤ 216) ∧ (-204 ≤ y1 ∧ y1 ≤ 216) ∧ (-204 ≤ y2 ∧ y2 ≤ 216) := by
  have a0 := h.ha.j0
  have a1 := h.ha.j1
  have a2 := h.ha.j2
  have b0 := h.hb.j0
  have b1 := h.hb.j1
  have b2 := h.hb.j2
  have m0 := h.m0
  have m1 := h.m1
  have m2 := h.m2
  have m3 := h.m3
  have m4 := h.m4
  have m5 := h.m5
  exact ⟨by omega, by omega, by omega, by omega, by omega, by omega⟩
def vioB (c : Cl) (w0 w1 w2 w3 w4 w5 i0 i1 i2 i3 i4 i5 : Int) (br : List Bool) : List Vi := vioT c w0 w1 w2 w3 w4 w5 i0 i1 i2 i3 i4 i5 br (kdB c.a c.b i0 i1 i2 i3 i4 i5 c.gap)
def byI (i w : Int) : Int := mxI (i - w) (w - i)
end Go.Proofs.Ytnecdcaaknhgpaa

namespace Go.Proofs.Ytnecdcaaknhgpaa
set_option maxRecDepth 100000
set_option maxHeartbeats 4000000
set_option linter.unusedSimpArgs false
set_option linter.unusedVariables false
open Go Go.Zv
def hcl (g : Int) : Cl := { a := ⟨0, 0, 4, 3, 2, 1, -17, -17, -17, 18, 18, 18⟩, b := ⟨109850000, 0, 4, 3, 2, 1, -17, -17, -17, 18, 18, 18⟩, h0 := 0, h1 := 0, h2 := 0, h3 := 9, h4 := 0, h5 := 0, fx := [[(26364000, 8788000), (39546000, 8788000), (39546000, 17576000), (26364000, 17576000)]], pl := [], pt := [], bt := [], per := 0, lv := 8, la := 4, lj := 2, mv := 4, ma := 2, mj := 1, zn := [[(35152000, -17576000), (52728000, -17576000), (52728000, 0), (35152000, 0)]], gap := g, slow := 2 }
theorem hok_a (g : Int) : OKa (hcl g).a := by constructor <;> simp [hcl]
theorem hok_b (g : Int) : OKa (hcl g).b := by constructor <;> simp [hcl]
theorem c70 : pc E 70 [] = some (.agg [.int .i64 0, .int .i64 0, .int .i64 4, .int .i64 3, .int .i64 2, .int .i64 1, .int .i64 (-17), .int .i64 (-17), .int .i64 (-17), .int .i64 18, .int .i64 18, .int .i64 18, .int .i64 109850000, .int .i64 0, .int .i64 4, .int .i64 3, .int .i64 2, .int .i64 1, .int .i64 (-17), .int .i64 (-17), .int .i64 (-17), .int .i64 18, .int .i64 18, .int .i64 18, .int .i64 0, .int .i64 0, .int .i64 0, .int .i64 9, .int .i64 0, .int .i64 0, .vs [[.vs [[.int .i64 26364000, .int .i64 8788000], [.int .i64 39546000, .int .i64 8788000], [.int .i64 39546000, .int .i64 17576000], [.int .i64 26364000, .int .i64 17576000]]]], .vs [], .vs [], .vs [], .int .i64 0, .int .i64 8, .int .i64 4, .int .i64 2, .int .i64 4, .int .i64 2, .int .i64 1, .vs [[.vs [[.int .i64 35152000, .int .i64 (-17576000)], [.int .i64 52728000, .int .i64 (-17576000)], [.int .i64 52728000, .int .i64 0], [.int .i64 35152000, .int .i64 0]]]], .int .i64 10, .int .i64 2]) := by
  refine pc_of_run 60 ?_
  kernel_rfl
theorem hv_l : vioB (hcl 10) 0 0 0 108 0 0 0 0 0 108 0 0 [true] = [(3, 0, 0, 0), (4, 0, 0, 0)] := by kernel_rfl
theorem h41_l : pc E 41 [.agg [.int .i64 0, .int .i64 0, .int .i64 4, .int .i64 3, .int .i64 2, .int .i64 1, .int .i64 (-17), .int .i64 (-17), .int .i64 (-17), .int .i64 18, .int .i64 18, .int .i64 18, .int .i64 109850000, .int .i64 0, .int .i64 4, .int .i64 3, .int .i64 2, .int .i64 1, .int .i64 (-17), .int .i64 (-17), .int .i64 (-17), .int .i64 18, .int .i64 18, .int .i64 18, .int .i64 0, .int .i64 0, .int .i64 0, .int .i64 9, .int .i64 0, .int .i64 0, .vs [[.vs [[.int .i64 26364000, .int .i64 8788000], [.int .i64 39546000, .int .i64 8788000], [.int .i64 39546000, .int .i64 17576000], [.int .i64 26364000, .int .i64 17576000]]]], .vs [], .vs [], .vs [], .int .i64 0, .int .i64 8, .int .i64 4, .int .i64 2, .int .i64 4, .int .i64 2, .int .i64 1, .vs [[.vs [[.int .i64 35152000, .int .i64 (-17576000)], [.int .i64 52728000, .int .i64 (-17576000)], [.int .i64 52728000, .int .i64 0], [.int .i64 35152000, .int .i64 0]]]], .int .i64 10, .int .i64 2], .agg [.int .i64 0, .int .i64 0, .int .i64 0, .int .i64 108, .int .i64 0, .int .i64 0], .agg [.int .i64 0, .int .i64 0, .int .i64 0, .int .i64 108, .int .i64 0, .int .i64 0], .vs [[.bool true]]] = some (.os 4 [[.int .i64 3, .int .i64 0, .int .i64 0, .int .i64 0], [.int .i64 4, .int .i64 0, .int .i64 0, .int .i64 0]]) := by
  have h := c41 (hcl 10) (hok_a 10) (hok_b 10) 0 0 0 108 0 0 0 0 0 108 0 0 (by decide) (by decide) (by decide) (by decide) (by decide) (by decide) [true] rfl (by decide) (by decide) _ (c44 (hcl 10).cel (hok_a 10) (hok_b 10) 0 0 0 108 0 0 (by decide) (by decide) (by decide) (by decide) (by decide) (by decide))
  exact h.trans (congrArg (fun l : List Vi => some (LV.os 4 (l.map v4))) hv_l)
theorem hv_n0 : vioB (hcl 10) 0 0 0 108 0 0 0 0 0 108 0 0 [false] = [] := by kernel_rfl
theorem h41_n0 : pc E 41 [.agg [.int .i64 0, .int .i64 0, .int .i64 4, .int .i64 3, .int .i64 2, .int .i64 1, .int .i64 (-17), .int .i64 (-17), .int .i64 (-17), .int .i64 18, .int .i64 18, .int .i64 18, .int .i64 109850000, .int .i64 0, .int .i64 4, .int .i64 3, .int .i64 2, .int .i64 1, .int .i64 (-17), .int .i64 (-17), .int .i64 (-17), .int .i64 18, .int .i64 18, .int .i64 18, .int .i64 0, .int .i64 0, .int .i64 0, .int .i64 9, .int .i64 0, .int .i64 0, .vs [[.vs [[.int .i64 26364000, .int .i64 8788000], [.int .i64 39546000, .int .i64 8788000], [.int .i64 39546000, .int .i64 17576000], [.int .i64 26364000, .int .i64 17576000]]]], .vs [], .vs [], .vs [], .int .i64 0, .int .i64 8, .int .i64 4, .int .i64 2, .int .i64 4, .int .i64 2, .int .i64 1, .vs [[.vs [[.int .i64 35152000, .int .i64 (-17576000)], [.int .i64 52728000, .int .i64 (-17576000)], [.int .i64 52728000, .int .i64 0], [.int .i64 35152000, .int .i64 0]]]], .int .i64 10, .int .i64 2], .agg [.int .i64 0, .int .i64 0, .int .i64 0, .int .i64 108, .int .i64 0, .int .i64 0], .agg [.int .i64 0, .int .i64 0, .int .i64 0, .int .i64 108, .int .i64 0, .int .i64 0], .vs [[.bool false]]] = some (.os 4 []) := by
  have h := c41 (hcl 10) (hok_a 10) (hok_b 10) 0 0 0 108 0 0 0 0 0 108 0 0 (by decide) (by decide) (by decide) (by decide) (by decide) (by decide) [false] rfl (by decide) (by decide) _ (c44 (hcl 10).cel (hok_a 10) (hok_b 10) 0 0 0 108 0 0 (by decide) (by decide) (by decide) (by decide) (by decide) (by decide))
  exact h.trans (congrArg (fun l : List Vi => some (LV.os 4 (l.map v4))) hv_n0)
theorem hv_m : vioB (hcl 10) 0 0 0 108 0 0 0 0 9 105 0 0 [false] = [(1, 0, 2, 0)] := by kernel_rfl
theorem h41_m : pc E 41 [.agg [.int .i64 0, .int .i64 0, .int .i64 4, .int .i64 3, .int .i64 2, .int .i64 1, .int .i64 (-17), .int .i64 (-17), .int .i64 (-17), .int .i64 18, .int .i64 18, .int .i64 18, .int .i64 109850000, .int .i64 0, .int .i64 4, .int .i64 3, .int .i64 2, .int .i64 1, .int .i64 (-17), .int .i64 (-17), .int .i64 (-17), .int .i64 18, .int .i64 18, .int .i64 18, .int .i64 0, .int .i64 0, .int .i64 0, .int .i64 9, .int .i64 0, .int .i64 0, .vs [[.vs [[.int .i64 26364000, .int .i64 8788000], [.int .i64 39546000, .int .i64 8788000], [.int .i64 39546000, .int .i64 17576000], [.int .i64 26364000, .int .i64 17576000]]]], .vs [], .vs [], .vs [], .int .i64 0, .int .i64 8, .int .i64 4, .int .i64 2, .int .i64 4, .int .i64 2, .int .i64 1, .vs [[.vs [[.int .i64 35152000, .int .i64 (-17576000)], [.int .i64 52728000, .int .i64 (-17576000)], [.int .i64 52728000, .int .i64 0], [.int .i64 35152000, .int .i64 0]]]], .int .i64 10, .int .i64 2], .agg [.int .i64 0, .int .i64 0, .int .i64 0, .int .i64 108, .int .i64 0, .int .i64 0], .agg [.int .i64 0, .int .i64 0, .int .i64 9, .int .i64 105, .int .i64 0, .int .i64 0], .vs [[.bool false]]] = some (.os 4 [[.int .i64 1, .int .i64 0, .int .i64 2, .int .i64 0]]) := by
  have h := c41 (hcl 10) (hok_a 10) (hok_b 10) 0 0 0 108 0 0 0 0 9 105 0 0 (by decide) (by decide) (by decide) (by decide) (by decide) (by decide) [false] rfl (by decide) (by decide) _ (c44 (hcl 10).cel (hok_a 10) (hok_b 10) 0 0 9 105 0 0 (by decide) (by decide) (by decide) (by decide) (by decide) (by decide))
  exact h.trans (congrArg (fun l : List Vi => some (LV.os 4 (l.map v4))) hv_m)
theorem hv_n : vioB (hcl 10) 0 0 0 108 0 0 0 0 9 105 0 0 [true] = [(1, 0, 2, 0), (1, 1, 0, 0), (3, 0, 0, 0), (4, 0, 0, 0)] := by kernel_rfl
theorem h41_n : pc E 41 [.agg [.int .i64 0, .int .i64 0, .int .i64 4, .int .i64 3, .int .i64 2, .int .i64 1, .int .i64 (-17), .int .i64 (-17), .int .i64 (-17), .int .i64 18, .int .i64 18, .int .i64 18, .int .i64 109850000, .int .i64 0, .int .i64 4, .int .i64 3, .int .i64 2, .int .i64 1, .int .i64 (-17), .int .i64 (-17), .int .i64 (-17), .int .i64 18, .int .i64 18, .int .i64 18, .int .i64 0, .int .i64 0, .int .i64 0, .int .i64 9, .int .i64 0, .int .i64 0, .vs [[.vs [[.int .i64 26364000, .int .i64 8788000], [.int .i64 39546000, .int .i64 8788000], [.int .i64 39546000, .int .i64 17576000], [.int .i64 26364000, .int .i64 17576000]]]], .vs [], .vs [], .vs [], .int .i64 0, .int .i64 8, .int .i64 4, .int .i64 2, .int .i64 4, .int .i64 2, .int .i64 1, .vs [[.vs [[.int .i64 35152000, .int .i64 (-17576000)], [.int .i64 52728000, .int .i64 (-17576000)], [.int .i64 52728000, .int .i64 0], [.int .i64 35152000, .int .i64 0]]]], .int .i64 10, .int .i64 2], .agg [.int .i64 0, .int .i64 0, .int .i64 0, .int .i64 108, .int .i64 0, .int .i64 0], .agg [.int .i64 0, .int .i64 0, .int .i64 9, .int .i64 105, .int .i64 0, .int .i64 0], .vs [[.bool true]]] = some (.os 4 [[.int .i64 1, .int .i64 0, .int .i64 2, .int .i64 0], [.int .i64 1, .int .i64 1, .int .i64 0, .int .i64 0], [.int .i64 3, .int .i64 0, .int .i64 0, .int .i64 0], [.int .i64 4, .int .i64 0, .int .i64 0, .int .i64 0]]) := by
  have h := c41 (hcl 10) (hok_a 10) (hok_b 10) 0 0 0 108 0 0 0 0 9 105 0 0 (by decide) (by decide) (by decide) (by decide) (by decide) (by decide) [true] rfl (by decide) (by decide) _ (c44 (hcl 10).cel (hok_a 10) (hok_b 10) 0 0 9 105 0 0 (by decide) (by decide) (by decide) (by decide) (by decide) (by decide))
  exact h.trans (congrArg (fun l : List Vi => some (LV.os 4 (l.map v4))) hv_n)
theorem hv_o : vioB (hcl 16) 0 0 0 108 0 0 0 0 0 108 0 0 [false] = [(2, 0, 0, 0)] := by kernel_rfl
theorem h41_o : pc E 41 [.agg [.int .i64 0, .int .i64 0, .int .i64 4, .int .i64 3, .int .i64 2, .int .i64 1, .int .i64 (-17), .int .i64 (-17), .int .i64 (-17), .int .i64 18, .int .i64 18, .int .i64 18, .int .i64 109850000, .int .i64 0, .int .i64 4, .int .i64 3, .int .i64 2, .int .i64 1, .int .i64 (-17), .int .i64 (-17), .int .i64 (-17), .int .i64 18, .int .i64 18, .int .i64 18, .int .i64 0, .int .i64 0, .int .i64 0, .int .i64 9, .int .i64 0, .int .i64 0, .vs [[.vs [[.int .i64 26364000, .int .i64 8788000], [.int .i64 39546000, .int .i64 8788000], [.int .i64 39546000, .int .i64 17576000], [.int .i64 26364000, .int .i64 17576000]]]], .vs [], .vs [], .vs [], .int .i64 0, .int .i64 8, .int .i64 4, .int .i64 2, .int .i64 4, .int .i64 2, .int .i64 1, .vs [[.vs [[.int .i64 35152000, .int .i64 (-17576000)], [.int .i64 52728000, .int .i64 (-17576000)], [.int .i64 52728000, .int .i64 0], [.int .i64 35152000, .int .i64 0]]]], .int .i64 16, .int .i64 2], .agg [.int .i64 0, .int .i64 0, .int .i64 0, .int .i64 108, .int .i64 0, .int .i64 0], .agg [.int .i64 0, .int .i64 0, .int .i64 0, .int .i64 108, .int .i64 0, .int .i64 0], .vs [[.bool false]]] = some (.os 4 [[.int .i64 2, .int .i64 0, .int .i64 0, .int .i64 0]]) := by
  have h := c41 (hcl 16) (hok_a 16) (hok_b 16) 0 0 0 108 0 0 0 0 0 108 0 0 (by decide) (by decide) (by decide) (by decide) (by decide) (by decide) [false] rfl (by decide) (by decide) _ (c44 (hcl 16).cel (hok_a 16) (hok_b 16) 0 0 0 108 0 0 (by decide) (by decide) (by decide) (by decide) (by decide) (by decide))
  exact h.trans (congrArg (fun l : List Vi => some (LV.os 4 (l.map v4))) hv_o)
theorem hkd : kdB (hcl 16).a (hcl 16).b 0 0 0 108 0 0 16 = false := by kernel_rfl
theorem h44 : pc E 44 [.agg [.int .i64 0, .int .i64 0, .int .i64 4, .int .i64 3, .int .i64 2, .int .i64 1, .int .i64 (-17), .int .i64 (-17), .int .i64 (-17), .int .i64 18, .int .i64 18, .int .i64 18, .int .i64 109850000, .int .i64 0, .int .i64 4, .int .i64 3, .int .i64 2, .int .i64 1, .int .i64 (-17), .int .i64 (-17), .int .i64 (-17), .int .i64 18, .int .i64 18, .int .i64 18, .int .i64 0, .int .i64 0, .int .i64 0, .int .i64 9, .int .i64 0, .int .i64 0, .vs [[.vs [[.int .i64 26364000, .int .i64 8788000], [.int .i64 39546000, .int .i64 8788000], [.int .i64 39546000, .int .i64 17576000], [.int .i64 26364000, .int .i64 17576000]]]], .vs [], .vs [], .vs [], .int .i64 0, .int .i64 8, .int .i64 4, .int .i64 2, .int .i64 4, .int .i64 2, .int .i64 1, .vs [[.vs [[.int .i64 35152000, .int .i64 (-17576000)], [.int .i64 52728000, .int .i64 (-17576000)], [.int .i64 52728000, .int .i64 0], [.int .i64 35152000, .int .i64 0]]]], .int .i64 16, .int .i64 2], .agg [.int .i64 0, .int .i64 0, .int .i64 0, .int .i64 108, .int .i64 0, .int .i64 0]] = some (.bool false) := by
  have h := c44 (hcl 16).cel (hok_a 16) (hok_b 16) 0 0 0 108 0 0 (by decide) (by decide) (by decide) (by decide) (by decide) (by decide)
  exact h.trans (congrArg (fun b => some (LV.bool b)) hkd)
theorem h39 : pc E 39 [.agg [.int .i64 (-1), .int .i64 12, .int .i64 13]] = some (.tup [.agg [.int .i64 (-1), .int .i64 1, .int .i64 1], .agg [.int .i64 0, .int .i64 1, .int .i64 2]]) := c39 (-1) 12 13 (by decide) (by decide) (by decide)
theorem h71_l : pc E 71 [.vs [[.int .i64 3, .int .i64 0, .int .i64 0, .int .i64 0], [.int .i64 4, .int .i64 0, .int .i64 0, .int .i64 0]], .vs [[.int .i64 3, .int .i64 0, .int .i64 0, .int .i64 0], [.int .i64 4, .int .i64 0, .int .i64 0, .int .i64 0]]] = some (.bool true) := c71 [(3, 0, 0, 0), (4, 0, 0, 0)] [(3, 0, 0, 0), (4, 0, 0, 0)] (by decide) (by decide)
theorem h71_m : pc E 71 [.vs [[.int .i64 1, .int .i64 0, .int .i64 2, .int .i64 0]], .vs [[.int .i64 1, .int .i64 0, .int .i64 2, .int .i64 0]]] = some (.bool true) := c71 [(1, 0, 2, 0)] [(1, 0, 2, 0)] (by decide) (by decide)
theorem h71_n : pc E 71 [.vs [[.int .i64 1, .int .i64 0, .int .i64 2, .int .i64 0], [.int .i64 1, .int .i64 1, .int .i64 0, .int .i64 0], [.int .i64 3, .int .i64 0, .int .i64 0, .int .i64 0], [.int .i64 4, .int .i64 0, .int .i64 0, .int .i64 0]], .vs [[.int .i64 1, .int .i64 0, .int .i64 2, .int .i64 0], [.int .i64 1, .int .i64 1, .int .i64 0, .int .i64 0], [.int .i64 3, .int .i64 0, .int .i64 0, .int .i64 0], [.int .i64 4, .int .i64 0, .int .i64 0, .int .i64 0]]] = some (.bool true) := c71 [(1, 0, 2, 0), (1, 1, 0, 0), (3, 0, 0, 0), (4, 0, 0, 0)] [(1, 0, 2, 0), (1, 1, 0, 0), (3, 0, 0, 0), (4, 0, 0, 0)] (by decide) (by decide)
theorem h71_o : pc E 71 [.vs [[.int .i64 2, .int .i64 0, .int .i64 0, .int .i64 0]], .vs [[.int .i64 2, .int .i64 0, .int .i64 0, .int .i64 0]]] = some (.bool true) := c71 [(2, 0, 0, 0)] [(2, 0, 0, 0)] (by decide) (by decide)
theorem c38 : pc E 38 [] = some (.bool true) := by
  rw [pc_eq]; simp +contextual -implicitDefEqProofs (maxSteps := 2000000) only [go_sem, ↓reduceIte, E_38, A38, c70, h39, h41_l, h41_n0, h41_m, h41_n, h41_o, h44, h71_l, h71_m, h71_n, h71_o, LV.scal, Bool.and_self]
end Go.Proofs.Ytnecdcaaknhgpaa
