/- Part of the proof: the evaluation of the program's code and its tie to the machine, or what functions of the program compute over it. -/
import Derived.Test.YtnecdcaaknhgpaaGreatPart1
import Derived.Test.YtnecdcaaknhgpaaGreatEng6
import Derived.KernelRfl
set_option maxRecDepth 100000
set_option maxHeartbeats 4000000
set_option linter.unusedSimpArgs false
set_option linter.unusedVariables false
namespace Go.Geo
open Go Go.Zv
def rotL (r : Nat) (l : List Pt) : List Pt := (List.range l.length).map fun i => ptn l (i + r)
end Go.Geo

namespace Go.Geo
open Go Go.Zv
def rc (fx fy l w X Y : Int) : List Pt := [(fx + w * Y, fy - w * X), (fx + l * X + w * Y, fy + l * Y - w * X), (fx + l * X - w * Y, fy + l * Y + w * X), (fx - w * Y, fy + w * X)]
theorem cut_no {ax ay bx by_ cx cy dx dy : Int} (h1 : 0 < crW ax ay bx by_ cx cy) (h2 : 0 < crW ax ay bx by_ dx dy) (h3 : 0 < crW cx cy dx dy ax ay) (h4 : 0 < crW cx cy dx dy bx by_) : cutB ax ay bx by_ cx cy dx dy = false := by
 have s : ∀ {n : Int}, 0 < n → sgn n = 1 := fun h => by unfold sgn; rw [if_pos h]
 unfold cutB endsB sdI
 rw [s h1, s h2, s h3, s h4]
 have d : decide (w64 (1 * 1) < 0) = false := by decide
 have d2 : decide ((1 : Int) = 0) = false := by decide
 simp only [d, d2, Bool.false_and, Bool.or_false]
structure RCok (fx fy l w X Y R : Int) : Prop where
 l0 : 0 < l
 w0 : 0 < w
 R0 : 0 < R
 n : X * X + Y * Y = R
 b : ∀ p ∈ rc fx fy l w X Y, (-439400000 ≤ p.1 ∧ p.1 ≤ 439400000) ∧ (-439400000 ≤ p.2 ∧ p.2 ≤ 439400000)
theorem crW_M {ax ay bx by_ px py : Int} (h1 : -439400000 ≤ ax ∧ ax ≤ 439400000) (h2 : -439400000 ≤ ay ∧ ay ≤ 439400000) (h3 : -439400000 ≤ bx ∧ bx ≤ 439400000) (h4 : -439400000 ≤ by_ ∧ by_ ≤ 439400000) (h5 : -439400000 ≤ px ∧ px ≤ 439400000) (h6 : -439400000 ≤ py ∧ py ≤ 439400000) : crW ax ay bx by_ px py = cr ax ay bx by_ px py := by
 refine crW_B ?_ ?_ ?_ ?_ ?_ ?_ <;> unfold B <;> omega
theorem mayB_iff {p : Pt} : mayB p = true ↔ (-439400000 ≤ p.1 ∧ p.1 ≤ 439400000) ∧ (-439400000 ≤ p.2 ∧ p.2 ≤ 439400000) := by
 unfold mayB mxI mnI
 simp only [Bool.and_eq_true, decide_eq_true_eq]
 split <;> split <;> omega
theorem rc_may {fx fy l w X Y R : Int} (h : RCok fx fy l w X Y R) : (rc fx fy l w X Y).all mayB = true := by
 rw [List.all_eq_true]; intro p hp; exact mayB_iff.2 (h.b p hp)
theorem rc_sim {fx fy l w X Y R : Int} (h : RCok fx fy l w X Y R) : simB (rc fx fy l w X Y) = true := by
 have b0 := h.b (fx + w * Y, fy - w * X) (by simp [rc])
 have b1 := h.b (fx + l * X + w * Y, fy + l * Y - w * X) (by simp [rc])
 have b2 := h.b (fx + l * X - w * Y, fy + l * Y + w * X) (by simp [rc])
 have b3 := h.b (fx - w * Y, fy + w * X) (by simp [rc])
 have hp : 0 < 2 * l * w * R := Int.mul_pos (Int.mul_pos (by have := h.l0; omega) h.w0) h.R0
 have n := h.n
 have e012 : cr (fx + w * Y) (fy - w * X) (fx + l * X + w * Y) (fy + l * Y - w * X) (fx + l * X - w * Y) (fy + l * Y + w * X) = 2 * l * w * R := by rw [← n]; unfold cr; grind
 have e013 : cr (fx + w * Y) (fy - w * X) (fx + l * X + w * Y) (fy + l * Y - w * X) (fx - w * Y) (fy + w * X) = 2 * l * w * R := by rw [← n]; unfold cr; grind
 have e123 : cr (fx + l * X + w * Y) (fy + l * Y - w * X) (fx + l * X - w * Y) (fy + l * Y + w * X) (fx - w * Y) (fy + w * X) = 2 * l * w * R := by rw [← n]; unfold cr; grind
 have e120 : cr (fx + l * X + w * Y) (fy + l * Y - w * X) (fx + l * X - w * Y) (fy + l * Y + w * X) (fx + w * Y) (fy - w * X) = 2 * l * w * R := by rw [← n]; unfold cr; grind
 have e230 : cr (fx + l * X - w * Y) (fy + l * Y + w * X) (fx - w * Y) (fy + w * X) (fx + w * Y) (fy - w * X) = 2 * l * w * R := by rw [← n]; unfold cr; grind
 have e231 : cr (fx + l * X - w * Y) (fy + l * Y + w * X) (fx - w * Y) (fy + w * X) (fx + l * X + w * Y) (fy + l * Y - w * X) = 2 * l * w * R := by rw [← n]; unfold cr; grind
 have e301 : cr (fx - w * Y) (fy + w * X) (fx + w * Y) (fy - w * X) (fx + l * X + w * Y) (fy + l * Y - w * X) = 2 * l * w * R := by rw [← n]; unfold cr; grind
 have e302 : cr (fx - w * Y) (fy + w * X) (fx + w * Y) (fy - w * X) (fx + l * X - w * Y) (fy + l * Y + w * X) = 2 * l * w * R := by rw [← n]; unfold cr; grind
 unfold rc
 generalize fx + w * Y = x0 at *
 generalize fy - w * X = y0 at *
 generalize fx + l * X + w * Y = x1 at *
 generalize fy + l * Y - w * X = y1 at *
 generalize fx + l * X - w * Y = x2 at *
 generalize fy + l * Y + w * X = y2 at *
 generalize fx - w * Y = x3 at *
 generalize fy + w * X = y3 at *
 simp only at b0 b1 b2 b3
 rw [← crW_M b0.1 b0.2 b1.1 b1.2 b2.1 b2.2] at e012
 rw [← crW_M b0.1 b0.2 b1.1 b1.2 b3.1 b3.2] at e013
 rw [← crW_M b1.1 b1.2 b2.1 b2.2 b3.1 b3.2] at e123
 rw [← crW_M b1.1 b1.2 b2.1 b2.2 b0.1 b0.2] at e120
 rw [← crW_M b2.1 b2.2 b3.1 b3.2 b0.1 b0.2] at e230
 rw [← crW_M b2.1 b2.2 b3.1 b3.2 b1.1 b1.2] at e231
 rw [← crW_M b3.1 b3.2 b0.1 b0.2 b1.1 b1.2] at e301
 rw [← crW_M b3.1 b3.2 b0.1 b0.2 b2.1 b2.2] at e302
 have q02 := cut_no (by rw [e012]; exact hp) (by rw [e013]; exact hp) (by rw [e230]; exact hp) (by rw [e231]; exact hp)
 have q20 := cut_no (by rw [e230]; exact hp) (by rw [e231]; exact hp) (by rw [e012]; exact hp) (by rw [e013]; exact hp)
 have q13 := cut_no (by rw [e123]; exact hp) (by rw [e120]; exact hp) (by rw [e301]; exact hp) (by rw [e302]; exact hp)
 have q31 := cut_no (by rw [e301]; exact hp) (by rw [e302]; exact hp) (by rw [e123]; exact hp) (by rw [e120]; exact hp)
 have s : ∀ {n : Int}, n = 2 * l * w * R → ¬ (sgn n = 0) := fun h => by rw [h]; unfold sgn; rw [if_pos hp]; decide
 have hr : List.range 4 = [0, 1, 2, 3] := rfl
 have s0 := s e012
 have s1 := s e123
 have s2 := s e230
 have s3 := s e301
 simp [simB, bad1, bad2, adjB, edn, cutE, ptn, oriE, hr, s0, s1, s2, s3, q02, q13, q20, q31]
theorem seg_on {ax ay bx by_ px py : Int} (h1 : -439400000 ≤ ax ∧ ax ≤ 439400000) (h2 : -439400000 ≤ ay ∧ ay ≤ 439400000) (h3 : -439400000 ≤ bx ∧ bx ≤ 439400000) (h4 : -439400000 ≤ by_ ∧ by_ ≤ 439400000) (h5 : ax + bx = 2 * px) (h6 : ay + by_ = 2 * py) : onB ax ay bx by_ px py = true := by
 unfold onB
 rw [crW_M h1 h2 h3 h4 (by omega) (by omega)]
 have e : cr ax ay bx by_ px py = 0 := by
  have e1 : bx = 2 * px - ax := by omega
  have e2 : by_ = 2 * py - ay := by omega
  rw [e1, e2]; unfold cr; grind
 rw [e, sgn_zero]
 simp only [decide_true, Bool.and_true]
 unfold withinB mnI mxI
 simp only [Bool.and_eq_true, decide_eq_true_eq]
 split <;> split <;> omega
theorem rc_loc {fx fy l w X Y R : Int} (h : RCok fx fy l w X Y R) : locI (rc fx fy l w X Y) (fx, fy) = 0 ∧ locI (rc fx fy l w X Y) (fx + l * X, fy + l * Y) = 0 := by
 have b0 := h.b (fx + w * Y, fy - w * X) (by simp [rc])
 have b1 := h.b (fx + l * X + w * Y, fy + l * Y - w * X) (by simp [rc])
 have b2 := h.b (fx + l * X - w * Y, fy + l * Y + w * X) (by simp [rc])
 have b3 := h.b (fx - w * Y, fy + w * X) (by simp [rc])
 simp only at b0 b1 b2 b3
 have k1 := seg_on (px := fx) (py := fy) b3.1 b3.2 b0.1 b0.2 (by omega) (by omega)
 have k2 := seg_on (px := fx + l * X) (py := fy + l * Y) b1.1 b1.2 b2.1 b2.2 (by omega) (by omega)
 unfold locI
 constructor
 ·rw [if_pos]; simp [rc, eds, onE, k1]
 ·rw [if_pos]; simp [rc, eds, onE, k2]
theorem arF_M {x : Int} {e : Pt × Pt} (hx : -2000000000000000000 ≤ x ∧ x ≤ 2000000000000000000) (h1 : -439400000 ≤ e.1.1 ∧ e.1.1 ≤ 439400000) (h2 : -439400000 ≤ e.1.2 ∧ e.1.2 ≤ 439400000) (h3 : -439400000 ≤ e.2.1 ∧ e.2.1 ≤ 439400000) (h4 : -439400000 ≤ e.2.2 ∧ e.2.2 ≤ 439400000) :
  arF x e = x + (e.1.1 * e.2.2 - e.1.2 * e.2.1) ∧ -400000000000000000 ≤ e.1.1 * e.2.2 - e.1.2 * e.2.1 ∧ e.1.1 * e.2.2 - e.1.2 * e.2.1 ≤ 400000000000000000 := by
 have m1 := mul_bd h1.1 h1.2 h4.1 h4.2
 have m2 := mul_bd h2.1 h2.2 h3.1 h3.2
 unfold arF w64
 refine ⟨?_, by omega, by omega⟩
 rw [wrap_small (n := e.1.1 * e.2.2) (by omega) (by omega), wrap_small (n := e.1.2 * e.2.1) (by omega) (by omega), wrap_small (n := e.1.1 * e.2.2 - e.1.2 * e.2.1) (by omega) (by omega), wrap_small (by omega) (by omega)]
theorem rc_area {fx fy l w X Y R : Int} (h : RCok fx fy l w X Y R) : areaW (rc fx fy l w X Y) = 4 * l * w * R := by
 have b0 := h.b (fx + w * Y, fy - w * X) (by simp [rc])
 have b1 := h.b (fx + l * X + w * Y, fy + l * Y - w * X) (by simp [rc])
 have b2 := h.b (fx + l * X - w * Y, fy + l * Y + w * X) (by simp [rc])
 have b3 := h.b (fx - w * Y, fy + w * X) (by simp [rc])
 have n := h.n
 have fin : (0 + ((fx + w * Y) * (fy + l * Y - w * X) - (fy - w * X) * (fx + l * X + w * Y)) + ((fx + l * X + w * Y) * (fy + l * Y + w * X) - (fy + l * Y - w * X) * (fx + l * X - w * Y)) + ((fx + l * X - w * Y) * (fy + w * X) - (fy + l * Y + w * X) * (fx - w * Y)) + ((fx - w * Y) * (fy - w * X) - (fy + w * X) * (fx + w * Y))) = 4 * l * w * R := by rw [← n]; grind
 rw [← fin]
 unfold rc areaW
 simp only at b0 b1 b2 b3
 generalize fx + w * Y = x0 at *
 generalize fy - w * X = y0 at *
 generalize fx + l * X + w * Y = x1 at *
 generalize fy + l * Y - w * X = y1 at *
 generalize fx + l * X - w * Y = x2 at *
 generalize fy + l * Y + w * X = y2 at *
 generalize fx - w * Y = x3 at *
 generalize fy + w * X = y3 at *
 have a0 := arF_M (x := 0) (e := ((x0, y0), (x1, y1))) (by omega) b0.1 b0.2 b1.1 b1.2
 simp only at a0
 have a1 := arF_M (x := 0 + (x0 * y1 - y0 * x1)) (e := ((x1, y1), (x2, y2))) (by omega) b1.1 b1.2 b2.1 b2.2
 simp only at a1
 have a2 := arF_M (x := 0 + (x0 * y1 - y0 * x1) + (x1 * y2 - y1 * x2)) (e := ((x2, y2), (x3, y3))) (by omega) b2.1 b2.2 b3.1 b3.2
 simp only at a2
 have a3 := arF_M (x := 0 + (x0 * y1 - y0 * x1) + (x1 * y2 - y1 * x2) + (x2 * y3 - y2 * x3)) (e := ((x3, y3), (x0, y0))) (by omega) b3.1 b3.2 b0.1 b0.2
 simp only at a3
 show arF (arF (arF (arF 0 ((x0, y0), (x1, y1))) ((x1, y1), (x2, y2))) ((x2, y2), (x3, y3))) ((x3, y3), (x0, y0)) = _
 rw [a0.1, a1.1, a2.1, a3.1]
theorem rc_val {fx fy l w X Y R : Int} (h : RCok fx fy l w X Y R) : valB (rc fx fy l w X Y) = true := by
 unfold valB
 rw [rc_may h, rc_sim h, rc_area h]
 have hp : 0 < 4 * l * w * R := Int.mul_pos (Int.mul_pos (by have := h.l0; omega) h.w0) h.R0
 simp [rc, hp]
end Go.Geo

namespace Go.Geo
open Go Go.Zv
theorem w64_add (x y : Int) : w64 (w64 x + y) = w64 (x + y) := by
 simp only [w64, IntKind.wrap, IntKind.signed, IntKind.bits]; simp; omega
end Go.Geo

namespace Go.Geo
open Go Go.Zv
def adjM (n i k : Nat) : Bool := decide (k % n = i % n) || (decide (k % n = (i + 1) % n) || decide (i % n = (k + 1) % n))
def badM (l : List Pt) (i k : Nat) : Bool := !adjM l.length i k && cutE (edn l i) (edn l k)
def badN (l : List Pt) (i : Nat) : Bool := decide (oriE (ptn l i) (ptn l (i + 1)) (ptn l (i + 2)) = 0) || ((List.range l.length).map (badM l i)).any id
end Go.Geo

namespace Go.Geo
open Go Go.Zv
theorem w64_sub (x y : Int) : w64 (w64 x - y) = w64 (x - y) := by
 have := w64_add x (-y); rw [Int.sub_eq_add_neg, Int.sub_eq_add_neg]; exact this
theorem w64_add' (x y : Int) : w64 (x + w64 y) = w64 (x + y) := by rw [Int.add_comm, w64_add, Int.add_comm]
def dE (e : Pt × Pt) : Int := e.1.1 * e.2.2 - e.1.2 * e.2.1
def swE (e : Pt × Pt) : Pt × Pt := (e.2, e.1)
end Go.Geo

namespace Go.Geo
open Go Go.Zv
/-! Winding numbers over the rationals -/
abbrev Q2 := Rat × Rat
def xq (u v : Q2) : Rat := u.1 * v.2 - u.2 * v.1
def dq (u v : Q2) : Rat := u.1 * v.1 + u.2 * v.2
def sq (a x : Q2) : Q2 := (a.1 - x.1, a.2 - x.2)
def hit (d u v : Q2) : Int := if 0 < xq d u then (if 0 < xq d v then 0 else if xq u v < 0 then -1 else 0) else if 0 < xq d v then (if 0 < xq u v then 1 else 0) else 0
def OnV (u v : Q2) : Prop := xq u v = 0 ∧ dq u v ≤ 0
def Wd (d e u : Q2) : Int := if 0 < xq d u then (if 0 < xq e u then 0 else 1) else 0
def Path (p q : Q2) (es : List (Q2 × Q2)) : Prop := ∀ f : Q2 → Int, (es.map fun e => f e.2 - f e.1).sum = f q - f p
def OnE (x : Q2) (e : Q2 × Q2) : Prop := OnV (sq e.1 x) (sq e.2 x)
def wn (d x : Q2) (es : List (Q2 × Q2)) : Int := (es.map fun e => hit d (sq e.1 x) (sq e.2 x)).sum
end Go.Geo

namespace Go.Geo
open Go Go.Zv
def onp (a b : Q2) (s : Rat) : Q2 := (a.1 + s * (b.1 - a.1), a.2 + s * (b.2 - a.2))
def Meets (a b x y : Q2) : Prop := ∃ z, OnE z (a, b) ∧ OnE z (x, y)
end Go.Geo

namespace Go.Geo
open Go Go.Zv
def edg (a : Nat → Q2) (k : Nat) : Q2 × Q2 := (a k, a (k + 1))
def chn (a : Nat → Q2) (i m : Nat) : List (Q2 × Q2) := (List.range m).map fun k => edg a (i + k)
structure Simp (a : Nat → Q2) (n : Nat) : Prop where
 n3 : 3 ≤ n
 per : ∀ k, a (k + n) = a k
 nc : ∀ i, xq (sq (a (i + 1)) (a i)) (sq (a (i + 2)) (a (i + 1))) ≠ 0
 dj : ∀ i m, 2 ≤ m → m + 2 ≤ n → ∀ z, OnE z (edg a i) → ¬ OnE z (edg a (i + m))
section
variable {a : Nat → Q2} {n : Nat}
def Lc (a : Nat → Q2) (n i : Nat) : Int := wn (sq (a (i + 1)) (a i)) (a i) (chn a i n)
def lft (a : Nat → Q2) (i : Nat) : Int := if 0 < xq (sq (a (i + 1)) (a i)) (sq (a (i + 2)) (a (i + 1))) then 1 else 0
end
end Go.Geo

namespace Go.Geo
open Go Go.Zv
section
variable {a : Nat → Q2} {n : Nat}
end
end Go.Geo

namespace Go.Geo
open Go Go.Zv
def cnt (L : List (Rat × Int)) (t : Rat) : Int := (L.map fun p => if t < p.1 then p.2 else 0).sum
def mom (L : List (Rat × Int)) (m : Rat) : Rat := (L.map fun p => if m < p.1 then (p.2 : Rat) * (p.1 - m) else 0).sum
def above (L : List (Rat × Int)) (m : Rat) : Nat := (L.filter fun p => decide (m < p.1)).length
def qp (p : Pt) : Q2 := ((p.1 : Rat), (p.2 : Rat))
def qe (e : Pt × Pt) : Q2 × Q2 := (qp e.1, qp e.2)
def spn (e : Pt × Pt) (k : Int) : Int := (if k < e.2.2 then 1 else 0) - (if k < e.1.2 then 1 else 0)
def gX (e : Pt × Pt) (y : Rat) : Rat := e.1.1 * (y - e.1.2) + (e.2.1 - e.1.1) * ((e.2.2 : Rat) - e.1.2)⁻¹ * ((y - e.1.2) * (y - e.1.2)) / 2
def xr (e : Pt × Pt) (k : Int) : Rat := gX e (k + 1) - gX e k
def rowL (es : List (Pt × Pt)) (k : Int) : List (Rat × Int) := es.map fun e => (xr e k, spn e k)
end Go.Geo

namespace Go.Geo
open Go Go.Zv
theorem xq_int (a b p : Pt) : xq (sq (qp b) (qp a)) (sq (qp p) (qp a)) = ((cr a.1 a.2 b.1 b.2 p.1 p.2 : Int) : Rat) := by
 unfold xq sq qp cr
 simp only [Rat.intCast_sub, Rat.intCast_mul]
theorem xq_int' (a b p : Pt) : xq (sq (qp a) (qp p)) (sq (qp b) (qp p)) = ((cr a.1 a.2 b.1 b.2 p.1 p.2 : Int) : Rat) := by
 rw [← xq_int]; unfold xq sq; grind
theorem onE_int (p a b : Pt) : OnE (qp p) (qp a, qp b) ↔ (withinB a.1 a.2 b.1 b.2 p.1 p.2 = true ∧ cr a.1 a.2 b.1 b.2 p.1 p.2 = 0) := by
 rw [on_iff]
 unfold OnE OnV
 simp only
 rw [xq_int']
 have hd : dq (sq (qp a) (qp p)) (sq (qp b) (qp p)) = ((-((p.1 - a.1) * (b.1 - p.1) + (p.2 - a.2) * (b.2 - p.2)) : Int) : Rat) := by
  unfold dq sq qp
  simp only [Rat.intCast_sub, Rat.intCast_mul, Rat.intCast_add, Rat.intCast_neg]; grind
 rw [hd, Rat.intCast_nonpos, Rat.intCast_eq_zero_iff]
 constructor
 ·rintro ⟨h1, h2⟩
  refine ⟨h1, by omega, ?_⟩
  rintro ⟨e1, e2⟩
  rw [← e1, ← e2] at h2
  have s1 := sq_nn (p.1 - a.1)
  have s2 := sq_nn (p.2 - a.2)
  have : (p.1 - a.1) * (a.1 - p.1) = -((p.1 - a.1) * (p.1 - a.1)) := by grind
  have : (p.2 - a.2) * (a.2 - p.2) = -((p.2 - a.2) * (p.2 - a.2)) := by grind
  constructor
  ·refine Classical.byContradiction fun hn => ?_
   have := sq_pos (x := p.1 - a.1) (by omega)
   omega
  ·refine Classical.byContradiction fun hn => ?_
   have := sq_pos (x := p.2 - a.2) (by omega)
   omega
 ·rintro ⟨h1, h2, _⟩
  exact ⟨h1, by omega⟩
abbrev B2 (p : Pt) : Prop := B p.1 ∧ B p.2
theorem B8_of {a b c d : Pt} (ha : B2 a) (hb : B2 b) (hc : B2 c) (hd : B2 d) : B8 a.1 a.2 b.1 b.2 c.1 c.2 d.1 d.2 := ⟨ha.1, ha.2, hb.1, hb.2, hc.1, hc.2, hd.1, hd.2⟩
theorem onE_meets {p : Pt} {e : Pt × Pt} (hp : B2 p) (h1 : B2 e.1) (h2 : B2 e.2) : onE p e = true ↔ OnE (qp p) (qe e) := by
 have := onE_int p e.1 e.2
 rw [show qe e = (qp e.1, qp e.2) from rfl, this]
 unfold onE onB
 rw [crW_B h1.1 h1.2 h2.1 h2.2 hp.1 hp.2]
 simp [sgn_eq0]
end Go.Geo

namespace Go.Geo
open Go Go.Zv
def pqf (l : List Pt) (k : Nat) : Q2 := qp (ptn l k)
theorem mayB_B {p : Pt} (h : mayB p = true) : (-439400000 ≤ p.1 ∧ p.1 ≤ 439400000) ∧ (-439400000 ≤ p.2 ∧ p.2 ≤ 439400000) := by
 unfold mayB mxI mnI at h
 simp only [Bool.and_eq_true, decide_eq_true_eq] at h
 split at h <;> split at h <;> omega
theorem mayB_B2 {p : Pt} (h : mayB p = true) : B2 p := by
 have := mayB_B h
 unfold B2 B; omega
theorem ptn_mem {l : List Pt} (k : Nat) (h : 0 < l.length) : ptn l k ∈ l := List.mem_of_getElem? (ptn_mod (l := l) (k := k) h)
theorem ptn_B {l : List Pt} (hm : l.all mayB = true) (h : 0 < l.length) (k : Nat) : B2 (ptn l k) := mayB_B2 (List.all_eq_true.1 hm _ (ptn_mem k h))
structure Val (l : List Pt) : Prop where
 n3 : 3 ≤ l.length
 n12 : l.length ≤ 12
 may : l.all mayB = true
 sim : simB l = true
 area : 0 < areaW l
theorem val_iff {l : List Pt} : valB l = true ↔ Val l := by
 unfold valB
 simp only [Bool.and_eq_true, decide_eq_true_eq]
 exact ⟨fun ⟨a, b, c, d, e⟩ => ⟨a, b, c, d, e⟩, fun h => ⟨h.n3, h.n12, h.may, h.sim, h.area⟩⟩
end Go.Geo

namespace Go.Geo
open Go Go.Zv
/-! rigid motions of the plane -/
structure Mot where
 c : Rat
 s : Rat
 x : Rat
 y : Rat
 h : c * c + s * s = 1
def Mot.lin (M : Mot) (v : Q2) : Q2 := (M.c * v.1 - M.s * v.2, M.s * v.1 + M.c * v.2)
def Mot.app (M : Mot) (v : Q2) : Q2 := (M.c * v.1 - M.s * v.2 + M.x, M.s * v.1 + M.c * v.2 + M.y)
def Mot.back (M : Mot) (v : Q2) : Q2 := (M.c * (v.1 - M.x) + M.s * (v.2 - M.y), M.c * (v.2 - M.y) - M.s * (v.1 - M.x))
section
variable (M : Mot)
end
theorem eds_mem {l : List Pt} {e : Pt × Pt} (h : e ∈ eds l) : e.1 ∈ l ∧ e.2 ∈ l := by
 obtain ⟨i, hi⟩ := List.getElem?_of_mem h
 obtain ⟨h1, h2, h3⟩ := eds_get hi
 exact ⟨List.mem_of_getElem? h2, List.mem_of_getElem? h3⟩
structure Moved (M : Mot) (f : Pt → Pt) (l : List Pt) : Prop where
 may : l.all mayB = true
 may' : (l.map f).all mayB = true
 mv : ∀ p ∈ l, qp (f p) = M.app (qp p)
section
variable {M : Mot} {f : Pt → Pt} {l : List Pt}
end
end Go.Geo

namespace Go.Geo
open Go Go.Zv
def cs : Nat → Int × Int
 | 0 => (65, 0) | 1 => (63, 16) | 2 => (60, 25) | 3 => (56, 33) | 4 => (52, 39) | 5 => (39, 52) | 6 => (33, 56) | 7 => (25, 60) | 8 => (16, 63)
 | 9 => (0, 65) | 10 => (-16, 63) | 11 => (-25, 60) | 12 => (-33, 56) | 13 => (-39, 52) | 14 => (-52, 39) | 15 => (-56, 33) | 16 => (-60, 25) | 17 => (-63, 16)
 | 18 => (-65, 0) | 19 => (-63, -16) | 20 => (-60, -25) | 21 => (-56, -33) | 22 => (-52, -39) | 23 => (-39, -52) | 24 => (-33, -56) | 25 => (-25, -60) | 26 => (-16, -63)
 | 27 => (0, -65) | 28 => (16, -63) | 29 => (25, -60) | 30 => (33, -56) | 31 => (39, -52) | 32 => (52, -39) | 33 => (56, -33) | 34 => (60, -25) | 35 => (63, -16)
 | _ => (65, 0)
def csI (q : Int) : Int × Int := cs (q % 36).toNat
theorem cases36 {k : Int} (h1 : 0 ≤ k) (h2 : k < 36) : k = 0 ∨ k = 1 ∨ k = 2 ∨ k = 3 ∨ k = 4 ∨ k = 5 ∨ k = 6 ∨ k = 7 ∨ k = 8 ∨ k = 9 ∨ k = 10 ∨ k = 11 ∨ k = 12 ∨ k = 13 ∨ k = 14 ∨ k = 15 ∨ k = 16 ∨ k = 17 ∨ k = 18 ∨ k = 19 ∨ k = 20 ∨ k = 21 ∨ k = 22 ∨ k = 23 ∨ k = 24 ∨ k = 25 ∨ k = 26 ∨ k = 27 ∨ k = 28 ∨ k = 29 ∨ k = 30 ∨ k = 31 ∨ k = 32 ∨ k = 33 ∨ k = 34 ∨ k = 35 := by omega
theorem csI_facts (q : Int) : (-65 ≤ (csI q).1 ∧ (csI q).1 ≤ 65) ∧ (-65 ≤ (csI q).2 ∧ (csI q).2 ≤ 65) ∧ (csI q).1 * (csI q).1 + (csI q).2 * (csI q).2 = 4225 ∧ (csI (-q)).1 = (csI q).1 ∧ (csI (-q)).2 = -(csI q).2 := by
 have h1 : 0 ≤ q % 36 := by omega
 have h2 : q % 36 < 36 := by omega
 have h3 : (-q) % 36 = (36 - q % 36) % 36 := by omega
 unfold csI
 rw [h3]
 generalize q % 36 = k at *
 rcases cases36 h1 h2 with rfl | rfl | rfl | rfl | rfl | rfl | rfl | rfl | rfl | rfl | rfl | rfl | rfl | rfl | rfl | rfl | rfl | rfl | rfl | rfl | rfl | rfl | rfl | rfl | rfl | rfl | rfl | rfl | rfl | rfl | rfl | rfl | rfl | rfl | rfl | rfl <;> decide
def rx (q : Int) (p : Pt) : Int := p.1 * (csI q).1 - p.2 * (csI q).2
def ry (q : Int) (p : Pt) : Int := p.1 * (csI q).2 + p.2 * (csI q).1
def exB (q : Int) (p : Pt) : Bool := decide ((rx q p).tmod 65 = 0) && decide ((ry q p).tmod 65 = 0)
def rqP (q : Int) (p : Pt) : Pt := ((rx q p).tdiv 65, (ry q p).tdiv 65)
def rzP (q : Int) (p : Pt) : Pt := if exB q p = true then rqP q p else (0, 0)
def rMot (q : Int) : Mot where
 c := (((csI q).1 : Int) : Rat) / 65
 s := (((csI q).2 : Int) : Rat) / 65
 x := 0
 y := 0
 h := by
   have h := (csI_facts q).2.2.1
   have h2 : (((csI q).1 * (csI q).1 + (csI q).2 * (csI q).2 : Int) : Rat) = ((4225 : Int) : Rat) := by rw [h]
   rw [Rat.intCast_add, Rat.intCast_mul, Rat.intCast_mul] at h2
   have : ((4225 : Int) : Rat) = 4225 := rfl
   grind
end Go.Geo

namespace Go.Geo
open Go Go.Zv
theorem eds_B {l : List Pt} (hm : l.all mayB = true) {e : Pt × Pt} (he : e ∈ eds l) : B2 e.1 ∧ B2 e.2 := by
 obtain ⟨h1, h2⟩ := eds_mem he
 exact ⟨mayB_B2 (List.all_eq_true.1 hm _ h1), mayB_B2 (List.all_eq_true.1 hm _ h2)⟩
end Go.Geo

namespace Go.Geo
open Go Go.Zv
/-! intersections of polygons -/
def beyB (e : Pt × Pt) (l : List Pt) : Bool := l.all fun p => decide (oriE e.1 e.2 p < 0)
def insB (p : List Pt) (i : Int) (q : List Pt) : Bool := decide (0 ≤ i) && (decide (i < p.length) && decide (locI q (ptn p i.toNat) ≠ -1))
def fcJ (a b : List Pt) (i : Nat) : Option Nat := (List.range b.length).find? fun j => cutE (edn a i) (edn b j)
def fcE (a b : List Pt) : Option Nat := (List.range a.length).find? fun i => (fcJ a b i).isSome
def fcA (a b : List Pt) : Option Nat := (List.range a.length).find? fun i => insB a i b
def FC (a b : List Pt) : Option (Int × Int × Int) :=
 match fcE a b with
 | some i => Option.map (fun j : Nat => ((1 : Int), (i : Int), (j : Int))) (fcJ a b i)
 | none => match fcA a b with
   | some i => some (2, (i : Int), 0)
   | none => Option.map (fun j : Nat => ((3 : Int), (0 : Int), (j : Int))) (fcA b a)
def sepAt (a b : List Pt) (d : Int) : Bool := decide (0 ≤ d ∧ d < a.length) && beyB (edn a d.toNat) b
def isepB (a b : List Pt) (o d : Int) : Bool := if o = 1 then sepAt b a d else decide (o = 0) && sepAt a b d
def icnB (a b : List Pt) (k i j : Int) : Bool :=
 if k = 1 then decide (0 ≤ i ∧ i < a.length) && (decide (0 ≤ j ∧ j < b.length) && cutE (edn a i.toNat) (edn b j.toNat))
 else if k = 2 then decide (j = 0) && insB a i b
 else if k = 3 then decide (i = 0) && insB b j a
 else false
def rgtE (l : List Pt) (i k : Nat) : Bool := decide (oriE (ptn l i) (ptn l (i + 1)) (ptn l k) < 0)
def cvxB (l : List Pt) : Bool := !(List.range l.length).any fun i => (List.range l.length).any (rgtE l i)
end Go.Geo

/- The engine, part 33: a loop that leaves at the first index of a kind. -/
namespace Go.Zv
set_option autoImplicit false
theorem loop_first (G : St → Option Out) (S : Nat → St) (n : Nat) (P : Nat → Bool) (R : Nat → Option Out → Prop) (e : Option Out)
  (stop : G (S n) = e)
  (step : ∀ k, k < n → (P k = true → R k (G (S k))) ∧ (P k = false → G (S k) = G (S (k + 1)))) :
  (∀ j, (List.range n).find? P = some j → R j (G (S 0))) ∧ ((List.range n).find? P = none → G (S 0) = e) := by
 have h := loop_P (σ := Unit) G (fun k _ => S k) n (fun _ _ => True)
  (fun k _ o => (∀ j, k ≤ j → j < n → P j = true → (∀ i, k ≤ i → i < j → P i = false) → R j o) ∧ ((∀ j, k ≤ j → j < n → P j = false) → o = e))
  (fun _ _ => ⟨fun j h1 h2 => by omega, fun _ => stop⟩) (fun k _ hk _ => by
   have hs := step k hk
   cases hp : P k with
   | true =>
     left
     refine ⟨fun j h1 h2 h3 h4 => ?_, fun h => by have := h k (Nat.le_refl _) hk; rw [hp] at this; cases this⟩
     by_cases e : j = k
     ·subst e; exact hs.1 hp
     ·have := h4 k (Nat.le_refl _) (by omega); rw [hp] at this; cases this
   | false =>
     right
     refine ⟨(), trivial, hs.2 hp, fun o ho => ⟨fun j h1 h2 h3 h4 => ?_, fun h => ho.2 fun j h1 h2 => h j (by omega) h2⟩⟩
     by_cases e : j = k
     ·subst e; rw [hp] at h3; cases h3
     ·exact ho.1 j (by omega) h2 h3 fun i h5 h6 => h4 i (by omega) h6) 0 () (by omega) trivial
 refine ⟨fun j hj => ?_, fun hn => ?_⟩
 ·rw [List.find?_range_eq_some] at hj
  obtain ⟨h1, h2, h3⟩ := hj
  exact h.1 j (by omega) (List.mem_range.1 h2) h1 fun i _ hi => by have := h3 i hi; simpa using this
 ·rw [List.find?_eq_none] at hn
  exact h.2 fun j _ hj => by have := hn j (List.mem_range.2 hj); simpa using this
end Go.Zv

namespace Go.Proofs.YtnecdcaaknhgpaaGreat.G
open Go Go.Zv
open Go.Geo
def trP (p q : Pt) : Pt := (w64 (q.1 + p.1), w64 (q.2 + p.2))
def Bd9 (l : List Pt) : Prop := ∀ p ∈ l, (-1000000000 ≤ p.1 ∧ p.1 ≤ 1000000000) ∧ (-1000000000 ≤ p.2 ∧ p.2 ≤ 1000000000)
theorem c80 (l : List Pt) : pc E 80 [.vs (l.map c2)] = some (.fn (.func 93) [] [.fp [.vs (l.map c2)]]) := by
 have h := cl_c2 l
 rw [pc_eq]; simp +contextual -implicitDefEqProofs (maxSteps := 2000000) only [go_sem, ↓reduceIte, E_80, A80, h]
abbrev FR47 (l : List Pt) : Env := [(3, .ptr 768 0), (4, .ptr 1024 0), (5, .ptr 1280 0), (9, .fn (Fn.func 93) [] [.fp [.vs (l.map c2)]])]
theorem c82 (p q : List Pt) (hq : q.length ≤ 1000000000) (i : Int) : pc E 82 [.vs (p.map c2), .int .i64 i, .vs (q.map c2)] = some (.bool (insB p i q)) := by
 unfold insB
 by_cases h1 : 0 ≤ i
 ·by_cases h2 : i < p.length
  ·have hi : i.toNat < p.length := by omega
   have g := get_c2 (ptn_get hi)
   have o1 := c97 q hq (ptn p i.toNat).1 (ptn p i.toNat).2
   rw [show ((ptn p i.toNat).1, (ptn p i.toNat).2) = ptn p i.toNat from rfl] at o1
   have e : ((i.toNat : Nat) : Int) = i := by omega
   generalize locI q (ptn p i.toNat) = lo at *
   have hn : (lo != -1) = decide (lo ≠ -1) := by rw [bne, Bool.beq_eq_decide_eq, decide_not]
   rw [pc_eq]; simp +contextual -implicitDefEqProofs (maxSteps := 2000000) only [go_sem, ↓reduceIte, E_82, A82, h1, h2, List.length_map, g, e, o1, hn, decide_true, Bool.true_and]
  ·rw [pc_eq]; simp +contextual -implicitDefEqProofs (maxSteps := 2000000) only [go_sem, ↓reduceIte, E_82, A82, h1, h2, List.length_map, decide_true, decide_false, Bool.true_and, Bool.false_and]
 ·rw [pc_eq]; simp +contextual -implicitDefEqProofs (maxSteps := 2000000) only [go_sem, ↓reduceIte, E_82, A82, h1, List.length_map, decide_true, decide_false, Bool.false_and]
abbrev FR17 (a : List Pt) : Env := [(0, .vs (a.map c2)), (3, .ptr 768 0), (4, .ptr 1024 0), (5, .ptr 1280 0), (13, .fn (Fn.func 93) [] [.fp [.vs (a.map c2)]])]
abbrev FI17 (b : List Pt) : Env := [(4, .ptr 1024 0), (5, .ptr 1280 0), (6, .ptr 2098688 0), (7, .ptr 2098944 0), (17, .fn (Fn.func 93) [] [.fp [.vs (b.map c2)]])]
abbrev FF17 (a b : List Pt) (k ax ay bx by_ k1 : Int) (k1m : Nat) : List Env := [FI17 b, [(0, .yl 3121153)], [(0, .yl 1024000)], [(23, .agg [.int .i64 ax, .int .i64 ay, .int .i64 bx, .int .i64 by_]), (22, .agg [.int .i64 bx, .int .i64 by_]), (21, .fp [.int .i64 bx, .int .i64 by_]), (20, .int .i64 k1m), (19, .int .i64 a.length), (18, .vs (a.map c2)), (17, .int .i64 k1), (16, .int .i64 k), (15, .vs (a.map c2)), (14, .agg [.int .i64 ax, .int .i64 ay]), (13, .int .i64 k), (12, .yl 1024000), (0, .yl 1024000), (1, .fp [.vs (a.map c2)]), (3, .int .i64 k), (4, .ptr 1049600 0), (5, .vs (a.map c2)), (6, .int .i64 a.length), (7, .int .i64 k)], FR17 a, [(0, .yl 1024000)]]
abbrev OO17 (a b : List Pt) (k ax ay bx by_ : Int) (st : LSt) (pe : AEx) (ok : Bool) (c0 c1 c2' : Int) : Heap := [(3121153, .loop (FI17 b) [18, 19] A64_R2a A64_R2b st pe), (2098944, .box [.int .i64 ax, .int .i64 ay, .int .i64 bx, .int .i64 by_]), (2098688, .box [.int .i64 k]), (1049600, .box [.int .i64 ax, .int .i64 ay]), (1024000, .loop (FR17 a) [14, 15] A64_R3a A64_R3b LSt.busy AEx.nrm), (1280, .box [.bool ok]), (1024, .box [.int .i64 c0, .int .i64 c1, .int .i64 c2']), (768, .box [.vs (b.map c2)])]
theorem in17 (a b : List Pt) (hb : b.length ≤ 1000000000) (k : Nat) (ax ay bx by_ k1 : Int) (k1m : Nat) (he : edn a k = ((ax, ay), (bx, by_))) :
  (∀ j, fcJ a b k = some j → (K E A93_L0 ⟨[(0, .yl 3121153), (1, .fp [.vs (b.map c2)]), (5, .vs (b.map c2)), (6, .int .i64 b.length), (7, .int .i64 0)], FF17 a b k ax ay bx by_ k1 k1m, OO17 a b k ax ay bx by_ .ready .nrm false 0 0 0, 3⟩).bind (blockR 0 (some []) [3, 4, 24]) =
   some (.ex .ret ⟨[(0, .yl 3121153), (1, .fp [.vs (b.map c2)]), (5, .vs (b.map c2)), (6, .int .i64 b.length), (7, .int .i64 j), (25, .bool true)], FF17 a b k ax ay bx by_ k1 k1m, OO17 a b k ax ay bx by_ .done .ret true 1 k j, 3⟩)) ∧
  (fcJ a b k = none → (K E A93_L0 ⟨[(0, .yl 3121153), (1, .fp [.vs (b.map c2)]), (5, .vs (b.map c2)), (6, .int .i64 b.length), (7, .int .i64 0)], FF17 a b k ax ay bx by_ k1 k1m, OO17 a b k ax ay bx by_ .ready .nrm false 0 0 0, 3⟩).bind (blockR 0 (some []) [3, 4, 24]) =
   some (.ex .nrm ⟨[], FF17 a b k ax ay bx by_ k1 k1m, OO17 a b k ax ay bx by_ .ready .nrm false 0 0 0, 3⟩)) := by
 have lp := loop_first (fun S => (K E A93_L0 S).bind (blockR 0 (some []) [3, 4, 24]))
  (fun j => ⟨[(0, .yl 3121153), (1, .fp [.vs (b.map c2)]), (5, .vs (b.map c2)), (6, .int .i64 b.length), (7, .int .i64 j)], FF17 a b k ax ay bx by_ k1 k1m, OO17 a b k ax ay bx by_ .ready .nrm false 0 0 0, 3⟩)
  b.length (fun j => cutE (edn a k) (edn b j))
  (fun j o => o = some (.ex .ret ⟨[(0, .yl 3121153), (1, .fp [.vs (b.map c2)]), (5, .vs (b.map c2)), (6, .int .i64 b.length), (7, .int .i64 j), (25, .bool true)], FF17 a b k ax ay bx by_ k1 k1m, OO17 a b k ax ay bx by_ .done .ret true 1 k j, 3⟩))
  (some (.ex .nrm ⟨[], FF17 a b k ax ay bx by_ k1 k1m, OO17 a b k ax ay bx by_ .ready .nrm false 0 0 0, 3⟩))
  (by
   show (K E A93_L0 _).bind _ = _
   rw [A93_L0_eq]; simp +contextual -implicitDefEqProofs (maxSteps := 2000000) only [go_sem, ↓reduceIte, A93_L0b, Int.lt_irrefl])
  (fun j hj => by
   rw [he]
   obtain ⟨_, g1, g2⟩ := eds_get (edn_get hj)
   have g1 := get_c2 g1
   have g2 := get_c2 g2
   obtain ⟨m1, m2, m3, m4, m5⟩ := mod_nat hj hb
   have hw := wr_k (k := j) (by omega)
   have h1 : (j : Int) < b.length := by omega
   have h0 : (0 : Int) ≤ j := by omega
   generalize edn b j = e at *
   obtain ⟨⟨cx, cy⟩, ⟨dx, dy⟩⟩ := e
   have o1 := c81 ax ay bx by_ cx cy dx dy
   unfold cutE
   simp only
   refine ⟨fun hp => ?_, fun hp => ?_⟩
   ·rw [hp] at o1
    show (K E A93_L0 _).bind _ = _
    rw [A93_L0_eq]
    simp +contextual -implicitDefEqProofs (maxSteps := 2000000) only [go_sem, ↓reduceIte, OO17, FF17, FI17, FR17, A93_L0b, A64_R2a, A64_R2b, List.length_map, h0, h1, g1, g2, m1, m2, m3, m4, m5, hw, o1]
   ·rw [hp] at o1
    show (K E A93_L0 _).bind _ = (K E A93_L0 _).bind _
    conv => lhs; rw [A93_L0_eq]
    simp +contextual -implicitDefEqProofs (maxSteps := 2000000) only [go_sem, ↓reduceIte, OO17, FF17, FI17, FR17, A93_L0b, A64_R2a, A64_R2b, List.length_map, h0, h1, g1, g2, m1, m2, m3, m4, m5, hw, o1])
 simp only [Int.natCast_zero, Int.ofNat_zero] at lp
 exact lp
abbrev O17 (b : List Pt) (ok : Bool) (c0 c1 c2' : Int) : Heap := [(1280, .box [.bool ok]), (1024, .box [.int .i64 c0, .int .i64 c1, .int .i64 c2']), (768, .box [.vs (b.map c2)])]
theorem out17 (a b : List Pt) (ha : a.length ≤ 1000000000) (hb : b.length ≤ 1000000000) :
  (∀ i, fcE a b = some i → ∀ j, fcJ a b i = some j → (K E A93_L0 ⟨[(0, .yl 1024000), (1, .fp [.vs (a.map c2)]), (5, .vs (a.map c2)), (6, .int .i64 a.length), (7, .int .i64 0)], [FR17 a, [(0, .yl 1024000)]], (1024000, .loop (FR17 a) [14, 15] A64_R3a A64_R3b LSt.ready AEx.nrm) :: O17 b false 0 0 0, 1⟩).bind (blockR 0 (some []) [3, 4, 24]) =
   some (.ex .ret ⟨[(0, .yl 1024000), (1, .fp [.vs (a.map c2)]), (5, .vs (a.map c2)), (6, .int .i64 a.length), (7, .int .i64 i), (25, .bool true)], [FR17 a, [(0, .yl 1024000)]], (1024000, .loop (FR17 a) [14, 15] A64_R3a A64_R3b LSt.done AEx.ret) :: O17 b true 1 i j, 1⟩)) ∧
  (fcE a b = none → (K E A93_L0 ⟨[(0, .yl 1024000), (1, .fp [.vs (a.map c2)]), (5, .vs (a.map c2)), (6, .int .i64 a.length), (7, .int .i64 0)], [FR17 a, [(0, .yl 1024000)]], (1024000, .loop (FR17 a) [14, 15] A64_R3a A64_R3b LSt.ready AEx.nrm) :: O17 b false 0 0 0, 1⟩).bind (blockR 0 (some []) [3, 4, 24]) =
   some (.ex .nrm ⟨[], [FR17 a, [(0, .yl 1024000)]], (1024000, .loop (FR17 a) [14, 15] A64_R3a A64_R3b LSt.ready AEx.nrm) :: O17 b false 0 0 0, 1⟩)) := by
 have h45 := c80 b
 have lp := loop_first (fun S => (K E A93_L0 S).bind (blockR 0 (some []) [3, 4, 24]))
  (fun k => ⟨[(0, .yl 1024000), (1, .fp [.vs (a.map c2)]), (5, .vs (a.map c2)), (6, .int .i64 a.length), (7, .int .i64 k)], [FR17 a, [(0, .yl 1024000)]], (1024000, .loop (FR17 a) [14, 15] A64_R3a A64_R3b LSt.ready AEx.nrm) :: O17 b false 0 0 0, 1⟩)
  a.length (fun i => (fcJ a b i).isSome)
  (fun i o => ∀ j, fcJ a b i = some j → o = some (.ex .ret ⟨[(0, .yl 1024000), (1, .fp [.vs (a.map c2)]), (5, .vs (a.map c2)), (6, .int .i64 a.length), (7, .int .i64 i), (25, .bool true)], [FR17 a, [(0, .yl 1024000)]], (1024000, .loop (FR17 a) [14, 15] A64_R3a A64_R3b LSt.done AEx.ret) :: O17 b true 1 i j, 1⟩))
  (some (.ex .nrm ⟨[], [FR17 a, [(0, .yl 1024000)]], (1024000, .loop (FR17 a) [14, 15] A64_R3a A64_R3b LSt.ready AEx.nrm) :: O17 b false 0 0 0, 1⟩))
  (by
   show (K E A93_L0 _).bind _ = _
   rw [A93_L0_eq]; simp +contextual -implicitDefEqProofs (maxSteps := 2000000) only [go_sem, ↓reduceIte, A93_L0b, Int.lt_irrefl])
  (fun k hk => by
   obtain ⟨_, g1, g2⟩ := eds_get (edn_get hk)
   have g1 := get_c2 g1
   have g2 := get_c2 g2
   obtain ⟨m1, m2, m3, m4, m5⟩ := mod_nat hk ha
   have hw := wr_k (k := k) (by omega)
   have h1 : (k : Int) < a.length := by omega
   have h0 : (0 : Int) ≤ k := by omega
   have q := in17 a b hb k (edn a k).1.1 (edn a k).1.2 (edn a k).2.1 (edn a k).2.2 (k + 1 : Nat) ((k + 1) % a.length) rfl
   generalize fcJ a b k = ff at *
   generalize edn a k = e at *
   obtain ⟨⟨ax, ay⟩, ⟨bx, by_⟩⟩ := e
   simp only at g1 g2 q
   cases ff with
   | some j =>
     refine ⟨fun _ j' hj => ?_, fun h => (by cases h)⟩
     cases hj
     have q := q.1 j rfl
     simp only [OO17, FF17, FI17, FR17, A64_R2a, A64_R2b, A64_R3a, A64_R3b, A64_R2] at q
     show (K E A93_L0 _).bind _ = _
     rw [A93_L0_eq]
     simp +contextual -implicitDefEqProofs (maxSteps := 2000000) only [go_sem, ↓reduceIte, O17, FR17, A93_L0b, A64_R2a, A64_R2b, A64_R3a, A64_R3b, A64_R2, List.length_map, h0, h1, g1, g2, m1, m2, m3, m4, m5, hw, h45, E_93, A93, q]
   | none =>
     refine ⟨fun h => (by cases h), fun _ => ?_⟩
     have q := q.2 rfl
     simp only [OO17, FF17, FI17, FR17, A64_R2a, A64_R2b, A64_R3a, A64_R3b, A64_R2] at q
     show (K E A93_L0 _).bind _ = (K E A93_L0 _).bind _
     conv => lhs; rw [A93_L0_eq]
     simp +contextual -implicitDefEqProofs (maxSteps := 2000000) only [go_sem, ↓reduceIte, O17, FR17, A93_L0b, A64_R2a, A64_R2b, A64_R3a, A64_R3b, A64_R2, List.length_map, h0, h1, g1, g2, m1, m2, m3, m4, m5, hw, h45, E_93, A93, q])
 simp only [Int.natCast_zero, Int.ofNat_zero] at lp
 exact lp
theorem l17_1 (a b : List Pt) (ha : a.length ≤ 1000000000) (hb : b.length ≤ 1000000000) :
  (∀ i, fcA a b = some i → (K E A64_L1 ⟨[(0, .vs (a.map c2)), (3, .ptr 768 0), (4, .ptr 1024 0), (5, .ptr 1280 0), (33, .int .i64 a.length), (34, .int .i64 0)], [], O17 b false 0 0 0, 0⟩).bind (blockR 4 (some [0, 3, 4, 5]) [40]) = some (.ex .ret ⟨[(4, .ptr 1024 0), (5, .ptr 1280 0)], [], O17 b true 2 i 0, 0⟩)) ∧
  (fcA a b = none → (K E A64_L1 ⟨[(0, .vs (a.map c2)), (3, .ptr 768 0), (4, .ptr 1024 0), (5, .ptr 1280 0), (33, .int .i64 a.length), (34, .int .i64 0)], [], O17 b false 0 0 0, 0⟩).bind (blockR 4 (some [0, 3, 4, 5]) [40]) = some (.ex .nrm ⟨[(0, .vs (a.map c2)), (3, .ptr 768 0), (4, .ptr 1024 0), (5, .ptr 1280 0)], [], O17 b false 0 0 0, 0⟩)) := by
 have lp := loop_first (fun S => (K E A64_L1 S).bind (blockR 4 (some [0, 3, 4, 5]) [40]))
  (fun k => ⟨[(0, .vs (a.map c2)), (3, .ptr 768 0), (4, .ptr 1024 0), (5, .ptr 1280 0), (33, .int .i64 a.length), (34, .int .i64 k)], [], O17 b false 0 0 0, 0⟩)
  a.length (fun i => insB a i b)
  (fun i o => o = some (.ex .ret ⟨[(4, .ptr 1024 0), (5, .ptr 1280 0)], [], O17 b true 2 i 0, 0⟩))
  (some (.ex .nrm ⟨[(0, .vs (a.map c2)), (3, .ptr 768 0), (4, .ptr 1024 0), (5, .ptr 1280 0)], [], O17 b false 0 0 0, 0⟩))
  (by
   show (K E A64_L1 _).bind _ = _
   rw [A64_L1_eq]; simp +contextual -implicitDefEqProofs (maxSteps := 2000000) only [go_sem, ↓reduceIte, A64_L1b, Int.lt_irrefl])
  (fun k hk => by
   have hw := wr_k (k := k) (by omega)
   have h1 : (k : Int) < a.length := by omega
   have o1 := c82 a b hb k
   refine ⟨fun hp => ?_, fun hp => ?_⟩
   ·rw [hp] at o1
    show (K E A64_L1 _).bind _ = _
    rw [A64_L1_eq]
    simp +contextual -implicitDefEqProofs (maxSteps := 2000000) only [go_sem, ↓reduceIte, O17, A64_L1b, h1, hw, o1]
   ·rw [hp] at o1
    show (K E A64_L1 _).bind _ = (K E A64_L1 _).bind _
    conv => lhs; rw [A64_L1_eq]
    simp +contextual -implicitDefEqProofs (maxSteps := 2000000) only [go_sem, ↓reduceIte, O17, A64_L1b, h1, hw, o1])
 simp only [Int.natCast_zero, Int.ofNat_zero] at lp
 exact lp
theorem l17_0 (a b : List Pt) (ha : a.length ≤ 1000000000) (hb : b.length ≤ 1000000000) :
  (∀ i, fcA b a = some i → (K E A64_L0 ⟨[(0, .vs (a.map c2)), (3, .ptr 768 0), (4, .ptr 1024 0), (5, .ptr 1280 0), (45, .int .i64 b.length), (46, .int .i64 0)], [], O17 b false 0 0 0, 0⟩).bind (blockR 6 (some [4, 5]) [52]) = some (.ex .ret ⟨[(4, .ptr 1024 0), (5, .ptr 1280 0)], [], O17 b true 3 0 i, 0⟩)) ∧
  (fcA b a = none → (K E A64_L0 ⟨[(0, .vs (a.map c2)), (3, .ptr 768 0), (4, .ptr 1024 0), (5, .ptr 1280 0), (45, .int .i64 b.length), (46, .int .i64 0)], [], O17 b false 0 0 0, 0⟩).bind (blockR 6 (some [4, 5]) [52]) = some (.ex .nrm ⟨[(4, .ptr 1024 0), (5, .ptr 1280 0)], [], O17 b false 0 0 0, 0⟩)) := by
 have lp := loop_first (fun S => (K E A64_L0 S).bind (blockR 6 (some [4, 5]) [52]))
  (fun k => ⟨[(0, .vs (a.map c2)), (3, .ptr 768 0), (4, .ptr 1024 0), (5, .ptr 1280 0), (45, .int .i64 b.length), (46, .int .i64 k)], [], O17 b false 0 0 0, 0⟩)
  b.length (fun i => insB b i a)
  (fun i o => o = some (.ex .ret ⟨[(4, .ptr 1024 0), (5, .ptr 1280 0)], [], O17 b true 3 0 i, 0⟩))
  (some (.ex .nrm ⟨[(4, .ptr 1024 0), (5, .ptr 1280 0)], [], O17 b false 0 0 0, 0⟩))
  (by
   show (K E A64_L0 _).bind _ = _
   rw [A64_L0_eq]; simp +contextual -implicitDefEqProofs (maxSteps := 2000000) only [go_sem, ↓reduceIte, A64_L0b, Int.lt_irrefl])
  (fun k hk => by
   have hw := wr_k (k := k) (by omega)
   have h1 : (k : Int) < b.length := by omega
   have o1 := c82 b a ha k
   refine ⟨fun hp => ?_, fun hp => ?_⟩
   ·rw [hp] at o1
    show (K E A64_L0 _).bind _ = _
    rw [A64_L0_eq]
    simp +contextual -implicitDefEqProofs (maxSteps := 2000000) only [go_sem, ↓reduceIte, O17, A64_L0b, h1, hw, o1]
   ·rw [hp] at o1
    show (K E A64_L0 _).bind _ = (K E A64_L0 _).bind _
    conv => lhs; rw [A64_L0_eq]
    simp +contextual -implicitDefEqProofs (maxSteps := 2000000) only [go_sem, ↓reduceIte, O17, A64_L0b, h1, hw, o1])
 simp only [Int.natCast_zero, Int.ofNat_zero] at lp
 exact lp
def conV : Option (Int × Int × Int) → LV
 | some (k, i, j) => .tup [.agg [.int .i64 k, .int .i64 i, .int .i64 j], .bool true]
 | none => .tup [.agg [.int .i64 0, .int .i64 0, .int .i64 0], .bool false]
theorem c64 (a b : List Pt) (ha : a.length ≤ 1000000000) (hb : b.length ≤ 1000000000) : pc E 64 [.vs (a.map c2), .vs (b.map c2)] = some (conV (FC a b)) := by
 have h45 := c80 a
 have q3 := out17 a b ha hb
 have q1 := l17_1 a b ha hb
 have q0 := l17_0 a b ha hb
 simp only [FR17, O17] at q3 q1 q0
 unfold FC
 cases h1 : fcE a b with
 | some i =>
   have hs : ∃ j, fcJ a b i = some j := by
    unfold fcE at h1
    rw [List.find?_range_eq_some] at h1
    exact Option.isSome_iff_exists.1 h1.1
   obtain ⟨j, hj⟩ := hs
   have q := q3.1 i h1 j hj
   simp only [hj, Option.map_some, conV]
   rw [pc_eq]; simp +contextual -implicitDefEqProofs (maxSteps := 2000000) only [go_sem, ↓reduceIte, E_64, A64, h45, E_93, A93, A64_R3, List.length_map, q]
 | none =>
   have q := q3.2 h1
   simp only
   cases h2 : fcA a b with
   | some i =>
     have r := q1.1 i h2
     simp only [conV]
     rw [pc_eq]; simp +contextual -implicitDefEqProofs (maxSteps := 2000000) only [go_sem, ↓reduceIte, E_64, A64, h45, E_93, A93, A64_R3, List.length_map, q, r]
   | none =>
     have r := q1.2 h2
     cases h3 : fcA b a with
     | some j =>
       have s := q0.1 j h3
       simp only [Option.map_some, conV]
       rw [pc_eq]; simp +contextual -implicitDefEqProofs (maxSteps := 2000000) only [go_sem, ↓reduceIte, E_64, A64, h45, E_93, A93, A64_R3, List.length_map, q, r, s]
     | none =>
       have s := q0.2 h3
       simp only [Option.map_none, conV]
       rw [pc_eq]; simp +contextual -implicitDefEqProofs (maxSteps := 2000000) only [go_sem, ↓reduceIte, E_64, A64, h45, E_93, A93, A64_R3, List.length_map, q, r, s]
theorem c45 (a b : List Pt) (ha : a.length ≤ 1000000000) (hb : b.length ≤ 1000000000) : pc E 45 [.vs (a.map c2), .vs (b.map c2)] = some (.bool (FC a b).isSome) := by
 have h := c64 a b ha hb
 cases hf : FC a b with
 | none => rw [hf] at h; simp only [conV] at h; rw [pc_eq]; simp +contextual -implicitDefEqProofs (maxSteps := 2000000) only [go_sem, ↓reduceIte, E_45, A45, h, Option.isSome_none]
 | some t => obtain ⟨k, i, j⟩ := t; rw [hf] at h; simp only [conV] at h; rw [pc_eq]; simp +contextual -implicitDefEqProofs (maxSteps := 2000000) only [go_sem, ↓reduceIte, E_45, A45, h, Option.isSome_some]
end Go.Proofs.YtnecdcaaknhgpaaGreat.G

namespace Go.Geo
open Go Go.Zv
/-! the parts of a cell: names, numbers, polygons -/
def c1 (n : Int) : List LV := [.int .i64 n]
def t1 (s : List UInt8) : List LV := [.str s]
def p1 (l : List Pt) : List LV := [.vs (l.map c2)]
def letB (c : UInt8) : Bool := (decide ((97 : Int) ≤ c.toNat) && decide ((c.toNat : Int) ≤ 122)) || (decide ((65 : Int) ≤ c.toNat) && decide ((c.toNat : Int) ≤ 90))
def badC (c : UInt8) : Bool := !letB c && (!decide ((c.toNat : Int) = 95) && (decide ((c.toNat : Int) < 48) || decide ((57 : Int) < c.toNat)))
def nameB (s : List UInt8) : Bool := decide (1 ≤ s.length) && (decide (s.length ≤ 12) && (letB (s.getD 0 0) && !(s.drop 1).any badC))
def ulB (l : List Int) (b : Int) (i : Nat) : Bool := (decide (l.getD i 0 < 0) || decide (b ≤ l.getD i 0)) || (List.range i).any fun k => decide (l.getD k 0 = l.getD i 0)
def unlB (l : List Int) (b : Int) : Bool := !(List.range l.length).any (ulB l b)
def nmB (l : List (List UInt8)) (i : Nat) : Bool := !nameB (l.getD i []) || (List.range i).any fun k => decide (l.getD k [] = l.getD i [])
def nmsB (l : List (List UInt8)) : Bool := !(List.range l.length).any (nmB l)
def polB (l : List (List Pt)) : Bool := decide (l.length ≤ 16) && l.all valB
def shpI (l : List Pt) (i : Nat) : Bool := ((decide ((ptn l i).1 < -10) || decide (10 < (ptn l i).1)) || (decide ((ptn l i).2 < -10) || decide (10 < (ptn l i).2))) || (List.range l.length).any fun k => decide (oriE (ptn l i) (ptn l (i + 1)) (ptn l k) < 0)
def shpB (l : List Pt) : Bool := decide (l.length ≤ 4) && (valB l && !(List.range l.length).any (shpI l))
structure Plc where
 nm : List UInt8
 x : Int
 y : Int
 dx : Int
 dy : Int
 dn : Int
structure Prt where
 nm : List UInt8
 sh : List Pt
 at_ : Int
def plv (p : Plc) : List LV := [.str p.nm, .int .i64 p.x, .int .i64 p.y, .int .i64 p.dx, .int .i64 p.dy, .int .i64 p.dn]
def prv (p : Prt) : List LV := [.str p.nm, .vs (p.sh.map c2), .int .i64 p.at_]
instance : Inhabited Plc := ⟨⟨[], 0, 0, 0, 0, 0⟩⟩
instance : Inhabited Prt := ⟨⟨[], [], 0⟩⟩
def dirB (x y : Int) : Bool := decide (-274625 ≤ x) && (decide (x ≤ 274625) && (decide (-274625 ≤ y) && (decide (y ≤ 274625) && decide (x * x + y * y = 75418890625))))
def badP (p : Plc) : Bool := !decide (p.x.tmod 16 = 0) || (!decide (p.y.tmod 16 = 0) || (decide (373490000 < mxI p.x p.y) || (decide (mnI p.x p.y < -373490000) || (!decide (p.dn = 3) || !dirB p.dx p.dy))))
def plcB (l : List Plc) : Bool := !l.any badP && (decide (l.length ≤ 16) && nmsB (l.map (·.nm)))
def prtB (l : List Prt) (m : Int) : Bool := (!l.any fun p => !shpB p.sh) && (decide (l.length ≤ 8) && (nmsB (l.map (·.nm)) && unlB (l.map (·.at_)) m))
def bouB (v a j : Int) : Bool := decide (1 ≤ v) && (decide (v ≤ 8) && (decide (1 ≤ a) && (decide (a ≤ 4) && (decide (1 ≤ j) && decide (j ≤ 2)))))
theorem get_m {α : Type} (f : α → List LV) {l : List α} {i : Nat} {p : α} (h : l[i]? = some p) : (l.map f)[i]? = some (f p) := by
 rw [List.getElem?_map, h]; rfl
theorem getD_of {α : Type} {l : List α} {i : Nat} (d : α) (h : i < l.length) : l[i]? = some (l.getD i d) := by
 rw [List.getD_eq_getElem?_getD, List.getElem?_eq_getElem h]; rfl
end Go.Geo

namespace Go.Proofs.YtnecdcaaknhgpaaGreat.G
open Go Go.Zv
open Go.Geo
theorem c86 (c : UInt8) : pc E 86 [.int .u8 c.toNat] = some (.bool (letB c)) := by
 unfold letB
 by_cases h1 : (97 : Int) ≤ c.toNat <;> by_cases h2 : (c.toNat : Int) ≤ 122 <;> by_cases h3 : (65 : Int) ≤ c.toNat <;> by_cases h4 : (c.toNat : Int) ≤ 90 <;> rw [pc_eq] <;> simp +contextual -implicitDefEqProofs (maxSteps := 2000000) only [go_sem, ↓reduceIte, E_86, A86, h1, h2, h3, h4, decide_true, decide_false]
theorem in126 (s : List UInt8) (hs : s.length ≤ 12) (h0 : 1 ≤ s.length) :
  ((s.drop 1).any badC = true → (K E A72_L0 ⟨[(0, .str s), (3, .int .i64 1)], [], [], 0⟩).bind (blockR 0 (some []) [2, 3, 27]) = some (.ex .ret ⟨[(2, .bool false)], [], [], 0⟩)) ∧
  ((s.drop 1).any badC = false → (K E A72_L0 ⟨[(0, .str s), (3, .int .i64 1)], [], [], 0⟩).bind (blockR 0 (some []) [2, 3, 27]) = some (.ex .nrm ⟨[], [], [], 0⟩)) := by
 have lp := loop_leave (σ := Unit) (fun S => (K E A72_L0 S).bind (blockR 0 (some []) [2, 3, 27]))
  (fun j _ => ⟨[(0, .str s), (3, .int .i64 (1 + j : Nat))], [], [], 0⟩)
  (s.drop 1) (fun _ _ => ()) badC
  (fun o => o = some (.ex .ret ⟨[(2, .bool false)], [], [], 0⟩))
  (fun _ => some (.ex .nrm ⟨[], [], [], 0⟩))
  (fun x => by
   rw [List.length_drop]
   have h1 : ¬ ((1 + (s.length - 1) : Nat) : Int) < s.length := by omega
   show (K E A72_L0 _).bind _ = _
   rw [A72_L0_eq]; simp +contextual -implicitDefEqProofs (maxSteps := 2000000) only [go_sem, ↓reduceIte, A72_L0b, h1])
  (fun j c x hj he => by
   rw [List.length_drop] at hj
   rw [List.getElem?_drop] at he
   have hw : IntKind.i64.wrap (((1 + j : Nat) : Int) + 1) = ((1 + (j + 1) : Nat) : Int) := by rw [wr_k (by omega)]; rfl
   have h1 : ((1 + j : Nat) : Int) < s.length := by omega
   have h2 : (0 : Int) ≤ ((1 + j : Nat) : Int) := by omega
   generalize 1 + j = k at *
   have o1 := c86 c
   have hu : u8 c = .int .u8 c.toNat := rfl
   unfold badC
   have b2 : ((c.toNat : Int) != 95) = !decide ((c.toNat : Int) = 95) := by rw [bne, Bool.beq_eq_decide_eq]
   generalize (c.toNat : Int) = v at *
   generalize letB c = b1 at *
   generalize decide (v = 95) = u2 at *
   refine ⟨fun h => ?_, fun h => ?_⟩
   ·show (K E A72_L0 _).bind _ = _
    rw [A72_L0_eq]
    by_cases k1 : v < 48 <;> by_cases k2 : 57 < v <;> simp only [k1, k2, decide_true, decide_false] at h <;> cases b1 <;> cases u2 <;> first | (exact absurd h (by decide)) | simp +contextual -implicitDefEqProofs (maxSteps := 2000000) only [go_sem, ↓reduceIte, A72_L0b, h1, h2, he, hu, hw, o1, b2, k1, k2, Bool.not_true, Bool.not_false]
   ·show (K E A72_L0 _).bind _ = (K E A72_L0 _).bind _
    conv => lhs; rw [A72_L0_eq]
    by_cases k1 : v < 48 <;> by_cases k2 : 57 < v <;> simp only [k1, k2, decide_true, decide_false] at h <;> cases b1 <;> cases u2 <;> first | (exact absurd h (by decide)) | simp +contextual -implicitDefEqProofs (maxSteps := 2000000) only [go_sem, ↓reduceIte, A72_L0b, h1, h2, he, hu, hw, o1, b2, k1, k2, Bool.not_true, Bool.not_false])
  ()
 exact lp
theorem c72 (s : List UInt8) : pc E 72 [.str s] = some (.bool (nameB s)) := by
 unfold nameB
 by_cases k1 : (s.length : Int) < 1
 ·have k1' : ¬ 1 ≤ s.length := by omega
  rw [pc_eq]; simp +contextual -implicitDefEqProofs (maxSteps := 2000000) only [go_sem, ↓reduceIte, E_72, A72, k1, k1', decide_true, decide_false]
 ·have k1' : 1 ≤ s.length := by omega
  by_cases k2 : (12 : Int) < s.length
  ·have k2' : ¬ s.length ≤ 12 := by omega
   rw [pc_eq]; simp +contextual -implicitDefEqProofs (maxSteps := 2000000) only [go_sem, ↓reduceIte, E_72, A72, k1, k1', k2, k2', decide_true, decide_false]
  ·have k2' : s.length ≤ 12 := by omega
   have g := getD_of (0 : UInt8) (l := s) (i := 0) (by omega)
   have o := c86 (s.getD 0 0)
   have q := in126 s k2' k1'
   have hu : ∀ c : UInt8, u8 c = .int .u8 c.toNat := fun _ => rfl
   generalize s.getD 0 0 = c at *
   generalize (s.drop 1).any badC = b at *
   cases hb : letB c <;> rw [hb] at o
   ·rw [pc_eq]; simp +contextual -implicitDefEqProofs (maxSteps := 2000000) only [go_sem, ↓reduceIte, E_72, A72, k1, k1', k2, k2', g, hu, o, decide_true, decide_false]
   ·cases b
    ·have q := q.2 rfl
     rw [pc_eq]; simp +contextual -implicitDefEqProofs (maxSteps := 2000000) only [go_sem, ↓reduceIte, E_72, A72, k1, k1', k2, k2', g, hu, o, q, decide_true, decide_false]
    ·have q := q.1 rfl
     rw [pc_eq]; simp +contextual -implicitDefEqProofs (maxSteps := 2000000) only [go_sem, ↓reduceIte, E_72, A72, k1, k1', k2, k2', g, hu, o, q, decide_true, decide_false]
theorem in104 (l : List Int) (b : Int) (hl : l.length ≤ 1000) (i : Nat) (hi : i < l.length) :
  (((List.range i).any fun k => decide (l.getD k 0 = l.getD i 0)) = true → (K E A37_L0 ⟨[(0, .vs (l.map c1)), (1, .int .i64 b), (5, .int .i64 i), (6, .int .i64 0)], [], [], 0⟩).bind (blockR 2 (some [0, 1, 5]) [4, 6]) = some (.ex .ret ⟨[(4, .bool false)], [], [], 0⟩)) ∧
  (((List.range i).any fun k => decide (l.getD k 0 = l.getD i 0)) = false → (K E A37_L0 ⟨[(0, .vs (l.map c1)), (1, .int .i64 b), (5, .int .i64 i), (6, .int .i64 0)], [], [], 0⟩).bind (blockR 2 (some [0, 1, 5]) [4, 6]) = some (.ex .nrm ⟨[(0, .vs (l.map c1)), (1, .int .i64 b), (5, .int .i64 i)], [], [], 0⟩)) := by
 have lp := loop_leave (σ := Unit) (fun S => (K E A37_L0 S).bind (blockR 2 (some [0, 1, 5]) [4, 6]))
  (fun j _ => ⟨[(0, .vs (l.map c1)), (1, .int .i64 b), (5, .int .i64 i), (6, .int .i64 j)], [], [], 0⟩)
  (List.range i) (fun _ _ => ()) (fun k => decide (l.getD k 0 = l.getD i 0))
  (fun o => o = some (.ex .ret ⟨[(4, .bool false)], [], [], 0⟩))
  (fun _ => some (.ex .nrm ⟨[(0, .vs (l.map c1)), (1, .int .i64 b), (5, .int .i64 i)], [], [], 0⟩))
  (fun x => by
   rw [List.length_range]
   show (K E A37_L0 _).bind _ = _
   rw [A37_L0_eq]; simp +contextual -implicitDefEqProofs (maxSteps := 2000000) only [go_sem, ↓reduceIte, A37_L0b, Int.lt_irrefl])
  (fun j j' x hj he => by
   rw [List.length_range] at hj
   rw [range_get hj] at he
   cases he
   have g1 := get_m c1 (getD_of (0 : Int) (l := l) (i := i) hi)
   have g2 := get_m c1 (getD_of (0 : Int) (l := l) (i := j) (by omega))
   simp only [c1] at g1 g2
   have hw := wr_k (k := j) (by omega)
   have h1 : (j : Int) < i := by omega
   have h2 : (0 : Int) ≤ j := by omega
   have h3 : (0 : Int) ≤ i := by omega
   have h4 : (i : Int) < l.length := by omega
   have h5 : (j : Int) < l.length := by omega
   generalize l.getD i 0 = u at *
   generalize l.getD j 0 = v at *
   refine ⟨fun h => ?_, fun h => ?_⟩
   ·have h := of_decide_eq_true h
    subst h
    show (K E A37_L0 _).bind _ = _
    rw [A37_L0_eq]
    simp +contextual -implicitDefEqProofs (maxSteps := 2000000) only [go_sem, ↓reduceIte, A37_L0b, h1, h2, h3, h4, h5, g1, g2, hw, List.length_map, beq_self_eq_true]
   ·have h := of_decide_eq_false h
    have h' : (v == u) = false := by simpa using h
    show (K E A37_L0 _).bind _ = (K E A37_L0 _).bind _
    conv => lhs; rw [A37_L0_eq]
    simp +contextual -implicitDefEqProofs (maxSteps := 2000000) only [go_sem, ↓reduceIte, A37_L0b, h1, h2, h3, h4, h5, g1, g2, hw, List.length_map, h, h'])
  ()
 exact lp
theorem c37 (l : List Int) (b : Int) (hl : l.length ≤ 1000) : pc E 37 [.vs (l.map c1), .int .i64 b] = some (.bool (unlB l b)) := by
 have lp := loop_leave (σ := Unit) (fun S => (K E A37_L1 S).bind (blockR 0 (some []) [4, 5, 6]))
  (fun j _ => ⟨[(0, .vs (l.map c1)), (1, .int .i64 b), (5, .int .i64 j)], [], [], 0⟩)
  (List.range l.length) (fun _ _ => ()) (ulB l b)
  (fun o => o = some (.ex .ret ⟨[(4, .bool false)], [], [], 0⟩))
  (fun _ => some (.ex .nrm ⟨[], [], [], 0⟩))
  (fun x => by
   rw [List.length_range]
   show (K E A37_L1 _).bind _ = _
   rw [A37_L1_eq]; simp +contextual -implicitDefEqProofs (maxSteps := 2000000) only [go_sem, ↓reduceIte, A37_L1b, Int.lt_irrefl, List.length_map])
  (fun i j' x hj he => by
   rw [List.length_range] at hj
   rw [range_get hj] at he
   cases he
   have g1 := get_m c1 (getD_of (0 : Int) (l := l) (i := i) hj)
   simp only [c1] at g1
   have hw := wr_k (k := i) (by omega)
   have h3 : (0 : Int) ≤ i := by omega
   have h4 : (i : Int) < l.length := by omega
   have q := in104 l b hl i hj
   unfold ulB
   generalize ((List.range i).any fun k => decide (l.getD k 0 = l.getD i 0)) = t at *
   generalize l.getD i 0 = u at *
   refine ⟨fun h => ?_, fun h => ?_⟩
   ·show (K E A37_L1 _).bind _ = _
    rw [A37_L1_eq]
    by_cases k1 : u < 0
    ·simp +contextual -implicitDefEqProofs (maxSteps := 2000000) only [go_sem, ↓reduceIte, A37_L1b, h3, h4, g1, hw, List.length_map, k1]
    ·by_cases k2 : b ≤ u
     ·simp +contextual -implicitDefEqProofs (maxSteps := 2000000) only [go_sem, ↓reduceIte, A37_L1b, h3, h4, g1, hw, List.length_map, k1, k2]
     ·cases t
      ·simp only [k1, k2, decide_false] at h; exact absurd h (by decide)
      ·have q := q.1 rfl
       simp +contextual -implicitDefEqProofs (maxSteps := 2000000) only [go_sem, ↓reduceIte, A37_L1b, h3, h4, g1, hw, List.length_map, k1, k2, q]
   ·show (K E A37_L1 _).bind _ = (K E A37_L1 _).bind _
    conv => lhs; rw [A37_L1_eq]
    by_cases k1 : u < 0
    ·simp only [k1, decide_true, Bool.true_or] at h; exact absurd h (by decide)
    ·by_cases k2 : b ≤ u
     ·simp only [k1, k2, decide_true, decide_false, Bool.true_or, Bool.false_or] at h; exact absurd h (by decide)
     ·cases t
      ·have q := q.2 rfl
       simp +contextual -implicitDefEqProofs (maxSteps := 2000000) only [go_sem, ↓reduceIte, A37_L1b, h3, h4, g1, hw, List.length_map, k1, k2, q]
      ·simp only [k1, k2, decide_false, Bool.or_true] at h; exact absurd h (by decide))
  ()
 unfold unlB
 generalize (List.range l.length).any (ulB l b) = t at *
 simp only [Int.natCast_zero, Int.ofNat_zero] at lp
 cases t
 ·have lp := lp.2 rfl
  rw [pc_eq]; simp +contextual -implicitDefEqProofs (maxSteps := 2000000) only [go_sem, ↓reduceIte, E_37, A37, lp]
 ·have lp := lp.1 rfl
  rw [pc_eq]; simp +contextual -implicitDefEqProofs (maxSteps := 2000000) only [go_sem, ↓reduceIte, E_37, A37, lp]
end Go.Proofs.YtnecdcaaknhgpaaGreat.G

namespace Go.Proofs.YtnecdcaaknhgpaaGreat.R
open Go Go.Zv
open Go.Geo
theorem c87 (ax ay bx by_ px py : Int) : pc E 87 [.agg [.int .i64 ax, .int .i64 ay], .agg [.int .i64 bx, .int .i64 by_], .agg [.int .i64 px, .int .i64 py]] = some (.int .i64 (crW ax ay bx by_ px py)) := by
 rw [pc_eq]; simp +contextual -implicitDefEqProofs (maxSteps := 2000000) only [go_sem, ↓reduceIte, E_87, A87, crW]
theorem c73 (ax ay bx by_ px py : Int) : pc E 73 [.agg [.int .i64 ax, .int .i64 ay], .agg [.int .i64 bx, .int .i64 by_], .agg [.int .i64 px, .int .i64 py]] = some (.int .i64 (sgn (crW ax ay bx by_ px py))) := by
 rw [pc_eq]; simp +contextual -implicitDefEqProofs (maxSteps := 2000000) only [go_sem, ↓reduceIte, E_73, A73, c87, decide_eq_true_eq]
 unfold sgn; split <;> (try split) <;> rfl
theorem c111 (a b x : Int) : pc E 111 [.int .i64 a, .int .i64 b, .int .i64 x] = some (.bool (decide (mnI a b ≤ x) && decide (x ≤ mxI a b))) := by
 rw [pc_eq]; simp +contextual -implicitDefEqProofs (maxSteps := 2000000) only [go_sem, ↓reduceIte, E_111, A111, decide_eq_true_eq]
 split <;> simp [*]
theorem box_loop (l : List (Int × Int)) (hl : l.length < 9223372036854775808) :
  ∀ (k i : Nat) (a b : Int × Int), i + k = l.length → (K E A43_L0 ⟨[(0, .vs (l.map c2)), (2, .ptr 512 0), (3, .ptr 768 0), (4, .ptr 1024 0), (5, .ptr 1280 0), (6, .int .i64 i)], [],
    [(1280, .box [.int .i64 b.1, .int .i64 b.2]), (1024, .box [.int .i64 a.1, .int .i64 a.2]), (768, .box [.int .i64 0, .int .i64 0]), (512, .box [.int .i64 0, .int .i64 0])], 0⟩).bind (blockR 0 (some [2, 3, 4, 5]) [6]) =
    some (.ex .nrm ⟨[(2, .ptr 512 0), (3, .ptr 768 0), (4, .ptr 1024 0), (5, .ptr 1280 0)], [], [(1280, .box [.int .i64 ((l.drop i).foldl maxP b).1, .int .i64 ((l.drop i).foldl maxP b).2]), (1024, .box [.int .i64 ((l.drop i).foldl minP a).1, .int .i64 ((l.drop i).foldl minP a).2]), (768, .box [.int .i64 0, .int .i64 0]), (512, .box [.int .i64 0, .int .i64 0])], 0⟩)
 | 0, i, a, b, h => by
   have hi : ¬ ((i : Int) < l.length) := by omega
   have hd : l.drop i = [] := List.drop_of_length_le (by omega)
   rw [A43_L0_eq, hd]
   simp +contextual -implicitDefEqProofs (maxSteps := 2000000) only [go_sem, ↓reduceIte, A43_L0b, hi, List.foldl_nil, List.length_map]
 | k + 1, i, a, b, h => by
   have hi : ((i : Int) < l.length) := by omega
   have hget : l[i]? = some (l[i]'(by omega)) := List.getElem?_eq_getElem _
   have hd : l.drop i = (l[i]'(by omega)) :: l.drop (i + 1) := List.drop_eq_getElem_cons (by omega)
   generalize l[i]'(by omega) = p at hget hd
   have hg2 := get_c2 hget
   have hw := wr_succ (n := i) (by omega)
   have h0 : (0 : Int) ≤ (i : Int) := by omega
   have ih := box_loop l hl k (i + 1) (minP a p) (maxP b p) (by omega)
   simp only [minP, maxP] at ih
   rw [A43_L0_eq, hd]
   simp +contextual -implicitDefEqProofs (maxSteps := 2000000) only [go_sem, ↓reduceIte, A43_L0b, hi, hg2, h0, hw, List.foldl_cons, List.length_map]
   rw [ih]; rfl
theorem c43 (l : List (Int × Int)) (hl : l.length < 9223372036854775808) : pc E 43 [.vs (l.map c2)] = some (.tup [pt (bbL l), pt (bbH l)]) := by
 cases l with
 | nil => rw [pc_eq]; simp +contextual -implicitDefEqProofs (maxSteps := 2000000) only [go_sem, ↓reduceIte, E_43, A43, List.map_nil, bbL, bbH, Int.ofNat_zero, Int.natCast_zero]
 | cons p t =>
   have hz : ¬ (((t.length + 1 : Nat) : Int) = 0) := by omega
   have := box_loop (p :: t) hl (p :: t).length 0 p p (by omega)
   simp only [List.map_cons, c2, Int.ofNat_zero, Int.natCast_zero, List.drop_zero] at this
   rw [pc_eq]; simp +contextual -implicitDefEqProofs (maxSteps := 2000000) only [go_sem, ↓reduceIte, E_43, A43, List.map_cons, c2, List.length_map, hz, this, bbL, bbH]
theorem c107 (ax ay bx by_ px py : Int) : pc E 107 [.agg [.int .i64 ax, .int .i64 ay], .agg [.int .i64 bx, .int .i64 by_], .agg [.int .i64 px, .int .i64 py]] = some (.bool (onB ax ay bx by_ px py)) := by
 rw [pc_eq]; simp +contextual -implicitDefEqProofs (maxSteps := 2000000) only [go_sem, ↓reduceIte, E_107, A107, c73, c111, onB, withinB]
 repeat' split
 all_goals (try simp_all)
 all_goals (try (intros; omega))
theorem c98 (ax ay bx by_ cx cy dx dy : Int) : pc E 98 [.agg [.int .i64 ax, .int .i64 ay], .agg [.int .i64 bx, .int .i64 by_], .agg [.int .i64 cx, .int .i64 cy], .agg [.int .i64 dx, .int .i64 dy]] =
  some (.bool ((onB ax ay bx by_ cx cy || onB ax ay bx by_ dx dy || onB cx cy dx dy ax ay || onB cx cy dx dy bx by_) || (decide (sdI ax ay bx by_ cx cy dx dy < 0) && decide (sdI cx cy dx dy ax ay bx by_ < 0)))) := by
 cases h1 : onB ax ay bx by_ cx cy with
 | true => rw [pc_eq]; simp +contextual -implicitDefEqProofs (maxSteps := 2000000) only [go_sem, ↓reduceIte, E_98, A98, c107, h1]
 | false =>
   cases h2 : onB ax ay bx by_ dx dy with
   | true => rw [pc_eq]; simp +contextual -implicitDefEqProofs (maxSteps := 2000000) only [go_sem, ↓reduceIte, E_98, A98, c107, h1, h2]
   | false =>
     cases h3 : onB cx cy dx dy ax ay with
     | true => rw [pc_eq]; simp +contextual -implicitDefEqProofs (maxSteps := 2000000) only [go_sem, ↓reduceIte, E_98, A98, c107, h1, h2, h3]
     | false =>
       cases h4 : onB cx cy dx dy bx by_ with
       | true => rw [pc_eq]; simp +contextual -implicitDefEqProofs (maxSteps := 2000000) only [go_sem, ↓reduceIte, E_98, A98, c107, h1, h2, h3, h4]
       | false =>
         rw [pc_eq]; simp +contextual -implicitDefEqProofs (maxSteps := 2000000) only [go_sem, ↓reduceIte, E_98, A98, c107, h1, h2, h3, h4, c73, sdI]
         repeat' split
         all_goals (try simp_all)
         all_goals (try rfl)
         all_goals (intro hh; exact absurd (of_decide_eq_true hh) (by omega))
end Go.Proofs.YtnecdcaaknhgpaaGreat.R

namespace Go.Geo
open Go Go.Zv
def rbad2 (l : List Pt) (i j : Nat) : Bool := (decide (i ≠ 0) || decide (i + 2 + j ≠ l.length - 1)) && cutE (edn l i) (edn l (i + 2 + j))
def rbad1 (l : List Pt) (i : Nat) : Bool := decide (oriE (ptn l i) (ptn l (i + 1)) (ptn l (i + 2)) = 0) || (List.range (l.length - (i + 2))).any (rbad2 l i)
theorem cutE_comm {a b c d : Pt} (ha : B2 a) (hb : B2 b) (hc : B2 c) (hd : B2 d) : cutE (c, d) (a, b) = cutE (a, b) (c, d) := by
 unfold cutE; exact cut_s2 (B8_of ha hb hc hd)
theorem adjB_false {n i k : Nat} (hi : i < n) (hk : k < n) : adjB n i k = false ↔ k ≠ i ∧ k ≠ i + 1 ∧ i ≠ k + 1 ∧ ¬ (i = 0 ∧ k = n - 1) ∧ ¬ (k = 0 ∧ i = n - 1) := by
 unfold adjB
 simp only [Bool.or_eq_false_iff, decide_eq_false_iff_not]
 have e1 : (i + 1) % n = if i + 1 = n then 0 else i + 1 := by
  split
  ·next h => rw [h, Nat.mod_self]
  ·exact Nat.mod_eq_of_lt (by omega)
 have e2 : (k + 1) % n = if k + 1 = n then 0 else k + 1 := by
  split
  ·next h => rw [h, Nat.mod_self]
  ·exact Nat.mod_eq_of_lt (by omega)
 rw [e1, e2]
 split <;> split <;> omega
theorem simB_right {l : List Pt} (hm : l.all mayB = true) (h0 : 0 < l.length) : simB l = !(List.range l.length).any (rbad1 l) := by
 unfold simB
 congr 1
 rw [Bool.eq_iff_iff, List.any_eq_true, List.any_eq_true]
 constructor
 ·rintro ⟨i, hi, hb⟩
  have hi' := List.mem_range.1 hi
  unfold bad1 at hb
  rw [Bool.or_eq_true, List.any_eq_true] at hb
  rcases hb with hb | ⟨k, hk, hb⟩
  ·exact ⟨i, hi, by unfold rbad1; rw [hb]; rfl⟩
  ·have hk' := List.mem_range.1 hk
   unfold bad2 at hb
   rw [Bool.and_eq_true, Bool.not_eq_true'] at hb
   obtain ⟨ha, hc⟩ := hb
   obtain ⟨a1, a2, a3, a4, a5⟩ := (adjB_false hi' hk').1 ha
   by_cases hlt : i < k
   ·refine ⟨i, hi, ?_⟩
    unfold rbad1
    rw [Bool.or_eq_true, List.any_eq_true]
    refine .inr ⟨k - (i + 2), List.mem_range.2 (by omega), ?_⟩
    unfold rbad2
    rw [show i + 2 + (k - (i + 2)) = k by omega, hc, Bool.and_true, Bool.or_eq_true, decide_eq_true_eq, decide_eq_true_eq]
    omega
   ·refine ⟨k, hk, ?_⟩
    unfold rbad1
    rw [Bool.or_eq_true, List.any_eq_true]
    refine .inr ⟨i - (k + 2), List.mem_range.2 (by omega), ?_⟩
    unfold rbad2
    have hs : cutE (edn l k) (edn l i) = cutE (edn l i) (edn l k) := cutE_comm (ptn_B hm h0 i) (ptn_B hm h0 (i + 1)) (ptn_B hm h0 k) (ptn_B hm h0 (k + 1))
    rw [show k + 2 + (i - (k + 2)) = i by omega, hs, hc, Bool.and_true, Bool.or_eq_true, decide_eq_true_eq, decide_eq_true_eq]
    omega
 ·rintro ⟨i, hi, hb⟩
  have hi' := List.mem_range.1 hi
  unfold rbad1 at hb
  rw [Bool.or_eq_true, List.any_eq_true] at hb
  refine ⟨i, hi, ?_⟩
  unfold bad1
  rcases hb with hb | ⟨j, hj, hb⟩
  ·rw [hb]; rfl
  ·have hj' := List.mem_range.1 hj
   unfold rbad2 at hb
   rw [Bool.and_eq_true, Bool.or_eq_true, decide_eq_true_eq, decide_eq_true_eq] at hb
   obtain ⟨ha, hc⟩ := hb
   rw [Bool.or_eq_true, List.any_eq_true]
   refine .inr ⟨i + 2 + j, List.mem_range.2 (by omega), ?_⟩
   unfold bad2
   rw [(adjB_false hi' (by omega)).2 (by omega), hc]; rfl
end Go.Geo

namespace Go.Proofs.YtnecdcaaknhgpaaGreat.R
open Go Go.Zv
open Go.Geo
theorem mayB_iff' {p : Pt} : mayB p = true ↔ (-439400000 ≤ p.1 ∧ p.1 ≤ 439400000) ∧ (-439400000 ≤ p.2 ∧ p.2 ≤ 439400000) := by
 unfold mayB mxI mnI
 simp only [Bool.and_eq_true, decide_eq_true_eq]
 split <;> split <;> omega
theorem c66 (x y : Int) : pc E 66 [.agg [.int .i64 x, .int .i64 y]] = some (.bool (mayB (x, y))) := by
 have hw : IntKind.i64.wrap (-439400000) = -439400000 := by decide
 cases hb : mayB (x, y) with
 | true =>
   rw [mayB_iff'] at hb
   obtain ⟨⟨h1, h2⟩, h3, h4⟩ := hb
   simp only at h1 h2 h3 h4
   rw [pc_eq]; simp +contextual -implicitDefEqProofs (maxSteps := 2000000) only [go_sem, ↓reduceIte, E_66, A66, h1, h2, h3, h4, hw]
 | false =>
   have hn : ¬ ((-439400000 ≤ x ∧ x ≤ 439400000) ∧ (-439400000 ≤ y ∧ y ≤ 439400000)) := fun h => by rw [mayB_iff'.2 h] at hb; cases hb
   by_cases h1 : -439400000 ≤ x
   ·by_cases h2 : x ≤ 439400000
    ·by_cases h3 : -439400000 ≤ y
     ·have h4 : ¬ y ≤ 439400000 := by omega
      rw [pc_eq]; simp +contextual -implicitDefEqProofs (maxSteps := 2000000) only [go_sem, ↓reduceIte, E_66, A66, h1, h2, h3, h4, hw, decide_false]
     ·rw [pc_eq]; simp +contextual -implicitDefEqProofs (maxSteps := 2000000) only [go_sem, ↓reduceIte, E_66, A66, h1, h2, h3, hw, decide_false]
    ·rw [pc_eq]; simp +contextual -implicitDefEqProofs (maxSteps := 2000000) only [go_sem, ↓reduceIte, E_66, A66, h1, h2, hw, decide_false]
   ·rw [pc_eq]; simp +contextual -implicitDefEqProofs (maxSteps := 2000000) only [go_sem, ↓reduceIte, E_66, A66, h1, hw, decide_false]
theorem c67 (ax ay bx by_ px py : Int) : pc E 67 [.agg [.int .i64 ax, .int .i64 ay], .agg [.int .i64 bx, .int .i64 by_], .agg [.int .i64 px, .int .i64 py]] = some (.int .i64 (crW ax ay bx by_ px py)) := by
 rw [pc_eq]; simp +contextual -implicitDefEqProofs (maxSteps := 2000000) only [go_sem, ↓reduceIte, E_67, A67, crW]
theorem c85 (n : Int) : pc E 85 [.int .i64 n] = some (.int .i64 (sgn n)) := by
 have hw : IntKind.i64.wrap (-1) = -1 := by decide
 unfold sgn
 by_cases h1 : 0 < n
 ·have h1' : n > 0 := h1
  rw [pc_eq]; simp +contextual -implicitDefEqProofs (maxSteps := 2000000) only [go_sem, ↓reduceIte, E_85, A85, h1, h1', hw]
 ·by_cases h2 : n < 0
  ·rw [pc_eq]; simp +contextual -implicitDefEqProofs (maxSteps := 2000000) only [go_sem, ↓reduceIte, E_85, A85, h1, h2, hw, gt_iff_lt]
  ·rw [pc_eq]; simp +contextual -implicitDefEqProofs (maxSteps := 2000000) only [go_sem, ↓reduceIte, E_85, A85, h1, h2, hw, gt_iff_lt]
theorem c101 (a b x : Int) : pc E 101 [.int .i64 a, .int .i64 b, .int .i64 x] = some (.bool (decide (mnI a b ≤ x) && decide (x ≤ mxI a b))) := by
 have hv : (decide (mnI a b ≤ x) && decide (x ≤ mxI a b)) = ((decide (a ≤ x) && decide (x ≤ b)) || (decide (b ≤ x) && decide (x ≤ a))) := by
  unfold mnI mxI
  rw [Bool.eq_iff_iff]
  simp only [Bool.and_eq_true, Bool.or_eq_true, decide_eq_true_eq]
  split <;> split <;> omega
 rw [hv]
 by_cases h1 : a ≤ x <;> by_cases h2 : x ≤ b <;> by_cases h3 : b ≤ x <;> by_cases h4 : x ≤ a <;> rw [pc_eq] <;> simp +contextual -implicitDefEqProofs (maxSteps := 2000000) only [go_sem, ↓reduceIte, E_101, A101, h1, h2, h3, h4, decide_true, decide_false]
theorem c84 (ax ay bx by_ px py : Int) : pc E 84 [.agg [.int .i64 ax, .int .i64 ay], .agg [.int .i64 bx, .int .i64 by_], .agg [.int .i64 px, .int .i64 py]] = some (.bool (onB ax ay bx by_ px py)) := by
 have o1 := c67 ax ay bx by_ px py
 have o2 := c101 ax bx px
 have o3 := c101 ay by_ py
 have hv : onB ax ay bx by_ px py = (decide (crW ax ay bx by_ px py = 0) && ((decide (mnI ax bx ≤ px) && decide (px ≤ mxI ax bx)) && (decide (mnI ay by_ ≤ py) && decide (py ≤ mxI ay by_)))) := by
  unfold onB withinB
  rw [show decide (sgn (crW ax ay bx by_ px py) = 0) = decide (crW ax ay bx by_ px py = 0) from decide_eq_decide.2 sgn_eq0, Bool.and_comm, Bool.and_assoc]
 rw [hv]
 generalize (decide (mnI ax bx ≤ px) && decide (px ≤ mxI ax bx)) = b1 at *
 generalize (decide (mnI ay by_ ≤ py) && decide (py ≤ mxI ay by_)) = b2 at *
 generalize crW ax ay bx by_ px py = c at *
 by_cases h1 : c = 0
 ·subst h1
  cases b1 <;> rw [pc_eq] <;> simp +contextual -implicitDefEqProofs (maxSteps := 2000000) only [go_sem, ↓reduceIte, E_84, A84, o1, o2, o3, decide_true, beq_self_eq_true]
 ·have h1' : (c == 0) = false := by simpa using h1
  rw [pc_eq]; simp +contextual -implicitDefEqProofs (maxSteps := 2000000) only [go_sem, ↓reduceIte, E_84, A84, o1, o2, o3, h1, h1', decide_false]
theorem c69 (ax ay bx by_ cx cy dx dy : Int) : pc E 69 [.agg [.int .i64 ax, .int .i64 ay], .agg [.int .i64 bx, .int .i64 by_], .agg [.int .i64 cx, .int .i64 cy], .agg [.int .i64 dx, .int .i64 dy]] = some (.bool (cutB ax ay bx by_ cx cy dx dy)) := by
 rw [← cut_eq_B]
 have q1 := c84 ax ay bx by_ cx cy
 have q2 := c84 ax ay bx by_ dx dy
 have q3 := c84 cx cy dx dy ax ay
 have q4 := c84 cx cy dx dy bx by_
 have s1 := c67 ax ay bx by_ cx cy
 have s2 := c67 ax ay bx by_ dx dy
 have s3 := c67 cx cy dx dy ax ay
 have s4 := c67 cx cy dx dy bx by_
 have t1 := c85 (crW ax ay bx by_ cx cy)
 have t2 := c85 (crW ax ay bx by_ dx dy)
 have t3 := c85 (crW cx cy dx dy ax ay)
 have t4 := c85 (crW cx cy dx dy bx by_)
 cases h1 : onB ax ay bx by_ cx cy with
 | true => rw [h1] at q1; rw [pc_eq]; simp +contextual -implicitDefEqProofs (maxSteps := 2000000) only [go_sem, ↓reduceIte, E_69, A69, q1]
 | false =>
   cases h2 : onB ax ay bx by_ dx dy with
   | true => rw [h1] at q1; rw [h2] at q2; rw [pc_eq]; simp +contextual -implicitDefEqProofs (maxSteps := 2000000) only [go_sem, ↓reduceIte, E_69, A69, q1, q2]
   | false =>
     cases h3 : onB cx cy dx dy ax ay with
     | true => rw [h1] at q1; rw [h2] at q2; rw [h3] at q3; rw [pc_eq]; simp +contextual -implicitDefEqProofs (maxSteps := 2000000) only [go_sem, ↓reduceIte, E_69, A69, q1, q2, q3]
     | false =>
       cases h4 : onB cx cy dx dy bx by_ with
       | true => rw [h1] at q1; rw [h2] at q2; rw [h3] at q3; rw [h4] at q4; rw [pc_eq]; simp +contextual -implicitDefEqProofs (maxSteps := 2000000) only [go_sem, ↓reduceIte, E_69, A69, q1, q2, q3, q4]
       | false =>
         rw [h1] at q1; rw [h2] at q2; rw [h3] at q3; rw [h4] at q4
         have e1 : IntKind.i64.wrap (sgn (crW ax ay bx by_ cx cy) * sgn (crW ax ay bx by_ dx dy)) = sdI ax ay bx by_ cx cy dx dy := rfl
         have e2 : IntKind.i64.wrap (sgn (crW cx cy dx dy ax ay) * sgn (crW cx cy dx dy bx by_)) = sdI cx cy dx dy ax ay bx by_ := rfl
         generalize sdI ax ay bx by_ cx cy dx dy = u at *
         generalize sdI cx cy dx dy ax ay bx by_ = v at *
         by_cases k1 : u < 0 <;> by_cases k2 : v < 0 <;> rw [pc_eq] <;> simp +contextual -implicitDefEqProofs (maxSteps := 2000000) only [go_sem, ↓reduceIte, E_69, A69, q1, q2, q3, q4, s1, s2, s3, s4, t1, t2, t3, t4, e1, e2, k1, k2, decide_true, decide_false]
theorem c68 (l : List Pt) (hl : l.length ≤ 1000000000) (h0 : 0 < l.length) (k : Nat) (hk : k ≤ 1000000000) : pc E 68 [.vs (l.map c2), .int .i64 k] = some (.agg [.int .i64 (ptn l k).1, .int .i64 (ptn l k).2]) := by
 have g := get_c2 (ptn_mod (l := l) (k := k) h0)
 have h := Nat.mod_lt k h0
 have m1 : ((k : Nat) : Int).tmod (l.length : Int) = ((k % l.length : Nat) : Int) := by rw [Int.tmod_eq_emod_of_nonneg (Int.natCast_nonneg k)]; rfl
 have m2 : ¬ (l.length : Int) = 0 := by omega
 have m3 : ((l.length : Int) == 0) = false := beq_eq_false_iff_ne.2 m2
 have m4 : (0 : Int) ≤ ((k % l.length : Nat) : Int) := Int.natCast_nonneg _
 have m5 : ((k % l.length : Nat) : Int) < l.length := Int.ofNat_lt.2 h
 rw [pc_eq]; simp +contextual -implicitDefEqProofs (maxSteps := 2000000) only [go_sem, ↓reduceIte, E_68, A68, List.length_map, g, m1, m2, m3, m4, m5]
theorem c70 (l : List Pt) (hl : l.length ≤ 999999999) : pc E 70 [.vs (l.map c2)] = some (.int .i64 (areaW l)) := by
 have lp := loop_foldl (fun S => (K E A70_L0 S).bind (blockR 0 (some [3]) [4, 5, 6, 15, 19]))
  (fun k (x : Int) => ⟨[(0, .vs (l.map c2)), (3, .int .i64 x), (4, .int .i64 k)], [], [], 0⟩)
  (eds l) arF (fun _ => True) (fun k e x hk he _ => ⟨trivial, by
   have hk' : k < l.length := by rw [eds_len] at hk; exact hk
   rw [edn_get hk'] at he
   cases he
   have g1 := c68 l (by omega) (by omega) k (by omega)
   have g2 := c68 l (by omega) (by omega) (k + 1) (by omega)
   have hw := wr_k (k := k) (by omega)
   have h1 : (k : Int) < l.length := by omega
   have h0 : (0 : Int) ≤ k := by omega
   unfold edn
   generalize ptn l k = p at *
   generalize ptn l (k + 1) = q at *
   obtain ⟨px, py⟩ := p
   obtain ⟨qx, qy⟩ := q
   show (K E A70_L0 _).bind _ = (K E A70_L0 _).bind _
   conv => lhs; rw [A70_L0_eq]
   simp +contextual -implicitDefEqProofs (maxSteps := 2000000) only [go_sem, ↓reduceIte, A70_L0b, List.length_map, h0, h1, g1, g2, hw]
   have e : IntKind.i64.wrap (IntKind.i64.wrap (x + IntKind.i64.wrap (px * qy)) - IntKind.i64.wrap (py * qx)) = arF x ((px, py), (qx, qy)) := by
    have a1 := w64_sub (x + w64 (px * qy)) (w64 (py * qx))
    have a2 := w64_add' x (w64 (px * qy) - w64 (py * qx))
    unfold w64 at a1 a2; unfold arF w64
    rw [a1, a2]; congr 1; omega
   rw [e]⟩) 0 trivial
 have stop : ∀ x : Int, (K E A70_L0 ⟨[(0, .vs (l.map c2)), (3, .int .i64 x), (4, .int .i64 l.length)], [], [], 0⟩).bind (blockR 0 (some [3]) [4, 5, 6, 15, 19]) = some (.ex .nrm ⟨[(3, .int .i64 x)], [], [], 0⟩) := fun x => by
  rw [A70_L0_eq]; simp +contextual -implicitDefEqProofs (maxSteps := 2000000) only [go_sem, ↓reduceIte, A70_L0b, Int.lt_irrefl, List.length_map]
 rw [eds_len] at lp
 simp only [stop, Int.natCast_zero, Int.ofNat_zero] at lp
 rw [pc_eq]; simp +contextual -implicitDefEqProofs (maxSteps := 2000000) only [go_sem, ↓reduceIte, E_70, A70, List.length_map, lp, areaW]
theorem in30 (l : List Pt) (hl : l.length ≤ 12) (i : Nat) (hi : i < l.length) :
  ((List.range (l.length - (i + 2))).any (rbad2 l i) = true → (K E A49_L0 ⟨[(0, .vs (l.map c2)), (3, .int .i64 l.length), (5, .int .i64 i), (6, .int .i64 (i + 2 : Nat))], [], [], 0⟩).bind (blockR 4 (some [0, 3, 5]) [2, 6, 62, 66, 69, 73, 74]) = some (.ex .ret ⟨[(2, .bool false)], [], [], 0⟩)) ∧
  ((List.range (l.length - (i + 2))).any (rbad2 l i) = false → (K E A49_L0 ⟨[(0, .vs (l.map c2)), (3, .int .i64 l.length), (5, .int .i64 i), (6, .int .i64 (i + 2 : Nat))], [], [], 0⟩).bind (blockR 4 (some [0, 3, 5]) [2, 6, 62, 66, 69, 73, 74]) = some (.ex .nrm ⟨[(0, .vs (l.map c2)), (3, .int .i64 l.length), (5, .int .i64 i)], [], [], 0⟩)) := by
 exact loop_leave (σ := Unit) (fun S => (K E A49_L0 S).bind (blockR 4 (some [0, 3, 5]) [2, 6, 62, 66, 69, 73, 74]))
  (fun j _ => ⟨[(0, .vs (l.map c2)), (3, .int .i64 l.length), (5, .int .i64 i), (6, .int .i64 (i + 2 + j : Nat))], [], [], 0⟩)
  (List.range (l.length - (i + 2))) (fun _ _ => ()) (rbad2 l i)
  (fun o => o = some (.ex .ret ⟨[(2, .bool false)], [], [], 0⟩))
  (fun _ => some (.ex .nrm ⟨[(0, .vs (l.map c2)), (3, .int .i64 l.length), (5, .int .i64 i)], [], [], 0⟩))
  (fun x => by
   rw [List.length_range]
   have h1 : ¬ ((i + 2 + (l.length - (i + 2)) : Nat) : Int) < l.length := by omega
   show (K E A49_L0 _).bind _ = _
   rw [A49_L0_eq]; simp +contextual -implicitDefEqProofs (maxSteps := 2000000) only [go_sem, ↓reduceIte, A49_L0b, h1])
  (fun j j' x hj he => by
   rw [List.length_range] at hj
   rw [range_get hj] at he
   cases he
   have g1 := c68 l (by omega) (by omega) i (by omega)
   have g2 := c68 l (by omega) (by omega) (i + 1) (by omega)
   have g3 := c68 l (by omega) (by omega) (i + 2 + j) (by omega)
   have g4 := c68 l (by omega) (by omega) (i + 2 + j + 1) (by omega)
   have hw := wr_k (k := i) (by omega)
   have hw2 := wr_k (k := i + 2 + j) (by omega)
   have h1 : ((i + 2 + j : Nat) : Int) < l.length := by omega
   have hs : IntKind.i64.wrap ((l.length : Int) - 1) = (l.length : Int) - 1 := wrap_small (by omega) (by omega)
   unfold rbad2 edn cutE
   have en : decide (i + 2 + j ≠ l.length - 1) = !decide (((i + 2 + j : Nat) : Int) = (l.length : Int) - 1) := by
    rw [← decide_not]; exact decide_eq_decide.2 (by omega)
   have ei : decide (i ≠ 0) = !decide ((i : Int) = 0) := by rw [← decide_not]; exact decide_eq_decide.2 (by omega)
   rw [en, ei]
   have b1 : (((i + 2 + j : Nat) : Int) != (l.length : Int) - 1) = !decide (((i + 2 + j : Nat) : Int) = (l.length : Int) - 1) := by
    rw [bne, Bool.beq_eq_decide_eq]
   have b2 : ((i : Int) != 0) = !decide ((i : Int) = 0) := by rw [bne, Bool.beq_eq_decide_eq]
   generalize decide ((i : Int) = 0) = u1 at *
   generalize decide (((i + 2 + j : Nat) : Int) = (l.length : Int) - 1) = u2 at *
   rw [show i + 2 + (j + 1) = i + 2 + j + 1 by omega]
   generalize i + 2 + j = k at *
   generalize ptn l i = p1 at *
   generalize ptn l (i + 1) = p2 at *
   generalize ptn l k = p3 at *
   generalize ptn l (k + 1) = p4 at *
   have o1 := c69 p1.1 p1.2 p2.1 p2.2 p3.1 p3.2 p4.1 p4.2
   simp only
   generalize cutB p1.1 p1.2 p2.1 p2.2 p3.1 p3.2 p4.1 p4.2 = cc at *
   refine ⟨fun h => ?_, fun h => ?_⟩
   ·show (K E A49_L0 _).bind _ = _
    rw [A49_L0_eq]
    cases u1 <;> cases u2 <;> cases cc <;> first | (exact absurd h (by decide)) | simp +contextual -implicitDefEqProofs (maxSteps := 2000000) only [go_sem, ↓reduceIte, A49_L0b, h1, hs, b1, b2, Bool.not_true, Bool.not_false, hw, hw2, g1, g2, g3, g4, o1]
   ·show (K E A49_L0 _).bind _ = (K E A49_L0 _).bind _
    conv => lhs; rw [A49_L0_eq]
    cases u1 <;> cases u2 <;> cases cc <;> first | (exact absurd h (by decide)) | simp +contextual -implicitDefEqProofs (maxSteps := 2000000) only [go_sem, ↓reduceIte, A49_L0b, h1, hs, b1, b2, Bool.not_true, Bool.not_false, hw, hw2, g1, g2, g3, g4, o1])
  ()
theorem may30 (l : List Pt) (hl : l.length ≤ 12) :
  (l.any (fun p => !mayB p) = true → (K E A49_L2 ⟨[(0, .vs (l.map c2)), (3, .int .i64 l.length), (4, .int .i64 0)], [], [], 0⟩).bind (blockR 0 (some [0, 3]) [2, 4, 24]) = some (.ex .ret ⟨[(2, .bool false)], [], [], 0⟩)) ∧
  (l.any (fun p => !mayB p) = false → (K E A49_L2 ⟨[(0, .vs (l.map c2)), (3, .int .i64 l.length), (4, .int .i64 0)], [], [], 0⟩).bind (blockR 0 (some [0, 3]) [2, 4, 24]) = some (.ex .nrm ⟨[(0, .vs (l.map c2)), (3, .int .i64 l.length)], [], [], 0⟩)) := by
 have lp := loop_leave (σ := Unit) (fun S => (K E A49_L2 S).bind (blockR 0 (some [0, 3]) [2, 4, 24]))
  (fun k _ => ⟨[(0, .vs (l.map c2)), (3, .int .i64 l.length), (4, .int .i64 k)], [], [], 0⟩)
  l (fun _ _ => ()) (fun p => !mayB p)
  (fun o => o = some (.ex .ret ⟨[(2, .bool false)], [], [], 0⟩))
  (fun _ => some (.ex .nrm ⟨[(0, .vs (l.map c2)), (3, .int .i64 l.length)], [], [], 0⟩))
  (fun x => by
   show (K E A49_L2 _).bind _ = _
   rw [A49_L2_eq]; simp +contextual -implicitDefEqProofs (maxSteps := 2000000) only [go_sem, ↓reduceIte, A49_L2b, Int.lt_irrefl])
  (fun k p x hk hp => by
   have g1 := get_c2 hp
   have h1 : (k : Int) < l.length := by omega
   have h0 : (0 : Int) ≤ k := by omega
   have hw := wr_k (k := k) (by omega)
   obtain ⟨px, py⟩ := p
   have o1 := c66 px py
   refine ⟨fun h => ?_, fun h => ?_⟩
   ·simp only [Bool.not_eq_true'] at h
    rw [h] at o1
    show (K E A49_L2 _).bind _ = _
    rw [A49_L2_eq]
    simp +contextual -implicitDefEqProofs (maxSteps := 2000000) only [go_sem, ↓reduceIte, A49_L2b, List.length_map, h0, h1, g1, hw, o1]
   ·simp only [Bool.not_eq_false'] at h
    rw [h] at o1
    show (K E A49_L2 _).bind _ = (K E A49_L2 _).bind _
    conv => lhs; rw [A49_L2_eq]
    simp +contextual -implicitDefEqProofs (maxSteps := 2000000) only [go_sem, ↓reduceIte, A49_L2b, List.length_map, h0, h1, g1, hw, o1])
  ()
 simp only [Int.natCast_zero, Int.ofNat_zero] at lp
 exact lp
theorem out30 (l : List Pt) (hl : l.length ≤ 12) (h0 : 0 < l.length) :
  ((List.range l.length).any (rbad1 l) = true → (K E A49_L1 ⟨[(0, .vs (l.map c2)), (3, .int .i64 l.length), (5, .int .i64 0)], [], [], 0⟩).bind (blockR 2 (some [0]) [2, 5, 6, 33, 37, 41, 42, 62, 66, 69, 73, 74]) = some (.ex .ret ⟨[(2, .bool false)], [], [], 0⟩)) ∧
  ((List.range l.length).any (rbad1 l) = false → (K E A49_L1 ⟨[(0, .vs (l.map c2)), (3, .int .i64 l.length), (5, .int .i64 0)], [], [], 0⟩).bind (blockR 2 (some [0]) [2, 5, 6, 33, 37, 41, 42, 62, 66, 69, 73, 74]) = some (.ex .nrm ⟨[(0, .vs (l.map c2))], [], [], 0⟩)) := by
 have lp := loop_leave (σ := Unit) (fun S => (K E A49_L1 S).bind (blockR 2 (some [0]) [2, 5, 6, 33, 37, 41, 42, 62, 66, 69, 73, 74]))
  (fun k _ => ⟨[(0, .vs (l.map c2)), (3, .int .i64 l.length), (5, .int .i64 k)], [], [], 0⟩)
  (List.range l.length) (fun _ _ => ()) (rbad1 l)
  (fun o => o = some (.ex .ret ⟨[(2, .bool false)], [], [], 0⟩))
  (fun _ => some (.ex .nrm ⟨[(0, .vs (l.map c2))], [], [], 0⟩))
  (fun x => by
   rw [List.length_range]
   show (K E A49_L1 _).bind _ = _
   rw [A49_L1_eq]; simp +contextual -implicitDefEqProofs (maxSteps := 2000000) only [go_sem, ↓reduceIte, A49_L1b, Int.lt_irrefl])
  (fun i i' x hi he => by
   rw [List.length_range] at hi
   rw [range_get hi] at he
   cases he
   have g1 := c68 l (by omega) (by omega) i (by omega)
   have g2 := c68 l (by omega) (by omega) (i + 1) (by omega)
   have g3 := c68 l (by omega) (by omega) (i + 2) (by omega)
   have hw := wr_k (k := i) (by omega)
   have hw2 := G.wr_2 (k := i) (by omega)
   have h1 : (i : Int) < l.length := by omega
   have o1 := c67 (ptn l i).1 (ptn l i).2 (ptn l (i + 1)).1 (ptn l (i + 1)).2 (ptn l (i + 2)).1 (ptn l (i + 2)).2
   have q := in30 l hl i hi
   unfold rbad1 oriE
   rw [show decide (sgn (crW (ptn l i).1 (ptn l i).2 (ptn l (i + 1)).1 (ptn l (i + 1)).2 (ptn l (i + 2)).1 (ptn l (i + 2)).2) = 0) = decide (crW (ptn l i).1 (ptn l i).2 (ptn l (i + 1)).1 (ptn l (i + 1)).2 (ptn l (i + 2)).1 (ptn l (i + 2)).2 = 0) from decide_eq_decide.2 sgn_eq0]
   generalize (List.range (l.length - (i + 2))).any (rbad2 l i) = b2 at *
   generalize crW (ptn l i).1 (ptn l i).2 (ptn l (i + 1)).1 (ptn l (i + 1)).2 (ptn l (i + 2)).1 (ptn l (i + 2)).2 = s at *
   by_cases hs : s = 0
   ·subst hs
    refine ⟨fun _ => ?_, fun h => by simp at h⟩
    show (K E A49_L1 _).bind _ = _
    rw [A49_L1_eq]
    simp +contextual -implicitDefEqProofs (maxSteps := 2000000) only [go_sem, ↓reduceIte, A49_L1b, h1, hw, hw2, g1, g2, g3, o1, beq_self_eq_true]
   ·have hs' : (s == 0) = false := by simpa using hs
    cases b2 with
    | true =>
      refine ⟨fun _ => ?_, fun h => by simp at h⟩
      have q := q.1 rfl
      show (K E A49_L1 _).bind _ = _
      rw [A49_L1_eq]
      simp +contextual -implicitDefEqProofs (maxSteps := 2000000) only [go_sem, ↓reduceIte, A49_L1b, h1, hw, hw2, g1, g2, g3, o1, hs, hs', q]
    | false =>
      refine ⟨fun h => by simp [hs] at h, fun _ => ?_⟩
      have q := q.2 rfl
      show (K E A49_L1 _).bind _ = (K E A49_L1 _).bind _
      conv => lhs; rw [A49_L1_eq]
      simp +contextual -implicitDefEqProofs (maxSteps := 2000000) only [go_sem, ↓reduceIte, A49_L1b, h1, hw, hw2, g1, g2, g3, o1, hs, hs', q])
  ()
 simp only [Int.natCast_zero, Int.ofNat_zero] at lp
 exact lp
theorem c49 (l : List Pt) : pc E 49 [.vs (l.map c2)] = some (.bool (valB l)) := by
 have hv : valB l = (decide (3 ≤ l.length) && (decide (l.length ≤ 12) && (l.all mayB && (simB l && decide (0 < areaW l))))) := rfl
 rw [hv]
 by_cases k1 : (l.length : Int) < 3
 ·have k1' : ¬ 3 ≤ l.length := by omega
  rw [pc_eq]; simp +contextual -implicitDefEqProofs (maxSteps := 2000000) only [go_sem, ↓reduceIte, E_49, A49, List.length_map, k1, k1', decide_true, decide_false]
 ·have k1' : 3 ≤ l.length := by omega
  by_cases k2 : (12 : Int) < l.length
  ·have k2' : ¬ l.length ≤ 12 := by omega
   rw [pc_eq]; simp +contextual -implicitDefEqProofs (maxSteps := 2000000) only [go_sem, ↓reduceIte, E_49, A49, List.length_map, k1, k1', k2, k2', decide_true, decide_false]
  ·have k2' : l.length ≤ 12 := by omega
   have e : (l.any fun p => !mayB p) = !l.all mayB := by rw [List.all_eq_not_any_not]; simp
   have h1 := may30 l k2'
   have h2 := out30 l k2' (by omega)
   have h3 := c70 l (by omega)
   rw [e] at h1
   cases ha : l.all mayB <;> rw [ha] at h1
   ·have h1 := h1.1 rfl
    rw [pc_eq]; simp +contextual -implicitDefEqProofs (maxSteps := 2000000) only [go_sem, ↓reduceIte, E_49, A49, List.length_map, k1, k1', k2, k2', h1, decide_true, decide_false]
   ·have h1 := h1.2 rfl
    rw [simB_right ha (by omega)]
    cases hs : (List.range l.length).any (rbad1 l) <;> rw [hs] at h2
    ·have h2 := h2.2 rfl
     by_cases k3 : 0 < areaW l
     ·rw [pc_eq]; simp +contextual -implicitDefEqProofs (maxSteps := 2000000) only [go_sem, ↓reduceIte, E_49, A49, List.length_map, k1, k1', k2, k2', h1, h2, h3, k3, decide_true, decide_false]
     ·rw [pc_eq]; simp +contextual -implicitDefEqProofs (maxSteps := 2000000) only [go_sem, ↓reduceIte, E_49, A49, List.length_map, k1, k1', k2, k2', h1, h2, h3, k3, decide_true, decide_false]
    ·have h2 := h2.1 rfl
     rw [pc_eq]; simp +contextual -implicitDefEqProofs (maxSteps := 2000000) only [go_sem, ↓reduceIte, E_49, A49, List.length_map, k1, k1', k2, k2', h1, h2, decide_true, decide_false]
end Go.Proofs.YtnecdcaaknhgpaaGreat.R

namespace Go.Proofs.YtnecdcaaknhgpaaGreat.G
open Go Go.Zv
open Go.Geo
theorem in114 (l : List (List UInt8)) (hl : l.length ≤ 1000) (i : Nat) (hi : i < l.length) :
  (((List.range i).any fun k => decide (l.getD k [] = l.getD i [])) = true → (K E A51_L0 ⟨[(0, .vs (l.map t1)), (3, .int .i64 i), (4, .int .i64 0)], [], [], 0⟩).bind (blockR 2 (some [0, 3]) [2, 4]) = some (.ex .ret ⟨[(2, .bool false)], [], [], 0⟩)) ∧
  (((List.range i).any fun k => decide (l.getD k [] = l.getD i [])) = false → (K E A51_L0 ⟨[(0, .vs (l.map t1)), (3, .int .i64 i), (4, .int .i64 0)], [], [], 0⟩).bind (blockR 2 (some [0, 3]) [2, 4]) = some (.ex .nrm ⟨[(0, .vs (l.map t1)), (3, .int .i64 i)], [], [], 0⟩)) := by
 have lp := loop_leave (σ := Unit) (fun S => (K E A51_L0 S).bind (blockR 2 (some [0, 3]) [2, 4]))
  (fun j _ => ⟨[(0, .vs (l.map t1)), (3, .int .i64 i), (4, .int .i64 j)], [], [], 0⟩)
  (List.range i) (fun _ _ => ()) (fun k => decide (l.getD k [] = l.getD i []))
  (fun o => o = some (.ex .ret ⟨[(2, .bool false)], [], [], 0⟩))
  (fun _ => some (.ex .nrm ⟨[(0, .vs (l.map t1)), (3, .int .i64 i)], [], [], 0⟩))
  (fun x => by
   rw [List.length_range]
   show (K E A51_L0 _).bind _ = _
   rw [A51_L0_eq]; simp +contextual -implicitDefEqProofs (maxSteps := 2000000) only [go_sem, ↓reduceIte, A51_L0b, Int.lt_irrefl])
  (fun j j' x hj he => by
   rw [List.length_range] at hj
   rw [range_get hj] at he
   cases he
   have g1 := get_m t1 (getD_of ([] : List UInt8) (l := l) (i := i) hi)
   have g2 := get_m t1 (getD_of ([] : List UInt8) (l := l) (i := j) (by omega))
   simp only [t1] at g1 g2
   have hw := wr_k (k := j) (by omega)
   have h1 : (j : Int) < i := by omega
   have h2 : (0 : Int) ≤ j := by omega
   have h3 : (0 : Int) ≤ i := by omega
   have h4 : (i : Int) < l.length := by omega
   have h5 : (j : Int) < l.length := by omega
   generalize l.getD i [] = u at *
   generalize l.getD j [] = v at *
   refine ⟨fun h => ?_, fun h => ?_⟩
   ·have h := of_decide_eq_true h
    subst h
    show (K E A51_L0 _).bind _ = _
    rw [A51_L0_eq]
    simp +contextual -implicitDefEqProofs (maxSteps := 2000000) only [go_sem, ↓reduceIte, A51_L0b, h1, h2, h3, h4, h5, g1, g2, hw, List.length_map, beq_self_eq_true]
   ·have h := of_decide_eq_false h
    have h' : (v == u) = false := by simpa using h
    show (K E A51_L0 _).bind _ = (K E A51_L0 _).bind _
    conv => lhs; rw [A51_L0_eq]
    simp +contextual -implicitDefEqProofs (maxSteps := 2000000) only [go_sem, ↓reduceIte, A51_L0b, h1, h2, h3, h4, h5, g1, g2, hw, List.length_map, h, h'])
  ()
 exact lp
theorem c51 (l : List (List UInt8)) (hl : l.length ≤ 1000) : pc E 51 [.vs (l.map t1)] = some (.bool (nmsB l)) := by
 have lp := loop_leave (σ := Unit) (fun S => (K E A51_L1 S).bind (blockR 0 (some []) [2, 3, 4, 15]))
  (fun j _ => ⟨[(0, .vs (l.map t1)), (3, .int .i64 j)], [], [], 0⟩)
  (List.range l.length) (fun _ _ => ()) (nmB l)
  (fun o => o = some (.ex .ret ⟨[(2, .bool false)], [], [], 0⟩))
  (fun _ => some (.ex .nrm ⟨[], [], [], 0⟩))
  (fun x => by
   rw [List.length_range]
   show (K E A51_L1 _).bind _ = _
   rw [A51_L1_eq]; simp +contextual -implicitDefEqProofs (maxSteps := 2000000) only [go_sem, ↓reduceIte, A51_L1b, Int.lt_irrefl, List.length_map])
  (fun i j' x hj he => by
   rw [List.length_range] at hj
   rw [range_get hj] at he
   cases he
   have g1 := get_m t1 (getD_of ([] : List UInt8) (l := l) (i := i) hj)
   simp only [t1] at g1
   have hw := wr_k (k := i) (by omega)
   have h3 : (0 : Int) ≤ i := by omega
   have h4 : (i : Int) < l.length := by omega
   have q := in114 l hl i hj
   have o := c72 (l.getD i [])
   unfold nmB
   generalize ((List.range i).any fun k => decide (l.getD k [] = l.getD i [])) = t at *
   generalize l.getD i [] = u at *
   cases hb : nameB u <;> rw [hb] at o
   ·refine ⟨fun h => ?_, fun h => absurd h (by simp)⟩
    show (K E A51_L1 _).bind _ = _
    rw [A51_L1_eq]
    simp +contextual -implicitDefEqProofs (maxSteps := 2000000) only [go_sem, ↓reduceIte, A51_L1b, h3, h4, g1, hw, List.length_map, o]
   ·cases t
    ·refine ⟨fun h => absurd h (by simp), fun h => ?_⟩
     have q := q.2 rfl
     show (K E A51_L1 _).bind _ = (K E A51_L1 _).bind _
     conv => lhs; rw [A51_L1_eq]
     simp +contextual -implicitDefEqProofs (maxSteps := 2000000) only [go_sem, ↓reduceIte, A51_L1b, h3, h4, g1, hw, List.length_map, o, q]
    ·refine ⟨fun h => ?_, fun h => absurd h (by simp)⟩
     have q := q.1 rfl
     show (K E A51_L1 _).bind _ = _
     rw [A51_L1_eq]
     simp +contextual -implicitDefEqProofs (maxSteps := 2000000) only [go_sem, ↓reduceIte, A51_L1b, h3, h4, g1, hw, List.length_map, o, q])
  ()
 unfold nmsB
 generalize (List.range l.length).any (nmB l) = t at *
 simp only [Int.natCast_zero, Int.ofNat_zero] at lp
 cases t
 ·have lp := lp.2 rfl
  rw [pc_eq]; simp +contextual -implicitDefEqProofs (maxSteps := 2000000) only [go_sem, ↓reduceIte, E_51, A51, lp]
 ·have lp := lp.1 rfl
  rw [pc_eq]; simp +contextual -implicitDefEqProofs (maxSteps := 2000000) only [go_sem, ↓reduceIte, E_51, A51, lp]
theorem in115 (l : List Pt) (hl : l.length ≤ 4) (i : Nat) (hi : i < l.length) :
  (((List.range l.length).any fun k => decide (oriE (ptn l i) (ptn l (i + 1)) (ptn l k) < 0)) = true → (K E A52_L0 ⟨[(0, .vs (l.map c2)), (3, .int .i64 i), (4, .int .i64 0)], [], [], 0⟩).bind (blockR 2 (some [0, 3]) [2, 4, 71]) = some (.ex .ret ⟨[(2, .bool false)], [], [], 0⟩)) ∧
  (((List.range l.length).any fun k => decide (oriE (ptn l i) (ptn l (i + 1)) (ptn l k) < 0)) = false → (K E A52_L0 ⟨[(0, .vs (l.map c2)), (3, .int .i64 i), (4, .int .i64 0)], [], [], 0⟩).bind (blockR 2 (some [0, 3]) [2, 4, 71]) = some (.ex .nrm ⟨[(0, .vs (l.map c2)), (3, .int .i64 i)], [], [], 0⟩)) := by
 have lp := loop_leave (σ := Unit) (fun S => (K E A52_L0 S).bind (blockR 2 (some [0, 3]) [2, 4, 71]))
  (fun j _ => ⟨[(0, .vs (l.map c2)), (3, .int .i64 i), (4, .int .i64 j)], [], [], 0⟩)
  (List.range l.length) (fun _ _ => ()) (fun k => decide (oriE (ptn l i) (ptn l (i + 1)) (ptn l k) < 0))
  (fun o => o = some (.ex .ret ⟨[(2, .bool false)], [], [], 0⟩))
  (fun _ => some (.ex .nrm ⟨[(0, .vs (l.map c2)), (3, .int .i64 i)], [], [], 0⟩))
  (fun x => by
   rw [List.length_range]
   show (K E A52_L0 _).bind _ = _
   rw [A52_L0_eq]; simp +contextual -implicitDefEqProofs (maxSteps := 2000000) only [go_sem, ↓reduceIte, A52_L0b, Int.lt_irrefl, List.length_map])
  (fun j j' x hj he => by
   rw [List.length_range] at hj
   rw [range_get hj] at he
   cases he
   have g1 := get_c2 (ptn_get (l := l) hi)
   have g2 := get_c2 (ptn_get (l := l) hj)
   have g3 := get_c2 (ptn_mod (l := l) (k := i + 1) (by omega))
   obtain ⟨m1, m2, m3, m4, m5⟩ := mod_nat (k := i) (n := l.length) hi (by omega)
   have hw := wr_k (k := j) (by omega)
   have hw2 := wr_k (k := i) (by omega)
   have h2 : (0 : Int) ≤ j := by omega
   have h3 : (0 : Int) ≤ i := by omega
   have h4 : (i : Int) < l.length := by omega
   have h5 : (j : Int) < l.length := by omega
   have o := R.c73 (ptn l i).1 (ptn l i).2 (ptn l (i + 1)).1 (ptn l (i + 1)).2 (ptn l j).1 (ptn l j).2
   unfold oriE
   generalize sgn (crW (ptn l i).1 (ptn l i).2 (ptn l (i + 1)).1 (ptn l (i + 1)).2 (ptn l j).1 (ptn l j).2) = v at *
   generalize ptn l i = p1 at *
   generalize ptn l (i + 1) = p2 at *
   generalize ptn l j = p3 at *
   refine ⟨fun h => ?_, fun h => ?_⟩
   ·have h := of_decide_eq_true h
    show (K E A52_L0 _).bind _ = _
    rw [A52_L0_eq]
    simp +contextual -implicitDefEqProofs (maxSteps := 2000000) only [go_sem, ↓reduceIte, A52_L0b, h2, h3, h4, h5, g1, g2, g3, m1, m2, m3, m4, m5, hw, hw2, List.length_map, o, h]
   ·have h := of_decide_eq_false h
    show (K E A52_L0 _).bind _ = (K E A52_L0 _).bind _
    conv => lhs; rw [A52_L0_eq]
    simp +contextual -implicitDefEqProofs (maxSteps := 2000000) only [go_sem, ↓reduceIte, A52_L0b, h2, h3, h4, h5, g1, g2, g3, m1, m2, m3, m4, m5, hw, hw2, List.length_map, o, h])
  ()
 exact lp
theorem c52 (l : List Pt) : pc E 52 [.vs (l.map c2)] = some (.bool (shpB l)) := by
 unfold shpB
 by_cases k1 : (4 : Int) < l.length
 ·have k1' : ¬ l.length ≤ 4 := by omega
  rw [pc_eq]; simp +contextual -implicitDefEqProofs (maxSteps := 2000000) only [go_sem, ↓reduceIte, E_52, A52, List.length_map, k1, k1', decide_true, decide_false]
 ·have k1' : l.length ≤ 4 := by omega
  have hv := R.c49 l
  cases hb : valB l <;> rw [hb] at hv
  ·rw [pc_eq]; simp +contextual -implicitDefEqProofs (maxSteps := 2000000) only [go_sem, ↓reduceIte, E_52, A52, List.length_map, k1, k1', hv, decide_true, decide_false]
  ·have lp := loop_leave (σ := Unit) (fun S => (K E A52_L1 S).bind (blockR 0 (some []) [2, 3, 4, 71]))
    (fun j _ => ⟨[(0, .vs (l.map c2)), (3, .int .i64 j)], [], [], 0⟩)
    (List.range l.length) (fun _ _ => ()) (shpI l)
    (fun o => o = some (.ex .ret ⟨[(2, .bool false)], [], [], 0⟩))
    (fun _ => some (.ex .nrm ⟨[], [], [], 0⟩))
    (fun x => by
     rw [List.length_range]
     show (K E A52_L1 _).bind _ = _
     rw [A52_L1_eq]; simp +contextual -implicitDefEqProofs (maxSteps := 2000000) only [go_sem, ↓reduceIte, A52_L1b, Int.lt_irrefl, List.length_map])
    (fun i j' x hj he => by
     rw [List.length_range] at hj
     rw [range_get hj] at he
     cases he
     have g1 := get_c2 (ptn_get (l := l) hj)
     have hw := wr_k (k := i) (by omega)
     have h3 : (0 : Int) ≤ i := by omega
     have h4 : (i : Int) < l.length := by omega
     have q := in115 l k1' i hj
     unfold shpI
     generalize ((List.range l.length).any fun k => decide (oriE (ptn l i) (ptn l (i + 1)) (ptn l k) < 0)) = t at *
     generalize ptn l i = p at *
     obtain ⟨px, py⟩ := p
     simp only at g1
     by_cases a1 : px < -10 <;> by_cases a2 : 10 < px <;> by_cases a3 : py < -10 <;> by_cases a4 : 10 < py <;> cases t <;> simp only [a1, a2, a3, a4, decide_true, decide_false, Bool.or_true, Bool.or_false, Bool.true_or, Bool.false_or] <;> refine ⟨fun h => ?_, fun h => ?_⟩ <;> first
      | (exact absurd h (by decide))
      | (have q := q.1 rfl
         show (K E A52_L1 _).bind _ = some _
         rw [A52_L1_eq]
         simp +contextual -implicitDefEqProofs (maxSteps := 2000000) only [go_sem, ↓reduceIte, A52_L1b, h3, h4, g1, hw, List.length_map, a1, a2, a3, a4, q])
      | (have q := q.2 rfl
         show (K E A52_L1 _).bind _ = (K E A52_L1 _).bind _
         conv => lhs; rw [A52_L1_eq]
         simp +contextual -implicitDefEqProofs (maxSteps := 2000000) only [go_sem, ↓reduceIte, A52_L1b, h3, h4, g1, hw, List.length_map, a1, a2, a3, a4, q])
      | (show (K E A52_L1 _).bind _ = some _
         rw [A52_L1_eq]
         simp +contextual -implicitDefEqProofs (maxSteps := 2000000) only [go_sem, ↓reduceIte, A52_L1b, h3, h4, g1, hw, List.length_map, a1, a2, a3, a4]))
    ()
   generalize (List.range l.length).any (shpI l) = t at *
   simp only [Int.natCast_zero, Int.ofNat_zero] at lp
   cases t
   ·have lp := lp.2 rfl
    rw [pc_eq]; simp +contextual -implicitDefEqProofs (maxSteps := 2000000) only [go_sem, ↓reduceIte, E_52, A52, List.length_map, k1, k1', hv, lp, decide_true, decide_false]
   ·have lp := lp.1 rfl
    rw [pc_eq]; simp +contextual -implicitDefEqProofs (maxSteps := 2000000) only [go_sem, ↓reduceIte, E_52, A52, List.length_map, k1, k1', hv, lp, decide_true, decide_false]
theorem c33 (l : List (List Pt)) : pc E 33 [.vs (l.map p1)] = some (.bool (polB l)) := by
 unfold polB
 by_cases k1 : (16 : Int) < l.length
 ·have k1' : ¬ l.length ≤ 16 := by omega
  rw [pc_eq]; simp +contextual -implicitDefEqProofs (maxSteps := 2000000) only [go_sem, ↓reduceIte, E_33, A33, List.length_map, k1, k1', decide_true, decide_false]
 ·have k1' : l.length ≤ 16 := by omega
  have lp := loop_leave (σ := Unit) (fun S => (K E A33_L0 S).bind (blockR 0 (some []) [2, 3, 17]))
   (fun j _ => ⟨[(0, .vs (l.map p1)), (3, .int .i64 j)], [], [], 0⟩)
   l (fun _ _ => ()) (fun p => !valB p)
   (fun o => o = some (.ex .ret ⟨[(2, .bool false)], [], [], 0⟩))
   (fun _ => some (.ex .nrm ⟨[], [], [], 0⟩))
   (fun x => by
    show (K E A33_L0 _).bind _ = _
    rw [A33_L0_eq]; simp +contextual -implicitDefEqProofs (maxSteps := 2000000) only [go_sem, ↓reduceIte, A33_L0b, Int.lt_irrefl, List.length_map])
   (fun i p x hj he => by
    have g1 := get_m p1 he
    simp only [p1] at g1
    have hw := wr_k (k := i) (by omega)
    have h3 : (0 : Int) ≤ i := by omega
    have h4 : (i : Int) < l.length := by omega
    have o := R.c49 p
    cases hb : valB p <;> rw [hb] at o
    ·refine ⟨fun _ => ?_, fun h => absurd h (by decide)⟩
     show (K E A33_L0 _).bind _ = _
     rw [A33_L0_eq]
     simp +contextual -implicitDefEqProofs (maxSteps := 2000000) only [go_sem, ↓reduceIte, A33_L0b, h3, h4, g1, hw, List.length_map, o]
    ·refine ⟨fun h => absurd h (by decide), fun _ => ?_⟩
     show (K E A33_L0 _).bind _ = (K E A33_L0 _).bind _
     conv => lhs; rw [A33_L0_eq]
     simp +contextual -implicitDefEqProofs (maxSteps := 2000000) only [go_sem, ↓reduceIte, A33_L0b, h3, h4, g1, hw, List.length_map, o])
   ()
  have e : (l.any fun p => !valB p) = !l.all valB := by rw [List.all_eq_not_any_not]; simp
  rw [e] at lp
  simp only [Int.natCast_zero, Int.ofNat_zero] at lp
  cases ha : l.all valB <;> rw [ha] at lp
  ·have lp := lp.1 rfl
   rw [pc_eq]; simp +contextual -implicitDefEqProofs (maxSteps := 2000000) only [go_sem, ↓reduceIte, E_33, A33, List.length_map, k1, k1', lp, decide_true, decide_false]
  ·have lp := lp.2 rfl
   rw [pc_eq]; simp +contextual -implicitDefEqProofs (maxSteps := 2000000) only [go_sem, ↓reduceIte, E_33, A33, List.length_map, k1, k1', lp, decide_true, decide_false]
end Go.Proofs.YtnecdcaaknhgpaaGreat.G

namespace Go.Proofs.YtnecdcaaknhgpaaGreat.G
open Go Go.Zv
open Go.Geo
theorem c71_3 : pc E 71 [.int .i64 3] = some (.int .i64 274625) := by rw [pc_eq]; simp +contextual -implicitDefEqProofs (maxSteps := 2000000) only [go_sem, ↓reduceIte, E_71, A71, A71_L0_eq, A71_L0b]
theorem c84g (x y : Int) : pc E 50 [.agg [.int .i64 x, .int .i64 y, .int .i64 3]] = some (.bool (dirB x y)) := by
 have h := c71_3
 have hn : IntKind.i64.wrap (-274625) = -274625 := by decide
 have h0 : ¬ ((3 : Int) < 0) := by omega
 have h2 : ¬ ((3 : Int) < 3) := by omega
 unfold dirB
 by_cases k1 : -274625 ≤ x
 ·by_cases k2 : x ≤ 274625
  ·by_cases k3 : -274625 ≤ y
   ·by_cases k4 : y ≤ 274625
    ·have m1 := mul_bd (A := 274625) (C := 274625) (x := x) (y := x) (by omega) (by omega) (by omega) (by omega)
     have m2 := mul_bd (A := 274625) (C := 274625) (x := y) (y := y) (by omega) (by omega) (by omega) (by omega)
     have w1 : IntKind.i64.wrap (x * x) = x * x := wrap_small (by omega) (by omega)
     have w2 : IntKind.i64.wrap (y * y) = y * y := wrap_small (by omega) (by omega)
     have w3 : IntKind.i64.wrap (274625 * 274625) = 75418890625 := by decide
     have w4 : IntKind.i64.wrap (x * x + y * y) = x * x + y * y := wrap_small (by omega) (by omega)
     have b : (x * x + y * y == 75418890625) = decide (x * x + y * y = 75418890625) := Bool.beq_eq_decide_eq _ _
     generalize decide (x * x + y * y = 75418890625) = d at *
     rw [pc_eq]; simp +contextual -implicitDefEqProofs (maxSteps := 2000000) only [go_sem, ↓reduceIte, E_50, A50, h, hn, h0, h2, k1, k2, k3, k4, w1, w2, w3, w4, b, decide_true, decide_false]
    ·rw [pc_eq]; simp +contextual -implicitDefEqProofs (maxSteps := 2000000) only [go_sem, ↓reduceIte, E_50, A50, h, hn, h0, h2, k1, k2, k3, k4, decide_true, decide_false]
   ·rw [pc_eq]; simp +contextual -implicitDefEqProofs (maxSteps := 2000000) only [go_sem, ↓reduceIte, E_50, A50, h, hn, h0, h2, k1, k2, k3, decide_true, decide_false]
  ·rw [pc_eq]; simp +contextual -implicitDefEqProofs (maxSteps := 2000000) only [go_sem, ↓reduceIte, E_50, A50, h, hn, h0, h2, k1, k2, decide_true, decide_false]
 ·rw [pc_eq]; simp +contextual -implicitDefEqProofs (maxSteps := 2000000) only [go_sem, ↓reduceIte, E_50, A50, h, hn, h0, h2, k1, decide_true, decide_false]
theorem c32 (v a j : Int) : pc E 32 [.agg [.int .i64 v, .int .i64 a, .int .i64 j]] = some (.bool (bouB v a j)) := by
 unfold bouB
 by_cases k1 : 1 ≤ v
 ·by_cases k2 : v ≤ 8
  ·by_cases k3 : 1 ≤ a
   ·by_cases k4 : a ≤ 4
    ·by_cases k5 : 1 ≤ j
     ·by_cases k6 : j ≤ 2 <;> rw [pc_eq] <;> simp +contextual -implicitDefEqProofs (maxSteps := 2000000) only [go_sem, ↓reduceIte, E_32, A32, k1, k2, k3, k4, k5, k6, decide_true, decide_false]
     ·rw [pc_eq]; simp +contextual -implicitDefEqProofs (maxSteps := 2000000) only [go_sem, ↓reduceIte, E_32, A32, k1, k2, k3, k4, k5, decide_true, decide_false]
    ·rw [pc_eq]; simp +contextual -implicitDefEqProofs (maxSteps := 2000000) only [go_sem, ↓reduceIte, E_32, A32, k1, k2, k3, k4, decide_true, decide_false]
   ·rw [pc_eq]; simp +contextual -implicitDefEqProofs (maxSteps := 2000000) only [go_sem, ↓reduceIte, E_32, A32, k1, k2, k3, decide_true, decide_false]
  ·rw [pc_eq]; simp +contextual -implicitDefEqProofs (maxSteps := 2000000) only [go_sem, ↓reduceIte, E_32, A32, k1, k2, decide_true, decide_false]
 ·rw [pc_eq]; simp +contextual -implicitDefEqProofs (maxSteps := 2000000) only [go_sem, ↓reduceIte, E_32, A32, k1, decide_true, decide_false]
end Go.Proofs.YtnecdcaaknhgpaaGreat.G

namespace Go.Proofs.YtnecdcaaknhgpaaGreat.G
open Go Go.Zv
open Go.Geo
theorem w16 (x : Int) : IntKind.i64.wrap (x.tmod 16) = x.tmod 16 := by
 have h := Int.lt_tmod_of_pos x (show (0 : Int) < 16 by omega)
 have h2 := Int.tmod_lt_of_pos x (show (0 : Int) < 16 by omega)
 exact wrap_small (by omega) (by omega)
def nm1 (l : List Plc) (k : Nat) : List (List LV) := (l.take k).map fun p => t1 p.nm
theorem nm1_len (l) (k : Nat) (h : k ≤ l.length) : (nm1 l k).length = k := by simp [nm1]; omega
theorem nm1_succ {l : List Plc} {k : Nat} {p : Plc} (h : l[k]? = some p) : nm1 l k ++ [[.str p.nm]] = nm1 l (k + 1) := by
 unfold nm1; rw [List.take_add_one, h]; simp [t1]
theorem lp102 (l : List Plc) (hl : l.length ≤ 16) :
  (l.any badP = true → ∃ X, (K E A35_L0 ⟨[(0, .vs (l.map plv)), (3, .bs 768 0 0), (4, .int .i64 0)], [], [(768, .row 1 [])], 0⟩).bind (blockR 0 (some [0, 3]) [2, 4, 5, 19, 62]) = some (.ex .ret ⟨[(2, .bool false)], [], X, 0⟩)) ∧
  (l.any badP = false → (K E A35_L0 ⟨[(0, .vs (l.map plv)), (3, .bs 768 0 0), (4, .int .i64 0)], [], [(768, .row 1 [])], 0⟩).bind (blockR 0 (some [0, 3]) [2, 4, 5, 19, 62]) = some (.ex .nrm ⟨[(0, .vs (l.map plv)), (3, .bs 768 0 l.length)], [], [(768, .row 1 (nm1 l l.length))], 0⟩)) := by
 have lp := loop_leave (σ := Unit) (fun S => (K E A35_L0 S).bind (blockR 0 (some [0, 3]) [2, 4, 5, 19, 62]))
  (fun k _ => ⟨[(0, .vs (l.map plv)), (3, .bs 768 0 k), (4, .int .i64 k)], [], [(768, .row 1 (nm1 l k))], 0⟩)
  l (fun _ _ => ()) badP
  (fun o => ∃ X, o = some (.ex .ret ⟨[(2, .bool false)], [], X, 0⟩))
  (fun _ => some (.ex .nrm ⟨[(0, .vs (l.map plv)), (3, .bs 768 0 l.length)], [], [(768, .row 1 (nm1 l l.length))], 0⟩))
  (fun x => by
   show (K E A35_L0 _).bind _ = _
   rw [A35_L0_eq]; simp +contextual -implicitDefEqProofs (maxSteps := 2000000) only [go_sem, ↓reduceIte, A35_L0b, Int.lt_irrefl, List.length_map])
  (fun k p x hk hp => by
   have g1 := get_m plv hp
   simp only [plv] at g1
   have hw := wr_k (k := k) (by omega)
   have h3 : (0 : Int) ≤ k := by omega
   have h4 : (k : Int) < l.length := by omega
   have wl := nm1_len l k (by omega)
   have wt : (nm1 l k).take k = nm1 l k := List.take_of_length_le (by omega)
   have e := nm1_succ hp
   have hb : k + 1 ≤ 1000000000 := by omega
   have b1 : (p.x.tmod 16 != 0) = !decide (p.x.tmod 16 = 0) := by rw [bne, Bool.beq_eq_decide_eq]
   have b2 : (p.y.tmod 16 != 0) = !decide (p.y.tmod 16 = 0) := by rw [bne, Bool.beq_eq_decide_eq]
   have w1 := w16 p.x
   have w2 := w16 p.y
   have o := c84g p.dx p.dy
   unfold badP
   have hlen : (l.map plv).length = l.length := List.length_map ..
   generalize (l.map plv) = rows at *
   generalize nm1 l k = ns at *
   generalize nm1 l (k + 1) = ns' at *
   generalize decide (p.x.tmod 16 = 0) = u1 at *
   generalize decide (p.y.tmod 16 = 0) = u2 at *
   have ret : ∀ X : Heap, (K E A35_L0 ⟨[(0, .vs rows), (3, .bs 768 0 k), (4, .int .i64 k)], [], [(768, .row 1 ns)], 0⟩).bind (blockR 0 (some [0, 3]) [2, 4, 5, 19, 62]) = some (.ex .ret ⟨[(2, .bool false)], [], X, 0⟩) → ∃ X, (K E A35_L0 ⟨[(0, .vs rows), (3, .bs 768 0 k), (4, .int .i64 k)], [], [(768, .row 1 ns)], 0⟩).bind (blockR 0 (some [0, 3]) [2, 4, 5, 19, 62]) = some (.ex .ret ⟨[(2, .bool false)], [], X, 0⟩) := fun X h => ⟨X, h⟩
   by_cases k3 : 373490000 < mxI p.x p.y
   ·simp only [k3, decide_true, Bool.true_or, Bool.or_true]
    refine ⟨fun _ => ret [(4864, .row 1 [[.str p.nm]]), (768, .row 1 ns')] ?_, fun h => absurd h (by decide)⟩
    rw [A35_L0_eq]
    cases u1 <;> cases u2 <;> simp +contextual -implicitDefEqProofs (maxSteps := 2000000) only [go_sem, ↓reduceIte, A35_L0b, hlen, h3, h4, g1, hw, w1, w2, b1, b2, k3, wl, wt, e, hb, Nat.le_refl, Bool.not_true, Bool.not_false]
   by_cases k4 : mnI p.x p.y < -373490000
   ·simp only [k3, k4, decide_true, decide_false, Bool.true_or, Bool.or_true]
    refine ⟨fun _ => ret [(4864, .row 1 [[.str p.nm]]), (768, .row 1 ns')] ?_, fun h => absurd h (by decide)⟩
    rw [A35_L0_eq]
    cases u1 <;> cases u2 <;> simp +contextual -implicitDefEqProofs (maxSteps := 2000000) only [go_sem, ↓reduceIte, A35_L0b, hlen, h3, h4, g1, hw, w1, w2, b1, b2, k3, k4, wl, wt, e, hb, Nat.le_refl, Bool.not_true, Bool.not_false]
   by_cases k5 : p.dn = 3
   ·rw [k5] at g1
    generalize dirB p.dx p.dy = u3 at *
    simp only [k3, k4, k5, decide_true, decide_false, Bool.not_true, Bool.false_or]
    cases u1 <;> cases u2 <;> cases u3 <;> refine ⟨fun h => ?_, fun h => ?_⟩ <;> first
     | (exact absurd h (by decide))
     | (refine ret [(4864, .row 1 [[.str p.nm]]), (768, .row 1 ns')] ?_
        rw [A35_L0_eq]
        simp +contextual -implicitDefEqProofs (maxSteps := 2000000) only [go_sem, ↓reduceIte, A35_L0b, hlen, h3, h4, g1, hw, w1, w2, b1, b2, k3, k4, o, wl, wt, e, hb, Nat.le_refl, Bool.not_true, Bool.not_false])
     | (show (K E A35_L0 _).bind _ = (K E A35_L0 _).bind _
        conv => lhs; rw [A35_L0_eq]
        simp +contextual -implicitDefEqProofs (maxSteps := 2000000) only [go_sem, ↓reduceIte, A35_L0b, hlen, h3, h4, g1, hw, w1, w2, b1, b2, k3, k4, o, wl, wt, e, hb, Nat.le_refl, Bool.not_true, Bool.not_false])
   ·have b5 : (p.dn != 3) = true := by simp [k5]
    simp only [k3, k4, k5, decide_true, decide_false, Bool.not_false, Bool.true_or, Bool.or_true]
    refine ⟨fun _ => ret [(4864, .row 1 [[.str p.nm]]), (768, .row 1 ns')] ?_, fun h => absurd h (by decide)⟩
    rw [A35_L0_eq]
    cases u1 <;> cases u2 <;> simp +contextual -implicitDefEqProofs (maxSteps := 2000000) only [go_sem, ↓reduceIte, A35_L0b, hlen, h3, h4, g1, hw, w1, w2, b1, b2, b5, k3, k4, k5, wl, wt, e, hb, Nat.le_refl, Bool.not_true, Bool.not_false])
  ()
 simp only [Int.natCast_zero, Int.ofNat_zero, show nm1 l 0 = [] from rfl] at lp
 exact lp
theorem c35 (l : List Plc) (hl : l.length ≤ 16) : pc E 35 [.vs (l.map plv)] = some (.bool (plcB l)) := by
 have lp := lp102 l hl
 have hn := c51 (l.map (·.nm)) (by rw [List.length_map]; omega)
 have e : (l.map (·.nm)).map t1 = nm1 l l.length := by unfold nm1; rw [List.take_length, List.map_map]; rfl
 rw [e] at hn
 have wl := nm1_len l l.length (Nat.le_refl _)
 have wt : (nm1 l l.length).take l.length = nm1 l l.length := List.take_of_length_le (by omega)
 have k16 : (l.length : Int) ≤ 16 := by omega
 unfold plcB
 rw [decide_eq_true hl]
 generalize nm1 l l.length = ns at *
 cases hb : l.any badP <;> rw [hb] at lp
 ·have lp := lp.2 rfl
  rw [pc_eq]; simp +contextual -implicitDefEqProofs (maxSteps := 2000000) only [go_sem, ↓reduceIte, E_35, A35, lp, List.length_map, k16, hn, wl, wt, Nat.le_refl, Bool.not_false, Bool.true_and]
 ·obtain ⟨X, lp⟩ := lp.1 rfl
  rw [pc_eq]; simp +contextual -implicitDefEqProofs (maxSteps := 2000000) only [go_sem, ↓reduceIte, E_35, A35, lp, Bool.not_true, Bool.false_and]
end Go.Proofs.YtnecdcaaknhgpaaGreat.G

namespace Go.Proofs.YtnecdcaaknhgpaaGreat.G
open Go Go.Zv
open Go.Geo
def pn1 (l : List Prt) (k : Nat) : List (List LV) := (l.take k).map fun p => t1 p.nm
def pa1 (l : List Prt) (k : Nat) : List (List LV) := (l.take k).map fun p => c1 p.at_
theorem pn1_len (l) (k : Nat) (h : k ≤ l.length) : (pn1 l k).length = k := by simp [pn1]; omega
theorem pa1_len (l) (k : Nat) (h : k ≤ l.length) : (pa1 l k).length = k := by simp [pa1]; omega
theorem pn1_succ {l : List Prt} {k : Nat} {p : Prt} (h : l[k]? = some p) : pn1 l k ++ [[.str p.nm]] = pn1 l (k + 1) := by
 unfold pn1; rw [List.take_add_one, h]; simp [t1]
theorem pa1_succ {l : List Prt} {k : Nat} {p : Prt} (h : l[k]? = some p) : pa1 l k ++ [[.int .i64 p.at_]] = pa1 l (k + 1) := by
 unfold pa1; rw [List.take_add_one, h]; simp [c1]
theorem lp103 (l : List Prt) (hl : l.length ≤ 8) (m : Int) :
  ((l.any fun p => !shpB p.sh) = true → ∃ X, (K E A36_L0 ⟨[(0, .vs (l.map prv)), (1, .int .i64 m), (5, .bs 1280 0 0), (6, .bs 1536 0 0), (7, .int .i64 0)], [], [(1536, .row 1 []), (1280, .row 1 [])], 0⟩).bind (blockR 0 (some [0, 1, 5, 6]) [4, 7, 20, 28, 35]) = some (.ex .ret ⟨[(4, .bool false)], [], X, 0⟩)) ∧
  ((l.any fun p => !shpB p.sh) = false → (K E A36_L0 ⟨[(0, .vs (l.map prv)), (1, .int .i64 m), (5, .bs 1280 0 0), (6, .bs 1536 0 0), (7, .int .i64 0)], [], [(1536, .row 1 []), (1280, .row 1 [])], 0⟩).bind (blockR 0 (some [0, 1, 5, 6]) [4, 7, 20, 28, 35]) = some (.ex .nrm ⟨[(0, .vs (l.map prv)), (1, .int .i64 m), (5, .bs 1280 0 l.length), (6, .bs 1536 0 l.length)], [], [(1536, .row 1 (pa1 l l.length)), (1280, .row 1 (pn1 l l.length))], 0⟩)) := by
 have lp := loop_leave (σ := Unit) (fun S => (K E A36_L0 S).bind (blockR 0 (some [0, 1, 5, 6]) [4, 7, 20, 28, 35]))
  (fun k _ => ⟨[(0, .vs (l.map prv)), (1, .int .i64 m), (5, .bs 1280 0 k), (6, .bs 1536 0 k), (7, .int .i64 k)], [], [(1536, .row 1 (pa1 l k)), (1280, .row 1 (pn1 l k))], 0⟩)
  l (fun _ _ => ()) (fun p => !shpB p.sh)
  (fun o => ∃ X, o = some (.ex .ret ⟨[(4, .bool false)], [], X, 0⟩))
  (fun _ => some (.ex .nrm ⟨[(0, .vs (l.map prv)), (1, .int .i64 m), (5, .bs 1280 0 l.length), (6, .bs 1536 0 l.length)], [], [(1536, .row 1 (pa1 l l.length)), (1280, .row 1 (pn1 l l.length))], 0⟩))
  (fun x => by
   show (K E A36_L0 _).bind _ = _
   rw [A36_L0_eq]; simp +contextual -implicitDefEqProofs (maxSteps := 2000000) only [go_sem, ↓reduceIte, A36_L0b, Int.lt_irrefl, List.length_map])
  (fun k p x hk hp => by
   have g1 := get_m prv hp
   simp only [prv] at g1
   have hw := wr_k (k := k) (by omega)
   have h3 : (0 : Int) ≤ k := by omega
   have h4 : (k : Int) < l.length := by omega
   have wl := pn1_len l k (by omega)
   have wt : (pn1 l k).take k = pn1 l k := List.take_of_length_le (by omega)
   have wl2 := pa1_len l k (by omega)
   have wt2 : (pa1 l k).take k = pa1 l k := List.take_of_length_le (by omega)
   have e := pn1_succ hp
   have e2 := pa1_succ hp
   have hb : k + 1 ≤ 1000000000 := by omega
   have o := c52 p.sh
   have hlen : (l.map prv).length = l.length := List.length_map ..
   generalize (l.map prv) = rows at *
   generalize pn1 l k = ns at *
   generalize pn1 l (k + 1) = ns' at *
   generalize pa1 l k = as_ at *
   generalize pa1 l (k + 1) = as' at *
   cases hb2 : shpB p.sh <;> rw [hb2] at o
   ·refine ⟨fun _ => ⟨[(7168, .row 1 [[.int .i64 p.at_]]), (5120, .row 1 [[.str p.nm]]), (1536, .row 1 as'), (1280, .row 1 ns')], ?_⟩, fun h => absurd h (by decide)⟩
    show (K E A36_L0 _).bind _ = _
    rw [A36_L0_eq]
    simp +contextual -implicitDefEqProofs (maxSteps := 2000000) only [go_sem, ↓reduceIte, A36_L0b, hlen, h3, h4, g1, hw, wl, wt, wl2, wt2, e, e2, hb, o, Nat.le_refl]
   ·refine ⟨fun h => absurd h (by decide), fun _ => ?_⟩
    show (K E A36_L0 _).bind _ = (K E A36_L0 _).bind _
    conv => lhs; rw [A36_L0_eq]
    simp +contextual -implicitDefEqProofs (maxSteps := 2000000) only [go_sem, ↓reduceIte, A36_L0b, hlen, h3, h4, g1, hw, wl, wt, wl2, wt2, e, e2, hb, o, Nat.le_refl])
  ()
 simp only [Int.natCast_zero, Int.ofNat_zero, show pn1 l 0 = [] from rfl, show pa1 l 0 = [] from rfl] at lp
 exact lp
theorem c36 (l : List Prt) (hl : l.length ≤ 8) (m : Int) : pc E 36 [.vs (l.map prv), .int .i64 m] = some (.bool (prtB l m)) := by
 have lp := lp103 l hl m
 have hn := c51 (l.map (·.nm)) (by rw [List.length_map]; omega)
 have ha := c37 (l.map (·.at_)) m (by rw [List.length_map]; omega)
 have e : (l.map (·.nm)).map t1 = pn1 l l.length := by unfold pn1; rw [List.take_length, List.map_map]; rfl
 have e2 : (l.map (·.at_)).map c1 = pa1 l l.length := by unfold pa1; rw [List.take_length, List.map_map]; rfl
 rw [e] at hn
 rw [e2] at ha
 have wl := pn1_len l l.length (Nat.le_refl _)
 have wt : (pn1 l l.length).take l.length = pn1 l l.length := List.take_of_length_le (by omega)
 have wl2 := pa1_len l l.length (Nat.le_refl _)
 have wt2 : (pa1 l l.length).take l.length = pa1 l l.length := List.take_of_length_le (by omega)
 have k16 : (l.length : Int) ≤ 8 := by omega
 unfold prtB
 rw [decide_eq_true hl]
 generalize pn1 l l.length = ns at *
 generalize pa1 l l.length = as_ at *
 generalize unlB (l.map (·.at_)) m = u2 at *
 generalize nmsB (l.map (·.nm)) = u1 at *
 cases hb : (l.any fun p => !shpB p.sh) <;> rw [hb] at lp
 ·have lp := lp.2 rfl
  cases u1 <;> rw [pc_eq] <;> simp +contextual -implicitDefEqProofs (maxSteps := 2000000) only [go_sem, ↓reduceIte, E_36, A36, lp, List.length_map, k16, hn, ha, wl, wt, wl2, wt2, Nat.le_refl, Bool.not_false, Bool.true_and, Bool.false_and]
 ·obtain ⟨X, lp⟩ := lp.1 rfl
  rw [pc_eq]; simp +contextual -implicitDefEqProofs (maxSteps := 2000000) only [go_sem, ↓reduceIte, E_36, A36, lp, Bool.not_true, Bool.false_and]
end Go.Proofs.YtnecdcaaknhgpaaGreat.G

namespace Go.Geo
open Go Go.Zv
/-! a polygon cut in two -/
section
variable {a : List Pt} {k : Nat}
def cut1 (a : List Pt) (k : Nat) : List Pt := a.take (k + 1)
def cut2 (a : List Pt) (k : Nat) : List Pt := ptn a 0 :: a.drop k
end
end Go.Geo

namespace Go.Geo
open Go Go.Zv
end Go.Geo

namespace Go.Geo
open Go Go.Zv
theorem loc_vals (l : List Pt) (p : Pt) : locI l p = 0 ∨ locI l p = 1 ∨ locI l p = -1 := by
 unfold locI; split
 ·exact .inl rfl
 ·split
  ·exact .inr (.inl rfl)
  ·exact .inr (.inr rfl)
end Go.Geo

namespace Go.Geo
open Go Go.Zv
end Go.Geo

namespace Go.Proofs.YtnecdcaaknhgpaaGreat.G
open Go Go.Zv
open Go.Geo
def gapI (l m : List (Int × Int)) : Int := if l = [] ∨ m = [] then 0 else
 mxI (mxI (mxI (mxI 0 (w64 ((bbL m).1 - (bbH l).1))) (w64 ((bbL m).2 - (bbH l).2))) (w64 ((bbL l).1 - (bbH m).1))) (w64 ((bbL l).2 - (bbH m).2))
theorem c19 (l m : List (Int × Int)) (hl : l.length < 9223372036854775808) (hm : m.length < 9223372036854775808) : pc E 19 [.vs (l.map c2), .vs (m.map c2)] = some (.int .i64 (gapI l m)) := by
 have e1 : ∀ l : List (Int × Int), (((l.length : Nat) : Int) = 0) = (l = []) := fun l => by
  rw [eq_iff_iff]; constructor
  ·intro h; exact List.eq_nil_of_length_eq_zero (by omega)
  ·intro h; subst h; rfl
 rw [pc_eq]; simp +contextual -implicitDefEqProofs (maxSteps := 2000000) only [go_sem, ↓reduceIte, E_19, A19, c40 l hl, c40 m hm, List.length_map, e1, c41, gapI]
 repeat' split
 all_goals (try simp_all)
end Go.Proofs.YtnecdcaaknhgpaaGreat.G

/- The engine, part 32: a call without free variables, evaluated with fuel. -/
namespace Go.Zv
set_option autoImplicit false
theorem pc_of_run {E : FuncId → Option AFn} (n : Nat) {f : FuncId} {args : List LV} {v : LV} (h : pureCall (run E n) f args = some v) : pc E f args = some v :=
 (nice_pure f args).mono (fun _ _ h => Run_iff.2 ⟨n, h⟩) h
end Go.Zv

namespace Go.Proofs.YtnecdcaaknhgpaaGreat.R
open Go Go.Zv
open Go.Geo
theorem c99 (l : List Pt) (hl : l.length ≤ 1000000000) (k : Nat) (hk : k < l.length) : pc E 99 [.vs (l.map c2), .int .i64 k] = some (.int .i64 ((k + 1) % l.length : Nat)) := by
 obtain ⟨m1, m2, m3, m4, m5⟩ := mod_nat hk hl
 have hw := wr_k (k := k) (by omega)
 rw [pc_eq]; simp +contextual -implicitDefEqProofs (maxSteps := 2000000) only [go_sem, ↓reduceIte, E_99, A99, List.length_map, m1, m2, m3, hw]
end Go.Proofs.YtnecdcaaknhgpaaGreat.R

namespace Go.Geo
open Go Go.Zv
def cntE (p : Pt) (e : Pt × Pt) : Bool := (decide (e.1.2 ≤ p.2) && (decide (p.2 < e.2.2) && decide (0 < crW e.1.1 e.1.2 e.2.1 e.2.2 p.1 p.2))) || (decide (e.2.2 ≤ p.2) && (decide (p.2 < e.1.2) && decide (0 < crW e.2.1 e.2.2 e.1.1 e.1.2 p.1 p.2)))
def hasF (p : Pt) (x : Int) (e : Pt × Pt) : Int := if cntE p e = true then w64 (x + 1) else x
theorem cnt_fl {p : Pt} {e : Pt × Pt} (hp : B2 p) (h1 : B2 e.1) (h2 : B2 e.2) (hn : onE p e = false) : cntE p e = flE p e := by
 have hon : ¬ (withinB e.1.1 e.1.2 e.2.1 e.2.2 p.1 p.2 = true ∧ cr e.1.1 e.1.2 e.2.1 e.2.2 p.1 p.2 = 0) := fun h => by
  have := (onE_meets hp h1 h2).2 ((onE_int p e.1 e.2).2 h)
  rw [this] at hn; cases hn
 unfold cntE flE
 rw [crW_B h1.1 h1.2 h2.1 h2.2 hp.1 hp.2, crW_B h2.1 h2.2 h1.1 h1.2 hp.1 hp.2, cr_swap e.1.1 e.1.2 e.2.1 e.2.2 p.1 p.2]
 have s1 : 0 < sgn (cr e.1.1 e.1.2 e.2.1 e.2.2 p.1 p.2) ↔ 0 < cr e.1.1 e.1.2 e.2.1 e.2.2 p.1 p.2 := by unfold sgn; repeat' split
                                                                                                       all_goals omega
 simp only [s1]
 by_cases a : p.2 < e.1.2 <;> by_cases b : p.2 < e.2.2
 ·have a' : ¬ e.1.2 ≤ p.2 := by omega
  have b' : ¬ e.2.2 ≤ p.2 := by omega
  simp [a, b, a', b']
 ·have a' : ¬ e.1.2 ≤ p.2 := by omega
  have b' : e.2.2 ≤ p.2 := by omega
  have c : ¬ e.1.2 < e.2.2 := by omega
  have hne : cr e.1.1 e.1.2 e.2.1 e.2.2 p.1 p.2 ≠ 0 := fun hc => hon ⟨w_y hc (by omega) (by rw [mul_nn]; omega), hc⟩
  by_cases d : 0 < cr e.1.1 e.1.2 e.2.1 e.2.2 p.1 p.2
  ·have d' : ¬ 0 < -cr e.1.1 e.1.2 e.2.1 e.2.2 p.1 p.2 := by omega
   simp [a, b, a', b', c, d]; omega
  ·have d' : 0 < -cr e.1.1 e.1.2 e.2.1 e.2.2 p.1 p.2 := by omega
   simp [a, b, a', b', c, d]; omega
 ·have a' : e.1.2 ≤ p.2 := by omega
  have b' : ¬ e.2.2 ≤ p.2 := by omega
  have c : e.1.2 < e.2.2 := by omega
  by_cases d : 0 < cr e.1.1 e.1.2 e.2.1 e.2.2 p.1 p.2
  ·simp [a, b, a', b', c, d]
  ·simp [a, b, a', b', c, d]
 ·have a' : e.1.2 ≤ p.2 := by omega
  have b' : e.2.2 ≤ p.2 := by omega
  simp [a, b, a', b']
theorem has_par (p : Pt) (es : List (Pt × Pt)) (h : ∀ e ∈ es, cntE p e = flE p e) : ∀ (x : Int) (b : Bool), 0 ≤ x → x + es.length ≤ 1000 → b = decide (x % 2 = 1) → 0 ≤ es.foldl (hasF p) x ∧ es.foldl (parF p) b = decide ((es.foldl (hasF p) x) % 2 = 1) := by
 induction es with
 | nil => intro x b h1 _ hb; exact ⟨h1, hb⟩
 | cons e l ih =>
   intro x b h1 h2 hb
   rw [List.foldl_cons, List.foldl_cons]
   simp only [List.length_cons] at h2
   have hw : w64 (x + 1) = x + 1 := wrap_small (by omega) (by omega)
   refine ih (fun f hf => h f (by simp [hf])) _ _ ?_ ?_ ?_
   ·unfold hasF; split <;> omega
   ·unfold hasF; split <;> omega
   ·unfold parF hasF
    rw [← h e (by simp), hw, hb]
    cases cntE p e with
    | true =>
      simp only [if_true]
      by_cases hx : x % 2 = 1
      ·have : ¬ (x + 1) % 2 = 1 := by omega
       simp [hx, this]
      ·have : (x + 1) % 2 = 1 := by omega
       simp [hx, this]
    | false => simp
def tcJ (a b : List Pt) (k : Int) (i : Nat) : Option Nat := (List.range b.length).find? fun j => icnB a b k i j
def tcI (a b : List Pt) (k : Int) : Option Nat := (List.range a.length).find? fun i => (tcJ a b k i).isSome
def TC (a b : List Pt) : Option (Int × Int × Int) :=
 match tcI a b 1 with
 | some i => Option.map (fun j : Nat => ((1 : Int), (i : Int), (j : Int))) (tcJ a b 1 i)
 | none => match tcI a b 2 with
   | some i => Option.map (fun j : Nat => ((2 : Int), (i : Int), (j : Int))) (tcJ a b 2 i)
   | none => match tcI a b 3 with
     | some i => Option.map (fun j : Nat => ((3 : Int), (i : Int), (j : Int))) (tcJ a b 3 i)
     | none => none
theorem find_congr2 {n : Nat} {f g : Nat → Bool} (h : ∀ i, i < n → f i = g i) : (List.range n).find? f = (List.range n).find? g := by
 have : ∀ l : List Nat, (∀ i ∈ l, f i = g i) → l.find? f = l.find? g := by
  intro l
  induction l with
  | nil => intro _; rfl
  | cons a l ih =>
    intro h
    rw [List.find?_cons, List.find?_cons, h a (by simp), ih fun i hi => h i (by simp [hi])]
 exact this _ fun i hi => h i (List.mem_range.1 hi)
theorem TC_FC {a b : List Pt} (a0 : 0 < a.length) (b0 : 0 < b.length) : TC a b = FC a b := by
 have e1 : ∀ i, i < a.length → tcJ a b 1 i = fcJ a b i := fun i hi => find_congr2 fun j hj => by
  unfold icnB
  rw [if_pos rfl, Int.toNat_natCast, Int.toNat_natCast, decide_eq_true (by omega), decide_eq_true (by omega)]; rfl
 have e2 : tcI a b 1 = fcE a b := find_congr2 fun i hi => by rw [e1 i hi]
 have j2 : ∀ i, i < a.length → tcJ a b 2 i = if insB a i b = true then some 0 else none := fun i hi => by
  by_cases h : insB a i b = true
  ·rw [if_pos h]
   unfold tcJ; rw [List.find?_range_eq_some]
   refine ⟨?_, List.mem_range.2 b0, fun j hj => by omega⟩
   unfold icnB
   rw [if_neg (by decide), if_pos rfl, h]; rfl
  ·rw [if_neg h]
   unfold tcJ; rw [List.find?_eq_none]
   intro j _
   unfold icnB
   rw [if_neg (by decide), if_pos rfl]
   have : insB a i b = false := by simpa using h
   rw [this]; simp
 have e3 : tcI a b 2 = fcA a b := find_congr2 fun i hi => by
  rw [j2 i hi]; by_cases h : insB a i b = true <;> simp [h]
 have j3 : ∀ i, i < a.length → tcJ a b 3 i = if i = 0 then fcA b a else none := fun i hi => by
  by_cases h : i = 0
  ·rw [if_pos h]
   subst h
   refine find_congr2 fun j hj => ?_
   unfold icnB
   rw [if_neg (by decide), if_neg (by decide), if_pos rfl]
   simp
  ·rw [if_neg h]
   unfold tcJ; rw [List.find?_eq_none]
   intro j _
   unfold icnB
   rw [if_neg (by decide), if_neg (by decide), if_pos rfl, decide_eq_false (by omega)]; simp
 unfold TC FC
 rw [e2, e3]
 cases h1 : fcE a b with
 | some i =>
   have hi : i < a.length := by unfold fcE at h1; rw [List.find?_range_eq_some] at h1; exact List.mem_range.1 h1.2.1
   simp only [e1 i hi]
 | none =>
   simp only
   cases h2 : fcA a b with
   | some i =>
     have hh := h2
     unfold fcA at hh
     rw [List.find?_range_eq_some] at hh
     have hi := List.mem_range.1 hh.2.1
     simp only [j2 i hi, hh.1, if_true, Option.map_some]; rfl
   | none =>
     simp only
     cases h3 : fcA b a with
     | some j =>
       have : tcI a b 3 = some 0 := by
        unfold tcI; rw [List.find?_range_eq_some]
        exact ⟨by rw [j3 0 a0, if_pos rfl, h3]; rfl, List.mem_range.2 a0, fun j hj => by omega⟩
       rw [this]
       simp only [j3 0 a0, if_true, h3]; rfl
     | none =>
       have : tcI a b 3 = none := by
        unfold tcI; rw [List.find?_eq_none]
        intro i hi
        rw [j3 i (List.mem_range.1 hi)]
        by_cases h : i = 0 <;> simp [h, h3]
       rw [this]; rfl
end Go.Geo
namespace Go.Proofs.YtnecdcaaknhgpaaGreat.R
open Go Go.Zv
open Go.Geo
end Go.Proofs.YtnecdcaaknhgpaaGreat.R

namespace Go.Proofs.YtnecdcaaknhgpaaGreat.R
open Go Go.Zv
open Go.Geo
theorem c100 (l : List Pt) (hl : l.length ≤ 12) (hm : l.all mayB = true) (px py : Int) (hp : B2 (px, py)) : pc E 100 [.vs (l.map c2), .agg [.int .i64 px, .int .i64 py]] = some (.int .i64 (locI l (px, py))) := by
 have lp := loop_leave (fun S => (K E A100_L0 S).bind (blockR 0 (some [5]) [4, 6, 7, 8, 17, 21, 25, 42, 63]))
  (fun k (x : Int) => ⟨[(0, .vs (l.map c2)), (3, .ptr 768 0), (5, .int .i64 x), (6, .int .i64 k)], [], [(768, .box [.int .i64 px, .int .i64 py])], 0⟩)
  (eds l) (hasF (px, py)) (onE (px, py)) (fun o => ∃ O' : Heap, o = some (.ex .ret ⟨[(4, .int .i64 0)], [], O', 0⟩))
  (fun x => some (.ex .nrm ⟨[(5, .int .i64 x)], [], [(768, .box [.int .i64 px, .int .i64 py])], 0⟩))
  (fun x => by
   rw [eds_len]
   show (K E A100_L0 _).bind _ = _
   rw [A100_L0_eq]; simp +contextual -implicitDefEqProofs (maxSteps := 2000000) only [go_sem, ↓reduceIte, A100_L0b, Int.lt_irrefl, List.length_map])
  (fun k e x hk he => by
   have hk' : k < l.length := by rw [eds_len] at hk; exact hk
   rw [edn_get hk'] at he
   cases he
   have g1 := c68 l (by omega) (by omega) k (by omega)
   have g2 := c68 l (by omega) (by omega) (k + 1) (by omega)
   have hw := wr_k (k := k) (by omega)
   have h1 : (k : Int) < l.length := by omega
   unfold edn
   generalize ptn l k = p at *
   generalize ptn l (k + 1) = q at *
   obtain ⟨ax, ay⟩ := p
   obtain ⟨bx, by_⟩ := q
   have o1 := c84 ax ay bx by_ px py
   have o2 := c67 ax ay bx by_ px py
   have o3 := c67 bx by_ ax ay px py
   simp only at g1 g2
   refine ⟨fun h => ?_, fun h => ?_⟩
   ·simp only [onE] at h
    rw [h] at o1
    refine ⟨[(2048, .box [.int .i64 bx, .int .i64 by_]), (1792, .box [.int .i64 ax, .int .i64 ay]), (768, .box [.int .i64 px, .int .i64 py])], ?_⟩
    show (K E A100_L0 _).bind _ = _
    rw [A100_L0_eq]
    simp +contextual -implicitDefEqProofs (maxSteps := 2000000) only [go_sem, ↓reduceIte, A100_L0b, List.length_map, h1, g1, g2, hw, o1]
   ·simp only [onE] at h
    rw [h] at o1
    simp only [hasF, cntE]
    show (K E A100_L0 _).bind _ = (K E A100_L0 _).bind _
    conv => lhs; rw [A100_L0_eq]
    by_cases d1 : ay ≤ py
    ·have n1 : ¬ py < ay := by omega
     by_cases d2 : py < by_
     ·have n2 : ¬ by_ ≤ py := by omega
      by_cases d3 : 0 < crW ax ay bx by_ px py <;> simp +contextual -implicitDefEqProofs (maxSteps := 2000000) only [go_sem, ↓reduceIte, A100_L0b, List.length_map, h1, g1, g2, hw, o1, o2, o3, d1, d2, d3, n1, n2, w64, decide_true, decide_false, Bool.and_true, Bool.and_false, Bool.or_false, Bool.false_or]
     ·have n2 : by_ ≤ py := by omega
      simp +contextual -implicitDefEqProofs (maxSteps := 2000000) only [go_sem, ↓reduceIte, A100_L0b, List.length_map, h1, g1, g2, hw, o1, o2, o3, d1, d2, n1, n2, w64, decide_true, decide_false, Bool.and_true, Bool.and_false, Bool.false_and, Bool.true_and, Bool.or_false, Bool.false_or]
    ·have n1 : py < ay := by omega
     by_cases d2 : py < by_
     ·have n2 : ¬ by_ ≤ py := by omega
      simp +contextual -implicitDefEqProofs (maxSteps := 2000000) only [go_sem, ↓reduceIte, A100_L0b, List.length_map, h1, g1, g2, hw, o1, o2, o3, d1, d2, n1, n2, w64, decide_true, decide_false, Bool.and_true, Bool.and_false, Bool.false_and, Bool.true_and, Bool.or_false, Bool.false_or]
     ·have n2 : by_ ≤ py := by omega
      by_cases d3 : 0 < crW bx by_ ax ay px py <;> simp +contextual -implicitDefEqProofs (maxSteps := 2000000) only [go_sem, ↓reduceIte, A100_L0b, List.length_map, h1, g1, g2, hw, o1, o2, o3, d1, d2, d3, n1, n2, w64, decide_true, decide_false, Bool.and_true, Bool.and_false, Bool.false_and, Bool.true_and, Bool.or_false, Bool.false_or])
  0
 simp only [Int.natCast_zero, Int.ofNat_zero] at lp
 unfold locI
 cases ha : (eds l).any (onE (px, py)) with
 | true =>
   obtain ⟨O', lq⟩ := lp.1 ha
   rw [pc_eq]; simp +contextual -implicitDefEqProofs (maxSteps := 2000000) only [go_sem, ↓reduceIte, E_100, A100, List.length_map, lq]
 | false =>
   have lq := lp.2 ha
   obtain ⟨h0, hpar⟩ := has_par (px, py) (eds l) (fun e he => cnt_fl hp (eds_B hm he).1 (eds_B hm he).2 (by
    have := List.any_eq_false.1 ha e he
    simpa using this)) 0 false (by omega) (by rw [eds_len]; omega) (by decide)
   rw [hpar]
   generalize (eds l).foldl (hasF (px, py)) 0 = n at *
   have ht : n.tmod 2 = n % 2 := Int.tmod_eq_emod_of_nonneg h0
   by_cases hn : n % 2 = 1
   ·rw [pc_eq]; simp +contextual -implicitDefEqProofs (maxSteps := 2000000) only [go_sem, ↓reduceIte, E_100, A100, List.length_map, lq, ht, hn, beq_self_eq_true, decide_true]
   ·have hn' : (n % 2 == 1) = false := by simpa using hn
    rw [pc_eq]; simp +contextual -implicitDefEqProofs (maxSteps := 2000000) only [go_sem, ↓reduceIte, E_100, A100, List.length_map, lq, ht, hn, hn', decide_false]
theorem c98' (ax ay bx by_ cx cy dx dy : Int) : pc E 98 [.agg [.int .i64 ax, .int .i64 ay], .agg [.int .i64 bx, .int .i64 by_], .agg [.int .i64 cx, .int .i64 cy], .agg [.int .i64 dx, .int .i64 dy]] = some (.bool (cutB ax ay bx by_ cx cy dx dy)) := by
 rw [c98, cut_eq_B]
theorem ge_ne {n : Int} (h : n = 0 ∨ n = 1 ∨ n = -1) : decide (0 ≤ n) = decide (n ≠ -1) := decide_eq_decide.2 (by omega)
theorem c83 (a b : List Pt) (A : Val a) (B : Val b) (k i j : Int) : pc E 83 [.vs (a.map c2), .vs (b.map c2), .agg [.int .i64 k, .int .i64 i, .int .i64 j]] = some (.bool (icnB a b k i j)) := by
 have a12 := A.n12
 have b12 := B.n12
 unfold icnB
 by_cases h1 : k = 1
 ·subst h1
  rw [if_pos rfl]
  by_cases i0 : 0 ≤ i
  ·by_cases i1 : i < a.length
   ·rw [decide_eq_true (⟨i0, i1⟩ : 0 ≤ i ∧ i < a.length), Bool.true_and]
    by_cases j0 : 0 ≤ j
    ·by_cases j1 : j < b.length
     ·rw [decide_eq_true (⟨j0, j1⟩ : 0 ≤ j ∧ j < b.length), Bool.true_and]
      obtain ⟨m, rfl⟩ : ∃ m : Nat, i = m := ⟨i.toNat, by omega⟩
      obtain ⟨n, rfl⟩ : ∃ n : Nat, j = n := ⟨j.toNat, by omega⟩
      rw [Int.toNat_natCast, Int.toNat_natCast]
      have hm : m < a.length := by omega
      have hn : n < b.length := by omega
      obtain ⟨_, f1, f2⟩ := eds_get (edn_get hm)
      obtain ⟨_, g1, g2⟩ := eds_get (edn_get hn)
      have f1 := get_c2 f1
      have f2 := get_c2 f2
      have g1 := get_c2 g1
      have g2 := get_c2 g2
      have n1 := c99 a (by omega) m hm
      have n2 := c99 b (by omega) n hn
      obtain ⟨_, _, _, m4, m5⟩ := mod_nat hm (by omega)
      obtain ⟨_, _, _, k4, k5⟩ := mod_nat hn (by omega)
      unfold cutE
      have o1 := c98' (edn a m).1.1 (edn a m).1.2 (edn a m).2.1 (edn a m).2.2 (edn b n).1.1 (edn b n).1.2 (edn b n).2.1 (edn b n).2.2
      generalize edn a m = e at *
      generalize edn b n = f at *
      rw [pc_eq]; simp +contextual -implicitDefEqProofs (maxSteps := 2000000) only [go_sem, ↓reduceIte, E_83, A83, List.length_map, i0, i1, j0, j1, f1, f2, g1, g2, n1, n2, m4, m5, k4, k5, o1, beq_self_eq_true]
     ·rw [decide_eq_false (fun h => j1 h.2), Bool.false_and]
      rw [pc_eq]; simp +contextual -implicitDefEqProofs (maxSteps := 2000000) only [go_sem, ↓reduceIte, E_83, A83, List.length_map, i0, i1, j0, j1, beq_self_eq_true]
    ·rw [decide_eq_false (fun h => j0 h.1), Bool.false_and]
     rw [pc_eq]; simp +contextual -implicitDefEqProofs (maxSteps := 2000000) only [go_sem, ↓reduceIte, E_83, A83, List.length_map, i0, i1, j0, beq_self_eq_true]
   ·rw [decide_eq_false (fun h => i1 h.2), Bool.false_and]
    rw [pc_eq]; simp +contextual -implicitDefEqProofs (maxSteps := 2000000) only [go_sem, ↓reduceIte, E_83, A83, List.length_map, i0, i1, beq_self_eq_true]
  ·rw [decide_eq_false (fun h => i0 h.1), Bool.false_and]
   rw [pc_eq]; simp +contextual -implicitDefEqProofs (maxSteps := 2000000) only [go_sem, ↓reduceIte, E_83, A83, List.length_map, i0, beq_self_eq_true]
 ·have h1' : (k == 1) = false := by simpa using h1
  rw [if_neg h1]
  by_cases h2 : k = 2
  ·subst h2
   rw [if_pos rfl]
   unfold insB
   by_cases i0 : 0 ≤ i
   ·by_cases i1 : i < a.length
    ·by_cases j0 : j = 0
     ·subst j0
      obtain ⟨m, rfl⟩ : ∃ m : Nat, i = m := ⟨i.toNat, by omega⟩
      rw [Int.toNat_natCast]
      have hm : m < a.length := by omega
      have g := get_c2 (ptn_get hm)
      have o1 := c100 b b12 B.may (ptn a m).1 (ptn a m).2 (ptn_B A.may (by omega) m)
      rw [show ((ptn a m).1, (ptn a m).2) = ptn a m from rfl] at o1
      have lv := ge_ne (loc_vals b (ptn a m))
      rw [← lv]
      generalize locI b (ptn a m) = s at *
      rw [pc_eq]; simp +contextual -implicitDefEqProofs (maxSteps := 2000000) only [go_sem, ↓reduceIte, E_83, A83, List.length_map, i0, i1, g, o1, beq_self_eq_true, decide_true, Bool.true_and]
     ·have j0' : (j == 0) = false := by simpa using j0
      rw [decide_eq_false j0, Bool.false_and]
      rw [pc_eq]; simp +contextual -implicitDefEqProofs (maxSteps := 2000000) only [go_sem, ↓reduceIte, E_83, A83, List.length_map, i0, i1, j0, j0', beq_self_eq_true]
    ·rw [decide_eq_false i1, Bool.false_and, Bool.and_false, Bool.and_false]
     rw [pc_eq]; simp +contextual -implicitDefEqProofs (maxSteps := 2000000) only [go_sem, ↓reduceIte, E_83, A83, List.length_map, i0, i1, beq_self_eq_true]
   ·rw [decide_eq_false i0, Bool.false_and, Bool.and_false]
    rw [pc_eq]; simp +contextual -implicitDefEqProofs (maxSteps := 2000000) only [go_sem, ↓reduceIte, E_83, A83, List.length_map, i0, beq_self_eq_true]
  ·have h2' : (k == 2) = false := by simpa using h2
   rw [if_neg h2]
   by_cases h3 : k = 3
   ·subst h3
    rw [if_pos rfl]
    unfold insB
    by_cases j0 : 0 ≤ j
    ·by_cases j1 : j < b.length
     ·by_cases i0 : i = 0
      ·subst i0
       obtain ⟨n, rfl⟩ : ∃ n : Nat, j = n := ⟨j.toNat, by omega⟩
       rw [Int.toNat_natCast]
       have hn : n < b.length := by omega
       have g := get_c2 (ptn_get hn)
       have o1 := c100 a a12 A.may (ptn b n).1 (ptn b n).2 (ptn_B B.may (by omega) n)
       rw [show ((ptn b n).1, (ptn b n).2) = ptn b n from rfl] at o1
       have lv := ge_ne (loc_vals a (ptn b n))
       rw [← lv]
       generalize locI a (ptn b n) = s at *
       rw [pc_eq]; simp +contextual -implicitDefEqProofs (maxSteps := 2000000) only [go_sem, ↓reduceIte, E_83, A83, List.length_map, j0, j1, g, o1, beq_self_eq_true, decide_true, Bool.true_and]
      ·have i0' : (i == 0) = false := by simpa using i0
       rw [decide_eq_false i0, Bool.false_and]
       rw [pc_eq]; simp +contextual -implicitDefEqProofs (maxSteps := 2000000) only [go_sem, ↓reduceIte, E_83, A83, List.length_map, j0, j1, i0, i0', beq_self_eq_true]
     ·rw [decide_eq_false j1, Bool.false_and, Bool.and_false, Bool.and_false]
      rw [pc_eq]; simp +contextual -implicitDefEqProofs (maxSteps := 2000000) only [go_sem, ↓reduceIte, E_83, A83, List.length_map, j0, j1, beq_self_eq_true]
    ·rw [decide_eq_false j0, Bool.false_and, Bool.and_false]
     rw [pc_eq]; simp +contextual -implicitDefEqProofs (maxSteps := 2000000) only [go_sem, ↓reduceIte, E_83, A83, List.length_map, j0, beq_self_eq_true]
   ·have h3' : (k == 3) = false := by simpa using h3
    rw [if_neg h3]
    rw [pc_eq]; simp +contextual -implicitDefEqProofs (maxSteps := 2000000) only [go_sem, ↓reduceIte, E_83, A83, List.length_map, h1, h1', h2, h2', h3, h3']
end Go.Proofs.YtnecdcaaknhgpaaGreat.R

namespace Go.Proofs.YtnecdcaaknhgpaaGreat.R
open Go Go.Zv
open Go.Geo
open Go.Proofs.YtnecdcaaknhgpaaGreat.G (conV)
abbrev O18 (k i j : Int) : Heap := [(1024, .box [.int .i64 k, .int .i64 i, .int .i64 j])]
theorem j18 (a b : List Pt) (A : Val a) (B : Val b) (k : Int) (i : Nat) :
  (∀ j, tcJ a b k i = some j → (K E A65_L0 ⟨[(0, .vs (a.map c2)), (1, .vs (b.map c2)), (4, .ptr 1024 0), (6, .int .i64 k), (7, .int .i64 i), (8, .int .i64 0)], [], O18 0 0 0, 0⟩).bind (blockR 4 (some [0, 1, 4, 6, 7]) [5, 8, 9, 33]) = some (.ex .ret ⟨[(4, .ptr 1024 0), (5, .bool true)], [], O18 k i j, 0⟩)) ∧
  (tcJ a b k i = none → (K E A65_L0 ⟨[(0, .vs (a.map c2)), (1, .vs (b.map c2)), (4, .ptr 1024 0), (6, .int .i64 k), (7, .int .i64 i), (8, .int .i64 0)], [], O18 0 0 0, 0⟩).bind (blockR 4 (some [0, 1, 4, 6, 7]) [5, 8, 9, 33]) = some (.ex .nrm ⟨[(0, .vs (a.map c2)), (1, .vs (b.map c2)), (4, .ptr 1024 0), (6, .int .i64 k), (7, .int .i64 i)], [], O18 0 0 0, 0⟩)) := by
 have b12 := B.n12
 have lp := loop_first (fun S => (K E A65_L0 S).bind (blockR 4 (some [0, 1, 4, 6, 7]) [5, 8, 9, 33]))
  (fun j => ⟨[(0, .vs (a.map c2)), (1, .vs (b.map c2)), (4, .ptr 1024 0), (6, .int .i64 k), (7, .int .i64 i), (8, .int .i64 j)], [], O18 0 0 0, 0⟩)
  b.length (fun j => icnB a b k i j)
  (fun j o => o = some (.ex .ret ⟨[(4, .ptr 1024 0), (5, .bool true)], [], O18 k i j, 0⟩))
  (some (.ex .nrm ⟨[(0, .vs (a.map c2)), (1, .vs (b.map c2)), (4, .ptr 1024 0), (6, .int .i64 k), (7, .int .i64 i)], [], O18 0 0 0, 0⟩))
  (by
   show (K E A65_L0 _).bind _ = _
   rw [A65_L0_eq]; simp +contextual -implicitDefEqProofs (maxSteps := 2000000) only [go_sem, ↓reduceIte, A65_L0b, Int.lt_irrefl, List.length_map])
  (fun j hj => by
   have h1 : (j : Int) < b.length := by omega
   have hw := wr_k (k := j) (by omega)
   have o1 := c83 a b A B k i j
   refine ⟨fun h => ?_, fun h => ?_⟩
   ·rw [h] at o1
    show (K E A65_L0 _).bind _ = _
    rw [A65_L0_eq]
    simp +contextual -implicitDefEqProofs (maxSteps := 2000000) only [go_sem, ↓reduceIte, O18, A65_L0b, List.length_map, h1, hw, o1]
   ·rw [h] at o1
    show (K E A65_L0 _).bind _ = (K E A65_L0 _).bind _
    conv => lhs; rw [A65_L0_eq]
    simp +contextual -implicitDefEqProofs (maxSteps := 2000000) only [go_sem, ↓reduceIte, O18, A65_L0b, List.length_map, h1, hw, o1])
 simp only [Int.natCast_zero, Int.ofNat_zero] at lp
 exact lp
theorem i18 (a b : List Pt) (A : Val a) (B : Val b) (k : Int) :
  (∀ i, tcI a b k = some i → ∀ j, tcJ a b k i = some j → (K E A65_L1 ⟨[(0, .vs (a.map c2)), (1, .vs (b.map c2)), (4, .ptr 1024 0), (6, .int .i64 k), (7, .int .i64 0)], [], O18 0 0 0, 0⟩).bind (blockR 2 (some [0, 1, 4, 6]) [5, 7, 8, 9, 33]) = some (.ex .ret ⟨[(4, .ptr 1024 0), (5, .bool true)], [], O18 k i j, 0⟩)) ∧
  (tcI a b k = none → (K E A65_L1 ⟨[(0, .vs (a.map c2)), (1, .vs (b.map c2)), (4, .ptr 1024 0), (6, .int .i64 k), (7, .int .i64 0)], [], O18 0 0 0, 0⟩).bind (blockR 2 (some [0, 1, 4, 6]) [5, 7, 8, 9, 33]) = some (.ex .nrm ⟨[(0, .vs (a.map c2)), (1, .vs (b.map c2)), (4, .ptr 1024 0), (6, .int .i64 k)], [], O18 0 0 0, 0⟩)) := by
 have a12 := A.n12
 have lp := loop_first (fun S => (K E A65_L1 S).bind (blockR 2 (some [0, 1, 4, 6]) [5, 7, 8, 9, 33]))
  (fun i => ⟨[(0, .vs (a.map c2)), (1, .vs (b.map c2)), (4, .ptr 1024 0), (6, .int .i64 k), (7, .int .i64 i)], [], O18 0 0 0, 0⟩)
  a.length (fun i => (tcJ a b k i).isSome)
  (fun i o => ∀ j, tcJ a b k i = some j → o = some (.ex .ret ⟨[(4, .ptr 1024 0), (5, .bool true)], [], O18 k i j, 0⟩))
  (some (.ex .nrm ⟨[(0, .vs (a.map c2)), (1, .vs (b.map c2)), (4, .ptr 1024 0), (6, .int .i64 k)], [], O18 0 0 0, 0⟩))
  (by
   show (K E A65_L1 _).bind _ = _
   rw [A65_L1_eq]; simp +contextual -implicitDefEqProofs (maxSteps := 2000000) only [go_sem, ↓reduceIte, A65_L1b, Int.lt_irrefl, List.length_map])
  (fun i hi => by
   have h1 : (i : Int) < a.length := by omega
   have hw := wr_k (k := i) (by omega)
   have q := j18 a b A B k i
   simp only [O18] at q
   refine ⟨fun h j hj => ?_, fun h => ?_⟩
   ·have q := q.1 j hj
    show (K E A65_L1 _).bind _ = _
    rw [A65_L1_eq]
    simp +contextual -implicitDefEqProofs (maxSteps := 2000000) only [go_sem, ↓reduceIte, O18, A65_L1b, List.length_map, h1, hw, q]
   ·have q := q.2 (by simpa using h)
    show (K E A65_L1 _).bind _ = (K E A65_L1 _).bind _
    conv => lhs; rw [A65_L1_eq]
    simp +contextual -implicitDefEqProofs (maxSteps := 2000000) only [go_sem, ↓reduceIte, O18, A65_L1b, List.length_map, h1, hw, q])
 simp only [Int.natCast_zero, Int.ofNat_zero] at lp
 exact lp
theorem c65 (a b : List Pt) (A : Val a) (B : Val b) : pc E 65 [.vs (a.map c2), .vs (b.map c2)] = some (conV (FC a b)) := by
 have a3 := A.n3
 have b3 := B.n3
 rw [← TC_FC (by omega) (by omega)]
 have q1 := i18 a b A B 1
 have q2 := i18 a b A B 2
 have q3 := i18 a b A B 3
 simp only [O18] at q1 q2 q3
 have ex : ∀ k i, tcI a b k = some i → ∃ j, tcJ a b k i = some j := fun k i h => by
  unfold tcI at h
  rw [List.find?_range_eq_some] at h
  exact Option.isSome_iff_exists.1 h.1
 unfold TC
 cases h1 : tcI a b 1 with
 | some i =>
   obtain ⟨j, hj⟩ := ex 1 i h1
   have r := q1.1 i h1 j hj
   simp only [hj, Option.map_some, conV]
   rw [pc_eq]; simp +contextual -implicitDefEqProofs (maxSteps := 2000000) only [go_sem, ↓reduceIte, E_65, A65, A65_L2_eq, A65_L2b, r]
 | none =>
   have r1 := q1.2 h1
   simp only
   cases h2 : tcI a b 2 with
   | some i =>
     obtain ⟨j, hj⟩ := ex 2 i h2
     have r := q2.1 i h2 j hj
     simp only [hj, Option.map_some, conV]
     rw [pc_eq]; simp +contextual -implicitDefEqProofs (maxSteps := 2000000) only [go_sem, ↓reduceIte, E_65, A65, A65_L2_eq, A65_L2b, r1, r]
   | none =>
     have r2 := q2.2 h2
     simp only
     cases h3 : tcI a b 3 with
     | some i =>
       obtain ⟨j, hj⟩ := ex 3 i h3
       have r := q3.1 i h3 j hj
       simp only [hj, Option.map_some, conV]
       rw [pc_eq]; simp +contextual -implicitDefEqProofs (maxSteps := 2000000) only [go_sem, ↓reduceIte, E_65, A65, A65_L2_eq, A65_L2b, r1, r2, r]
     | none =>
       have r3 := q3.2 h3
       simp only [conV]
       rw [pc_eq]; simp +contextual -implicitDefEqProofs (maxSteps := 2000000) only [go_sem, ↓reduceIte, E_65, A65, A65_L2_eq, A65_L2b, r1, r2, r3]
end Go.Proofs.YtnecdcaaknhgpaaGreat.R

namespace Go.Proofs.YtnecdcaaknhgpaaGreat
open Go Go.Zv
theorem wr_nat {n : Nat} (h : n < 9223372036854775808) : IntKind.i64.wrap (n : Int) = n := by
 simp [IntKind.wrap, IntKind.signed, IntKind.bits]; omega
theorem wr_succ {n : Nat} (h : n + 1 < 9223372036854775808) : IntKind.i64.wrap ((n : Int) + 1) = ((n + 1 : Nat) : Int) := by
 have := wr_nat h; simpa using this
theorem tmod_pos {x n : Int} (h : 0 ≤ x) : x.tmod n = x % n := Int.tmod_eq_emod_of_nonneg h
theorem tmod36 (q : Int) : (if q.tmod 36 < 0 then q.tmod 36 + 36 else q.tmod 36) = q % 36 := by
 by_cases h : 0 ≤ q
 ·rw [tmod_pos h]; split <;> omega
 ·obtain ⟨p, rfl⟩ : ∃ p : Int, q = -p := ⟨-q, by omega⟩
  rw [Int.neg_tmod, tmod_pos (by omega)]
  split <;> omega
theorem tb36 (q : Int) : -36 < q.tmod 36 ∧ q.tmod 36 < 36 := ⟨Int.lt_tmod_of_pos q (by omega), Int.tmod_lt_of_pos q (by omega)⟩
theorem c108 (q : Int) : pc E 108 [.int .i64 q] = some (.int .i64 (q % 36)) := by
 have h := tmod36 q
 have hb := tb36 q
 have w : IntKind.i64.wrap (q.tmod 36 + 36) = q.tmod 36 + 36 := wrap_small (by omega) (by omega)
 by_cases hc : q.tmod 36 < 0
 ·rw [if_pos hc] at h
  have w2 : IntKind.i64.wrap (q % 36) = q % 36 := wrap_small (by omega) (by omega)
  rw [pc_eq]; simp +contextual -implicitDefEqProofs (maxSteps := 2000000) only [go_sem, ↓reduceIte, E_108, A108, hc, w, h, w2]
 ·rw [if_neg hc] at h
  rw [h] at hc
  rw [pc_eq]; simp +contextual -implicitDefEqProofs (maxSteps := 2000000) only [go_sem, ↓reduceIte, E_108, A108, h, hc]
theorem c109 : pc E 109 [] = some (.agg [.int .i64 65, .int .i64 0, .int .i64 63, .int .i64 16, .int .i64 60, .int .i64 25, .int .i64 56, .int .i64 33, .int .i64 52, .int .i64 39, .int .i64 39, .int .i64 52, .int .i64 33, .int .i64 56, .int .i64 25, .int .i64 60, .int .i64 16, .int .i64 63]) := by
 rw [pc_eq]; simp +contextual -implicitDefEqProofs (maxSteps := 2000000) only [go_sem, ↓reduceIte, E_109, A109]
theorem c91 (x y : Int) (h1 : -1000000000000 ≤ y) (h2 : y ≤ 1000000000000) : pc E 91 [.agg [.int .i64 x, .int .i64 y]] = some (.agg [.int .i64 (-y), .int .i64 x]) := by
 have w : IntKind.i64.wrap (0 - y) = -y := by rw [wrap_small (by omega) (by omega)]; omega
 rw [pc_eq]; simp +contextual -implicitDefEqProofs (maxSteps := 2000000) only [go_sem, ↓reduceIte, E_91, A91, w]
def cs : Nat → Int × Int
 | 0 => (65, 0) | 1 => (63, 16) | 2 => (60, 25) | 3 => (56, 33) | 4 => (52, 39) | 5 => (39, 52) | 6 => (33, 56) | 7 => (25, 60) | 8 => (16, 63)
 | 9 => (0, 65) | 10 => (-16, 63) | 11 => (-25, 60) | 12 => (-33, 56) | 13 => (-39, 52) | 14 => (-52, 39) | 15 => (-56, 33) | 16 => (-60, 25) | 17 => (-63, 16)
 | 18 => (-65, 0) | 19 => (-63, -16) | 20 => (-60, -25) | 21 => (-56, -33) | 22 => (-52, -39) | 23 => (-39, -52) | 24 => (-33, -56) | 25 => (-25, -60) | 26 => (-16, -63)
 | 27 => (0, -65) | 28 => (16, -63) | 29 => (25, -60) | 30 => (33, -56) | 31 => (39, -52) | 32 => (52, -39) | 33 => (56, -33) | 34 => (60, -25) | 35 => (63, -16)
 | _ => (65, 0)
def csI (q : Int) : Int × Int := cs (q % 36).toNat
theorem cases36 {k : Int} (h1 : 0 ≤ k) (h2 : k < 36) : k = 0 ∨ k = 1 ∨ k = 2 ∨ k = 3 ∨ k = 4 ∨ k = 5 ∨ k = 6 ∨ k = 7 ∨ k = 8 ∨ k = 9 ∨ k = 10 ∨ k = 11 ∨ k = 12 ∨ k = 13 ∨ k = 14 ∨ k = 15 ∨ k = 16 ∨ k = 17 ∨ k = 18 ∨ k = 19 ∨ k = 20 ∨ k = 21 ∨ k = 22 ∨ k = 23 ∨ k = 24 ∨ k = 25 ∨ k = 26 ∨ k = 27 ∨ k = 28 ∨ k = 29 ∨ k = 30 ∨ k = 31 ∨ k = 32 ∨ k = 33 ∨ k = 34 ∨ k = 35 := by omega
theorem left_ok (x y : Int) (h1 : -65 ≤ y) (h2 : y ≤ 65) : pc E 91 [.agg [.int .i64 x, .int .i64 y]] = some (.agg [.int .i64 (-y), .int .i64 x]) := c91 x y (by omega) (by omega)
end Go.Proofs.YtnecdcaaknhgpaaGreat

namespace Go.Proofs.YtnecdcaaknhgpaaGreat
open Go Go.Zv
theorem c103 (q : Int) : pc E 103 [.int .i64 q] = some (.tup [.int .i64 (csI q).1, .int .i64 (csI q).2]) := by
 have h := c108 q
 have h1 : 0 ≤ q % 36 := by omega
 have h2 : q % 36 < 36 := by omega
 unfold csI
 generalize q % 36 = k at *
 rcases cases36 h1 h2 with rfl | rfl | rfl | rfl | rfl | rfl | rfl | rfl | rfl | rfl | rfl | rfl | rfl | rfl | rfl | rfl | rfl | rfl | rfl | rfl | rfl | rfl | rfl | rfl | rfl | rfl | rfl | rfl | rfl | rfl | rfl | rfl | rfl | rfl | rfl | rfl <;>
  (rw [pc_eq]; simp +contextual -implicitDefEqProofs (maxSteps := 2000000) only [go_sem, ↓reduceIte, E_103, A103, h, c109, A103_L0_eq, A103_L0b, Int.reduceTDiv, Int.reduceTMod, left_ok, Int.neg_neg]) <;> rfl
theorem c104 (q : Int) : pc E 104 [.int .i64 q] = some (.int .i64 (q % 36)) := by
 have hb := tb36 q
 have w1 : IntKind.i64.wrap (q.tmod 36 + 36) = q.tmod 36 + 36 := wrap_small (by omega) (by omega)
 have e : (q.tmod 36 + 36).tmod 36 = q % 36 := by
  rw [tmod_pos (by omega)]
  have := tmod36 q
  split at this <;> omega
 rw [pc_eq]; simp +contextual -implicitDefEqProofs (maxSteps := 2000000) only [go_sem, ↓reduceIte, E_104, A104, w1, e]
theorem c92 (q : Int) : pc E 92 [.int .i64 q] = some (.tup [.int .i64 (csI q).1, .int .i64 (csI q).2]) := by
 have h := c104 q
 have h1 : 0 ≤ q % 36 := by omega
 have h2 : q % 36 < 36 := by omega
 unfold csI
 generalize q % 36 = k at *
 rcases cases36 h1 h2 with rfl | rfl | rfl | rfl | rfl | rfl | rfl | rfl | rfl | rfl | rfl | rfl | rfl | rfl | rfl | rfl | rfl | rfl | rfl | rfl | rfl | rfl | rfl | rfl | rfl | rfl | rfl | rfl | rfl | rfl | rfl | rfl | rfl | rfl | rfl | rfl <;>
  (rw [pc_eq]; simp +contextual -implicitDefEqProofs (maxSteps := 2000000) only [go_sem, ↓reduceIte, E_92, A92, h, A92_L0_eq, A92_L0b, Int.reduceTDiv, Int.reduceTMod, Int.neg_neg]) <;> rfl
end Go.Proofs.YtnecdcaaknhgpaaGreat

namespace Go.Proofs.YtnecdcaaknhgpaaGreat
open Go Go.Zv
theorem sq_nn (x : Int) : 0 ≤ x * x := by
 rcases Int.lt_or_le x 0 with h | h
 ·have := Int.mul_nonneg (show 0 ≤ -x by omega) (show 0 ≤ -x by omega); rwa [Int.neg_mul_neg] at this
 ·exact Int.mul_nonneg h h
theorem sq_lt {r x : Int} (hr : 0 ≤ r) (h : r < x) : r * r < x * x := by
 have h1 : r * r ≤ r * x := Int.mul_le_mul_of_nonneg_left (by omega) hr
 have h2 : r * x < x * x := Int.mul_lt_mul_of_pos_right h (by omega)
 omega
theorem abs_of_sq {x r : Int} (hr : 0 ≤ r) (h : x * x ≤ r * r) : -r ≤ x ∧ x ≤ r := by
 constructor
 ·refine Int.not_lt.1 fun hx => ?_
  have h1 : r * r < (-x) * (-x) := sq_lt hr (by omega)
  rw [Int.neg_mul_neg] at h1; omega
 ·refine Int.not_lt.1 fun hx => ?_
  have h1 : r * r < x * x := sq_lt hr hx
  omega
structure VD (x y r : Int) : Prop where
 r0 : 0 ≤ r
 eq : x * x + y * y = r * r
theorem VD.x {x y r : Int} (h : VD x y r) : -r ≤ x ∧ x ≤ r := abs_of_sq h.r0 (by have := sq_nn y; have := h.eq; omega)
theorem VD.y {x y r : Int} (h : VD x y r) : -r ≤ y ∧ y ≤ r := abs_of_sq h.r0 (by have := sq_nn x; have := h.eq; omega)
theorem cs_norm (k : Nat) : (cs k).1 * (cs k).1 + (cs k).2 * (cs k).2 = 65 * 65 := by
 unfold cs; split <;> rfl
theorem csI_norm (q : Int) : (csI q).1 * (csI q).1 + (csI q).2 * (csI q).2 = 65 * 65 := cs_norm _
theorem csV (q : Int) : VD (csI q).1 (csI q).2 65 := ⟨by omega, csI_norm q⟩
theorem VD.mul {x y r c s t : Int} (h : VD x y r) (k : VD c s t) : VD (x * c - y * s) (x * s + y * c) (r * t) := by
 refine ⟨Int.mul_nonneg h.r0 k.r0, ?_⟩
 have e : (x * c - y * s) * (x * c - y * s) + (x * s + y * c) * (x * s + y * c) = (x * x + y * y) * (c * c + s * s) := by grind
 rw [e, h.eq, k.eq]; grind
theorem c71_0 : pc E 71 [.int .i64 0] = some (.int .i64 1) := by rw [pc_eq]; simp +contextual -implicitDefEqProofs (maxSteps := 2000000) only [go_sem, ↓reduceIte, E_71, A71, A71_L0_eq, A71_L0b]
theorem c71_1 : pc E 71 [.int .i64 1] = some (.int .i64 65) := by rw [pc_eq]; simp +contextual -implicitDefEqProofs (maxSteps := 2000000) only [go_sem, ↓reduceIte, E_71, A71, A71_L0_eq, A71_L0b]
theorem c71_2 : pc E 71 [.int .i64 2] = some (.int .i64 4225) := by rw [pc_eq]; simp +contextual -implicitDefEqProofs (maxSteps := 2000000) only [go_sem, ↓reduceIte, E_71, A71, A71_L0_eq, A71_L0b]
theorem c71_3 : pc E 71 [.int .i64 3] = some (.int .i64 274625) := by rw [pc_eq]; simp +contextual -implicitDefEqProofs (maxSteps := 2000000) only [go_sem, ↓reduceIte, E_71, A71, A71_L0_eq, A71_L0b]
theorem c88_0 : pc E 88 [.int .i64 0] = some (.int .i64 1) := by rw [pc_eq]; simp +contextual -implicitDefEqProofs (maxSteps := 2000000) only [go_sem, ↓reduceIte, E_88, A88, A88_L0_eq, A88_L0b]
theorem c88_1 : pc E 88 [.int .i64 1] = some (.int .i64 65) := by rw [pc_eq]; simp +contextual -implicitDefEqProofs (maxSteps := 2000000) only [go_sem, ↓reduceIte, E_88, A88, A88_L0_eq, A88_L0b]
theorem c88_2 : pc E 88 [.int .i64 2] = some (.int .i64 4225) := by rw [pc_eq]; simp +contextual -implicitDefEqProofs (maxSteps := 2000000) only [go_sem, ↓reduceIte, E_88, A88, A88_L0_eq, A88_L0b]
theorem c88_3 : pc E 88 [.int .i64 3] = some (.int .i64 274625) := by rw [pc_eq]; simp +contextual -implicitDefEqProofs (maxSteps := 2000000) only [go_sem, ↓reduceIte, E_88, A88, A88_L0_eq, A88_L0b]
def p65 : Nat → Int
 | 0 => 1 | 1 => 65 | 2 => 4225 | _ => 274625
theorem c71 (n : Nat) (h : n ≤ 3) : pc E 71 [.int .i64 n] = some (.int .i64 (p65 n)) := by
 rcases (show n = 0 ∨ n = 1 ∨ n = 2 ∨ n = 3 by omega) with rfl | rfl | rfl | rfl
 ·exact c71_0
 ·exact c71_1
 ·exact c71_2
 ·exact c71_3
theorem c88 (n : Nat) (h : n ≤ 3) : pc E 88 [.int .i64 n] = some (.int .i64 (p65 n)) := by
 rcases (show n = 0 ∨ n = 1 ∨ n = 2 ∨ n = 3 by omega) with rfl | rfl | rfl | rfl
 ·exact c88_0
 ·exact c88_1
 ·exact c88_2
 ·exact c88_3
theorem p65_bd (n : Nat) : 1 ≤ p65 n ∧ p65 n ≤ 274625 := by unfold p65; split <;> omega
theorem p65_succ {n : Nat} (h : n ≤ 2) : p65 n * 65 = p65 (n + 1) := by
 rcases (show n = 0 ∨ n = 1 ∨ n = 2 by omega) with rfl | rfl | rfl <;> rfl
theorem mul_bd {x y A C : Int} (h1 : -A ≤ x) (h2 : x ≤ A) (h3 : -C ≤ y) (h4 : y ≤ C) : -(A * C) ≤ x * y ∧ x * y ≤ A * C := by
 have a1 : 0 ≤ A := by omega
 have b1 : 0 ≤ C := by omega
 have e1 := Int.mul_nonneg (show 0 ≤ A - x by omega) (show 0 ≤ C + y by omega)
 have e2 := Int.mul_nonneg (show 0 ≤ A + x by omega) (show 0 ≤ C - y by omega)
 have e3 := Int.mul_nonneg (show 0 ≤ A - x by omega) (show 0 ≤ C - y by omega)
 have e4 := Int.mul_nonneg (show 0 ≤ A + x by omega) (show 0 ≤ C + y by omega)
 constructor <;> grind
theorem c90 (x y q : Int) (hx : -274625 ≤ x ∧ x ≤ 274625) (hy : -274625 ≤ y ∧ y ≤ 274625) : pc E 90 [.agg [.int .i64 x, .int .i64 y], .int .i64 q] = some (.agg [.int .i64 (x * (csI q).1 - y * (csI q).2), .int .i64 (x * (csI q).2 + y * (csI q).1)]) := by
 have h := c103 q
 have v := csV q
 have b1 := v.x
 have b2 := v.y
 generalize (csI q).1 = c at *
 generalize (csI q).2 = s at *
 have m1 := mul_bd hx.1 hx.2 b1.1 b1.2
 have m2 := mul_bd hx.1 hx.2 b2.1 b2.2
 have m3 := mul_bd hy.1 hy.2 b1.1 b1.2
 have m4 := mul_bd hy.1 hy.2 b2.1 b2.2
 have w1 : IntKind.i64.wrap (x * c) = x * c := wrap_small (by omega) (by omega)
 have w2 : IntKind.i64.wrap (x * s) = x * s := wrap_small (by omega) (by omega)
 have w3 : IntKind.i64.wrap (y * c) = y * c := wrap_small (by omega) (by omega)
 have w4 : IntKind.i64.wrap (y * s) = y * s := wrap_small (by omega) (by omega)
 have w5 : IntKind.i64.wrap (x * c - y * s) = x * c - y * s := wrap_small (by omega) (by omega)
 have w6 : IntKind.i64.wrap (x * s + y * c) = x * s + y * c := wrap_small (by omega) (by omega)
 rw [pc_eq]; simp +contextual -implicitDefEqProofs (maxSteps := 2000000) only [go_sem, ↓reduceIte, E_90, A90, h, w1, w2, w3, w4, w5, w6]
end Go.Proofs.YtnecdcaaknhgpaaGreat

namespace Go.Proofs.YtnecdcaaknhgpaaGreat
open Go Go.Zv
theorem c89 (x y : Int) (n : Nat) (h3 : n ≤ 3) (hv : VD x y (p65 n)) : pc E 89 [.agg [.int .i64 x, .int .i64 y, .int .i64 n]] = some (.bool true) := by
 have h := c88 n h3
 have hx := hv.x
 have hy := hv.y
 have he := hv.eq
 have pb := p65_bd n
 have h0 : ¬ ((n : Int) < 0) := by omega
 have h2 : ¬ ((3 : Int) < n) := by omega
 generalize p65 n = r at *
 have m1 := mul_bd (A := 274625) (C := 274625) (x := x) (y := x) (by omega) (by omega) (by omega) (by omega)
 have m2 := mul_bd (A := 274625) (C := 274625) (x := y) (y := y) (by omega) (by omega) (by omega) (by omega)
 have m3 := mul_bd (A := 274625) (C := 274625) (x := r) (y := r) (by omega) (by omega) (by omega) (by omega)
 have w1 : IntKind.i64.wrap (x * x) = x * x := wrap_small (by omega) (by omega)
 have w2 : IntKind.i64.wrap (y * y) = y * y := wrap_small (by omega) (by omega)
 have w3 : IntKind.i64.wrap (r * r) = r * r := wrap_small (by omega) (by omega)
 have w4 : IntKind.i64.wrap (x * x + y * y) = r * r := by rw [he]; exact w3
 have w5 : IntKind.i64.wrap (0 - r) = -r := by rw [wrap_small (by omega) (by omega)]; omega
 rw [pc_eq]; simp +contextual -implicitDefEqProofs (maxSteps := 2000000) only [go_sem, ↓reduceIte, E_89, A89, E_102, A102, h, h0, h2, hx.1, hx.2, hy.1, hy.2, w1, w2, w3, w4, w5]
theorem c50 (x y : Int) (n : Nat) (h3 : n ≤ 3) (hv : VD x y (p65 n)) : pc E 50 [.agg [.int .i64 x, .int .i64 y, .int .i64 n]] = some (.bool true) := by
 have h := c71 n h3
 have hx := hv.x
 have hy := hv.y
 have he := hv.eq
 have pb := p65_bd n
 have h0 : ¬ ((n : Int) < 0) := by omega
 have h2 : ¬ ((3 : Int) < n) := by omega
 generalize p65 n = r at *
 have m1 := mul_bd (A := 274625) (C := 274625) (x := x) (y := x) (by omega) (by omega) (by omega) (by omega)
 have m2 := mul_bd (A := 274625) (C := 274625) (x := y) (y := y) (by omega) (by omega) (by omega) (by omega)
 have m3 := mul_bd (A := 274625) (C := 274625) (x := r) (y := r) (by omega) (by omega) (by omega) (by omega)
 have w1 : IntKind.i64.wrap (x * x) = x * x := wrap_small (by omega) (by omega)
 have w2 : IntKind.i64.wrap (y * y) = y * y := wrap_small (by omega) (by omega)
 have w3 : IntKind.i64.wrap (r * r) = r * r := wrap_small (by omega) (by omega)
 have w4 : IntKind.i64.wrap (x * x + y * y) = r * r := by rw [he]; exact w3
 have w5 : IntKind.i64.wrap (0 - r) = -r := by rw [wrap_small (by omega) (by omega)]; omega
 rw [pc_eq]; simp +contextual -implicitDefEqProofs (maxSteps := 2000000) only [go_sem, ↓reduceIte, E_50, A50, h, h0, h2, hx.1, hx.2, hy.1, hy.2, w1, w2, w3, w4, w5]
def cx (x y q : Int) : Int := x * (csI q).1 - y * (csI q).2
def cy (x y q : Int) : Int := x * (csI q).2 + y * (csI q).1
theorem cV {x y : Int} {n : Nat} (hn : n ≤ 2) (h : VD x y (p65 n)) (q : Int) : VD (cx x y q) (cy x y q) (p65 (n + 1)) := by
 have := h.mul (csV q)
 rwa [p65_succ hn] at this
theorem VD.bd {x y : Int} {n : Nat} (h : VD x y (p65 n)) : (-274625 ≤ x ∧ x ≤ 274625) ∧ (-274625 ≤ y ∧ y ≤ 274625) := by
 have := h.x; have := h.y; have := p65_bd n; omega
theorem c77 (x y q : Int) (n : Nat) (hn : n ≤ 2) (hv : VD x y (p65 n)) : pc E 77 [.agg [.int .i64 x, .int .i64 y, .int .i64 n], .int .i64 q] = some (.agg [.int .i64 (cx x y q), .int .i64 (cy x y q), .int .i64 (n + 1 : Nat)]) := by
 have h := c89 x y n (by omega) hv
 have h2 := c90 x y q hv.bd.1 hv.bd.2
 have h3 : ((n : Int) == 3) = false := by simp; omega
 have w := wr_succ (n := n) (by omega)
 rw [← cx, ← cy] at h2
 rw [pc_eq]; simp +contextual -implicitDefEqProofs (maxSteps := 2000000) only [go_sem, ↓reduceIte, E_77, A77, h, h2, h3, w]
theorem c79 (x y q : Int) (n : Nat) (hn : n ≤ 2) (hv : VD x y (p65 n)) : pc E 79 [.agg [.int .i64 x, .int .i64 y, .int .i64 n], .int .i64 q] = some (.agg [.int .i64 (cx x y q), .int .i64 (cy x y q), .int .i64 (n + 1 : Nat)]) := by
 have h := c50 x y n (by omega) hv
 have h2 := c92 q
 have h3 : ((n : Int) == 3) = false := by simp; omega
 have w := wr_succ (n := n) (by omega)
 have v := csV q
 have b1 := v.x
 have b2 := v.y
 have hx := hv.bd.1
 have hy := hv.bd.2
 unfold cx cy
 generalize (csI q).1 = c at *
 generalize (csI q).2 = s at *
 have m1 := mul_bd hx.1 hx.2 b1.1 b1.2
 have m2 := mul_bd hx.1 hx.2 b2.1 b2.2
 have m3 := mul_bd hy.1 hy.2 b1.1 b1.2
 have m4 := mul_bd hy.1 hy.2 b2.1 b2.2
 have w1 : IntKind.i64.wrap (x * c) = x * c := wrap_small (by omega) (by omega)
 have w2 : IntKind.i64.wrap (x * s) = x * s := wrap_small (by omega) (by omega)
 have w3 : IntKind.i64.wrap (y * c) = y * c := wrap_small (by omega) (by omega)
 have w4 : IntKind.i64.wrap (y * s) = y * s := wrap_small (by omega) (by omega)
 have w5 : IntKind.i64.wrap (x * c - y * s) = x * c - y * s := wrap_small (by omega) (by omega)
 have w6 : IntKind.i64.wrap (x * s + y * c) = x * s + y * c := wrap_small (by omega) (by omega)
 rw [pc_eq]; simp +contextual -implicitDefEqProofs (maxSteps := 2000000) only [go_sem, ↓reduceIte, E_79, A79, h, h2, h3, w, w1, w2, w3, w4, w5, w6]
def u65 : Nat → Int
 | 0 => 4394000 | 1 => 67600 | 2 => 1040 | _ => 16
theorem tdiv_u : ∀ n : Nat, (4394000 : Int).tdiv (p65 n) = u65 n
 | 0 => rfl | 1 => rfl | 2 => rfl | _ + 3 => rfl
theorem u65_p : ∀ n : Nat, u65 n * p65 n = 4394000
 | 0 => rfl | 1 => rfl | 2 => rfl | _ + 3 => rfl
theorem u65_bd (n : Nat) : 16 ≤ u65 n ∧ u65 n ≤ 4394000 := by unfold u65; split <;> omega
theorem ux_bd {x y : Int} {n : Nat} (hv : VD x y (p65 n)) (m : Int) (hm : 0 ≤ m ∧ m ≤ 40) : (-175760000 ≤ m * u65 n * x ∧ m * u65 n * x ≤ 175760000) ∧ (-175760000 ≤ m * u65 n * y ∧ m * u65 n * y ≤ 175760000) := by
 have hx := hv.x
 have hy := hv.y
 have e := u65_p n
 have pb := p65_bd n
 have ub := u65_bd n
 generalize p65 n = r at *
 generalize u65 n = u at *
 have mu : 0 ≤ m * u := Int.mul_nonneg hm.1 (by omega)
 have k1 : m * u * r ≤ 175760000 := by
  have : m * u * r = m * 4394000 := by rw [Int.mul_assoc, e]
  omega
 have a1 := Int.mul_le_mul_of_nonneg_left hx.1 mu
 have a2 := Int.mul_le_mul_of_nonneg_left hx.2 mu
 have a3 := Int.mul_le_mul_of_nonneg_left hy.1 mu
 have a4 := Int.mul_le_mul_of_nonneg_left hy.2 mu
 rw [Int.mul_neg] at a1 a3
 omega
theorem mu_bd (n : Nat) (m : Int) (hm : 0 ≤ m ∧ m ≤ 40) : 0 ≤ m * u65 n ∧ m * u65 n ≤ 175760000 := by
 have ub := u65_bd n
 have := mul_bd (A := 40) (C := 4394000) (x := m) (y := u65 n) (by omega) (by omega) (by omega) (by omega)
 exact ⟨Int.mul_nonneg hm.1 (by omega), by omega⟩
theorem c76 (x y : Int) (n : Nat) (hn : n ≤ 3) (hv : VD x y (p65 n)) (m : Int) (hm : 0 ≤ m ∧ m ≤ 40) : pc E 76 [.agg [.int .i64 x, .int .i64 y, .int .i64 n], .int .i64 m] = some (.agg [.int .i64 (m * u65 n * x), .int .i64 (m * u65 n * y)]) := by
 have h := c88 n hn
 have t := tdiv_u n
 have b := ux_bd hv m hm
 have mb := mu_bd n m hm
 have ub := u65_bd n
 have pb := p65_bd n
 have nz : ¬ (p65 n = 0) := by omega
 generalize p65 n = r at *
 generalize u65 n = u at *
 have w0 : IntKind.i64.wrap u = u := wrap_small (by omega) (by omega)
 have w1 : IntKind.i64.wrap (m * u) = m * u := wrap_small (by omega) (by omega)
 have w2 : IntKind.i64.wrap (m * u * x) = m * u * x := wrap_small (by omega) (by omega)
 have w3 : IntKind.i64.wrap (m * u * y) = m * u * y := wrap_small (by omega) (by omega)
 rw [pc_eq]; simp +contextual -implicitDefEqProofs (maxSteps := 2000000) only [go_sem, ↓reduceIte, E_76, A76, h, t, w0, w1, w2, w3, nz]
theorem c61 (x y : Int) (n : Nat) (hn : n ≤ 3) (hv : VD x y (p65 n)) (m : Int) (hm : 0 ≤ m ∧ m ≤ 40) : pc E 61 [.agg [.int .i64 x, .int .i64 y, .int .i64 n], .int .i64 m] = some (.agg [.int .i64 (m * u65 n * x), .int .i64 (m * u65 n * y)]) := by
 have h := c71 n hn
 have t := tdiv_u n
 have b := ux_bd hv m hm
 have mb := mu_bd n m hm
 have ub := u65_bd n
 have pb := p65_bd n
 have nz : ¬ (p65 n = 0) := by omega
 generalize p65 n = r at *
 generalize u65 n = u at *
 have w0 : IntKind.i64.wrap u = u := wrap_small (by omega) (by omega)
 have w1 : IntKind.i64.wrap (m * u) = m * u := wrap_small (by omega) (by omega)
 have w2 : IntKind.i64.wrap (m * u * x) = m * u * x := wrap_small (by omega) (by omega)
 have w3 : IntKind.i64.wrap (m * u * y) = m * u * y := wrap_small (by omega) (by omega)
 rw [pc_eq]; simp +contextual -implicitDefEqProofs (maxSteps := 2000000) only [go_sem, ↓reduceIte, E_61, A61, h, t, w0, w1, w2, w3, nz]
end Go.Proofs.YtnecdcaaknhgpaaGreat

namespace Go.Proofs.YtnecdcaaknhgpaaGreat
open Go Go.Zv
structure Arm where
 bx : Int
 by_ : Int
 l0 : Int
 l1 : Int
 l2 : Int
 w : Int
 lo0 : Int
 lo1 : Int
 lo2 : Int
 hi0 : Int
 hi1 : Int
 hi2 : Int
abbrev avc (a : Arm) : List LV := [.int .i64 a.bx, .int .i64 a.by_, .int .i64 a.l0, .int .i64 a.l1, .int .i64 a.l2, .int .i64 a.w, .int .i64 a.lo0, .int .i64 a.lo1, .int .i64 a.lo2, .int .i64 a.hi0, .int .i64 a.hi1, .int .i64 a.hi2]
abbrev av (a : Arm) : LV := .agg (avc a)
abbrev jv (q0 q1 q2 : Int) : LV := .agg [.int .i64 q0, .int .i64 q1, .int .i64 q2]
structure OKa (a : Arm) : Prop where
 l0 : 1 ≤ a.l0 ∧ a.l0 ≤ 40
 l1 : 1 ≤ a.l1 ∧ a.l1 ≤ 40
 l2 : 1 ≤ a.l2 ∧ a.l2 ≤ 40
 w : 1 ≤ a.w ∧ a.w ≤ 4
 j0 : -17 ≤ a.lo0 ∧ a.lo0 ≤ a.hi0 ∧ a.hi0 ≤ 18
 j1 : -17 ≤ a.lo1 ∧ a.lo1 ≤ a.hi1 ∧ a.hi1 ≤ 18
 j2 : -17 ≤ a.lo2 ∧ a.lo2 ≤ a.hi2 ∧ a.hi2 ≤ 18
 bx : -((100 - (a.w + a.l0 + a.l1 + a.l2)) * 4394000) ≤ a.bx ∧ a.bx ≤ (100 - (a.w + a.l0 + a.l1 + a.l2)) * 4394000
 by_ : -((100 - (a.w + a.l0 + a.l1 + a.l2)) * 4394000) ≤ a.by_ ∧ a.by_ ≤ (100 - (a.w + a.l0 + a.l1 + a.l2)) * 4394000
 mx : a.bx.tmod 16 = 0
 my : a.by_.tmod 16 = 0
theorem VD0 : VD 1 0 (p65 0) := ⟨by simp [p65], by simp [p65]⟩
abbrev dirs (q0 q1 q2 : Int) : List LV := [.int .i64 (cx 1 0 q0), .int .i64 (cy 1 0 q0), .int .i64 1, .int .i64 (cx (cx 1 0 q0) (cy 1 0 q0) q1), .int .i64 (cy (cx 1 0 q0) (cy 1 0 q0) q1), .int .i64 2,
 .int .i64 (cx (cx (cx 1 0 q0) (cy 1 0 q0) q1) (cy (cx 1 0 q0) (cy 1 0 q0) q1) q2), .int .i64 (cy (cx (cx 1 0 q0) (cy 1 0 q0) q1) (cy (cx 1 0 q0) (cy 1 0 q0) q1) q2), .int .i64 3]
theorem c54 (a : Arm) (q0 q1 q2 : Int) : pc E 54 [av a, jv q0 q1 q2] = some (.agg (dirs q0 q1 q2)) := by
 have v1 := cV (n := 0) (by omega) VD0 q0
 have v2 := cV (n := 1) (by omega) v1 q1
 have h1 := c77 1 0 q0 0 (by omega) VD0
 have h2 := c77 _ _ q1 1 (by omega) v1
 have h3 := c77 _ _ q2 2 (by omega) v2
 simp only [Int.natCast_zero, Int.ofNat_zero, Int.natCast_one, Nat.zero_add, Nat.reduceAdd, Int.cast_ofNat_Int] at h1 h2 h3
 unfold dirs
 generalize cx 1 0 q0 = x1 at *
 generalize cy 1 0 q0 = y1 at *
 generalize cx x1 y1 q1 = x2 at *
 generalize cy x1 y1 q1 = y2 at *
 rw [pc_eq]; simp +contextual -implicitDefEqProofs (maxSteps := 2000000) only [go_sem, ↓reduceIte, E_54, A54, A54_L0_eq, A54_L0b, h1, h2, h3]
theorem c59 (a : Arm) (q0 q1 q2 : Int) : pc E 59 [av a, jv q0 q1 q2] = some (.agg (dirs q0 q1 q2)) := by
 have v1 := cV (n := 0) (by omega) VD0 q0
 have v2 := cV (n := 1) (by omega) v1 q1
 have h1 := c79 1 0 q0 0 (by omega) VD0
 have h2 := c79 _ _ q1 1 (by omega) v1
 have h3 := c79 _ _ q2 2 (by omega) v2
 simp only [Int.natCast_zero, Int.ofNat_zero, Int.natCast_one, Nat.zero_add, Nat.reduceAdd, Int.cast_ofNat_Int] at h1 h2 h3
 unfold dirs
 generalize cx 1 0 q0 = x1 at *
 generalize cy 1 0 q0 = y1 at *
 generalize cx x1 y1 q1 = x2 at *
 generalize cy x1 y1 q1 = y2 at *
 rw [pc_eq]; simp +contextual -implicitDefEqProofs (maxSteps := 2000000) only [go_sem, ↓reduceIte, E_59, A59, h1, h2, h3]
end Go.Proofs.YtnecdcaaknhgpaaGreat

namespace Go.Proofs.YtnecdcaaknhgpaaGreat
open Go Go.Zv
theorem c75 (ax ay bx by_ : Int) : pc E 75 [.agg [.int .i64 ax, .int .i64 ay], .agg [.int .i64 bx, .int .i64 by_]] = some (.agg [.int .i64 (IntKind.i64.wrap (ax + bx)), .int .i64 (IntKind.i64.wrap (ay + by_))]) := by
 rw [pc_eq]; simp +contextual -implicitDefEqProofs (maxSteps := 2000000) only [go_sem, ↓reduceIte, E_75, A75]
theorem c62 (ax ay bx by_ : Int) : pc E 62 [.agg [.int .i64 ax, .int .i64 ay], .agg [.int .i64 bx, .int .i64 by_]] = some (.agg [.int .i64 (IntKind.i64.wrap (ax + bx)), .int .i64 (IntKind.i64.wrap (ay + by_))]) := by
 rw [pc_eq]; simp +contextual -implicitDefEqProofs (maxSteps := 2000000) only [go_sem, ↓reduceIte, E_62, A62]
theorem c41 (ax ay bx by_ : Int) : pc E 41 [.agg [.int .i64 ax, .int .i64 ay], .agg [.int .i64 bx, .int .i64 by_]] = some (.agg [.int .i64 (IntKind.i64.wrap (ax - bx)), .int .i64 (IntKind.i64.wrap (ay - by_))]) := by
 rw [pc_eq]; simp +contextual -implicitDefEqProofs (maxSteps := 2000000) only [go_sem, ↓reduceIte, E_41, A41]
structure Pts where
 x1 : Int
 y1 : Int
 x2 : Int
 y2 : Int
 x3 : Int
 y3 : Int
def dd (q0 q1 q2 : Int) : Pts := ⟨cx 1 0 q0, cy 1 0 q0, cx (cx 1 0 q0) (cy 1 0 q0) q1, cy (cx 1 0 q0) (cy 1 0 q0) q1, cx (cx (cx 1 0 q0) (cy 1 0 q0) q1) (cy (cx 1 0 q0) (cy 1 0 q0) q1) q2, cy (cx (cx 1 0 q0) (cy 1 0 q0) q1) (cy (cx 1 0 q0) (cy 1 0 q0) q1) q2⟩
structure DV (d : Pts) : Prop where
 v1 : VD d.x1 d.y1 (p65 1)
 v2 : VD d.x2 d.y2 (p65 2)
 v3 : VD d.x3 d.y3 (p65 3)
theorem ddV (q0 q1 q2 : Int) : DV (dd q0 q1 q2) := ⟨cV (n := 0) (by omega) VD0 q0, cV (n := 1) (by omega) (cV (n := 0) (by omega) VD0 q0) q1, cV (n := 2) (by omega) (cV (n := 1) (by omega) (cV (n := 0) (by omega) VD0 q0) q1) q2⟩
abbrev ddv (d : Pts) : List LV := [.int .i64 d.x1, .int .i64 d.y1, .int .i64 1, .int .i64 d.x2, .int .i64 d.y2, .int .i64 2, .int .i64 d.x3, .int .i64 d.y3, .int .i64 3]
theorem c54' (a : Arm) (q0 q1 q2 : Int) : pc E 54 [av a, jv q0 q1 q2] = some (.agg (ddv (dd q0 q1 q2))) := c54 a q0 q1 q2
theorem c59' (a : Arm) (q0 q1 q2 : Int) : pc E 59 [av a, jv q0 q1 q2] = some (.agg (ddv (dd q0 q1 q2))) := c59 a q0 q1 q2
def pp (a : Arm) (d : Pts) : Pts := ⟨a.bx + a.l0 * 67600 * d.x1, a.by_ + a.l0 * 67600 * d.y1, a.bx + a.l0 * 67600 * d.x1 + a.l1 * 1040 * d.x2, a.by_ + a.l0 * 67600 * d.y1 + a.l1 * 1040 * d.y2,
 a.bx + a.l0 * 67600 * d.x1 + a.l1 * 1040 * d.x2 + a.l2 * 16 * d.x3, a.by_ + a.l0 * 67600 * d.y1 + a.l1 * 1040 * d.y2 + a.l2 * 16 * d.y3⟩
abbrev ppv (a : Arm) (p : Pts) : List LV := [.int .i64 a.bx, .int .i64 a.by_, .int .i64 p.x1, .int .i64 p.y1, .int .i64 p.x2, .int .i64 p.y2, .int .i64 p.x3, .int .i64 p.y3]
structure Bds (a : Arm) (d : Pts) : Prop where
 o0x : -175760000 ≤ a.l0 * 67600 * d.x1 ∧ a.l0 * 67600 * d.x1 ≤ 175760000
 o0y : -175760000 ≤ a.l0 * 67600 * d.y1 ∧ a.l0 * 67600 * d.y1 ≤ 175760000
 o1x : -175760000 ≤ a.l1 * 1040 * d.x2 ∧ a.l1 * 1040 * d.x2 ≤ 175760000
 o1y : -175760000 ≤ a.l1 * 1040 * d.y2 ∧ a.l1 * 1040 * d.y2 ≤ 175760000
 o2x : -175760000 ≤ a.l2 * 16 * d.x3 ∧ a.l2 * 16 * d.x3 ≤ 175760000
 o2y : -175760000 ≤ a.l2 * 16 * d.y3 ∧ a.l2 * 16 * d.y3 ≤ 175760000
 bx : -439400000 ≤ a.bx ∧ a.bx ≤ 439400000
 by_ : -439400000 ≤ a.by_ ∧ a.by_ ≤ 439400000
theorem bds {a : Arm} (h : OKa a) {d : Pts} (v : DV d) : Bds a d := by
 have a1 := ux_bd v.v1 a.l0 (by have := h.l0; omega)
 have a2 := ux_bd v.v2 a.l1 (by have := h.l1; omega)
 have a3 := ux_bd v.v3 a.l2 (by have := h.l2; omega)
 exact ⟨a1.1, a1.2, a2.1, a2.2, a3.1, a3.2, by have := h.bx; have := h.w; have := h.l0; have := h.l1; have := h.l2; omega, by have := h.by_; have := h.w; have := h.l0; have := h.l1; have := h.l2; omega⟩
theorem c53 (a : Arm) (h : OKa a) (q0 q1 q2 : Int) : pc E 53 [av a, jv q0 q1 q2] = some (.agg (ppv a (pp a (dd q0 q1 q2)))) := by
 have hd := c54' a q0 q1 q2
 have v := ddV q0 q1 q2
 have b := bds h v
 have k1 := c76 _ _ 1 (by omega) v.v1 a.l0 (by have := h.l0; omega)
 have k2 := c76 _ _ 2 (by omega) v.v2 a.l1 (by have := h.l1; omega)
 have k3 := c76 _ _ 3 (by omega) v.v3 a.l2 (by have := h.l2; omega)
 simp only [u65, Int.natCast_one, Int.cast_ofNat_Int] at k1 k2 k3
 generalize dd q0 q1 q2 = d at *
 obtain ⟨o0x, o0y, o1x, o1y, o2x, o2y, bx, by_⟩ := b
 unfold pp
 have g1 := c75 a.bx a.by_ (a.l0 * 67600 * d.x1) (a.l0 * 67600 * d.y1)
 rw [wrap_small (by omega) (by omega), wrap_small (by omega) (by omega)] at g1
 have g2 := c75 (a.bx + a.l0 * 67600 * d.x1) (a.by_ + a.l0 * 67600 * d.y1) (a.l1 * 1040 * d.x2) (a.l1 * 1040 * d.y2)
 rw [wrap_small (by omega) (by omega), wrap_small (by omega) (by omega)] at g2
 have g3 := c75 (a.bx + a.l0 * 67600 * d.x1 + a.l1 * 1040 * d.x2) (a.by_ + a.l0 * 67600 * d.y1 + a.l1 * 1040 * d.y2) (a.l2 * 16 * d.x3) (a.l2 * 16 * d.y3)
 rw [wrap_small (by omega) (by omega), wrap_small (by omega) (by omega)] at g3
 generalize a.l0 * 67600 * d.x1 = e1 at *
 generalize a.l0 * 67600 * d.y1 = e2 at *
 generalize a.l1 * 1040 * d.x2 = e3 at *
 generalize a.l1 * 1040 * d.y2 = e4 at *
 generalize a.l2 * 16 * d.x3 = e5 at *
 generalize a.l2 * 16 * d.y3 = e6 at *
 rw [pc_eq]; simp +contextual -implicitDefEqProofs (maxSteps := 2000000) only [go_sem, ↓reduceIte, E_53, A53, A53_L0_eq, A53_L0b, hd, k1, k2, k3, E_74, A74, g1, g2, g3]
theorem c60 (a : Arm) (h : OKa a) (q0 q1 q2 : Int) : pc E 60 [av a, jv q0 q1 q2] = some (.agg (ppv a (pp a (dd q0 q1 q2)))) := by
 have hd := c59' a q0 q1 q2
 have v := ddV q0 q1 q2
 have b := bds h v
 have k1 := c61 _ _ 1 (by omega) v.v1 a.l0 (by have := h.l0; omega)
 have k2 := c61 _ _ 2 (by omega) v.v2 a.l1 (by have := h.l1; omega)
 have k3 := c61 _ _ 3 (by omega) v.v3 a.l2 (by have := h.l2; omega)
 simp only [u65, Int.natCast_one, Int.cast_ofNat_Int] at k1 k2 k3
 generalize dd q0 q1 q2 = d at *
 obtain ⟨o0x, o0y, o1x, o1y, o2x, o2y, bx, by_⟩ := b
 unfold pp
 have g1 := c62 a.bx a.by_ (a.l0 * 67600 * d.x1) (a.l0 * 67600 * d.y1)
 rw [wrap_small (by omega) (by omega), wrap_small (by omega) (by omega)] at g1
 have g2 := c62 (a.bx + a.l0 * 67600 * d.x1) (a.by_ + a.l0 * 67600 * d.y1) (a.l1 * 1040 * d.x2) (a.l1 * 1040 * d.y2)
 rw [wrap_small (by omega) (by omega), wrap_small (by omega) (by omega)] at g2
 have g3 := c62 (a.bx + a.l0 * 67600 * d.x1 + a.l1 * 1040 * d.x2) (a.by_ + a.l0 * 67600 * d.y1 + a.l1 * 1040 * d.y2) (a.l2 * 16 * d.x3) (a.l2 * 16 * d.y3)
 rw [wrap_small (by omega) (by omega), wrap_small (by omega) (by omega)] at g3
 generalize a.l0 * 67600 * d.x1 = e1 at *
 generalize a.l0 * 67600 * d.y1 = e2 at *
 generalize a.l1 * 1040 * d.x2 = e3 at *
 generalize a.l1 * 1040 * d.y2 = e4 at *
 generalize a.l2 * 16 * d.x3 = e5 at *
 generalize a.l2 * 16 * d.y3 = e6 at *
 rw [pc_eq]; simp +contextual -implicitDefEqProofs (maxSteps := 2000000) only [go_sem, ↓reduceIte, E_60, A60, A60_L0_eq, A60_L0b, hd, k1, k2, k3, g1, g2, g3]
end Go.Proofs.YtnecdcaaknhgpaaGreat

namespace Go.Proofs.YtnecdcaaknhgpaaGreat
open Go Go.Zv
theorem c78 (x y : Int) (h : -1000000000 ≤ y ∧ y ≤ 1000000000) : pc E 78 [.agg [.int .i64 x, .int .i64 y]] = some (.agg [.int .i64 (-y), .int .i64 x]) := by
 have h1 := c91 x y (by omega) (by omega)
 rw [pc_eq]; simp +contextual -implicitDefEqProofs (maxSteps := 2000000) only [go_sem, ↓reduceIte, E_78, A78, h1]
def lkc (fx fy tx ty ox oy : Int) : List (Int × Int) := [(fx + oy, fy - ox), (tx + oy, ty - ox), (tx - oy, ty + ox), (fx - oy, fy + ox)]
abbrev pt (p : Int × Int) : LV := .agg [.int .i64 p.1, .int .i64 p.2]
def c2 (p : Int × Int) : List LV := [.int .i64 p.1, .int .i64 p.2]
theorem c55 (a : Arm) (hw : 0 ≤ a.w ∧ a.w ≤ 40) (q0 q1 q2 x y : Int) (n : Nat) (hn : n ≤ 3) (hv : VD x y (p65 n)) (fx fy tx ty : Int) (h1 : -1000000000 ≤ fx ∧ fx ≤ 1000000000) (h2 : -1000000000 ≤ fy ∧ fy ≤ 1000000000) (h3 : -1000000000 ≤ tx ∧ tx ≤ 1000000000) (h4 : -1000000000 ≤ ty ∧ ty ≤ 1000000000) :
  pc E 55 [.agg [.int .i64 a.bx, .int .i64 a.by_, .int .i64 a.l0, .int .i64 a.l1, .int .i64 a.l2, .int .i64 a.w, .int .i64 a.lo0, .int .i64 a.lo1, .int .i64 a.lo2, .int .i64 a.hi0, .int .i64 a.hi1, .int .i64 a.hi2, .int .i64 q0, .int .i64 q1, .int .i64 q2], .agg [.int .i64 x, .int .i64 y, .int .i64 n], .agg [.int .i64 fx, .int .i64 fy], .agg [.int .i64 tx, .int .i64 ty]] =
  some (.os 2 ((lkc fx fy tx ty (a.w * u65 n * x) (a.w * u65 n * y)).map c2)) := by
 have k := c76 x y n hn hv a.w hw
 have b := ux_bd hv a.w hw
 generalize a.w * u65 n * x = ox at *
 generalize a.w * u65 n * y = oy at *
 have r := c78 ox oy (by omega)
 have s1 := c41 fx fy (-oy) ox
 rw [wrap_small (by omega) (by omega), wrap_small (by omega) (by omega), show fx - -oy = fx + oy by omega] at s1
 have s2 := c41 tx ty (-oy) ox
 rw [wrap_small (by omega) (by omega), wrap_small (by omega) (by omega), show tx - -oy = tx + oy by omega] at s2
 have s3 := c75 tx ty (-oy) ox
 rw [wrap_small (by omega) (by omega), wrap_small (by omega) (by omega), show tx + -oy = tx - oy by omega] at s3
 have s4 := c75 fx fy (-oy) ox
 rw [wrap_small (by omega) (by omega), wrap_small (by omega) (by omega), show fx + -oy = fx - oy by omega] at s4
 rw [pc_eq]; simp +contextual -implicitDefEqProofs (maxSteps := 2000000) only [go_sem, ↓reduceIte, E_55, A55, k, r, s1, s2, s3, s4, lkc, c2, List.map_cons, List.map_nil]
end Go.Proofs.YtnecdcaaknhgpaaGreat

namespace Go.Proofs.YtnecdcaaknhgpaaGreat
open Go Go.Zv
def lks (a : Arm) (d : Pts) : List (List (Int × Int)) :=
 [lkc a.bx a.by_ (pp a d).x1 (pp a d).y1 (a.w * 67600 * d.x1) (a.w * 67600 * d.y1),
  lkc (pp a d).x1 (pp a d).y1 (pp a d).x2 (pp a d).y2 (a.w * 1040 * d.x2) (a.w * 1040 * d.y2),
  lkc (pp a d).x2 (pp a d).y2 (pp a d).x3 (pp a d).y3 (a.w * 16 * d.x3) (a.w * 16 * d.y3)]
abbrev lkv (l : List (Int × Int)) : LV := .vs (l.map c2)
theorem lkc_len (a b c d e f : Int) : (lkc a b c d e f).length = 4 := rfl
theorem c39 (a : Arm) (h : OKa a) (q0 q1 q2 : Int) : pc E 39 [av a, jv q0 q1 q2] = some (.agg ((lks a (dd q0 q1 q2)).map lkv)) := by
 have h1 := c54' a q0 q1 q2
 have h2 := c53 a h q0 q1 q2
 have v := ddV q0 q1 q2
 have b := bds h v
 obtain ⟨o0x, o0y, o1x, o1y, o2x, o2y, bx, by_⟩ := b
 have hw : 0 ≤ a.w ∧ a.w ≤ 40 := by have := h.w; omega
 generalize dd q0 q1 q2 = d at *
 have k1 := c55 a hw q0 q1 q2 _ _ 1 (by omega) v.v1 a.bx a.by_ (pp a d).x1 (pp a d).y1 (by omega) (by omega) (by simp only [pp]; omega) (by simp only [pp]; omega)
 have k2 := c55 a hw q0 q1 q2 _ _ 2 (by omega) v.v2 (pp a d).x1 (pp a d).y1 (pp a d).x2 (pp a d).y2 (by simp only [pp]; omega) (by simp only [pp]; omega) (by simp only [pp]; omega) (by simp only [pp]; omega)
 have k3 := c55 a hw q0 q1 q2 _ _ 3 (by omega) v.v3 (pp a d).x2 (pp a d).y2 (pp a d).x3 (pp a d).y3 (by simp only [pp]; omega) (by simp only [pp]; omega) (by simp only [pp]; omega) (by simp only [pp]; omega)
 simp only [u65, Int.natCast_one, Int.cast_ofNat_Int] at k1 k2 k3
 unfold lks
 have t : ∀ l : List (Int × Int), l.length = 4 → (l.map c2).take 4 = l.map c2 := fun l hl => List.take_of_length_le (by simp [hl])
 have t1 := t _ (lkc_len a.bx a.by_ (pp a d).x1 (pp a d).y1 (a.w * 67600 * d.x1) (a.w * 67600 * d.y1))
 have t2 := t _ (lkc_len (pp a d).x1 (pp a d).y1 (pp a d).x2 (pp a d).y2 (a.w * 1040 * d.x2) (a.w * 1040 * d.y2))
 have t3 := t _ (lkc_len (pp a d).x2 (pp a d).y2 (pp a d).x3 (pp a d).y3 (a.w * 16 * d.x3) (a.w * 16 * d.y3))
 have n1 := lkc_len a.bx a.by_ (pp a d).x1 (pp a d).y1 (a.w * 67600 * d.x1) (a.w * 67600 * d.y1)
 have n2 := lkc_len (pp a d).x1 (pp a d).y1 (pp a d).x2 (pp a d).y2 (a.w * 1040 * d.x2) (a.w * 1040 * d.y2)
 have n3 := lkc_len (pp a d).x2 (pp a d).y2 (pp a d).x3 (pp a d).y3 (a.w * 16 * d.x3) (a.w * 16 * d.y3)
 generalize lkc a.bx a.by_ (pp a d).x1 (pp a d).y1 (a.w * 67600 * d.x1) (a.w * 67600 * d.y1) = L1 at *
 generalize lkc (pp a d).x1 (pp a d).y1 (pp a d).x2 (pp a d).y2 (a.w * 1040 * d.x2) (a.w * 1040 * d.y2) = L2 at *
 generalize lkc (pp a d).x2 (pp a d).y2 (pp a d).x3 (pp a d).y3 (a.w * 16 * d.x3) (a.w * 16 * d.y3) = L3 at *
 rw [pc_eq]; simp +contextual -implicitDefEqProofs (maxSteps := 2000000) only [go_sem, ↓reduceIte, E_39, A39, A39_L0_eq, A39_L0b, h1, h2, k1, k2, k3, List.length_map, t1, t2, t3, n1, n2, n3, List.map_cons, List.map_nil]
end Go.Proofs.YtnecdcaaknhgpaaGreat

namespace Go.Proofs.YtnecdcaaknhgpaaGreat
open Go Go.Zv
def fr (a : Arm) : Int := (100 - (a.w + a.l0 + a.l1 + a.l2)) * 4394000
open Classical in
noncomputable def okB (a : Arm) : Bool := decide (OKa a)
open Classical in
theorem okF {a : Arm} (h : OKa a → False) : okB a = false := by unfold okB; exact decide_eq_false h
open Classical in
theorem okT {a : Arm} (h : OKa a) : okB a = true := by unfold okB; exact decide_eq_true h
open Classical in
theorem okB_iff {a : Arm} : okB a = true ↔ OKa a := by unfold okB; exact decide_eq_true_iff
structure Pre (a : Arm) : Prop where
 l0 : 1 ≤ a.l0 ∧ a.l0 ≤ 40
 l1 : 1 ≤ a.l1 ∧ a.l1 ≤ 40
 l2 : 1 ≤ a.l2 ∧ a.l2 ≤ 40
 w : 1 ≤ a.w ∧ a.w ≤ 4
 j0 : -17 ≤ a.lo0 ∧ a.lo0 ≤ a.hi0 ∧ a.hi0 ≤ 18
 j1 : -17 ≤ a.lo1 ∧ a.lo1 ≤ a.hi1 ∧ a.hi1 ≤ 18
 j2 : -17 ≤ a.lo2 ∧ a.lo2 ≤ a.hi2 ∧ a.hi2 ≤ 18
theorem mn_iff (a b x : Int) : x ≤ mnI a b ↔ x ≤ a ∧ x ≤ b := by unfold mnI; split <;> omega
theorem mx_iff (a b x : Int) : mxI a b ≤ x ↔ a ≤ x ∧ b ≤ x := by unfold mxI; split <;> omega
theorem ok_inv {a : Arm} (h : OKa a) : (a.bx.tmod 16 = 0 ∧ a.by_.tmod 16 = 0) ∧ -(fr a) ≤ mnI a.bx a.by_ ∧ mxI a.bx a.by_ ≤ fr a := by
 rw [mn_iff, mx_iff]
 exact ⟨⟨h.mx, h.my⟩, ⟨h.bx.1, h.by_.1⟩, ⟨h.bx.2, h.by_.2⟩⟩
end Go.Proofs.YtnecdcaaknhgpaaGreat

namespace Go.Proofs.YtnecdcaaknhgpaaGreat
open Go Go.Zv
def farB (a : Arm) : Bool := decide (1000000000 < a.bx) || (decide (a.bx < -1000000000) || (decide (1000000000 < a.by_) || decide (a.by_ < -1000000000)))
theorem c47 (a : Arm) : pc E 47 [av a] = some (.bool (farB a)) := by
 unfold farB
 by_cases g0 : 1000000000 < a.bx
 ·rw [pc_eq]; simp +contextual -implicitDefEqProofs (maxSteps := 2000000) only [go_sem, ↓reduceIte, E_47, A47, g0]
 ·by_cases g1 : a.bx < -1000000000
  ·rw [pc_eq]; simp +contextual -implicitDefEqProofs (maxSteps := 2000000) only [go_sem, ↓reduceIte, E_47, A47, g0, g1]
  ·by_cases g2 : 1000000000 < a.by_
   ·rw [pc_eq]; simp +contextual -implicitDefEqProofs (maxSteps := 2000000) only [go_sem, ↓reduceIte, E_47, A47, g0, g1, g2]
   ·rw [pc_eq]; simp +contextual -implicitDefEqProofs (maxSteps := 2000000) only [go_sem, ↓reduceIte, E_47, A47, g0, g1, g2]
def ab (n : Int) : Int := if n < 0 then -n else n
theorem c48 (n : Int) (h : -2000000000 ≤ n ∧ n ≤ 2000000000) : pc E 48 [.int .i64 n] = some (.int .i64 (ab n)) := by
 have w : IntKind.i64.wrap (0 - n) = -n := by rw [wrap_small (by omega) (by omega)]; omega
 unfold ab
 by_cases h : n < 0
 ·rw [pc_eq]; simp +contextual -implicitDefEqProofs (maxSteps := 2000000) only [go_sem, ↓reduceIte, E_48, A48, h, w]
 ·rw [pc_eq]; simp +contextual -implicitDefEqProofs (maxSteps := 2000000) only [go_sem, ↓reduceIte, E_48, A48, h]
theorem ok_inv2 {a : Arm} (h : OKa a) : farB a = false ∧ ab a.bx + (a.w + a.l0 + a.l1 + a.l2) * 4394000 ≤ 439400000 ∧ ab a.by_ + (a.w + a.l0 + a.l1 + a.l2) * 4394000 ≤ 439400000 := by
 obtain ⟨k1, k2, k3, k4, k5, k6, k7, k8, k9, _, _⟩ := h
 refine ⟨?_, ?_, ?_⟩
 ·unfold farB; simp only [Bool.or_eq_false_iff, decide_eq_false_iff_not]; omega
 ·unfold ab; split <;> omega
 ·unfold ab; split <;> omega
theorem ok_of2 {a : Arm} (h : Pre a) (mx : a.bx.tmod 16 = 0) (my : a.by_.tmod 16 = 0) (h1 : ab a.bx + (a.w + a.l0 + a.l1 + a.l2) * 4394000 ≤ 439400000) (h2 : ab a.by_ + (a.w + a.l0 + a.l1 + a.l2) * 4394000 ≤ 439400000) : OKa a := by
 unfold ab at h1 h2
 exact ⟨h.l0, h.l1, h.l2, h.w, h.j0, h.j1, h.j2, by split at h1 <;> omega, by split at h2 <;> omega, mx, my⟩
theorem c16p (a : Arm) (h : Pre a) (hf : farB a = false) (mx : a.bx.tmod 16 = 0) (my : a.by_.tmod 16 = 0) : pc E 30 [av a] = some (.bool (okB a)) := by
 have hf2 := hf
 unfold farB at hf2
 simp only [Bool.or_eq_false_iff, decide_eq_false_iff_not] at hf2
 have h46 := c47 a
 rw [hf] at h46
 have hx := c48 a.bx (by omega)
 have hy := c48 a.by_ (by omega)
 have bx : 0 ≤ ab a.bx ∧ ab a.bx ≤ 1000000000 := by unfold ab; split <;> omega
 have by_ : 0 ≤ ab a.by_ ∧ ab a.by_ ≤ 1000000000 := by unfold ab; split <;> omega
 obtain ⟨l0, l1, l2, w, j0, j1, j2⟩ := h
 have p : Pre a := ⟨l0, l1, l2, w, j0, j1, j2⟩
 have g0 : ¬ a.l0 < 1 := by omega
 have g1 : ¬ 40 < a.l0 := by omega
 have g2 : ¬ a.lo0 < -17 := by omega
 have g2' : ¬ 18 < a.lo0 := by omega
 have g3 : ¬ 18 < a.hi0 := by omega
 have g3' : ¬ a.hi0 < -17 := by omega
 have g4 : ¬ a.hi0 < a.lo0 := by omega
 have g5 : ¬ a.l1 < 1 := by omega
 have g6 : ¬ 40 < a.l1 := by omega
 have g7 : ¬ a.lo1 < -17 := by omega
 have g7' : ¬ 18 < a.lo1 := by omega
 have g8 : ¬ 18 < a.hi1 := by omega
 have g8' : ¬ a.hi1 < -17 := by omega
 have g9 : ¬ a.hi1 < a.lo1 := by omega
 have g10 : ¬ a.l2 < 1 := by omega
 have g11 : ¬ 40 < a.l2 := by omega
 have g12 : ¬ a.lo2 < -17 := by omega
 have g12' : ¬ 18 < a.lo2 := by omega
 have g13 : ¬ 18 < a.hi2 := by omega
 have g13' : ¬ a.hi2 < -17 := by omega
 have g14 : ¬ a.hi2 < a.lo2 := by omega
 have g15 : ¬ a.w < 1 := by omega
 have g16 : ¬ 4 < a.w := by omega
 have w1 : IntKind.i64.wrap (a.w + a.l0) = a.w + a.l0 := wrap_small (by omega) (by omega)
 have w2 : IntKind.i64.wrap (a.w + a.l0 + a.l1) = a.w + a.l0 + a.l1 := wrap_small (by omega) (by omega)
 have w3 : IntKind.i64.wrap (a.w + a.l0 + a.l1 + a.l2) = a.w + a.l0 + a.l1 + a.l2 := wrap_small (by omega) (by omega)
 have w4 : IntKind.i64.wrap ((a.w + a.l0 + a.l1 + a.l2) * 4394000) = (a.w + a.l0 + a.l1 + a.l2) * 4394000 := wrap_small (by omega) (by omega)
 have w5 : IntKind.i64.wrap (ab a.bx + (a.w + a.l0 + a.l1 + a.l2) * 4394000) = ab a.bx + (a.w + a.l0 + a.l1 + a.l2) * 4394000 := wrap_small (by omega) (by omega)
 have w6 : IntKind.i64.wrap (ab a.by_ + (a.w + a.l0 + a.l1 + a.l2) * 4394000) = ab a.by_ + (a.w + a.l0 + a.l1 + a.l2) * 4394000 := wrap_small (by omega) (by omega)
 by_cases h1 : ab a.bx + (a.w + a.l0 + a.l1 + a.l2) * 4394000 ≤ 439400000
 ·by_cases h2 : ab a.by_ + (a.w + a.l0 + a.l1 + a.l2) * 4394000 ≤ 439400000
  ·have hv := okT (ok_of2 p mx my h1 h2)
   rw [pc_eq]; simp +contextual -implicitDefEqProofs (maxSteps := 2000000) only [go_sem, ↓reduceIte, E_30, A30, A30_L0_eq, A30_L0b, hv, h46, hx, hy, g0, g1, g2, g2', g3, g3', g4, g5, g6, g7, g7', g8, g8', g9, g10, g11, g12, g12', g13, g13', g14, g15, g16, w1, w2, w3, w4, w5, w6, mx, my, h1, h2, bne_self_eq_false]
  ·have hv := okF (fun h => h2 (ok_inv2 h).2.2)
   rw [pc_eq]; simp +contextual -implicitDefEqProofs (maxSteps := 2000000) only [go_sem, ↓reduceIte, E_30, A30, A30_L0_eq, A30_L0b, hv, h46, hx, hy, g0, g1, g2, g2', g3, g3', g4, g5, g6, g7, g7', g8, g8', g9, g10, g11, g12, g12', g13, g13', g14, g15, g16, w1, w2, w3, w4, w5, w6, mx, my, h1, h2, bne_self_eq_false]
 ·have hv := okF (fun h => h1 (ok_inv2 h).2.1)
  rw [pc_eq]; simp +contextual -implicitDefEqProofs (maxSteps := 2000000) only [go_sem, ↓reduceIte, E_30, A30, A30_L0_eq, A30_L0b, hv, h46, hx, hy, g0, g1, g2, g2', g3, g3', g4, g5, g6, g7, g7', g8, g8', g9, g10, g11, g12, g12', g13, g13', g14, g15, g16, w1, w2, w3, w4, w5, w6, mx, my, h1, bne_self_eq_false]
theorem c30 (a : Arm) : pc E 30 [av a] = some (.bool (okB a)) := by
 have h46 := c47 a
 cases hf : farB a with
 | true =>
   have hv := okF (fun h => by have := (ok_inv2 h).1; rw [hf] at this; cases this)
   rw [hf] at h46
   rw [pc_eq]; simp +contextual -implicitDefEqProofs (maxSteps := 2000000) only [go_sem, ↓reduceIte, E_30, A30, hv, h46]
 | false =>
   rw [hf] at h46
   by_cases mx : a.bx.tmod 16 = 0
   ·by_cases my : a.by_.tmod 16 = 0
    ·by_cases hp : Pre a
     ·exact c16p a hp hf mx my
     ·have hv : okB a = false := okF (fun h => hp ⟨h.l0, h.l1, h.l2, h.w, h.j0, h.j1, h.j2⟩)
      by_cases g15 : a.w < 1
      ·rw [pc_eq]; simp +contextual -implicitDefEqProofs (maxSteps := 2000000) only [go_sem, ↓reduceIte, E_30, A30, A30_L0_eq, A30_L0b, hv, h46, mx, my, bne_self_eq_false, g15]
      ·by_cases g16 : 4 < a.w
       ·rw [pc_eq]; simp +contextual -implicitDefEqProofs (maxSteps := 2000000) only [go_sem, ↓reduceIte, E_30, A30, A30_L0_eq, A30_L0b, hv, h46, mx, my, bne_self_eq_false, g15, g16]
       ·by_cases g0 : a.l0 < 1
        ·rw [pc_eq]; simp +contextual -implicitDefEqProofs (maxSteps := 2000000) only [go_sem, ↓reduceIte, E_30, A30, A30_L0_eq, A30_L0b, hv, h46, mx, my, bne_self_eq_false, g15, g16, g0]
        ·by_cases g1 : 40 < a.l0
         ·rw [pc_eq]; simp +contextual -implicitDefEqProofs (maxSteps := 2000000) only [go_sem, ↓reduceIte, E_30, A30, A30_L0_eq, A30_L0b, hv, h46, mx, my, bne_self_eq_false, g15, g16, g0, g1]
         ·by_cases g2 : a.lo0 < -17
          ·rw [pc_eq]; simp +contextual -implicitDefEqProofs (maxSteps := 2000000) only [go_sem, ↓reduceIte, E_30, A30, A30_L0_eq, A30_L0b, hv, h46, mx, my, bne_self_eq_false, g15, g16, g0, g1, g2]
          ·by_cases g2' : 18 < a.lo0
           ·rw [pc_eq]; simp +contextual -implicitDefEqProofs (maxSteps := 2000000) only [go_sem, ↓reduceIte, E_30, A30, A30_L0_eq, A30_L0b, hv, h46, mx, my, bne_self_eq_false, g15, g16, g0, g1, g2, g2']
           ·by_cases g3' : a.hi0 < -17
            ·rw [pc_eq]; simp +contextual -implicitDefEqProofs (maxSteps := 2000000) only [go_sem, ↓reduceIte, E_30, A30, A30_L0_eq, A30_L0b, hv, h46, mx, my, bne_self_eq_false, g15, g16, g0, g1, g2, g2', g3']
            ·by_cases g3 : 18 < a.hi0
             ·rw [pc_eq]; simp +contextual -implicitDefEqProofs (maxSteps := 2000000) only [go_sem, ↓reduceIte, E_30, A30, A30_L0_eq, A30_L0b, hv, h46, mx, my, bne_self_eq_false, g15, g16, g0, g1, g2, g2', g3', g3]
             ·by_cases g4 : a.hi0 < a.lo0
              ·rw [pc_eq]; simp +contextual -implicitDefEqProofs (maxSteps := 2000000) only [go_sem, ↓reduceIte, E_30, A30, A30_L0_eq, A30_L0b, hv, h46, mx, my, bne_self_eq_false, g15, g16, g0, g1, g2, g2', g3', g3, g4]
              ·by_cases g5 : a.l1 < 1
               ·rw [pc_eq]; simp +contextual -implicitDefEqProofs (maxSteps := 2000000) only [go_sem, ↓reduceIte, E_30, A30, A30_L0_eq, A30_L0b, hv, h46, mx, my, bne_self_eq_false, g15, g16, g0, g1, g2, g2', g3', g3, g4, g5]
               ·by_cases g6 : 40 < a.l1
                ·rw [pc_eq]; simp +contextual -implicitDefEqProofs (maxSteps := 2000000) only [go_sem, ↓reduceIte, E_30, A30, A30_L0_eq, A30_L0b, hv, h46, mx, my, bne_self_eq_false, g15, g16, g0, g1, g2, g2', g3', g3, g4, g5, g6]
                ·by_cases g7 : a.lo1 < -17
                 ·rw [pc_eq]; simp +contextual -implicitDefEqProofs (maxSteps := 2000000) only [go_sem, ↓reduceIte, E_30, A30, A30_L0_eq, A30_L0b, hv, h46, mx, my, bne_self_eq_false, g15, g16, g0, g1, g2, g2', g3', g3, g4, g5, g6, g7]
                 ·by_cases g7' : 18 < a.lo1
                  ·rw [pc_eq]; simp +contextual -implicitDefEqProofs (maxSteps := 2000000) only [go_sem, ↓reduceIte, E_30, A30, A30_L0_eq, A30_L0b, hv, h46, mx, my, bne_self_eq_false, g15, g16, g0, g1, g2, g2', g3', g3, g4, g5, g6, g7, g7']
                  ·by_cases g8' : a.hi1 < -17
                   ·rw [pc_eq]; simp +contextual -implicitDefEqProofs (maxSteps := 2000000) only [go_sem, ↓reduceIte, E_30, A30, A30_L0_eq, A30_L0b, hv, h46, mx, my, bne_self_eq_false, g15, g16, g0, g1, g2, g2', g3', g3, g4, g5, g6, g7, g7', g8']
                   ·by_cases g8 : 18 < a.hi1
                    ·rw [pc_eq]; simp +contextual -implicitDefEqProofs (maxSteps := 2000000) only [go_sem, ↓reduceIte, E_30, A30, A30_L0_eq, A30_L0b, hv, h46, mx, my, bne_self_eq_false, g15, g16, g0, g1, g2, g2', g3', g3, g4, g5, g6, g7, g7', g8', g8]
                    ·by_cases g9 : a.hi1 < a.lo1
                     ·rw [pc_eq]; simp +contextual -implicitDefEqProofs (maxSteps := 2000000) only [go_sem, ↓reduceIte, E_30, A30, A30_L0_eq, A30_L0b, hv, h46, mx, my, bne_self_eq_false, g15, g16, g0, g1, g2, g2', g3', g3, g4, g5, g6, g7, g7', g8', g8, g9]
                     ·by_cases g10 : a.l2 < 1
                      ·rw [pc_eq]; simp +contextual -implicitDefEqProofs (maxSteps := 2000000) only [go_sem, ↓reduceIte, E_30, A30, A30_L0_eq, A30_L0b, hv, h46, mx, my, bne_self_eq_false, g15, g16, g0, g1, g2, g2', g3', g3, g4, g5, g6, g7, g7', g8', g8, g9, g10]
                      ·by_cases g11 : 40 < a.l2
                       ·rw [pc_eq]; simp +contextual -implicitDefEqProofs (maxSteps := 2000000) only [go_sem, ↓reduceIte, E_30, A30, A30_L0_eq, A30_L0b, hv, h46, mx, my, bne_self_eq_false, g15, g16, g0, g1, g2, g2', g3', g3, g4, g5, g6, g7, g7', g8', g8, g9, g10, g11]
                       ·by_cases g12 : a.lo2 < -17
                        ·rw [pc_eq]; simp +contextual -implicitDefEqProofs (maxSteps := 2000000) only [go_sem, ↓reduceIte, E_30, A30, A30_L0_eq, A30_L0b, hv, h46, mx, my, bne_self_eq_false, g15, g16, g0, g1, g2, g2', g3', g3, g4, g5, g6, g7, g7', g8', g8, g9, g10, g11, g12]
                        ·by_cases g12' : 18 < a.lo2
                         ·rw [pc_eq]; simp +contextual -implicitDefEqProofs (maxSteps := 2000000) only [go_sem, ↓reduceIte, E_30, A30, A30_L0_eq, A30_L0b, hv, h46, mx, my, bne_self_eq_false, g15, g16, g0, g1, g2, g2', g3', g3, g4, g5, g6, g7, g7', g8', g8, g9, g10, g11, g12, g12']
                         ·by_cases g13' : a.hi2 < -17
                          ·rw [pc_eq]; simp +contextual -implicitDefEqProofs (maxSteps := 2000000) only [go_sem, ↓reduceIte, E_30, A30, A30_L0_eq, A30_L0b, hv, h46, mx, my, bne_self_eq_false, g15, g16, g0, g1, g2, g2', g3', g3, g4, g5, g6, g7, g7', g8', g8, g9, g10, g11, g12, g12', g13']
                          ·by_cases g13 : 18 < a.hi2
                           ·rw [pc_eq]; simp +contextual -implicitDefEqProofs (maxSteps := 2000000) only [go_sem, ↓reduceIte, E_30, A30, A30_L0_eq, A30_L0b, hv, h46, mx, my, bne_self_eq_false, g15, g16, g0, g1, g2, g2', g3', g3, g4, g5, g6, g7, g7', g8', g8, g9, g10, g11, g12, g12', g13', g13]
                           ·by_cases g14 : a.hi2 < a.lo2
                            ·rw [pc_eq]; simp +contextual -implicitDefEqProofs (maxSteps := 2000000) only [go_sem, ↓reduceIte, E_30, A30, A30_L0_eq, A30_L0b, hv, h46, mx, my, bne_self_eq_false, g15, g16, g0, g1, g2, g2', g3', g3, g4, g5, g6, g7, g7', g8', g8, g9, g10, g11, g12, g12', g13', g13, g14]
                            ·exfalso; exact hp ⟨by omega, by omega, by omega, by omega, by omega, by omega, by omega⟩
    ·have hv := okF (fun h => my (ok_inv h).1.2)
     have my' : (a.by_.tmod 16 != 0) = true := by simpa using my
     by_cases g15 : a.w < 1
     ·rw [pc_eq]; simp +contextual -implicitDefEqProofs (maxSteps := 2000000) only [go_sem, ↓reduceIte, E_30, A30, hv, h46, mx, my, my', bne_self_eq_false, g15]
     ·by_cases g16 : 4 < a.w
      ·rw [pc_eq]; simp +contextual -implicitDefEqProofs (maxSteps := 2000000) only [go_sem, ↓reduceIte, E_30, A30, hv, h46, mx, my, my', bne_self_eq_false, g15, g16]
      ·rw [pc_eq]; simp +contextual -implicitDefEqProofs (maxSteps := 2000000) only [go_sem, ↓reduceIte, E_30, A30, hv, h46, mx, my, my', bne_self_eq_false, g15, g16]
   ·have hv := okF (fun h => mx (ok_inv h).1.1)
    have mx' : (a.bx.tmod 16 != 0) = true := by simpa using mx
    by_cases g15 : a.w < 1
    ·rw [pc_eq]; simp +contextual -implicitDefEqProofs (maxSteps := 2000000) only [go_sem, ↓reduceIte, E_30, A30, hv, h46, mx, mx', g15]
    ·by_cases g16 : 4 < a.w
     ·rw [pc_eq]; simp +contextual -implicitDefEqProofs (maxSteps := 2000000) only [go_sem, ↓reduceIte, E_30, A30, hv, h46, mx, mx', g15, g16]
     ·rw [pc_eq]; simp +contextual -implicitDefEqProofs (maxSteps := 2000000) only [go_sem, ↓reduceIte, E_30, A30, hv, h46, mx, mx', g15, g16]
end Go.Proofs.YtnecdcaaknhgpaaGreat

namespace Go.Proofs.YtnecdcaaknhgpaaGreat
open Go Go.Zv
structure Lim (a : Arm) (q0 q1 q2 : Int) : Prop where
 a0 : a.lo0 ≤ q0 ∧ q0 ≤ a.hi0
 a1 : a.lo1 ≤ q1 ∧ q1 ≤ a.hi1
 a2 : a.lo2 ≤ q2 ∧ q2 ≤ a.hi2
def limB (a : Arm) (q0 q1 q2 : Int) : Bool := decide (a.lo0 ≤ q0 ∧ q0 ≤ a.hi0 ∧ a.lo1 ≤ q1 ∧ q1 ≤ a.hi1 ∧ a.lo2 ≤ q2 ∧ q2 ≤ a.hi2)
theorem limT {a : Arm} {q0 q1 q2 : Int} (h : Lim a q0 q1 q2) : limB a q0 q1 q2 = true := decide_eq_true ⟨h.a0.1, h.a0.2, h.a1.1, h.a1.2, h.a2.1, h.a2.2⟩
theorem limF {a : Arm} {q0 q1 q2 : Int} (h : ¬ Lim a q0 q1 q2) : limB a q0 q1 q2 = false := decide_eq_false fun k => h ⟨⟨k.1, k.2.1⟩, ⟨k.2.2.1, k.2.2.2.1⟩, ⟨k.2.2.2.2.1, k.2.2.2.2.2⟩⟩
theorem c31 (a : Arm) (q0 q1 q2 : Int) : pc E 31 [av a, jv q0 q1 q2] = some (.bool (limB a q0 q1 q2)) := by
 by_cases g0 : q0 < a.lo0
 ·have hv := limF (a := a) (q0 := q0) (q1 := q1) (q2 := q2) (fun h => by obtain ⟨h1, h2, h3⟩ := h; omega)
  rw [pc_eq]; simp +contextual -implicitDefEqProofs (maxSteps := 2000000) only [go_sem, ↓reduceIte, E_31, A31, A31_L0_eq, A31_L0b, hv, g0]
 ·by_cases g1 : a.hi0 < q0
  ·have hv := limF (a := a) (q0 := q0) (q1 := q1) (q2 := q2) (fun h => by obtain ⟨h1, h2, h3⟩ := h; omega)
   rw [pc_eq]; simp +contextual -implicitDefEqProofs (maxSteps := 2000000) only [go_sem, ↓reduceIte, E_31, A31, A31_L0_eq, A31_L0b, hv, g0, g1]
  ·by_cases g2 : q1 < a.lo1
   ·have hv := limF (a := a) (q0 := q0) (q1 := q1) (q2 := q2) (fun h => by obtain ⟨h1, h2, h3⟩ := h; omega)
    rw [pc_eq]; simp +contextual -implicitDefEqProofs (maxSteps := 2000000) only [go_sem, ↓reduceIte, E_31, A31, A31_L0_eq, A31_L0b, hv, g0, g1, g2]
   ·by_cases g3 : a.hi1 < q1
    ·have hv := limF (a := a) (q0 := q0) (q1 := q1) (q2 := q2) (fun h => by obtain ⟨h1, h2, h3⟩ := h; omega)
     rw [pc_eq]; simp +contextual -implicitDefEqProofs (maxSteps := 2000000) only [go_sem, ↓reduceIte, E_31, A31, A31_L0_eq, A31_L0b, hv, g0, g1, g2, g3]
    ·by_cases g4 : q2 < a.lo2
     ·have hv := limF (a := a) (q0 := q0) (q1 := q1) (q2 := q2) (fun h => by obtain ⟨h1, h2, h3⟩ := h; omega)
      rw [pc_eq]; simp +contextual -implicitDefEqProofs (maxSteps := 2000000) only [go_sem, ↓reduceIte, E_31, A31, A31_L0_eq, A31_L0b, hv, g0, g1, g2, g3, g4]
     ·by_cases g5 : a.hi2 < q2
      ·have hv := limF (a := a) (q0 := q0) (q1 := q1) (q2 := q2) (fun h => by obtain ⟨h1, h2, h3⟩ := h; omega)
       rw [pc_eq]; simp +contextual -implicitDefEqProofs (maxSteps := 2000000) only [go_sem, ↓reduceIte, E_31, A31, A31_L0_eq, A31_L0b, hv, g0, g1, g2, g3, g4, g5]
      ·have hv := limT (a := a) (q0 := q0) (q1 := q1) (q2 := q2) ⟨by omega, by omega, by omega⟩
       rw [pc_eq]; simp +contextual -implicitDefEqProofs (maxSteps := 2000000) only [go_sem, ↓reduceIte, E_31, A31, A31_L0_eq, A31_L0b, hv, g0, g1, g2, g3, g4, g5]
def jt (lo hi r : Int) : Int := lo + r % (hi - lo + 1)
def st1 (q0 q1 q2 : Int) (k : Int) (b : Int) : Int × Int × Int := if k = 0 then (q0 + b, q1, q2) else if k = 1 then (q0, q1 + b, q2) else (q0, q1, q2 + b)
def stp (a : Arm) (q0 q1 q2 k b : Int) : LV :=
 if (0 ≤ k ∧ k ≤ 2) ∧ (b = 1 ∨ b = -1) ∧ limB a (st1 q0 q1 q2 k b).1 (st1 q0 q1 q2 k b).2.1 (st1 q0 q1 q2 k b).2.2 = true then .tup [jv (st1 q0 q1 q2 k b).1 (st1 q0 q1 q2 k b).2.1 (st1 q0 q1 q2 k b).2.2, .bool true]
 else .tup [jv 0 0 0, .bool false]
end Go.Proofs.YtnecdcaaknhgpaaGreat

namespace Go.Proofs.YtnecdcaaknhgpaaGreat
open Go Go.Zv
theorem fl12 (n : Int) : (if n.tmod 12 < 0 then n.tdiv 12 - 1 else n.tdiv 12) = n / 12 := by
 have h1 := Int.mul_tdiv_add_tmod n 12
 by_cases h : 0 ≤ n
 ·have h2 := Int.tmod_nonneg 12 h
  have h3 := Int.tmod_lt_of_pos n (show (0 : Int) < 12 by omega)
  rw [if_neg (by omega)]; omega
 ·have h2 := Int.lt_tmod_of_pos n (show (0 : Int) < 12 by omega)
  have h3 : n.tmod 12 ≤ 0 := by have := Int.tmod_nonneg 12 (show 0 ≤ -n by omega); rw [Int.neg_tmod] at this; omega
  split <;> omega
theorem c14 (n : Int) (h : -1000000000 ≤ n ∧ n ≤ 1000000000) : pc E 14 [.int .i64 n, .int .i64 12] = some (.int .i64 (n / 12)) := by
 have f := fl12 n
 have h1 := Int.mul_tdiv_add_tmod n 12
 have h2 := Int.lt_tmod_of_pos n (show (0 : Int) < 12 by omega)
 have h3 := Int.tmod_lt_of_pos n (show (0 : Int) < 12 by omega)
 have w1 : IntKind.i64.wrap (n.tdiv 12) = n.tdiv 12 := wrap_small (by omega) (by omega)
 have w2 : IntKind.i64.wrap (n.tdiv 12 - 1) = n.tdiv 12 - 1 := wrap_small (by omega) (by omega)
 have w3 : IntKind.i64.wrap (n / 12) = n / 12 := wrap_small (by omega) (by omega)
 by_cases hc : n.tmod 12 < 0
 ·rw [if_pos hc] at f
  rw [pc_eq]; simp +contextual -implicitDefEqProofs (maxSteps := 2000000) only [go_sem, ↓reduceIte, E_14, A14, w1, w2, w3, hc, f]
 ·rw [if_neg hc] at f
  rw [← f]
  rw [pc_eq]; simp +contextual -implicitDefEqProofs (maxSteps := 2000000) only [go_sem, ↓reduceIte, E_14, A14, w1, w2, hc]
def up12 (n : Int) : Int := -((-n) / 12)
theorem c5 (x0 x1 x2 : Int) (h0 : -1000000000 ≤ x0 ∧ x0 ≤ 1000000000) (h1 : -1000000000 ≤ x1 ∧ x1 ≤ 1000000000) (h2 : -1000000000 ≤ x2 ∧ x2 ≤ 1000000000) : pc E 5 [jv x0 x1 x2] = some (.tup [jv (x0 / 12) (x1 / 12) (x2 / 12), jv (up12 x0) (up12 x1) (up12 x2)]) := by
 have a0 := c14 x0 h0
 have a1 := c14 x1 h1
 have a2 := c14 x2 h2
 have b0 := c14 (-x0) (by omega)
 have b1 := c14 (-x1) (by omega)
 have b2 := c14 (-x2) (by omega)
 have w : ∀ n : Int, -1000000000 ≤ n ∧ n ≤ 1000000000 → IntKind.i64.wrap (0 - n) = -n := fun n h => by rw [wrap_small (by omega) (by omega)]; omega
 have u0 := w x0 h0
 have u1 := w x1 h1
 have u2 := w x2 h2
 have v0 := w (-x0 / 12) (by omega)
 have v1 := w (-x1 / 12) (by omega)
 have v2 := w (-x2 / 12) (by omega)
 rw [pc_eq]; simp +contextual -implicitDefEqProofs (maxSteps := 2000000) only [go_sem, ↓reduceIte, E_5, A5, A5_L0_eq, A5_L0b, a0, a1, a2, b0, b1, b2, u0, u1, u2, v0, v1, v2, up12]
theorem c18 (a : Arm) (x0 x1 x2 : Int) : pc E 18 [av a, jv x0 x1 x2] = some (.fn (.func 38) [] [.fp [.int .i64 x0, .int .i64 x1, .int .i64 x2], .fp (avc a)]) := by
 rw [pc_eq]; simp +contextual -implicitDefEqProofs (maxSteps := 2000000) only [go_sem, ↓reduceIte, E_18, A18]
end Go.Proofs.YtnecdcaaknhgpaaGreat

namespace Go.Proofs.YtnecdcaaknhgpaaGreat
open Go Go.Zv
structure Cel where
 a : Arm
 b : Arm
 h0 : Int
 h1 : Int
 h2 : Int
 h3 : Int
 h4 : Int
 h5 : Int
 fx : List (List LV)
 pl : List (List LV)
 pt : List (List LV)
 bt : List (List LV)
 per : Int
 lv : Int
 la : Int
 lj : Int
 mv : Int
 ma : Int
 mj : Int
 zn : List (List LV)
 gap : Int
 slow : Int
abbrev cec (c : Cel) : List LV := [.int .i64 c.a.bx, .int .i64 c.a.by_, .int .i64 c.a.l0, .int .i64 c.a.l1, .int .i64 c.a.l2, .int .i64 c.a.w, .int .i64 c.a.lo0, .int .i64 c.a.lo1, .int .i64 c.a.lo2, .int .i64 c.a.hi0, .int .i64 c.a.hi1, .int .i64 c.a.hi2, .int .i64 c.b.bx, .int .i64 c.b.by_, .int .i64 c.b.l0, .int .i64 c.b.l1, .int .i64 c.b.l2, .int .i64 c.b.w, .int .i64 c.b.lo0, .int .i64 c.b.lo1, .int .i64 c.b.lo2, .int .i64 c.b.hi0, .int .i64 c.b.hi1, .int .i64 c.b.hi2, .int .i64 c.h0, .int .i64 c.h1, .int .i64 c.h2, .int .i64 c.h3, .int .i64 c.h4, .int .i64 c.h5, .vs c.fx, .vs c.pl, .vs c.pt, .vs c.bt, .int .i64 c.per, .int .i64 c.lv, .int .i64 c.la, .int .i64 c.lj, .int .i64 c.mv, .int .i64 c.ma, .int .i64 c.mj, .vs c.zn, .int .i64 c.gap, .int .i64 c.slow]
abbrev pos (x0 x1 x2 y0 y1 y2 : Int) : LV := .agg [.int .i64 x0, .int .i64 x1, .int .i64 x2, .int .i64 y0, .int .i64 y1, .int .i64 y2]
end Go.Proofs.YtnecdcaaknhgpaaGreat

namespace Go.Proofs.YtnecdcaaknhgpaaGreat
open Go Go.Zv
structure Bk (p l u d m : Int) : Prop where
 w1 : IntKind.i64.wrap (12 * l) = 12 * l
 w2 : IntKind.i64.wrap (12 * u) = 12 * u
 w3 : IntKind.i64.wrap (u - l) = u - l
 a1 : ¬ (p < 12 * l)
 a2 : ¬ (12 * u < p)
 a3 : ¬ (1 < u - l)
 w4 : IntKind.i64.wrap (p.tmod 12) = p.tmod 12
 a4 : (p.tmod 12 == 0) = (l == u)
 a5 : ¬ (d < l)
 a6 : ¬ (m < u)
end Go.Proofs.YtnecdcaaknhgpaaGreat

namespace Go.Proofs.YtnecdcaaknhgpaaGreat
open Go Go.Zv
structure Cl where
 a : Arm
 b : Arm
 h0 : Int
 h1 : Int
 h2 : Int
 h3 : Int
 h4 : Int
 h5 : Int
 fx : List (List Go.Geo.Pt)
 pl : List Go.Geo.Plc
 pt : List Go.Geo.Prt
 bt : List Int
 per : Int
 lv : Int
 la : Int
 lj : Int
 mv : Int
 ma : Int
 mj : Int
 zn : List (List Go.Geo.Pt)
 gap : Int
 slow : Int
abbrev Cl.cel (c : Cl) : Cel := ⟨c.a, c.b, c.h0, c.h1, c.h2, c.h3, c.h4, c.h5, c.fx.map Go.Geo.p1, c.pl.map Go.Geo.plv, c.pt.map Go.Geo.prv, c.bt.map Go.Geo.c1, c.per, c.lv, c.la, c.lj, c.mv, c.ma, c.mj, c.zn.map Go.Geo.p1, c.gap, c.slow⟩
def zrows (l : List (List Go.Geo.Pt)) (k : Nat) : List (List LV) := (l.take k).map Go.Geo.p1
theorem zrows_len (l) (k : Nat) (h : k ≤ l.length) : (zrows l k).length = k := by simp [zrows]; omega
theorem zrows_succ {l : List (List Go.Geo.Pt)} {k : Nat} {p : List Go.Geo.Pt} (h : l[k]? = some p) : zrows l k ++ [[.vs (p.map Go.Geo.c2)]] = zrows l (k + 1) := by
 unfold zrows; rw [List.take_add_one, h]; simp [Go.Geo.p1]
theorem c34 (c : Cl) (hl : c.zn.length ≤ 1000) : pc E 34 [.agg (cec c.cel)] = some (.os 1 (c.zn.map Go.Geo.p1)) := by
 have lp := loop_to (fun S => (K E A34_L0 S).bind (blockR 0 (some [3]) [4, 19]))
  (fun k => ⟨[(1, .ptr 256 0), (3, .bs 768 0 k), (4, .int .i64 k)], [], [(768, .row 1 (zrows c.zn k)), (512, .row 1 []), (256, .box (cec c.cel))], 0⟩) c.zn.length (fun k hk => by
   have hget : c.zn[k]? = some (c.zn[k]'hk) := List.getElem?_eq_getElem hk
   generalize c.zn[k]'hk = p at *
   have g1 : (c.zn.map Go.Geo.p1)[k]? = some [.vs (p.map Go.Geo.c2)] := by rw [List.getElem?_map, hget]; rfl
   have hw := Go.Geo.wr_k (k := k) (by omega)
   have h3 : (0 : Int) ≤ k := by omega
   have h4 : (k : Int) < c.zn.length := by omega
   have wl := zrows_len c.zn k (by omega)
   have wt : (zrows c.zn k).take k = zrows c.zn k := List.take_of_length_le (by omega)
   have e := zrows_succ hget
   have hb : k + 1 ≤ 1000000000 := by omega
   have hlen : (c.zn.map Go.Geo.p1).length = c.zn.length := List.length_map ..
   show (K E A34_L0 _).bind _ = (K E A34_L0 _).bind _
   conv => lhs; rw [A34_L0_eq]
   generalize zrows c.zn k = rs at *
   generalize zrows c.zn (k + 1) = rs' at *
   unfold cec
   simp only [Cl.cel]
   generalize c.zn.map Go.Geo.p1 = zr at *
   simp +contextual -implicitDefEqProofs (maxSteps := 2000000) only [go_sem, ↓reduceIte, A34_L0b, h3, h4, g1, hw, wl, wt, e, hb, hlen, Nat.le_refl])
 have stop : (K E A34_L0 ⟨[(1, .ptr 256 0), (3, .bs 768 0 c.zn.length), (4, .int .i64 c.zn.length)], [], [(768, .row 1 (zrows c.zn c.zn.length)), (512, .row 1 []), (256, .box (cec c.cel))], 0⟩).bind (blockR 0 (some [3]) [4, 19]) =
   some (.ex .nrm ⟨[(3, .bs 768 0 c.zn.length)], [], [(768, .row 1 (zrows c.zn c.zn.length)), (512, .row 1 []), (256, .box (cec c.cel))], 0⟩) := by
  rw [A34_L0_eq]
  have hlen : (c.zn.map Go.Geo.p1).length = c.zn.length := List.length_map ..
  unfold cec
  simp only [Cl.cel]
  generalize c.zn.map Go.Geo.p1 = zr at *
  simp +contextual -implicitDefEqProofs (maxSteps := 2000000) only [go_sem, ↓reduceIte, A34_L0b, Int.lt_irrefl, hlen]
 have lp := lp.trans stop
 simp only [Int.natCast_zero, Int.ofNat_zero, show zrows c.zn 0 = [] from rfl] at lp
 have e : zrows c.zn c.zn.length = c.zn.map Go.Geo.p1 := by unfold zrows; rw [List.take_length]
 rw [e] at lp
 have ht : (c.zn.map Go.Geo.p1).take c.zn.length = c.zn.map Go.Geo.p1 := List.take_of_length_le (by simp)
 have hlen : (c.zn.map Go.Geo.p1).length = c.zn.length := List.length_map ..
 unfold cec at lp ⊢
 simp only [Cl.cel] at lp ⊢
 generalize c.zn.map Go.Geo.p1 = zr at *
 rw [pc_eq]; simp +contextual -implicitDefEqProofs (maxSteps := 2000000) only [go_sem, ↓reduceIte, E_34, A34, lp, ht, hlen, Nat.le_refl]
end Go.Proofs.YtnecdcaaknhgpaaGreat

namespace Go.Proofs.YtnecdcaaknhgpaaGreat
open Go Go.Zv
open Go.Geo (polB plcB prtB unlB bouB)
def C73a : ACode := .reg none [
 ⟨some 1, .box (.t 0), none, true⟩,
 ⟨some 2, .as (.c (.bool false)), none, true⟩] (some [1]) []
def C73b : ACode := .seq (
.reg none [
 ⟨some 3, .as (.c (.int .i64 0)), none, true⟩] (some [1, 3]) []) (
(.block 0 (
A16_L0) (some [1]) [2, 3, 4, 5, 16, 24]))
def C73c : ACode := .seq (
.reg none [
 ⟨some 66, .fad 31 (.t 1), none, true⟩,
 ⟨some 67, .load false 1 (.t 66), none, true⟩,
 ⟨some 68, .len 0 (.t 67), none, true⟩,
 ⟨some 69, .bin .gtr (.t 68) (.c (.int .i64 16)), none, true⟩,
 ⟨some 70, .mv (.t 69), none, true⟩,
 ⟨some 71, .fad 32 (.t 1), some (70, false), true⟩,
 ⟨some 72, .load false 1 (.t 71), some (70, false), true⟩,
 ⟨some 73, .len 0 (.t 72), some (70, false), true⟩,
 ⟨some 74, .bin .gtr (.t 73) (.c (.int .i64 8)), some (70, false), true⟩,
 ⟨some 75, .pick (.t 70) (.c (.bool true)) (.t 74), none, true⟩,
 ⟨some 76, .mv (.t 75), none, true⟩,
 ⟨some 77, .fad 33 (.t 1), some (76, false), true⟩,
 ⟨some 78, .load false 1 (.t 77), some (76, false), true⟩,
 ⟨some 79, .len 0 (.t 78), some (76, false), true⟩,
 ⟨some 80, .bin .gtr (.t 79) (.c (.int .i64 16)), some (76, false), true⟩,
 ⟨some 81, .pick (.t 76) (.c (.bool true)) (.t 80), none, true⟩] (some [1, 81]) []) (
(.cond (.t 81) (
 (.seq (
 .reg none [
  ⟨some 2, .as (.c (.bool false)), none, true⟩] (some [2]) []) (
 .ret))) (
 .skip)))
def C73l : ACode := .reg none [
 ⟨some 82, .fad 35 (.t 1), none, true⟩,
 ⟨some 83, .load true 3 (.t 82), none, true⟩,
 ⟨some 84, .call 32 [.t 83], none, true⟩,
 ⟨some 85, .mv (.t 84), none, true⟩,
 ⟨some 86, .fad 38 (.t 1), some (85, true), true⟩,
 ⟨some 87, .load true 3 (.t 86), some (85, true), true⟩,
 ⟨some 88, .call 32 [.t 87], some (85, true), true⟩,
 ⟨some 89, .pick (.t 85) (.t 88) (.c (.bool false)), none, true⟩,
 ⟨some 90, .mv (.t 89), none, true⟩,
 ⟨some 91, .fad 38 (.t 1), some (90, true), true⟩,
 ⟨some 92, .fad 0 (.t 91), some (90, true), true⟩,
 ⟨some 93, .load false 1 (.t 92), some (90, true), true⟩,
 ⟨some 94, .fad 35 (.t 1), some (90, true), true⟩,
 ⟨some 95, .fad 0 (.t 94), some (90, true), true⟩,
 ⟨some 96, .load false 1 (.t 95), some (90, true), true⟩,
 ⟨some 97, .bin .leq (.t 93) (.t 96), some (90, true), true⟩,
 ⟨some 98, .pick (.t 90) (.t 97) (.c (.bool false)), none, true⟩,
 ⟨some 99, .mv (.t 98), none, true⟩,
 ⟨some 100, .fad 38 (.t 1), some (99, true), true⟩,
 ⟨some 101, .fad 1 (.t 100), some (99, true), true⟩,
 ⟨some 102, .load false 1 (.t 101), some (99, true), true⟩,
 ⟨some 103, .fad 35 (.t 1), some (99, true), true⟩,
 ⟨some 104, .fad 1 (.t 103), some (99, true), true⟩,
 ⟨some 105, .load false 1 (.t 104), some (99, true), true⟩,
 ⟨some 106, .bin .leq (.t 102) (.t 105), some (99, true), true⟩,
 ⟨some 107, .pick (.t 99) (.t 106) (.c (.bool false)), none, true⟩,
 ⟨some 108, .mv (.t 107), none, true⟩,
 ⟨some 109, .fad 38 (.t 1), some (108, true), true⟩,
 ⟨some 110, .fad 2 (.t 109), some (108, true), true⟩,
 ⟨some 111, .load false 1 (.t 110), some (108, true), true⟩,
 ⟨some 112, .fad 35 (.t 1), some (108, true), true⟩,
 ⟨some 113, .fad 2 (.t 112), some (108, true), true⟩,
 ⟨some 114, .load false 1 (.t 113), some (108, true), true⟩,
 ⟨some 115, .bin .leq (.t 111) (.t 114), some (108, true), true⟩,
 ⟨some 116, .pick (.t 108) (.t 115) (.c (.bool false)), none, true⟩,
 ⟨some 6, .as (.t 116), none, true⟩] (some [1, 6]) []
def C73t : ACode := .seq (.reg none [
 ⟨some 117, .fad 30 (.t 1), none, true⟩,
 ⟨some 118, .load false 1 (.t 117), none, true⟩,
 ⟨some 119, .call 33 [.t 118], none, true⟩,
 ⟨some 120, .mv (.t 119), none, true⟩,
 ⟨some 121, .load true 44 (.t 1), some (120, true), true⟩,
 ⟨some 122, .call 34 [.t 121], some (120, true), true⟩,
 ⟨some 123, .call 33 [.t 122], some (120, true), true⟩,
 ⟨some 124, .pick (.t 120) (.t 123) (.c (.bool false)), none, true⟩,
 ⟨some 125, .mv (.t 124), none, true⟩,
 ⟨some 126, .fad 31 (.t 1), some (125, true), true⟩,
 ⟨some 127, .load false 1 (.t 126), some (125, true), true⟩,
 ⟨some 128, .call 35 [.t 127], some (125, true), true⟩,
 ⟨some 129, .pick (.t 125) (.t 128) (.c (.bool false)), none, true⟩,
 ⟨some 130, .mv (.t 129), none, true⟩,
 ⟨some 131, .fad 32 (.t 1), some (130, true), true⟩,
 ⟨some 132, .load false 1 (.t 131), some (130, true), true⟩,
 ⟨some 133, .fad 31 (.t 1), some (130, true), true⟩,
 ⟨some 134, .load false 1 (.t 133), some (130, true), true⟩,
 ⟨some 135, .len 0 (.t 134), some (130, true), true⟩,
 ⟨some 136, .call 36 [.t 132, .t 135], some (130, true), true⟩,
 ⟨some 137, .pick (.t 130) (.t 136) (.c (.bool false)), none, true⟩,
 ⟨some 138, .mv (.t 137), none, true⟩,
 ⟨some 139, .fad 33 (.t 1), some (138, true), true⟩,
 ⟨some 140, .load false 1 (.t 139), some (138, true), true⟩,
 ⟨some 141, .fad 31 (.t 1), some (138, true), true⟩,
 ⟨some 142, .load false 1 (.t 141), some (138, true), true⟩,
 ⟨some 143, .len 0 (.t 142), some (138, true), true⟩,
 ⟨some 144, .call 37 [.t 140, .t 143], some (138, true), true⟩,
 ⟨some 145, .pick (.t 138) (.t 144) (.c (.bool false)), none, true⟩,
 ⟨some 146, .mv (.t 145), none, true⟩,
 ⟨some 147, .fad 34 (.t 1), some (146, true), true⟩,
 ⟨some 148, .load false 1 (.t 147), some (146, true), true⟩,
 ⟨some 149, .bin .geq (.t 148) (.c (.int .i64 0)), some (146, true), true⟩,
 ⟨some 150, .pick (.t 146) (.t 149) (.c (.bool false)), none, true⟩,
 ⟨some 151, .mv (.t 150), none, true⟩,
 ⟨some 152, .fad 34 (.t 1), some (151, true), true⟩,
 ⟨some 153, .load false 1 (.t 152), some (151, true), true⟩,
 ⟨some 154, .bin .leq (.t 153) (.c (.int .i64 100)), some (151, true), true⟩,
 ⟨some 155, .pick (.t 151) (.t 154) (.c (.bool false)), none, true⟩,
 ⟨some 156, .mv (.t 155), none, true⟩,
 ⟨some 157, .mv (.t 6), some (156, true), true⟩,
 ⟨some 158, .pick (.t 156) (.t 157) (.c (.bool false)), none, true⟩,
 ⟨some 159, .mv (.t 158), none, true⟩,
 ⟨some 160, .fad 42 (.t 1), some (159, true), true⟩,
 ⟨some 161, .load false 1 (.t 160), some (159, true), true⟩,
 ⟨some 162, .bin .geq (.t 161) (.c (.int .i64 0)), some (159, true), true⟩,
 ⟨some 163, .pick (.t 159) (.t 162) (.c (.bool false)), none, true⟩,
 ⟨some 164, .mv (.t 163), none, true⟩,
 ⟨some 165, .fad 42 (.t 1), some (164, true), true⟩,
 ⟨some 166, .load false 1 (.t 165), some (164, true), true⟩,
 ⟨some 167, .bin .leq (.t 166) (.c (.int .i64 20)), some (164, true), true⟩,
 ⟨some 168, .pick (.t 164) (.t 167) (.c (.bool false)), none, true⟩,
 ⟨some 169, .mv (.t 168), none, true⟩,
 ⟨some 170, .fad 43 (.t 1), some (169, true), true⟩,
 ⟨some 171, .load false 1 (.t 170), some (169, true), true⟩,
 ⟨some 172, .bin .geq (.t 171) (.c (.int .i64 1)), some (169, true), true⟩,
 ⟨some 173, .pick (.t 169) (.t 172) (.c (.bool false)), none, true⟩,
 ⟨some 174, .mv (.t 173), none, true⟩,
 ⟨some 175, .fad 43 (.t 1), some (174, true), true⟩,
 ⟨some 176, .load false 1 (.t 175), some (174, true), true⟩,
 ⟨some 177, .bin .leq (.t 176) (.c (.int .i64 8)), some (174, true), true⟩,
 ⟨some 178, .pick (.t 174) (.t 177) (.c (.bool false)), none, true⟩,
 ⟨some 2, .as (.t 178), none, true⟩] (some [2]) [1]) .ret
theorem A16_s : A16 = .code [.t 2] (.seq C73a (.seq C73b (.seq C73c (.seq C73l C73t)))) := rfl
def rchX (a : Arm) (x : Int) : Int := 8 * mxI x (-x) + 39546000 * (a.l0 + a.l1 + a.l2 + 15)
structure RW (a : Arm) (x : Int) : Prop where
 w1 : IntKind.i64.wrap (a.l0 + a.l1) = a.l0 + a.l1
 w2 : IntKind.i64.wrap (a.l0 + a.l1 + a.l2) = a.l0 + a.l1 + a.l2
 w3 : IntKind.i64.wrap (a.l0 + a.l1 + a.l2 + 15) = a.l0 + a.l1 + a.l2 + 15
 w4 : IntKind.i64.wrap (39546000 * (a.l0 + a.l1 + a.l2 + 15)) = 39546000 * (a.l0 + a.l1 + a.l2 + 15)
 w5 : IntKind.i64.wrap (0 - x) = -x
 w6 : IntKind.i64.wrap (8 * mxI x (-x)) = 8 * mxI x (-x)
 w7 : IntKind.i64.wrap (8 * mxI x (-x) + 39546000 * (a.l0 + a.l1 + a.l2 + 15)) = rchX a x
theorem rw_ok {a : Arm} (h : OKa a) {x : Int} (hx : -439400000 ≤ x ∧ x ≤ 439400000) : RW a x := by
 have h0 := h.l0
 have h1 := h.l1
 have h2 := h.l2
 have hm : -439400000 ≤ mxI x (-x) ∧ mxI x (-x) ≤ 439400000 := by unfold mxI; split <;> omega
 refine ⟨wrap_small (by omega) (by omega), wrap_small (by omega) (by omega), wrap_small (by omega) (by omega), wrap_small (by omega) (by omega), ?_, wrap_small (by omega) (by omega), ?_⟩
 ·rw [wrap_small (by omega) (by omega)]; omega
 unfold rchX
 exact wrap_small (by omega) (by omega)
theorem bx_bd {a : Arm} (h : OKa a) : (-439400000 ≤ a.bx ∧ a.bx ≤ 439400000) ∧ (-439400000 ≤ a.by_ ∧ a.by_ ≤ 439400000) := by
 have h0 := h.l0
 have h1 := h.l1
 have h2 := h.l2
 have h3 := h.w
 have h4 := h.bx
 have h5 := h.by_
 omega
noncomputable def armOK (a : Arm) (q0 q1 q2 : Int) : Bool := okB a && (limB a q0 q1 q2 && (!decide (3515200000 < rchX a a.bx) && !decide (3515200000 < rchX a a.by_)))
def limsB (c : Cl) : Bool := bouB c.lv c.la c.lj && (bouB c.mv c.ma c.mj && (decide (c.mv ≤ c.lv) && (decide (c.ma ≤ c.la) && decide (c.mj ≤ c.lj))))
def restB (c : Cl) : Bool := polB c.fx && (polB c.zn && (plcB c.pl && (prtB c.pt c.pl.length && (unlB c.bt c.pl.length && (decide (0 ≤ c.per) && (decide (c.per ≤ 100) && (limsB c && (decide (0 ≤ c.gap) && (decide (c.gap ≤ 20) && (decide (1 ≤ c.slow) && decide (c.slow ≤ 8)))))))))))
noncomputable def rightB (c : Cl) : Bool := armOK c.a c.h0 c.h1 c.h2 && (armOK c.b c.h3 c.h4 c.h5 && (decide ((c.pl.length : Int) ≤ 16) && (decide ((c.pt.length : Int) ≤ 8) && (decide ((c.bt.length : Int) ≤ 16) && restB c))))
end Go.Proofs.YtnecdcaaknhgpaaGreat

namespace Go.Proofs.YtnecdcaaknhgpaaGreat
open Go Go.Zv
open Go.Geo (polB plcB prtB unlB bouB)
theorem lims73 (c : Cl) : K E C73l ⟨[(1, .ptr 256 0), (81, .bool false)], [], [(256, .box (cec c.cel))], 0⟩ = some (.ex .nrm ⟨[(1, .ptr 256 0), (6, .bool (limsB c))], [], [(256, .box (cec c.cel))], 0⟩) := by
 have q1 := G.c32 c.lv c.la c.lj
 have q2 := G.c32 c.mv c.ma c.mj
 unfold limsB cec
 generalize bouB c.lv c.la c.lj = u1 at *
 generalize bouB c.mv c.ma c.mj = u2 at *
 cases u1
 ·simp +contextual -implicitDefEqProofs (maxSteps := 2000000) only [go_sem, ↓reduceIte, C73l, q1, Bool.false_and]
 cases u2
 ·simp +contextual -implicitDefEqProofs (maxSteps := 2000000) only [go_sem, ↓reduceIte, C73l, q1, q2, Bool.false_and, Bool.and_false]
 by_cases m3 : c.mv ≤ c.lv
 ·by_cases m4 : c.ma ≤ c.la
  ·by_cases m5 : c.mj ≤ c.lj <;> simp +contextual -implicitDefEqProofs (maxSteps := 2000000) only [go_sem, ↓reduceIte, C73l, q1, q2, m3, m4, m5, decide_true, decide_false]
  ·simp +contextual -implicitDefEqProofs (maxSteps := 2000000) only [go_sem, ↓reduceIte, C73l, q1, q2, m3, m4, decide_true, decide_false]
 ·simp +contextual -implicitDefEqProofs (maxSteps := 2000000) only [go_sem, ↓reduceIte, C73l, q1, q2, m3, decide_true, decide_false]
end Go.Proofs.YtnecdcaaknhgpaaGreat

namespace Go.Proofs.YtnecdcaaknhgpaaGreat
open Go Go.Zv
open Go.Geo (polB plcB prtB unlB bouB)
def XT (c : Cl) : Heap := if polB c.fx = true then [(31232, .row 1 (c.zn.map Go.Geo.p1))] else []
theorem tail73 (c : Cl) (hz : c.zn.length ≤ 1000) (hp : c.pl.length ≤ 16) (ht : c.pt.length ≤ 8) (hb : c.bt.length ≤ 16) : K E C73t ⟨[(1, .ptr 256 0), (6, .bool (limsB c))], [], [(256, .box (cec c.cel))], 0⟩ = some (.ex .ret ⟨[(2, .bool (restB c))], [], XT c, 0⟩) := by
 have q3 := G.c33 c.fx
 have q4 := G.c33 c.zn
 have q5 := c34 c hz
 have q6 := G.c35 c.pl (by omega)
 have q7 := G.c36 c.pt (by omega) c.pl.length
 have q8 := G.c37 c.bt c.pl.length (by omega)
 have z1 : (c.zn.map Go.Geo.p1).length = c.zn.length := List.length_map ..
 have z2 : (c.zn.map Go.Geo.p1).take c.zn.length = c.zn.map Go.Geo.p1 := List.take_of_length_le (by simp)
 have z3 : c.zn.length ≤ c.zn.length := Nat.le_refl _
 have y1 : (c.pl.map Go.Geo.plv).length = c.pl.length := List.length_map ..
 unfold restB XT
 generalize polB c.fx = u3 at *
 generalize polB c.zn = u4 at *
 generalize plcB c.pl = u5 at *
 generalize prtB c.pt c.pl.length = u6 at *
 generalize unlB c.bt c.pl.length = u7 at *
 generalize limsB c = lm at *
 unfold cec at q5 ⊢
 simp only [Cl.cel] at q5 ⊢
 generalize c.fx.map Go.Geo.p1 = r1 at *
 generalize c.pl.map Go.Geo.plv = r2 at *
 generalize c.pt.map Go.Geo.prv = r3 at *
 generalize c.bt.map Go.Geo.c1 = r4 at *
 generalize c.zn.map Go.Geo.p1 = r5 at *
 cases u3
 ·simp +contextual -implicitDefEqProofs (maxSteps := 2000000) only [go_sem, ↓reduceIte, C73t, q3, q4, q5, q6, q7, q8, z1, z2, z3, y1, Bool.false_and, Bool.and_false, Bool.true_and, Bool.and_true, decide_true, decide_false, Bool.false_eq_true]
 cases u4
 ·simp +contextual -implicitDefEqProofs (maxSteps := 2000000) only [go_sem, ↓reduceIte, C73t, q3, q4, q5, q6, q7, q8, z1, z2, z3, y1, Bool.false_and, Bool.and_false, Bool.true_and, Bool.and_true, decide_true, decide_false, Bool.false_eq_true]
 cases u5
 ·simp +contextual -implicitDefEqProofs (maxSteps := 2000000) only [go_sem, ↓reduceIte, C73t, q3, q4, q5, q6, q7, q8, z1, z2, z3, y1, Bool.false_and, Bool.and_false, Bool.true_and, Bool.and_true, decide_true, decide_false, Bool.false_eq_true]
 cases u6
 ·simp +contextual -implicitDefEqProofs (maxSteps := 2000000) only [go_sem, ↓reduceIte, C73t, q3, q4, q5, q6, q7, q8, z1, z2, z3, y1, Bool.false_and, Bool.and_false, Bool.true_and, Bool.and_true, decide_true, decide_false, Bool.false_eq_true]
 cases u7
 ·simp +contextual -implicitDefEqProofs (maxSteps := 2000000) only [go_sem, ↓reduceIte, C73t, q3, q4, q5, q6, q7, q8, z1, z2, z3, y1, Bool.false_and, Bool.and_false, Bool.true_and, Bool.and_true, decide_true, decide_false, Bool.false_eq_true]
 by_cases e1 : 0 ≤ c.per
 rotate_left
 ·simp +contextual -implicitDefEqProofs (maxSteps := 2000000) only [go_sem, ↓reduceIte, C73t, q3, q4, q5, q6, q7, q8, z1, z2, z3, y1, e1, Bool.false_and, Bool.and_false, Bool.true_and, Bool.and_true, decide_true, decide_false, Bool.false_eq_true]
 by_cases e2 : c.per ≤ 100
 rotate_left
 ·simp +contextual -implicitDefEqProofs (maxSteps := 2000000) only [go_sem, ↓reduceIte, C73t, q3, q4, q5, q6, q7, q8, z1, z2, z3, y1, e1, e2, Bool.false_and, Bool.and_false, Bool.true_and, Bool.and_true, decide_true, decide_false, Bool.false_eq_true]
 cases lm
 ·simp +contextual -implicitDefEqProofs (maxSteps := 2000000) only [go_sem, ↓reduceIte, C73t, q3, q4, q5, q6, q7, q8, z1, z2, z3, y1, e1, e2, Bool.false_and, Bool.and_false, Bool.true_and, Bool.and_true, decide_true, decide_false, Bool.false_eq_true]
 by_cases e3 : 0 ≤ c.gap
 rotate_left
 ·simp +contextual -implicitDefEqProofs (maxSteps := 2000000) only [go_sem, ↓reduceIte, C73t, q3, q4, q5, q6, q7, q8, z1, z2, z3, y1, e1, e2, e3, Bool.false_and, Bool.and_false, Bool.true_and, Bool.and_true, decide_true, decide_false, Bool.false_eq_true]
 by_cases e4 : c.gap ≤ 20
 rotate_left
 ·simp +contextual -implicitDefEqProofs (maxSteps := 2000000) only [go_sem, ↓reduceIte, C73t, q3, q4, q5, q6, q7, q8, z1, z2, z3, y1, e1, e2, e3, e4, Bool.false_and, Bool.and_false, Bool.true_and, Bool.and_true, decide_true, decide_false, Bool.false_eq_true]
 by_cases e5 : 1 ≤ c.slow
 rotate_left
 ·simp +contextual -implicitDefEqProofs (maxSteps := 2000000) only [go_sem, ↓reduceIte, C73t, q3, q4, q5, q6, q7, q8, z1, z2, z3, y1, e1, e2, e3, e4, e5, Bool.false_and, Bool.and_false, Bool.true_and, Bool.and_true, decide_true, decide_false, Bool.false_eq_true]
 by_cases e9 : c.slow ≤ 8
 ·simp +contextual -implicitDefEqProofs (maxSteps := 2000000) only [go_sem, ↓reduceIte, C73t, q3, q4, q5, q6, q7, q8, z1, z2, z3, y1, e1, e2, e3, e4, e5, e9, Bool.false_and, Bool.and_false, Bool.true_and, Bool.and_true, decide_true, decide_false, Bool.false_eq_true]
 ·simp +contextual -implicitDefEqProofs (maxSteps := 2000000) only [go_sem, ↓reduceIte, C73t, q3, q4, q5, q6, q7, q8, z1, z2, z3, y1, e1, e2, e3, e4, e5, e9, Bool.false_and, Bool.and_false, Bool.true_and, Bool.and_true, decide_true, decide_false, Bool.false_eq_true]
end Go.Proofs.YtnecdcaaknhgpaaGreat

namespace Go.Proofs.YtnecdcaaknhgpaaGreat
open Go Go.Zv
open Go.Geo (polB plcB prtB unlB bouB)
theorem loop73 (c : Cl) : (armOK c.a c.h0 c.h1 c.h2 && armOK c.b c.h3 c.h4 c.h5) = true ∧ K E C73b ⟨[(1, .ptr 256 0)], [], [(256, .box (cec c.cel))], 0⟩ = some (.ex .nrm ⟨[(1, .ptr 256 0)], [], [(256, .box (cec c.cel))], 0⟩) ∨
  (armOK c.a c.h0 c.h1 c.h2 && armOK c.b c.h3 c.h4 c.h5) = false ∧ ∃ X, K E C73b ⟨[(1, .ptr 256 0)], [], [(256, .box (cec c.cel))], 0⟩ = some (.ex .ret ⟨[(2, .bool false)], [], X, 0⟩) := by
 have o16a := c30 c.a
 have o18a := c31 c.a c.h0 c.h1 c.h2
 by_cases oka : OKa c.a
 rotate_left
 ·rw [okF oka] at o16a
  refine .inr ⟨by unfold armOK; simp [okF oka], [(1024, .box (avc c.a)), (256, .box (cec c.cel))], ?_⟩
  unfold cec
  simp +contextual -implicitDefEqProofs (maxSteps := 2000000) only [go_sem, ↓reduceIte, C73b, A16_L0_eq, A16_L0b, o16a]
 rw [okT oka] at o16a
 cases hla : limB c.a c.h0 c.h1 c.h2 <;> rw [hla] at o18a
 ·refine .inr ⟨by unfold armOK; simp [okT oka, hla], [(1024, .box (avc c.a)), (256, .box (cec c.cel))], ?_⟩
  unfold cec
  simp +contextual -implicitDefEqProofs (maxSteps := 2000000) only [go_sem, ↓reduceIte, C73b, A16_L0_eq, A16_L0b, o16a, o18a]
 obtain ⟨a1, a2, a3, a4, a5, a6, a7⟩ := rw_ok oka (bx_bd oka).1
 obtain ⟨_, _, _, _, a15, a16, a17⟩ := rw_ok oka (bx_bd oka).2
 by_cases r1a : 3515200000 < rchX c.a c.a.bx
 ·refine .inr ⟨by unfold armOK; simp [okT oka, hla, r1a], [(256, .box (cec c.cel))], ?_⟩
  unfold cec
  simp +contextual -implicitDefEqProofs (maxSteps := 2000000) only [go_sem, ↓reduceIte, C73b, A16_L0_eq, A16_L0b, o16a, o18a, a1, a2, a3, a4, a5, a6, a7, r1a]
 by_cases r2a : 3515200000 < rchX c.a c.a.by_
 ·refine .inr ⟨by unfold armOK; simp [okT oka, hla, r1a, r2a], [(256, .box (cec c.cel))], ?_⟩
  unfold cec
  simp +contextual -implicitDefEqProofs (maxSteps := 2000000) only [go_sem, ↓reduceIte, C73b, A16_L0_eq, A16_L0b, o16a, o18a, a1, a2, a3, a4, a5, a6, a7, r1a, a15, a16, a17, r2a]
 have o16b := c30 c.b
 have o18b := c31 c.b c.h3 c.h4 c.h5
 by_cases okb : OKa c.b
 rotate_left
 ·rw [okF okb] at o16b
  refine .inr ⟨by unfold armOK; simp [okT oka, hla, r1a, r2a, okF okb], [(1024, .box (avc c.b)), (256, .box (cec c.cel))], ?_⟩
  unfold cec
  simp +contextual -implicitDefEqProofs (maxSteps := 2000000) only [go_sem, ↓reduceIte, C73b, A16_L0_eq, A16_L0b, o16a, o18a, a1, a2, a3, a4, a5, a6, a7, r1a, a15, a16, a17, r2a, o16b]
 rw [okT okb] at o16b
 cases hlb : limB c.b c.h3 c.h4 c.h5 <;> rw [hlb] at o18b
 ·refine .inr ⟨by unfold armOK; simp [okT oka, hla, r1a, r2a, okT okb, hlb], [(1024, .box (avc c.b)), (256, .box (cec c.cel))], ?_⟩
  unfold cec
  simp +contextual -implicitDefEqProofs (maxSteps := 2000000) only [go_sem, ↓reduceIte, C73b, A16_L0_eq, A16_L0b, o16a, o18a, a1, a2, a3, a4, a5, a6, a7, r1a, a15, a16, a17, r2a, o16b, o18b]
 obtain ⟨b1, b2, b3, b4, b5, b6, b7⟩ := rw_ok okb (bx_bd okb).1
 obtain ⟨_, _, _, _, b15, b16, b17⟩ := rw_ok okb (bx_bd okb).2
 by_cases r1b : 3515200000 < rchX c.b c.b.bx
 ·refine .inr ⟨by unfold armOK; simp [okT oka, hla, r1a, r2a, okT okb, hlb, r1b], [(256, .box (cec c.cel))], ?_⟩
  unfold cec
  simp +contextual -implicitDefEqProofs (maxSteps := 2000000) only [go_sem, ↓reduceIte, C73b, A16_L0_eq, A16_L0b, o16a, o18a, a1, a2, a3, a4, a5, a6, a7, r1a, a15, a16, a17, r2a, o16b, o18b, b1, b2, b3, b4, b5, b6, b7, r1b]
 by_cases r2b : 3515200000 < rchX c.b c.b.by_
 ·refine .inr ⟨by unfold armOK; simp [okT oka, hla, r1a, r2a, okT okb, hlb, r1b, r2b], [(256, .box (cec c.cel))], ?_⟩
  unfold cec
  simp +contextual -implicitDefEqProofs (maxSteps := 2000000) only [go_sem, ↓reduceIte, C73b, A16_L0_eq, A16_L0b, o16a, o18a, a1, a2, a3, a4, a5, a6, a7, r1a, a15, a16, a17, r2a, o16b, o18b, b1, b2, b3, b4, b5, b6, b7, r1b, b15, b16, b17, r2b]
 refine .inl ⟨by unfold armOK; simp [okT oka, hla, r1a, r2a, okT okb, hlb, r1b, r2b], ?_⟩
 unfold cec
 simp +contextual -implicitDefEqProofs (maxSteps := 2000000) only [go_sem, ↓reduceIte, C73b, A16_L0_eq, A16_L0b, o16a, o18a, a1, a2, a3, a4, a5, a6, a7, r1a, a15, a16, a17, r2a, o16b, o18b, b1, b2, b3, b4, b5, b6, b7, r1b, b15, b16, b17, r2b]
end Go.Proofs.YtnecdcaaknhgpaaGreat

namespace Go.Proofs.YtnecdcaaknhgpaaGreat
open Go Go.Zv
open Go.Geo (polB plcB prtB unlB bouB)
theorem c16 (c : Cl) (hz : c.zn.length ≤ 1000) : pc E 16 [.agg (cec c.cel)] = some (.bool (rightB c)) := by
 have hv : rightB c = ((armOK c.a c.h0 c.h1 c.h2 && armOK c.b c.h3 c.h4 c.h5) && (decide ((c.pl.length : Int) ≤ 16) && (decide ((c.pt.length : Int) ≤ 8) && (decide ((c.bt.length : Int) ≤ 16) && restB c)))) := by unfold rightB; rw [Bool.and_assoc]
 rw [hv]
 rcases loop73 c with ⟨h1, lp⟩ | ⟨h1, X, lp⟩
 ·rw [h1, Bool.true_and]
  have y1 : (c.pl.map Go.Geo.plv).length = c.pl.length := List.length_map ..
  have y2 : (c.pt.map Go.Geo.prv).length = c.pt.length := List.length_map ..
  have y3 : (c.bt.map Go.Geo.c1).length = c.bt.length := List.length_map ..
  have ls := lims73 c
  have tl := tail73 c hz
  unfold cec at lp ls tl ⊢
  by_cases l1 : (16 : Int) < c.pl.length
  ·rw [decide_eq_false (show ¬ (c.pl.length : Int) ≤ 16 by omega)]
   rw [pc_eq]; simp +contextual -implicitDefEqProofs (maxSteps := 2000000) only [go_sem, ↓reduceIte, E_16, A16_s, C73a, C73c, lp, y1, l1, Bool.false_and]
  by_cases l2 : (8 : Int) < c.pt.length
  ·rw [decide_eq_false (show ¬ (c.pt.length : Int) ≤ 8 by omega)]
   rw [pc_eq]; simp +contextual -implicitDefEqProofs (maxSteps := 2000000) only [go_sem, ↓reduceIte, E_16, A16_s, C73a, C73c, lp, y1, y2, l1, l2, Bool.false_and, Bool.and_false]
  by_cases l3 : (16 : Int) < c.bt.length
  ·rw [decide_eq_false (show ¬ (c.bt.length : Int) ≤ 16 by omega)]
   rw [pc_eq]; simp +contextual -implicitDefEqProofs (maxSteps := 2000000) only [go_sem, ↓reduceIte, E_16, A16_s, C73a, C73c, lp, y1, y2, y3, l1, l2, l3, Bool.false_and, Bool.and_false]
  rw [decide_eq_true (show (c.pl.length : Int) ≤ 16 by omega), decide_eq_true (show (c.pt.length : Int) ≤ 8 by omega), decide_eq_true (show (c.bt.length : Int) ≤ 16 by omega)]
  have tl := tl (by omega) (by omega) (by omega)
  rw [pc_eq]; simp +contextual -implicitDefEqProofs (maxSteps := 2000000) only [go_sem, ↓reduceIte, E_16, A16_s, C73a, C73c, lp, ls, tl, y1, y2, y3, l1, l2, l3]
 ·rw [h1, Bool.false_and]
  unfold cec at lp ⊢
  rw [pc_eq]; simp +contextual -implicitDefEqProofs (maxSteps := 2000000) only [go_sem, ↓reduceIte, E_16, A16_s, C73a, lp]
end Go.Proofs.YtnecdcaaknhgpaaGreat
