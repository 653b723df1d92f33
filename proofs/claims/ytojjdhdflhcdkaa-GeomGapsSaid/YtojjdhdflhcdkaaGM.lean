/- Part of the proof: what functions of the program compute, over the evaluation that the engine's texts tie to the machine. -/
import Derived.Test.YtojjdhdflhcdkaaG5
namespace Go.Proofs.Ytojjdhdflhcdkaa
set_option maxRecDepth 100000
set_option maxHeartbeats 4000000
set_option linter.unusedSimpArgs false
set_option linter.unusedVariables false
open Go Go.Zv
def B (x : Int) : Prop := -500000000 ≤ x ∧ x ≤ 500000000
theorem wB {x : Int} (h : B x) : IntKind.i64.wrap x = x := by unfold B at h; exact wrap_small (by omega) (by omega)
def cr (ax ay bx by_ px py : Int) : Int := (bx - ax) * (py - ay) - (by_ - ay) * (px - ax)
theorem mul_bd {x y A C : Int} (h1 : -A ≤ x) (h2 : x ≤ A) (h3 : -C ≤ y) (h4 : y ≤ C) : -(A * C) ≤ x * y ∧ x * y ≤ A * C := by
  have hA : 0 ≤ A := by omega
  have hC : 0 ≤ C := by omega
  have a1 : x * y ≤ A * C := by
    rcases Int.le_total 0 x with hx | hx
    · have h5 : x * y ≤ x * C := Int.mul_le_mul_of_nonneg_left h4 hx
      have h6 : x * C ≤ A * C := Int.mul_le_mul_of_nonneg_right h2 hC
      omega
    · have h5 : (-x) * (-y) ≤ (-x) * C := Int.mul_le_mul_of_nonneg_left (by omega) (by omega)
      have h6 : (-x) * C ≤ A * C := Int.mul_le_mul_of_nonneg_right (by omega) hC
      have h7 : (-x) * (-y) = x * y := by grind
      omega
  have a2 : -(A * C) ≤ x * y := by
    rcases Int.le_total 0 x with hx | hx
    · have h5 : x * (-y) ≤ x * C := Int.mul_le_mul_of_nonneg_left (by omega) hx
      have h6 : x * C ≤ A * C := Int.mul_le_mul_of_nonneg_right h2 hC
      have h7 : x * (-y) = -(x * y) := by grind
      omega
    · have h5 : (-x) * y ≤ (-x) * C := Int.mul_le_mul_of_nonneg_left h4 (by omega)
      have h6 : (-x) * C ≤ A * C := Int.mul_le_mul_of_nonneg_right (by omega) hC
      have h7 : (-x) * y = -(x * y) := by grind
      omega
  exact ⟨a2, a1⟩
theorem wprod {x y z w : Int} (h1 : -1000000000 ≤ x) (h2 : x ≤ 1000000000) (h3 : -1000000000 ≤ y) (h4 : y ≤ 1000000000) (h5 : -1000000000 ≤ z) (h6 : z ≤ 1000000000) (h7 : -1000000000 ≤ w) (h8 : w ≤ 1000000000) :
    IntKind.i64.wrap (IntKind.i64.wrap (IntKind.i64.wrap x * IntKind.i64.wrap y) - IntKind.i64.wrap (IntKind.i64.wrap z * IntKind.i64.wrap w)) = x * y - z * w ∧ -2000000000000000000 ≤ x * y - z * w ∧ x * y - z * w ≤ 2000000000000000000 := by
  obtain ⟨p1, p2⟩ := mul_bd h1 h2 h3 h4
  obtain ⟨q1, q2⟩ := mul_bd h5 h6 h7 h8
  rw [wrap_small (n := x) (by omega) (by omega), wrap_small (n := y) (by omega) (by omega), wrap_small (n := z) (by omega) (by omega), wrap_small (n := w) (by omega) (by omega)]
  rw [wrap_small (n := x * y) (by omega) (by omega), wrap_small (n := z * w) (by omega) (by omega), wrap_small (n := x * y - z * w) (by omega) (by omega)]
  exact ⟨rfl, by omega, by omega⟩
theorem crW_B {ax ay bx by_ px py : Int} (h1 : B ax) (h2 : B ay) (h3 : B bx) (h4 : B by_) (h5 : B px) (h6 : B py) : crW ax ay bx by_ px py = cr ax ay bx by_ px py := by
  unfold B at *
  exact (wprod (by omega) (by omega) (by omega) (by omega) (by omega) (by omega) (by omega) (by omega)).1
theorem tmod_bd (x : Int) {n : Int} (h : 0 < n) : -n < x.tmod n ∧ x.tmod n < n := ⟨Int.lt_tmod_of_pos x h, Int.tmod_lt_of_pos x h⟩
theorem pk_bd (s : Bool) (x : Int) : -439400000 ≤ pk s x ∧ pk s x ≤ 439400000 := by
  unfold pk nearI fitI
  have h1 := tmod_bd x (n := 9) (by omega)
  have h2 := tmod_bd x (n := 439400001) (by omega)
  split <;> omega
theorem tdiv2_bd {x A : Int} (h1 : -(2 * A) ≤ x) (h2 : x ≤ 2 * A) : -A ≤ x.tdiv 2 ∧ x.tdiv 2 ≤ A := by
  have := Int.tmod_add_mul_tdiv x 2
  have h := tmod_bd x (n := 2) (by omega)
  omega
theorem sgn_cases (n : Int) : sgn n = 1 ∨ sgn n = 0 ∨ sgn n = -1 := by unfold sgn; split <;> (try split) <;> simp
theorem sgn_neg (n : Int) : sgn (-n) = -sgn n := by unfold sgn; repeat' split
                                                    all_goals omega
theorem sgn_zero : sgn 0 = 0 := by decide
theorem cr_swap (ax ay bx by_ px py : Int) : cr bx by_ ax ay px py = - cr ax ay bx by_ px py := by unfold cr; grind
theorem cr_swap2 (ax ay bx by_ px py : Int) : cr ax ay px py bx by_ = - cr ax ay bx by_ px py := by unfold cr; grind
theorem cr_rot (ax ay bx by_ px py : Int) : cr bx by_ px py ax ay = cr ax ay bx by_ px py := by unfold cr; grind
theorem cr_rot2 (ax ay bx by_ px py : Int) : cr px py ax ay bx by_ = cr ax ay bx by_ px py := by unfold cr; grind
theorem cr_add (ax ay bx by_ px py u v : Int) : cr (ax + u) (ay + v) (bx + u) (by_ + v) (px + u) (py + v) = cr ax ay bx by_ px py := by unfold cr; grind
theorem cr_sub (ax ay bx by_ px py u v : Int) : cr (ax - u) (ay - v) (bx - u) (by_ - v) (px - u) (py - v) = cr ax ay bx by_ px py := by unfold cr; grind
theorem cr_quarter (ax ay bx by_ px py : Int) : cr (0 - ay) ax (0 - by_) bx (0 - py) px = cr ax ay bx by_ px py := by unfold cr; grind
theorem cr_aac (ax ay px py : Int) : cr ax ay ax ay px py = 0 := by unfold cr; grind
theorem cr_abb (ax ay px py : Int) : cr ax ay px py px py = 0 := by unfold cr; grind
def S (x : Int) : Prop := -220000000 ≤ x ∧ x ≤ 220000000
def T3 (x : Int) : Prop := -1000 ≤ x ∧ x ≤ 1000
theorem S.B {x : Int} (h : S x) : B x := by unfold S at h; unfold Proofs.Ytojjdhdflhcdkaa.B; omega
theorem S.add {x y : Int} (h : S x) (k : T3 y) : Proofs.Ytojjdhdflhcdkaa.B (x + y) := by unfold S T3 at *; unfold Proofs.Ytojjdhdflhcdkaa.B; omega
theorem S.sub {x y : Int} (h : S x) (k : T3 y) : Proofs.Ytojjdhdflhcdkaa.B (x - y) := by unfold S T3 at *; unfold Proofs.Ytojjdhdflhcdkaa.B; omega
theorem S.neg {x : Int} (h : S x) : Proofs.Ytojjdhdflhcdkaa.B (0 - x) := by unfold S at *; unfold Proofs.Ytojjdhdflhcdkaa.B; omega
theorem wsum {x y z w : Int} (h1 : -1000000000 ≤ x) (h2 : x ≤ 1000000000) (h3 : -1000000000 ≤ y) (h4 : y ≤ 1000000000) (h5 : -1000000000 ≤ z) (h6 : z ≤ 1000000000) (h7 : -1000000000 ≤ w) (h8 : w ≤ 1000000000) :
    IntKind.i64.wrap (IntKind.i64.wrap (IntKind.i64.wrap x * IntKind.i64.wrap y) + IntKind.i64.wrap (IntKind.i64.wrap z * IntKind.i64.wrap w)) = x * y + z * w := by
  obtain ⟨p1, p2⟩ := mul_bd h1 h2 h3 h4
  obtain ⟨q1, q2⟩ := mul_bd h5 h6 h7 h8
  rw [wrap_small (n := x) (by omega) (by omega), wrap_small (n := y) (by omega) (by omega), wrap_small (n := z) (by omega) (by omega), wrap_small (n := w) (by omega) (by omega)]
  rw [wrap_small (n := x * y) (by omega) (by omega), wrap_small (n := z * w) (by omega) (by omega), wrap_small (n := x * y + z * w) (by omega) (by omega)]
theorem mul_nn {x y : Int} : 0 ≤ x * y ↔ (0 ≤ x ∧ 0 ≤ y) ∨ (x ≤ 0 ∧ y ≤ 0) := by
  constructor
  · intro h
    rcases Int.lt_trichotomy x 0 with hx | hx | hx
    · rcases Int.lt_trichotomy y 0 with hy | hy | hy
      · right; omega
      · right; omega
      · have := Int.mul_neg_of_neg_of_pos hx hy; omega
    · subst hx
      rcases Int.le_total 0 y with hy | hy
      · left; omega
      · right; omega
    · rcases Int.lt_trichotomy y 0 with hy | hy | hy
      · have := Int.mul_neg_of_pos_of_neg hx hy; omega
      · left; omega
      · left; omega
  · rintro (⟨h1, h2⟩ | ⟨h1, h2⟩)
    · exact Int.mul_nonneg h1 h2
    · exact Int.mul_nonneg_of_nonpos_of_nonpos h1 h2
theorem bt {a b p : Int} : (mnI a b ≤ p ∧ p ≤ mxI a b) ↔ 0 ≤ (p - a) * (b - p) := by
  rw [mul_nn]; unfold mnI mxI
  constructor
  · intro h; split at h <;> split at h <;> omega
  · intro h; split <;> split <;> omega
theorem withinB_iff {ax ay bx by_ px py : Int} : withinB ax ay bx by_ px py = true ↔ 0 ≤ (px - ax) * (bx - px) ∧ 0 ≤ (py - ay) * (by_ - py) := by
  rw [← bt, ← bt]
  simp [withinB, and_assoc]
theorem sgn_eq0 {n : Int} : sgn n = 0 ↔ n = 0 := by unfold sgn; repeat' split
                                                    all_goals omega
theorem sq_pos {x : Int} (h : x ≠ 0) : 0 < x * x := by
  rcases Int.lt_trichotomy x 0 with h1 | h1 | h1
  · exact Int.mul_pos_of_neg_of_neg h1 h1
  · exact absurd h1 h
  · exact Int.mul_pos h1 h1
theorem on_key {u v U V : Int} (hc : U * v - V * u = 0) (hd : 0 ≤ u * (U - u) + v * (V - v)) (hne : U ≠ 0 ∨ V ≠ 0) : 0 ≤ u * (U - u) ∧ 0 ≤ v * (V - v) := by
  have key : (V * V) * (u * (U - u)) = (U * U) * (v * (V - v)) := by
    have e : U * v = V * u := by omega
    have : (V * V) * (u * (U - u)) = (V * u) * (V * U) - (V * u) * (V * u) := by grind
    rw [this, ← e]; grind
  have sq : ∀ x : Int, 0 ≤ x * x := fun x => by
    by_cases h : x = 0
    · subst h; simp
    · have := sq_pos h; omega
  constructor
  · refine Classical.byContradiction fun h => ?_
    have h1 : u * (U - u) < 0 := by omega
    have h2 : 0 < v * (V - v) := by omega
    have h3 : 0 ≤ (U * U) * (v * (V - v)) := Int.mul_nonneg (sq U) (by omega)
    rcases hne with hU | hV
    · have := Int.mul_pos (sq_pos hU) h2
      have h5 : (V * V) * (u * (U - u)) ≤ 0 := Int.mul_nonpos_of_nonneg_of_nonpos (sq V) (by omega)
      omega
    · have := Int.mul_neg_of_pos_of_neg (sq_pos hV) h1
      omega
  · refine Classical.byContradiction fun h => ?_
    have h1 : v * (V - v) < 0 := by omega
    have h2 : 0 < u * (U - u) := by omega
    rcases hne with hU | hV
    · have := Int.mul_neg_of_pos_of_neg (sq_pos hU) h1
      have h5 : 0 ≤ (V * V) * (u * (U - u)) := Int.mul_nonneg (sq V) (by omega)
      omega
    · have := Int.mul_pos (sq_pos hV) h2
      have h5 : (U * U) * (v * (V - v)) ≤ 0 := Int.mul_nonpos_of_nonneg_of_nonpos (sq U) (by omega)
      omega
theorem on_iff {ax ay bx by_ px py : Int} : (withinB ax ay bx by_ px py = true ∧ cr ax ay bx by_ px py = 0) ↔ (cr ax ay bx by_ px py = 0 ∧ 0 ≤ (px - ax) * (bx - px) + (py - ay) * (by_ - py) ∧ ((ax = bx ∧ ay = by_) → (px = ax ∧ py = ay))) := by
  rw [withinB_iff]
  constructor
  · rintro ⟨⟨h1, h2⟩, h3⟩
    refine ⟨h3, by omega, ?_⟩
    rintro ⟨rfl, rfl⟩
    rw [mul_nn] at h1 h2
    omega
  · rintro ⟨h3, h4, h5⟩
    refine ⟨?_, h3⟩
    by_cases he : ax = bx ∧ ay = by_
    · obtain ⟨rfl, rfl⟩ := h5 he
      obtain ⟨rfl, rfl⟩ := he
      simp
    · have := on_key (u := px - ax) (v := py - ay) (U := bx - ax) (V := by_ - ay) (by unfold cr at h3; exact h3) (by
        have e1 : bx - ax - (px - ax) = bx - px := by omega
        have e2 : by_ - ay - (py - ay) = by_ - py := by omega
        rw [e1, e2]; exact h4) (by omega)
      have e1 : bx - ax - (px - ax) = bx - px := by omega
      have e2 : by_ - ay - (py - ay) = by_ - py := by omega
      rw [e1, e2] at this; exact this
theorem onB_iff {ax ay bx by_ px py : Int} (h1 : B ax) (h2 : B ay) (h3 : B bx) (h4 : B by_) (h5 : B px) (h6 : B py) : onB ax ay bx by_ px py = true ↔ (cr ax ay bx by_ px py = 0 ∧ 0 ≤ (px - ax) * (bx - px) + (py - ay) * (by_ - py) ∧ ((ax = bx ∧ ay = by_) → (px = ax ∧ py = ay))) := by
  rw [← on_iff]; unfold onB; rw [crW_B h1 h2 h3 h4 h5 h6]; simp [sgn_eq0]
end Go.Proofs.Ytojjdhdflhcdkaa
