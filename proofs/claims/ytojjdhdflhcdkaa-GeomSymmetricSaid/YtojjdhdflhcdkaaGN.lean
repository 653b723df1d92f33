/- Part of the proof: what functions of the program compute, over the evaluation that the engine's texts tie to the machine. -/
import Derived.Test.YtojjdhdflhcdkaaGM
namespace Go.Proofs.Ytojjdhdflhcdkaa
set_option maxRecDepth 100000
set_option maxHeartbeats 4000000
set_option linter.unusedSimpArgs false
set_option linter.unusedVariables false
open Go Go.Zv
def wW (ax ay bx by_ cx cy dx dy : Int) : Int := (bx - ax) * (dy - cy) - (by_ - ay) * (dx - cx)
def sS (ax ay bx by_ cx cy dx dy : Int) : Int := (cx - ax) * (dy - cy) - (cy - ay) * (dx - cx)
def tT (ax ay bx by_ cx cy dx dy : Int) : Int := (cx - ax) * (by_ - ay) - (cy - ay) * (bx - ax)
section
variable (ax ay bx by_ cx cy dx dy : Int)
theorem o1_eq : cr ax ay bx by_ cx cy = - tT ax ay bx by_ cx cy dx dy := by unfold cr tT; grind
theorem o2_eq : cr ax ay bx by_ dx dy = wW ax ay bx by_ cx cy dx dy - tT ax ay bx by_ cx cy dx dy := by unfold cr tT wW; grind
theorem o3_eq : cr cx cy dx dy ax ay = sS ax ay bx by_ cx cy dx dy := by unfold cr sS; grind
theorem o4_eq : cr cx cy dx dy bx by_ = sS ax ay bx by_ cx cy dx dy - wW ax ay bx by_ cx cy dx dy := by unfold cr sS wW; grind
end
theorem sq_nn (x : Int) : 0 ≤ x * x := by
  by_cases h : x = 0
  · subst h; simp
  · have := sq_pos h; omega
theorem nn_of_mul {x y : Int} (hx : 0 < x) (h : 0 ≤ x * y) : 0 ≤ y := by
  rw [mul_nn] at h; omega
theorem within_A {ax ay bx by_ cx cy dx dy : Int} (hT : tT ax ay bx by_ cx cy dx dy = 0) (hW : wW ax ay bx by_ cx cy dx dy ≠ 0) :
    withinB ax ay bx by_ cx cy = true ↔ 0 ≤ sS ax ay bx by_ cx cy dx dy * (wW ax ay bx by_ cx cy dx dy - sS ax ay bx by_ cx cy dx dy) := by
  have e1 : wW ax ay bx by_ cx cy dx dy * (cx - ax) = sS ax ay bx by_ cx cy dx dy * (bx - ax) := by
    have : wW ax ay bx by_ cx cy dx dy * (cx - ax) - sS ax ay bx by_ cx cy dx dy * (bx - ax) = (dx - cx) * (- tT ax ay bx by_ cx cy dx dy) := by unfold wW sS tT; grind
    rw [hT] at this; simp at this; omega
  have e2 : wW ax ay bx by_ cx cy dx dy * (cy - ay) = sS ax ay bx by_ cx cy dx dy * (by_ - ay) := by
    have : wW ax ay bx by_ cx cy dx dy * (cy - ay) - sS ax ay bx by_ cx cy dx dy * (by_ - ay) = (dy - cy) * (- tT ax ay bx by_ cx cy dx dy) := by unfold wW sS tT; grind
    rw [hT] at this; simp at this; omega
  have hne : bx - ax ≠ 0 ∨ by_ - ay ≠ 0 := by
    refine Classical.byContradiction fun h => hW ?_
    have h1 : bx - ax = 0 := by omega
    have h2 : by_ - ay = 0 := by omega
    unfold wW; rw [h1, h2]; simp
  generalize sS ax ay bx by_ cx cy dx dy = s at *
  generalize wW ax ay bx by_ cx cy dx dy = w at *
  have hw := sq_pos hW
  have f1 : (w * w) * ((cx - ax) * (bx - cx)) = (s * (w - s)) * ((bx - ax) * (bx - ax)) := by
    have : (w * w) * ((cx - ax) * (bx - cx)) = (w * (cx - ax)) * (w * (bx - ax) - w * (cx - ax)) := by grind
    rw [this, e1]; grind
  have f2 : (w * w) * ((cy - ay) * (by_ - cy)) = (s * (w - s)) * ((by_ - ay) * (by_ - ay)) := by
    have : (w * w) * ((cy - ay) * (by_ - cy)) = (w * (cy - ay)) * (w * (by_ - ay) - w * (cy - ay)) := by grind
    rw [this, e2]; grind
  rw [withinB_iff]
  constructor
  · rintro ⟨h1, h2⟩
    rcases hne with hn | hn
    · have : 0 ≤ (s * (w - s)) * ((bx - ax) * (bx - ax)) := by rw [← f1]; exact Int.mul_nonneg (by omega) h1
      rw [Int.mul_comm] at this
      exact nn_of_mul (sq_pos hn) this
    · have : 0 ≤ (s * (w - s)) * ((by_ - ay) * (by_ - ay)) := by rw [← f2]; exact Int.mul_nonneg (by omega) h2
      rw [Int.mul_comm] at this
      exact nn_of_mul (sq_pos hn) this
  · intro h
    exact ⟨nn_of_mul hw (by rw [f1]; exact Int.mul_nonneg h (sq_nn _)), nn_of_mul hw (by rw [f2]; exact Int.mul_nonneg h (sq_nn _))⟩
theorem sgn_mul_neg {x y : Int} : IntKind.i64.wrap (sgn x * sgn y) < 0 ↔ x * y < 0 := by
  have h : x * y < 0 ↔ ¬ (0 ≤ x * y) := by omega
  rw [h, mul_nn]
  unfold sgn
  repeat' split
  all_goals (simp only [Int.mul_zero, Int.zero_mul, Int.one_mul, Int.mul_one, Int.reduceMul, Int.reduceNeg])
  all_goals (first | (rw [show IntKind.i64.wrap 1 = 1 by decide]; omega) | (rw [show IntKind.i64.wrap (-1) = -1 by decide]; omega) | (rw [show IntKind.i64.wrap 0 = 0 by decide]; omega))
structure B8 (ax ay bx by_ cx cy dx dy : Int) : Prop where
  a0 : B ax
  a1 : B ay
  b0 : B bx
  b1 : B by_
  c0 : B cx
  c1 : B cy
  d0 : B dx
  d1 : B dy
theorem cutB_iff {ax ay bx by_ cx cy dx dy : Int} (h : B8 ax ay bx by_ cx cy dx dy) : cutB ax ay bx by_ cx cy dx dy = true ↔
    (cr ax ay bx by_ cx cy * cr ax ay bx by_ dx dy < 0 ∧ cr cx cy dx dy ax ay * cr cx cy dx dy bx by_ < 0) ∨
    ((cr ax ay bx by_ cx cy = 0 ∧ withinB ax ay bx by_ cx cy = true) ∨ (cr ax ay bx by_ dx dy = 0 ∧ withinB ax ay bx by_ dx dy = true)) ∨
    ((cr cx cy dx dy ax ay = 0 ∧ withinB cx cy dx dy ax ay = true) ∨ (cr cx cy dx dy bx by_ = 0 ∧ withinB cx cy dx dy bx by_ = true)) := by
  unfold cutB endsB sdI
  rw [crW_B h.a0 h.a1 h.b0 h.b1 h.c0 h.c1, crW_B h.a0 h.a1 h.b0 h.b1 h.d0 h.d1, crW_B h.c0 h.c1 h.d0 h.d1 h.a0 h.a1, crW_B h.c0 h.c1 h.d0 h.d1 h.b0 h.b1]
  simp only [Bool.or_eq_true, Bool.and_eq_true, decide_eq_true_eq, sgn_mul_neg, sgn_eq0]
theorem cut_par {ax ay bx by_ cx cy dx dy : Int} (h : B8 ax ay bx by_ cx cy dx dy) (hW : wW ax ay bx by_ cx cy dx dy = 0) :
    cutB ax ay bx by_ cx cy dx dy = (onB ax ay bx by_ cx cy || (onB ax ay bx by_ dx dy || (onB cx cy dx dy ax ay || onB cx cy dx dy bx by_))) := by
  rw [Bool.eq_iff_iff, cutB_iff h]
  simp only [Bool.or_eq_true]
  unfold onB
  rw [crW_B h.a0 h.a1 h.b0 h.b1 h.c0 h.c1, crW_B h.a0 h.a1 h.b0 h.b1 h.d0 h.d1, crW_B h.c0 h.c1 h.d0 h.d1 h.a0 h.a1, crW_B h.c0 h.c1 h.d0 h.d1 h.b0 h.b1]
  simp only [Bool.and_eq_true, decide_eq_true_eq, sgn_eq0]
  have hn : ¬ (cr ax ay bx by_ cx cy * cr ax ay bx by_ dx dy < 0) := by
    rw [o1_eq ax ay bx by_ cx cy dx dy, o2_eq ax ay bx by_ cx cy dx dy, hW]
    have := sq_nn (tT ax ay bx by_ cx cy dx dy)
    have e : -tT ax ay bx by_ cx cy dx dy * (0 - tT ax ay bx by_ cx cy dx dy) = tT ax ay bx by_ cx cy dx dy * tT ax ay bx by_ cx cy dx dy := by grind
    rw [e]; omega
  constructor
  · rintro (⟨h1, _⟩ | h | h)
    · exact absurd h1 hn
    · rcases h with h | h
      · exact .inl ⟨h.2, h.1⟩
      · exact .inr (.inl ⟨h.2, h.1⟩)
    · rcases h with h | h
      · exact .inr (.inr (.inl ⟨h.2, h.1⟩))
      · exact .inr (.inr (.inr ⟨h.2, h.1⟩))
  · rintro (h | h | h | h)
    · exact .inr (.inl (.inl ⟨h.2, h.1⟩))
    · exact .inr (.inl (.inr ⟨h.2, h.1⟩))
    · exact .inr (.inr (.inl ⟨h.2, h.1⟩))
    · exact .inr (.inr (.inr ⟨h.2, h.1⟩))
theorem shared_iff {W S T : Int} (hW : W ≠ 0) : sharedB W S T = true ↔ 0 ≤ S * (W - S) ∧ 0 ≤ T * (W - T) := by
  rw [mul_nn, mul_nn]; unfold sharedB
  split <;> simp only [Bool.and_eq_true, decide_eq_true_eq] <;> omega
theorem cut_cross {ax ay bx by_ cx cy dx dy : Int} (h : B8 ax ay bx by_ cx cy dx dy) (hW : wW ax ay bx by_ cx cy dx dy ≠ 0) :
    cutB ax ay bx by_ cx cy dx dy = sharedB (wW ax ay bx by_ cx cy dx dy) (sS ax ay bx by_ cx cy dx dy) (tT ax ay bx by_ cx cy dx dy) := by
  rw [Bool.eq_iff_iff, cutB_iff h, shared_iff hW]
  have wa := within_A (ax := ax) (ay := ay) (bx := bx) (by_ := by_) (cx := cx) (cy := cy) (dx := dx) (dy := dy)
  have wb := within_A (ax := ax) (ay := ay) (bx := bx) (by_ := by_) (cx := dx) (cy := dy) (dx := cx) (dy := cy)
  have wc := within_A (ax := cx) (ay := cy) (bx := dx) (by_ := dy) (cx := ax) (cy := ay) (dx := bx) (dy := by_)
  have wd := within_A (ax := cx) (ay := cy) (bx := dx) (by_ := dy) (cx := bx) (cy := by_) (dx := ax) (dy := ay)
  rw [show wW ax ay bx by_ dx dy cx cy = - wW ax ay bx by_ cx cy dx dy by unfold wW; grind, show sS ax ay bx by_ dx dy cx cy = - sS ax ay bx by_ cx cy dx dy by unfold sS; grind, show tT ax ay bx by_ dx dy cx cy = tT ax ay bx by_ cx cy dx dy - wW ax ay bx by_ cx cy dx dy by unfold tT wW; grind] at wb
  rw [show wW cx cy dx dy ax ay bx by_ = - wW ax ay bx by_ cx cy dx dy by unfold wW; grind, show sS cx cy dx dy ax ay bx by_ = - tT ax ay bx by_ cx cy dx dy by unfold sS tT; grind, show tT cx cy dx dy ax ay bx by_ = - sS ax ay bx by_ cx cy dx dy by unfold tT sS; grind] at wc
  rw [show wW cx cy dx dy bx by_ ax ay = wW ax ay bx by_ cx cy dx dy by unfold wW; grind, show sS cx cy dx dy bx by_ ax ay = tT ax ay bx by_ cx cy dx dy by unfold sS tT; grind, show tT cx cy dx dy bx by_ ax ay = wW ax ay bx by_ cx cy dx dy - sS ax ay bx by_ cx cy dx dy by unfold tT sS wW; grind] at wd
  rw [o1_eq ax ay bx by_ cx cy dx dy, o2_eq ax ay bx by_ cx cy dx dy, o3_eq ax ay bx by_ cx cy dx dy, o4_eq ax ay bx by_ cx cy dx dy]
  generalize wW ax ay bx by_ cx cy dx dy = W at *
  generalize sS ax ay bx by_ cx cy dx dy = S at *
  generalize tT ax ay bx by_ cx cy dx dy = T at *
  have e1 : -T * (W - T) = -(T * (W - T)) := by grind
  have e2 : S * (S - W) = -(S * (W - S)) := by grind
  have e3 : -S * (-W - -S) = S * (W - S) := by grind
  have e4 : -T * (-W - -T) = T * (W - T) := by grind
  rw [e3] at wb; rw [e4] at wc
  rw [e1, e2]
  have z1 : ∀ {x : Int}, x = 0 → x * (W - x) = 0 := fun h => by rw [h]; simp
  have z2 : ∀ {x : Int}, W - x = 0 → x * (W - x) = 0 := fun h => by rw [h]; simp
  constructor
  · rintro (⟨h1, h2⟩ | (⟨h1, h2⟩ | ⟨h1, h2⟩) | (⟨h1, h2⟩ | ⟨h1, h2⟩))
    · omega
    · have h3 : T = 0 := by omega
      exact ⟨(wa h3 hW).1 h2, by rw [z1 h3]; omega⟩
    · have h3 : T - W = 0 := by omega
      exact ⟨(wb h3 (by omega)).1 h2, by rw [z2 (by omega)]; omega⟩
    · have h3 : S = 0 := h1
      exact ⟨by rw [z1 h3]; omega, (wc (by omega) (by omega)).1 h2⟩
    · have h3 : W - S = 0 := by omega
      exact ⟨by rw [z2 h3]; omega, (wd h3 hW).1 h2⟩
  · rintro ⟨h1, h2⟩
    by_cases t0 : T * (W - T) = 0
    · rcases Int.mul_eq_zero.1 t0 with t | t
      · exact .inr (.inl (.inl ⟨by omega, (wa t hW).2 h1⟩))
      · exact .inr (.inl (.inr ⟨by omega, (wb (by omega) (by omega)).2 h1⟩))
    · by_cases s0 : S * (W - S) = 0
      · rcases Int.mul_eq_zero.1 s0 with t | t
        · exact .inr (.inr (.inl ⟨t, (wc (by omega) (by omega)).2 h2⟩))
        · exact .inr (.inr (.inr ⟨by omega, (wd t hW).2 h2⟩))
      · exact .inl ⟨by omega, by omega⟩
end Go.Proofs.Ytojjdhdflhcdkaa
