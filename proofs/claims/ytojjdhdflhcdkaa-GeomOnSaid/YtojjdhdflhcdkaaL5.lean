/- Part of the proof: what functions of the program compute, over the evaluation that the engine's texts tie to the machine. -/
import Derived.Test.YtojjdhdflhcdkaaGM
namespace Go.Proofs.Ytojjdhdflhcdkaa
set_option maxRecDepth 100000
set_option maxHeartbeats 4000000
set_option linter.unusedSimpArgs false
set_option linter.unusedVariables false
open Go Go.Zv
theorem law5 (a b c d e f g h : Int) (s : Bool) :
    pc E 5 [.agg [.int .i64 a, .int .i64 b, .int .i64 c, .int .i64 d, .int .i64 e, .int .i64 f, .int .i64 g, .int .i64 h], .bool s] = some (.bool true) := by
  have hp := c11 a b c d e f g h s
  have k1 := tdiv2_bd (A := 219700000) (x := pk s a) (by have := pk_bd s a; omega) (by have := pk_bd s a; omega)
  have k2 := tdiv2_bd (A := 219700000) (x := pk s b) (by have := pk_bd s b; omega) (by have := pk_bd s b; omega)
  have k3 := tdiv2_bd (A := 219700000) (x := pk s c) (by have := pk_bd s c; omega) (by have := pk_bd s c; omega)
  have k4 := tdiv2_bd (A := 219700000) (x := pk s d) (by have := pk_bd s d; omega) (by have := pk_bd s d; omega)
  have k5 := pk_bd s e
  have k6 := pk_bd s f
  generalize pk s a = p0 at *
  generalize pk s b = p1 at *
  generalize pk s c = p2 at *
  generalize pk s d = p3 at *
  generalize pk s e = c0 at *
  generalize pk s f = c1 at *
  generalize q0 : p0.tdiv 2 = A0 at *
  generalize q1 : p1.tdiv 2 = A1 at *
  generalize q2 : p2.tdiv 2 = B0 at *
  generalize q3 : p3.tdiv 2 = B1 at *
  have w0 : IntKind.i64.wrap A0 = A0 := wrap_small (by omega) (by omega)
  have w1 : IntKind.i64.wrap A1 = A1 := wrap_small (by omega) (by omega)
  have w2 : IntKind.i64.wrap B0 = B0 := wrap_small (by omega) (by omega)
  have w3 : IntKind.i64.wrap B1 = B1 := wrap_small (by omega) (by omega)
  obtain ⟨a0, ha0⟩ : ∃ a0, a0 = A0 * 2 := ⟨_, rfl⟩
  obtain ⟨a1, ha1⟩ : ∃ a1, a1 = A1 * 2 := ⟨_, rfl⟩
  obtain ⟨b0, hb0⟩ : ∃ b0, b0 = B0 * 2 := ⟨_, rfl⟩
  obtain ⟨b1, hb1⟩ : ∃ b1, b1 = B1 * 2 := ⟨_, rfl⟩
  have v0 : IntKind.i64.wrap (A0 * 2) = a0 := by rw [ha0]; exact wrap_small (by omega) (by omega)
  have v1 : IntKind.i64.wrap (A1 * 2) = a1 := by rw [ha1]; exact wrap_small (by omega) (by omega)
  have v2 : IntKind.i64.wrap (B0 * 2) = b0 := by rw [hb0]; exact wrap_small (by omega) (by omega)
  have v3 : IntKind.i64.wrap (B1 * 2) = b1 := by rw [hb1]; exact wrap_small (by omega) (by omega)
  have half : ∀ x : Int, (2 * x).tdiv 2 = x := fun x => Int.mul_tdiv_cancel_left x (by omega)
  have m0 : IntKind.i64.wrap (a0 + b0) = 2 * (A0 + B0) := by rw [wrap_small (by omega) (by omega)]; omega
  have m1 : IntKind.i64.wrap (a1 + b1) = 2 * (A1 + B1) := by rw [wrap_small (by omega) (by omega)]; omega
  have n0 : IntKind.i64.wrap (b0 - a0) = 2 * (B0 - A0) := by rw [wrap_small (by omega) (by omega)]; omega
  have n1 : IntKind.i64.wrap (b1 - a1) = 2 * (B1 - A1) := by rw [wrap_small (by omega) (by omega)]; omega
  have x0 : IntKind.i64.wrap (A0 + B0) = A0 + B0 := wrap_small (by omega) (by omega)
  have x1 : IntKind.i64.wrap (A1 + B1) = A1 + B1 := wrap_small (by omega) (by omega)
  have y0 : IntKind.i64.wrap (B0 - A0) = B0 - A0 := wrap_small (by omega) (by omega)
  have y1 : IntKind.i64.wrap (B1 - A1) = B1 - A1 := wrap_small (by omega) (by omega)
  have z0 : IntKind.i64.wrap (A0 + B0 - (B0 - A0)) = a0 := by rw [wrap_small (by omega) (by omega)]; omega
  have z1 : IntKind.i64.wrap (A1 + B1 - (B1 - A1)) = a1 := by rw [wrap_small (by omega) (by omega)]; omega
  have hD : IntKind.i64.wrap (IntKind.i64.wrap (IntKind.i64.wrap (c0 - a0) * IntKind.i64.wrap (b0 - c0)) + IntKind.i64.wrap (IntKind.i64.wrap (c1 - a1) * IntKind.i64.wrap (b1 - c1))) = (c0 - a0) * (b0 - c0) + (c1 - a1) * (b1 - c1) :=
    wsum (by omega) (by omega) (by omega) (by omega) (by omega) (by omega) (by omega) (by omega)
  have s0 : B a0 := ⟨by omega, by omega⟩
  have s1 : B a1 := ⟨by omega, by omega⟩
  have s2 : B b0 := ⟨by omega, by omega⟩
  have s3 : B b1 := ⟨by omega, by omega⟩
  have s4 : B c0 := ⟨by omega, by omega⟩
  have s5 : B c1 := ⟨by omega, by omega⟩
  have s6 : B (A0 + B0) := ⟨by omega, by omega⟩
  have s7 : B (A1 + B1) := ⟨by omega, by omega⟩
  have hcr := crW_B s0 s1 s2 s3 s4 s5
  have hI := onB_iff s0 s1 s2 s3 s4 s5
  have o1 : onB a0 a1 b0 b1 a0 a1 = true := (onB_iff s0 s1 s2 s3 s0 s1).2 ⟨by unfold cr; grind, by simp, fun _ => ⟨rfl, rfl⟩⟩
  have o2 : onB a0 a1 b0 b1 b0 b1 = true := (onB_iff s0 s1 s2 s3 s2 s3).2 ⟨by unfold cr; grind, by simp, fun h => ⟨h.1.symm, h.2.symm⟩⟩
  have sq : ∀ x : Int, 0 ≤ x * x := fun x => by
    by_cases h : x = 0
    · subst h; simp
    · have := sq_pos h; omega
  have o3 : onB a0 a1 b0 b1 (A0 + B0) (A1 + B1) = true := (onB_iff s0 s1 s2 s3 s6 s7).2 ⟨by unfold cr; subst ha0 ha1 hb0 hb1; grind, by
    have e0 : (A0 + B0 - a0) * (b0 - (A0 + B0)) = (B0 - A0) * (B0 - A0) := by
      rw [show A0 + B0 - a0 = B0 - A0 by omega, show b0 - (A0 + B0) = B0 - A0 by omega]
    have e1 : (A1 + B1 - a1) * (b1 - (A1 + B1)) = (B1 - A1) * (B1 - A1) := by
      rw [show A1 + B1 - a1 = B1 - A1 by omega, show b1 - (A1 + B1) = B1 - A1 by omega]
    rw [e0, e1]; have := sq (B0 - A0); have := sq (B1 - A1); omega, fun h => by omega⟩
  have o4 : onB b0 b1 a0 a1 c0 c1 = onB a0 a1 b0 b1 c0 c1 := by
    rw [Bool.eq_iff_iff, hI, onB_iff s2 s3 s0 s1 s4 s5, cr_swap]
    have e : (c0 - b0) * (a0 - c0) + (c1 - b1) * (a1 - c1) = (c0 - a0) * (b0 - c0) + (c1 - a1) * (b1 - c1) := by grind
    rw [e]
    constructor
    · rintro ⟨h1, h2, h3⟩; exact ⟨by omega, h2, fun h => by have := h3 ⟨h.1.symm, h.2.symm⟩; omega⟩
    · rintro ⟨h1, h2, h3⟩; exact ⟨by omega, h2, fun h => by have := h3 ⟨h.1.symm, h.2.symm⟩; omega⟩
  have o5 : onB a0 a1 a0 a1 c0 c1 = decide (a0 = c0 ∧ a1 = c1) := by
    rw [Bool.eq_iff_iff, onB_iff s0 s1 s0 s1 s4 s5, decide_eq_true_eq, cr_aac]
    constructor
    · rintro ⟨h1, h2, h3⟩; have := h3 ⟨rfl, rfl⟩; omega
    · rintro ⟨rfl, rfl⟩; exact ⟨rfl, by simp, fun _ => ⟨rfl, rfl⟩⟩
  rw [pc_eq]
  simp +contextual -implicitDefEqProofs (maxSteps := 2000000) only [go_sem, ↓reduceIte, Nat.reduceAdd, Nat.reduceMul, Nat.reduceSub, Nat.reduceEqDiff, Nat.reduceLeDiff, Nat.reduceDiv, Nat.reduceMod, Nat.reduceBEq, reduceCtorEq, Int.reduceLE, Int.reduceLT, Int.reduceToNat, Int.reduceNeg, Nat.reduceLT, Int.reduceEq, Int.reduceSub, Int.reduceAdd, Int.reduceMul, Nat.reducePow, E_5, A5, c10, hp, c27, c19, c15, c17, c29, c21, q0, q1, q2, q3, w0, w1, w2, w3, v0, v1, v2, v3, m0, m1, n0, n1, x0, x1, y0, y1, z0, z1, half, hD, hcr, o1, o2, o3, o4, o5]
  generalize onB a0 a1 b0 b1 c0 c1 = I at hI ⊢
  generalize cr a0 a1 b0 b1 c0 c1 = C at hI ⊢
  generalize (c0 - a0) * (b0 - c0) + (c1 - a1) * (b1 - c1) = D at hI ⊢
  have e : (decide (a0 = c0 ∧ a1 = c1) == (a0 == c0 && a1 == c1)) = true := by
    by_cases h1 : a0 = c0 <;> by_cases h2 : a1 = c1 <;> simp [h1, h2]
  have hII : (I == I) = true := by cases I <;> rfl
  clear hp k1 k2 k3 k4 k5 k6 q0 q1 q2 q3 w0 w1 w2 w3 v0 v1 v2 v3 half m0 m1 n0 n1 x0 x1 y0 y1 z0 z1 hD s0 s1 s2 s3 s4 s5 s6 s7 hcr o1 o2 o3 o4 o5 sq ha0 ha1 hb0 hb1
  by_cases h1 : C = 0 <;> by_cases h2 : 0 ≤ D <;> by_cases h3 : a0 = b0 <;> by_cases h4 : a1 = b1 <;> by_cases h5 : c0 = a0 <;> by_cases h6 : c1 = a1 <;>
    simp_all [sgn_eq0]
end Go.Proofs.Ytojjdhdflhcdkaa
