/- Part of the proof: what functions of the program compute, over the evaluation that the engine's texts tie to the machine. -/
import Derived.Test.YtojjdhdflhcdkaaGQ
namespace Go.Proofs.Ytojjdhdflhcdkaa
set_option maxRecDepth 100000
set_option maxHeartbeats 4000000
set_option linter.unusedSimpArgs false
set_option linter.unusedVariables false
open Go Go.Zv
theorem all_c2 (l : List (Int × Int)) : ((l.map c2).all fun x => x.length == 2) = true := by simp [c2]
theorem take_c2 (l : List (Int × Int)) : (l.map c2).take l.length = l.map c2 := List.take_of_length_le (by simp)
theorem met_loop (a R : List (Int × Int)) (n2 : Nat) (hl : a.length ≤ 30) (lo hi lo2 hi2 : Int × Int) (hb : ∀ p ∈ a, lo.1 ≤ p.1 ∧ lo.2 ≤ p.2 ∧ p.1 ≤ hi.1 ∧ p.2 ≤ hi.2) (rb : List (List LV)) (rall : List (List LV)) :
    ∀ (k i : Nat) (m0 m1 m2 m3 : Bool), i + k = a.length → (K E A8_L0 ⟨[(5, .bool true), (6, .bs 4608 0 a.length), (8, .bs 5376 0 n2), (9, .ptr 2304 0), (10, .ptr 2560 0), (11, .ptr 2816 0), (12, .ptr 3072 0), (13, .ptr 3328 0), (14, .int .i64 i)], [],
      [(3328, .box [.bool m0, .bool m1, .bool m2, .bool m3]), (3072, .box [.int .i64 hi2.1, .int .i64 hi2.2]), (2816, .box [.int .i64 lo2.1, .int .i64 lo2.2]), (2560, .box [.int .i64 hi.1, .int .i64 hi.2]), (2304, .box [.int .i64 lo.1, .int .i64 lo.2]),
       (5376, .row 2 rall), (5120, .row 2 rb), (4608, .row 2 (a.map c2))], 0⟩).bind (blockR 0 (some [5, 6, 8, 9, 10, 11, 12, 13]) [4, 14, 15]) =
      some (.ex .nrm ⟨[(5, .bool true), (6, .bs 4608 0 a.length), (8, .bs 5376 0 n2), (9, .ptr 2304 0), (10, .ptr 2560 0), (11, .ptr 2816 0), (12, .ptr 3072 0), (13, .ptr 3328 0)], [],
      [(3328, .box [.bool (m0 || (a.drop i).any fun p => p.1 == lo.1), .bool (m1 || (a.drop i).any fun p => p.2 == lo.2), .bool (m2 || (a.drop i).any fun p => p.1 == hi.1), .bool (m3 || (a.drop i).any fun p => p.2 == hi.2)]), (3072, .box [.int .i64 hi2.1, .int .i64 hi2.2]), (2816, .box [.int .i64 lo2.1, .int .i64 lo2.2]), (2560, .box [.int .i64 hi.1, .int .i64 hi.2]), (2304, .box [.int .i64 lo.1, .int .i64 lo.2]),
       (5376, .row 2 rall), (5120, .row 2 rb), (4608, .row 2 (a.map c2))], 0⟩)
  | 0, i, m0, m1, m2, m3, h => by
    have hlt : ¬ ((i : Int) < a.length) := by omega
    have hd : a.drop i = [] := List.drop_of_length_le (by omega)
    rw [A8_L0_eq, hd]
    simp +contextual -implicitDefEqProofs (maxSteps := 2000000) only [go_sem, ↓reduceIte, Nat.reduceAdd, Nat.reduceMul, Nat.reduceSub, Nat.reduceEqDiff, Nat.reduceLeDiff, Nat.reduceDiv, Nat.reduceMod, Nat.reduceBEq, reduceCtorEq, Int.reduceLE, Int.reduceLT, Int.reduceToNat, Int.reduceNeg, Nat.reduceLT, Int.reduceEq, Int.reduceSub, Int.reduceAdd, Int.reduceMul, Nat.reducePow, A8_L0b, hlt, List.any_nil, Bool.or_false]
  | k + 1, i, m0, m1, m2, m3, h => by
    have hlt : ((i : Int) < a.length) := by omega
    have hget : a[i]? = some (a[i]'(by omega)) := List.getElem?_eq_getElem _
    have hd : a.drop i = (a[i]'(by omega)) :: a.drop (i + 1) := List.drop_eq_getElem_cons (by omega)
    have hp := hb (a[i]'(by omega)) (List.getElem_mem _)
    generalize a[i]'(by omega) = p at hget hd hp
    have hg2 := get_c2 hget
    have hw := wr_succ (n := i) (by omega)
    have h0 : (0 : Int) ≤ (i : Int) := by omega
    have q1 : ¬ (p.1 < lo.1) := by omega
    have q2 : ¬ (p.2 < lo.2) := by omega
    have q3 : ¬ (p.1 > hi.1) := by omega
    have q4 : ¬ (p.2 > hi.2) := by omega
    have ih := fun m0 m1 m2 m3 => met_loop a R n2 hl lo hi lo2 hi2 hb rb rall k (i + 1) m0 m1 m2 m3 (by omega)
    rw [A8_L0_eq, hd]
    simp +contextual -implicitDefEqProofs (maxSteps := 2000000) only [go_sem, ↓reduceIte, Nat.reduceAdd, Nat.reduceMul, Nat.reduceSub, Nat.reduceEqDiff, Nat.reduceLeDiff, Nat.reduceDiv, Nat.reduceMod, Nat.reduceBEq, reduceCtorEq, Int.reduceLE, Int.reduceLT, Int.reduceToNat, Int.reduceNeg, Nat.reduceLT, Int.reduceEq, Int.reduceSub, Int.reduceAdd, Int.reduceMul, Nat.reducePow, A8_L0b, hlt, hg2, hw, h0, List.length_map, q1, q2, q3, q4, decide_false, ih, List.any_cons]
    cases m0 <;> cases m1 <;> cases m2 <;> cases m3 <;> simp only [Bool.false_or, Bool.true_or, if_true, if_false, Bool.false_eq_true, reduceCtorEq]
theorem law8 (l m : List (Int × Int)) (hl : l.length < 9223372036854775808) (hm : m.length < 9223372036854775808) :
    pc E 8 [.vs (l.map c2), .vs (m.map c2)] = some (.bool true) := by
  have h1 := c12 l hl
  have h2 := c12 m hm
  have f1 := fits_len l
  have f2 := fits_len m
  have b1 := fits_bd (l := l)
  have b2 := fits_bd (l := m)
  generalize fits l = a at *
  generalize fits m = b at *
  have h3 := c25 a b (by omega) (by omega)
  have h4 := c25 a (a ++ b) (by omega) (by rw [List.length_append]; omega)
  have h5 := c13 a (by omega)
  have h6 := c13 (a ++ b) (by rw [List.length_append]; omega)
  simp only [List.map_append] at h4 h6
  by_cases ha : a = []
  · subst ha
    rw [show gapI [] b = 0 from by simp [gapI]] at h3
    rw [List.map_nil] at h3
    have g2 : b.length ≤ 1000000000 := by omega
    rw [pc_eq]; simp +contextual -implicitDefEqProofs (maxSteps := 2000000) only [go_sem, ↓reduceIte, Nat.reduceAdd, Nat.reduceMul, Nat.reduceSub, Nat.reduceEqDiff, Nat.reduceLeDiff, Nat.reduceDiv, Nat.reduceMod, Nat.reduceBEq, reduceCtorEq, Int.reduceLE, Int.reduceLT, Int.reduceToNat, Int.reduceNeg, Nat.reduceLT, Int.reduceEq, Int.reduceSub, Int.reduceAdd, Int.reduceMul, Nat.reducePow, E_8, A8, c10, h1, h2, h3, List.map_nil, List.length_map, all_c2, take_c2, g2, List.length_nil, Int.natCast_zero, Int.ofNat_zero]
  have hz : ¬ ((a.length : Int) = 0) := by
    have := List.length_pos_iff.2 ha
    omega
  have g1 : a.length ≤ 1000000000 := by omega
  have g2 : b.length ≤ 1000000000 := by omega
  have t3 : (a.map c2 ++ b.map c2).take (a.length + b.length) = a.map c2 ++ b.map c2 := List.take_of_length_le (by simp)
  have g3 : a.length + b.length ≤ 1000000000 := by omega
  have bx := box ha
  have hab : a ++ b ≠ [] := by simp [ha]
  have by_ := box hab
  have any_of : ∀ (f : Int × Int → Int) (x : Int), (∃ p ∈ a, f p = x) → (a.any fun p => f p == x) = true := fun f x ⟨p, hp, e⟩ => List.any_eq_true.2 ⟨p, hp, by simp [e]⟩
  have y1 := any_of (·.1) _ bx.m1
  have y2 := any_of (·.2) _ bx.m2
  have y3 := any_of (·.1) _ bx.m3
  have y4 := any_of (·.2) _ bx.m4
  have ml := met_loop a [] (a.length + b.length) f1 (bbL a) (bbH a) (bbL (a ++ b)) (bbH (a ++ b)) (fun p hp => ⟨bx.b1 p hp, bx.b2 p hp, bx.b3 p hp, bx.b4 p hp⟩) (b.map c2) (a.map c2 ++ b.map c2) a.length 0 false false false false (by omega)
  simp only [Int.ofNat_zero, Int.natCast_zero, List.drop_zero, y1, y2, y3, y4, Bool.false_or] at ml
  have z1 : (bbL (a ++ b)).1 ≤ (bbL a).1 := by obtain ⟨p, hp, e⟩ := bx.m1; have := by_.b1 p (by simp [hp]); omega
  have z2 : (bbL (a ++ b)).2 ≤ (bbL a).2 := by obtain ⟨p, hp, e⟩ := bx.m2; have := by_.b2 p (by simp [hp]); omega
  have z3 : (bbH (a ++ b)).1 ≥ (bbH a).1 := by obtain ⟨p, hp, e⟩ := bx.m3; have := by_.b3 p (by simp [hp]); omega
  have z4 : (bbH (a ++ b)).2 ≥ (bbH a).2 := by obtain ⟨p, hp, e⟩ := bx.m4; have := by_.b4 p (by simp [hp]); omega
  have sB : ∀ p ∈ a, B p.1 ∧ B p.2 := fun p hp => by have := b1 p hp; exact ⟨⟨by omega, by omega⟩, by omega, by omega⟩
  have sB2 : ∀ p ∈ b, B p.1 ∧ B p.2 := fun p hp => by have := b2 p hp; exact ⟨⟨by omega, by omega⟩, by omega, by omega⟩
  have hg : gapI a (a ++ b) = 0 := by
    rw [gap_eq ha hab sB (fun p hp => (List.mem_append.1 hp).elim (sB p) (sB2 p))]
    symm
    rw [gapZ_char]
    obtain ⟨p, hp, e⟩ := bx.m1
    obtain ⟨p', hp', e'⟩ := bx.m2
    have := bx.b3 p hp
    have := bx.b4 p' hp'
    refine ⟨⟨by omega, by omega, by omega, by omega, by omega⟩, .inl rfl⟩
  rw [hg] at h4
  rw [pc_eq]; simp +contextual -implicitDefEqProofs (maxSteps := 2000000) only [go_sem, ↓reduceIte, Nat.reduceAdd, Nat.reduceMul, Nat.reduceSub, Nat.reduceEqDiff, Nat.reduceLeDiff, Nat.reduceDiv, Nat.reduceMod, Nat.reduceBEq, reduceCtorEq, Int.reduceLE, Int.reduceLT, Int.reduceToNat, Int.reduceNeg, Nat.reduceLT, Int.reduceEq, Int.reduceSub, Int.reduceAdd, Int.reduceMul, Nat.reducePow, E_8, A8, c10, h1, h2, h3, h4, h5, h6, List.length_map, hz, all_c2, take_c2, g1, g2, g3, t3, List.length_append, Nat.le_refl, beq_eq_false_iff_ne.2 hz, ml, z1, z2, z3, z4, decide_true]
end Go.Proofs.Ytojjdhdflhcdkaa
