/- Part of the proof: what functions of the program compute, over the evaluation that the engine's texts tie to the machine. -/
import Derived.Test.YtojjdhdflhcdkaaG2
namespace Go.Proofs.Ytojjdhdflhcdkaa
set_option maxRecDepth 100000
set_option maxHeartbeats 4000000
set_option linter.unusedSimpArgs false
set_option linter.unusedVariables false
open Go Go.Zv
def sdI (ax ay bx by_ cx cy dx dy : Int) : Int := w64 (sgn (crW ax ay bx by_ cx cy) * sgn (crW ax ay bx by_ dx dy))
def endsB (ax ay bx by_ cx cy dx dy : Int) : Bool := (decide (sgn (crW ax ay bx by_ cx cy) = 0) && withinB ax ay bx by_ cx cy) || (decide (sgn (crW ax ay bx by_ dx dy) = 0) && withinB ax ay bx by_ dx dy)
theorem wrap0 : IntKind.i64.wrap 0 = 0 := by decide
theorem c39 (ax ay bx by_ cx cy dx dy : Int) : pc E 39 [.agg [.int .i64 ax, .int .i64 ay], .agg [.int .i64 bx, .int .i64 by_], .agg [.int .i64 cx, .int .i64 cy], .agg [.int .i64 dx, .int .i64 dy]] =
    some (.tup [.bool (decide (sdI ax ay bx by_ cx cy dx dy < 0)), .bool (endsB ax ay bx by_ cx cy dx dy)]) := by
  rw [pc_eq]; simp +contextual -implicitDefEqProofs (maxSteps := 2000000) only [go_sem, ↓reduceIte, Nat.reduceAdd, Nat.reduceMul, Nat.reduceSub, Nat.reduceEqDiff, Nat.reduceLeDiff, Nat.reduceDiv, Nat.reduceMod, Nat.reduceBEq, reduceCtorEq, Int.reduceLE, Int.reduceLT, Int.reduceToNat, Int.reduceNeg, Nat.reduceLT, Int.reduceEq, Int.reduceSub, Int.reduceAdd, Int.reduceMul, Nat.reducePow, E_39, A39, c37, c19, sdI, endsB]
  repeat' split
  all_goals (try simp_all [wrap0])
  all_goals (try (intros; omega))
  all_goals (try rfl)
def cutB (ax ay bx by_ cx cy dx dy : Int) : Bool := (decide (sdI ax ay bx by_ cx cy dx dy < 0) && decide (sdI cx cy dx dy ax ay bx by_ < 0)) || (endsB ax ay bx by_ cx cy dx dy || endsB cx cy dx dy ax ay bx by_)
theorem c23 (ax ay bx by_ cx cy dx dy : Int) : pc E 23 [.agg [.int .i64 ax, .int .i64 ay], .agg [.int .i64 bx, .int .i64 by_], .agg [.int .i64 cx, .int .i64 cy], .agg [.int .i64 dx, .int .i64 dy]] = some (.bool (cutB ax ay bx by_ cx cy dx dy)) := by
  rw [pc_eq]; simp +contextual -implicitDefEqProofs (maxSteps := 2000000) only [go_sem, ↓reduceIte, Nat.reduceAdd, Nat.reduceMul, Nat.reduceSub, Nat.reduceEqDiff, Nat.reduceLeDiff, Nat.reduceDiv, Nat.reduceMod, Nat.reduceBEq, reduceCtorEq, Int.reduceLE, Int.reduceLT, Int.reduceToNat, Int.reduceNeg, Nat.reduceLT, Int.reduceEq, Int.reduceSub, Int.reduceAdd, Int.reduceMul, Nat.reducePow, E_23, A23, c39, cutB]
  repeat' split
  all_goals (try simp_all)
  all_goals (try (intros; omega))
  all_goals (try rfl)
theorem c24 (ax ay bx by_ cx cy dx dy : Int) : pc E 24 [.agg [.int .i64 ax, .int .i64 ay], .agg [.int .i64 bx, .int .i64 by_], .agg [.int .i64 cx, .int .i64 cy], .agg [.int .i64 dx, .int .i64 dy]] =
    some (.bool ((onB ax ay bx by_ cx cy || onB ax ay bx by_ dx dy || onB cx cy dx dy ax ay || onB cx cy dx dy bx by_) || (decide (sdI ax ay bx by_ cx cy dx dy < 0) && decide (sdI cx cy dx dy ax ay bx by_ < 0)))) := by
  cases h1 : onB ax ay bx by_ cx cy with
  | true => rw [pc_eq]; simp +contextual -implicitDefEqProofs (maxSteps := 2000000) only [go_sem, ↓reduceIte, Nat.reduceAdd, Nat.reduceMul, Nat.reduceSub, Nat.reduceEqDiff, Nat.reduceLeDiff, Nat.reduceDiv, Nat.reduceMod, Nat.reduceBEq, reduceCtorEq, Int.reduceLE, Int.reduceLT, Int.reduceToNat, Int.reduceNeg, Nat.reduceLT, Int.reduceEq, Int.reduceSub, Int.reduceAdd, Int.reduceMul, Nat.reducePow, E_24, A24, c22, h1]
  | false =>
    cases h2 : onB ax ay bx by_ dx dy with
    | true => rw [pc_eq]; simp +contextual -implicitDefEqProofs (maxSteps := 2000000) only [go_sem, ↓reduceIte, Nat.reduceAdd, Nat.reduceMul, Nat.reduceSub, Nat.reduceEqDiff, Nat.reduceLeDiff, Nat.reduceDiv, Nat.reduceMod, Nat.reduceBEq, reduceCtorEq, Int.reduceLE, Int.reduceLT, Int.reduceToNat, Int.reduceNeg, Nat.reduceLT, Int.reduceEq, Int.reduceSub, Int.reduceAdd, Int.reduceMul, Nat.reducePow, E_24, A24, c22, h1, h2]
    | false =>
      cases h3 : onB cx cy dx dy ax ay with
      | true => rw [pc_eq]; simp +contextual -implicitDefEqProofs (maxSteps := 2000000) only [go_sem, ↓reduceIte, Nat.reduceAdd, Nat.reduceMul, Nat.reduceSub, Nat.reduceEqDiff, Nat.reduceLeDiff, Nat.reduceDiv, Nat.reduceMod, Nat.reduceBEq, reduceCtorEq, Int.reduceLE, Int.reduceLT, Int.reduceToNat, Int.reduceNeg, Nat.reduceLT, Int.reduceEq, Int.reduceSub, Int.reduceAdd, Int.reduceMul, Nat.reducePow, E_24, A24, c22, h1, h2, h3]
      | false =>
        cases h4 : onB cx cy dx dy bx by_ with
        | true => rw [pc_eq]; simp +contextual -implicitDefEqProofs (maxSteps := 2000000) only [go_sem, ↓reduceIte, Nat.reduceAdd, Nat.reduceMul, Nat.reduceSub, Nat.reduceEqDiff, Nat.reduceLeDiff, Nat.reduceDiv, Nat.reduceMod, Nat.reduceBEq, reduceCtorEq, Int.reduceLE, Int.reduceLT, Int.reduceToNat, Int.reduceNeg, Nat.reduceLT, Int.reduceEq, Int.reduceSub, Int.reduceAdd, Int.reduceMul, Nat.reducePow, E_24, A24, c22, h1, h2, h3, h4]
        | false =>
          rw [pc_eq]; simp +contextual -implicitDefEqProofs (maxSteps := 2000000) only [go_sem, ↓reduceIte, Nat.reduceAdd, Nat.reduceMul, Nat.reduceSub, Nat.reduceEqDiff, Nat.reduceLeDiff, Nat.reduceDiv, Nat.reduceMod, Nat.reduceBEq, reduceCtorEq, Int.reduceLE, Int.reduceLT, Int.reduceToNat, Int.reduceNeg, Nat.reduceLT, Int.reduceEq, Int.reduceSub, Int.reduceAdd, Int.reduceMul, Nat.reducePow, E_24, A24, c22, h1, h2, h3, h4, c20, sdI]
          repeat' split
          all_goals (try simp_all)
          all_goals (try rfl)
          all_goals (intro hh; exact absurd (of_decide_eq_true hh) (by omega))
theorem cut_eq_B (ax ay bx by_ cx cy dx dy : Int) : ((onB ax ay bx by_ cx cy || onB ax ay bx by_ dx dy || onB cx cy dx dy ax ay || onB cx cy dx dy bx by_) || (decide (sdI ax ay bx by_ cx cy dx dy < 0) && decide (sdI cx cy dx dy ax ay bx by_ < 0))) = cutB ax ay bx by_ cx cy dx dy := by
  unfold cutB onB endsB
  generalize withinB ax ay bx by_ cx cy = a
  generalize withinB ax ay bx by_ dx dy = b
  generalize withinB cx cy dx dy ax ay = c
  generalize withinB cx cy dx dy bx by_ = d
  generalize decide (sgn (crW ax ay bx by_ cx cy) = 0) = e
  generalize decide (sgn (crW ax ay bx by_ dx dy) = 0) = f
  generalize decide (sgn (crW cx cy dx dy ax ay) = 0) = g
  generalize decide (sgn (crW cx cy dx dy bx by_) = 0) = h
  generalize decide (sdI ax ay bx by_ cx cy dx dy < 0) = i
  generalize decide (sdI cx cy dx dy ax ay bx by_ < 0) = j
  revert a b c d e f g h i j; decide
def gapI (l m : List (Int × Int)) : Int := if l = [] ∨ m = [] then 0 else
  mxI (mxI (mxI (mxI 0 (w64 ((bbL m).1 - (bbH l).1))) (w64 ((bbL m).2 - (bbH l).2))) (w64 ((bbL l).1 - (bbH m).1))) (w64 ((bbL l).2 - (bbH m).2))
theorem c25 (l m : List (Int × Int)) (hl : l.length < 9223372036854775808) (hm : m.length < 9223372036854775808) : pc E 25 [.vs (l.map c2), .vs (m.map c2)] = some (.int .i64 (gapI l m)) := by
  have e1 : ∀ l : List (Int × Int), (((l.length : Nat) : Int) = 0) = (l = []) := fun l => by
    rw [eq_iff_iff]; constructor
    · intro h; exact List.eq_nil_of_length_eq_zero (by omega)
    · intro h; subst h; rfl
  rw [pc_eq]; simp +contextual -implicitDefEqProofs (maxSteps := 2000000) only [go_sem, ↓reduceIte, Nat.reduceAdd, Nat.reduceMul, Nat.reduceSub, Nat.reduceEqDiff, Nat.reduceLeDiff, Nat.reduceDiv, Nat.reduceMod, Nat.reduceBEq, reduceCtorEq, Int.reduceLE, Int.reduceLT, Int.reduceToNat, Int.reduceNeg, Nat.reduceLT, Int.reduceEq, Int.reduceSub, Int.reduceAdd, Int.reduceMul, Nat.reducePow, E_25, A25, c13 l hl, c13 m hm, List.length_map, e1, c17, gapI]
  repeat' split
  all_goals (try simp_all)
theorem c26 (l m : List (Int × Int)) (hl : l.length < 9223372036854775808) (hm : m.length < 9223372036854775808) : pc E 26 [.vs (l.map c2), .vs (m.map c2)] = some (.int .i64 (gapI l m)) := by
  have e1 : ∀ l : List (Int × Int), (((l.length : Nat) : Int) = 0) = (l = []) := fun l => by
    rw [eq_iff_iff]; constructor
    · intro h; exact List.eq_nil_of_length_eq_zero (by omega)
    · intro h; subst h; rfl
  rw [pc_eq]; simp +contextual -implicitDefEqProofs (maxSteps := 2000000) only [go_sem, ↓reduceIte, Nat.reduceAdd, Nat.reduceMul, Nat.reduceSub, Nat.reduceEqDiff, Nat.reduceLeDiff, Nat.reduceDiv, Nat.reduceMod, Nat.reduceBEq, reduceCtorEq, Int.reduceLE, Int.reduceLT, Int.reduceToNat, Int.reduceNeg, Nat.reduceLT, Int.reduceEq, Int.reduceSub, Int.reduceAdd, Int.reduceMul, Nat.reducePow, E_26, A26, c14 l hl, c14 m hm, List.length_map, e1, gapI]
  repeat' split
  all_goals (try simp_all)
  all_goals (simp only [mxI]; repeat' split)
  all_goals omega

def fitI (x : Int) : Int := x.tmod 439400001
def fit (p : Int × Int) : Int × Int := (fitI p.1, fitI p.2)
def nearI (x : Int) : Int := x.tmod 9
def fits (l : List (Int × Int)) : List (Int × Int) := (l.take 30).map fit
theorem c32' (x y : Int) : pc E 32 [.agg [.int .i64 x, .int .i64 y]] = some (.agg [.int .i64 (fitI x), .int .i64 (fitI y)]) := c32 x y
theorem c31' (x y : Int) : pc E 31 [.agg [.int .i64 x, .int .i64 y]] = some (.agg [.int .i64 (nearI x), .int .i64 (nearI y)]) := c31 x y
theorem fits_loop (l : List (Int × Int)) (hl : l.length < 9223372036854775808) :
    ∀ (k i : Nat) (out : List (Int × Int)), i + k = 30 → out.length = i → i ≤ l.length → (K E A12_L0 ⟨[(0, .vs (l.map c2)), (3, .bs 1280 0 i), (4, .int .i64 i)], [],
      [(1280, .row 2 (out.map c2)), (512, .row 2 [])], 0⟩).bind (blockR 0 (some [3]) [4, 21, 22]) =
      some (.ex .nrm ⟨[(3, .bs 1280 0 (out ++ ((l.drop i).take k).map fit).length)], [], [(1280, .row 2 ((out ++ ((l.drop i).take k).map fit).map c2)), (512, .row 2 [])], 0⟩)
  | 0, i, out, h, ho, hle => by
    have h30 : ¬ ((i : Int) < 30) := by omega
    rw [A12_L0_eq]
    by_cases hc : (i : Int) < l.length
    · simp +contextual -implicitDefEqProofs (maxSteps := 2000000) only [go_sem, ↓reduceIte, Nat.reduceAdd, Nat.reduceMul, Nat.reduceSub, Nat.reduceEqDiff, Nat.reduceLeDiff, Nat.reduceDiv, Nat.reduceMod, Nat.reduceBEq, reduceCtorEq, Int.reduceLE, Int.reduceLT, Int.reduceToNat, Int.reduceNeg, Nat.reduceLT, Int.reduceEq, Int.reduceSub, Int.reduceAdd, Int.reduceMul, Nat.reducePow, A12_L0b, hc, h30, List.length_map, List.map_append, List.length_append, ho, List.map_nil]
    · simp +contextual -implicitDefEqProofs (maxSteps := 2000000) only [go_sem, ↓reduceIte, Nat.reduceAdd, Nat.reduceMul, Nat.reduceSub, Nat.reduceEqDiff, Nat.reduceLeDiff, Nat.reduceDiv, Nat.reduceMod, Nat.reduceBEq, reduceCtorEq, Int.reduceLE, Int.reduceLT, Int.reduceToNat, Int.reduceNeg, Nat.reduceLT, Int.reduceEq, Int.reduceSub, Int.reduceAdd, Int.reduceMul, Nat.reducePow, A12_L0b, hc, h30, List.length_map, List.map_append, List.length_append, ho, List.map_nil]
  | k + 1, i, out, h, ho, hle => by
    have h30 : ((i : Int) < 30) := by omega
    rw [A12_L0_eq]
    by_cases hlt : i < l.length
    · have hi : ((i : Int) < l.length) := by omega
      have hget : l[i]? = some (l[i]'hlt) := List.getElem?_eq_getElem _
      have hd : l.drop i = (l[i]'hlt) :: l.drop (i + 1) := List.drop_eq_getElem_cons hlt
      generalize l[i]'hlt = p at hget hd
      have hg2 := get_c2 hget
      have hw := wr_succ (n := i) (by omega)
      have h0 : (0 : Int) ≤ (i : Int) := by omega
      have ih := fits_loop l hl k (i + 1) (out ++ [fit p]) (by omega) (by simp [ho]) (by omega)
      have hb : i + 1 ≤ 1000000000 := by omega
      have ht : List.take i (List.map c2 out) = List.map c2 out := List.take_of_length_le (by simp [ho])
      simp only [List.map_append, List.map_cons, List.map_nil, fit, c2, List.append_assoc, List.cons_append, List.nil_append] at ih
      rw [hd]
      simp +contextual -implicitDefEqProofs (maxSteps := 2000000) only [go_sem, ↓reduceIte, Nat.reduceAdd, Nat.reduceMul, Nat.reduceSub, Nat.reduceEqDiff, Nat.reduceLeDiff, Nat.reduceDiv, Nat.reduceMod, Nat.reduceBEq, reduceCtorEq, Int.reduceLE, Int.reduceLT, Int.reduceToNat, Int.reduceNeg, Nat.reduceLT, Int.reduceEq, Int.reduceSub, Int.reduceAdd, Int.reduceMul, Nat.reducePow, A12_L0b, hi, h30, hg2, h0, hw, c32', List.length_map, ho, hle, hb, ht, List.take_succ_cons, ih]
      simp [fit, c2]
    · have hi : ¬ ((i : Int) < l.length) := by omega
      have hd : l.drop i = [] := List.drop_of_length_le (by omega)
      simp +contextual -implicitDefEqProofs (maxSteps := 2000000) only [go_sem, ↓reduceIte, Nat.reduceAdd, Nat.reduceMul, Nat.reduceSub, Nat.reduceEqDiff, Nat.reduceLeDiff, Nat.reduceDiv, Nat.reduceMod, Nat.reduceBEq, reduceCtorEq, Int.reduceLE, Int.reduceLT, Int.reduceToNat, Int.reduceNeg, Nat.reduceLT, Int.reduceEq, Int.reduceSub, Int.reduceAdd, Int.reduceMul, Nat.reducePow, A12_L0b, hi, h30, hd, List.length_map, List.map_append, List.length_append, ho, List.map_nil]
end Go.Proofs.Ytojjdhdflhcdkaa
