/- The law DiskInvariant answers true for every input; no condition. -/
import Derived.Test.YtjmnepfdhkabfaaRows
import Derived.Test.YtjmnepfdhkabfaaDR
import Derived.Test.YtjmnepfdhkabfaaDL4
namespace Go.Proofs.Ytjmnepfdhkabfaa
set_option maxRecDepth 100000
set_option maxHeartbeats 4000000
set_option linter.unusedSimpArgs false
set_option linter.unusedVariables false
open Go Go.Zv
def tys4 : List (Bool × Ty) := [(false, .int .u8), (false, .slice tAct), (true, tAct)]
theorem big4 (n : Nat) (l : List Act) (hl : l.length ≤ 9223372036854775807) (x : Act) (g1 : gr l = true ∨ (gr l = false ∧ gr [x] = true)) :
    pc E 4 [.int .u8 n, .vs (l.map a5), av x] = some (.bool true) := by
  have h1 := c16 l hl
  have h2 : pc E 16 [.vs [[.int .u8 x.k, .int .i64 x.at_, .int .u8 x.n, .int .u8 x.torn, bv x.data]]] = some (.bool (gr [x])) := c16 [x] (by simp)
  rcases g1 with g1 | ⟨g1, g2⟩
  · rw [g1] at h1; rw [pc_eq]; simp +contextual -implicitDefEqProofs (maxSteps := 2000000) only [go_sem, ↓reduceIte, Nat.reduceAdd, Nat.reduceMul, Nat.reduceSub, Nat.reduceEqDiff, Nat.reduceLeDiff, Nat.reduceDiv, Nat.reduceMod, Nat.reduceBEq, Nat.reduceBNe, reduceCtorEq, Int.reduceLE, Int.reduceLT, Int.reduceToNat, Int.reduceNeg, Nat.reduceLT, Int.reduceEq, Int.reduceSub, Int.reduceAdd, Int.reduceMul, Nat.reducePow, Int.reduceBEq, Int.reduceBNe, Int.reduceMod, E_4, A4, c15, h1]
  · rw [g1] at h1; rw [g2] at h2; rw [pc_eq]; simp +contextual -implicitDefEqProofs (maxSteps := 2000000) only [go_sem, ↓reduceIte, Nat.reduceAdd, Nat.reduceMul, Nat.reduceSub, Nat.reduceEqDiff, Nat.reduceLeDiff, Nat.reduceDiv, Nat.reduceMod, Nat.reduceBEq, Nat.reduceBNe, reduceCtorEq, Int.reduceLE, Int.reduceLT, Int.reduceToNat, Int.reduceNeg, Nat.reduceLT, Int.reduceEq, Int.reduceSub, Int.reduceAdd, Int.reduceMul, Nat.reducePow, Int.reduceBEq, Int.reduceBNe, Int.reduceMod, E_4, A4, c15, h1, h2]
theorem row4 (args : List LV) (h : HasAll tys4 args) : pc E 4 args = some (.bool true) := by
  obtain ⟨x1, r1, rfl, ⟨n, hn, n1, n2⟩, x2, r2, rfl, ⟨l, hl, hll, hl2⟩, x3, r3, rfl, ⟨ds, rfl, hx⟩, rfl⟩ := h
  cases hn; cases hl
  obtain ⟨n, rfl, hn⟩ := u8_nat n1 n2
  obtain ⟨l, rfl, ha⟩ := has_acts hl2
  obtain ⟨x, rfl, hxa⟩ := has_act hx
  have hll := len_le hll
  rw [List.length_map] at hll
  by_cases hc : gr l = true ∨ (gr l = false ∧ gr [x] = true)
  · exact big4 n l hll x hc
  · have hg : gr l = false := by cases h : gr l <;> simp [h] at hc ⊢
    have hg2 : gr [x] = false := by cases h : gr [x] <;> simp [h, hg] at hc ⊢
    obtain ⟨h1, h2⟩ := ok_of ha hg
    obtain ⟨_, h3⟩ := ok_of (l := [x]) (by simpa using hxa) hg2
    exact law4 n hn l h1 h2 x (h3 x (by simp))
theorem lifted4 (os : Os) (started : os.Started) (H : Type) (enc : TypeId × Value → H) :
    ReturnsInHanded {} Try.checked os 4 .any (Rows.diskInvariantSpec.pre6 enc Try.prog Try.f4 Rows.diskInvariantRow.domain false) (Rows.diskInvariantSpec.post enc Try.prog Try.f4 false true false false) := by
  refine returnsInHanded_of_change (C := Try.checked) own started (by kernel_rfl) Try.func4
    (ChangeSpec.witness6 (enc := enc) (C := Try.checked) false ⟨#[], #[.int .u8 0, .slice none 0 0, .agg #[.int .u8 0, .int .i64 0, .int .u8 0, .int .u8 0, .slice none 0 0]], []⟩ 8 (by kernel_rfl) (by kernel_rfl) (by kernel_rfl) (by kernel_rfl)) ?_
  intro W base args ds gs before hval hW _ _
  exact law_contract (C := Try.checked) (tys := tys4) (tb := 4) mixed E_ok laid (by kernel_rfl) (by kernel_rfl) Try.underlying4 (by kernel_rfl) row4 rfl (fun ds h => by
    have h : ds.length = 3 := h
    match ds, h with
    | [d1, d2, d3], _ => rfl) W base args ds gs before hval hW
theorem diskInvariant : Rows.DiskInvariantSaid :=
  OpenClaim.holds_of_wide 4 Try.f4 rfl rfl rfl rfl rfl rfl rfl ⟨rfl, rfl, rfl, rfl, rfl⟩ rfl rfl rfl rfl rfl (by kernel_rfl) Try.func4 (by kernel_rfl)
    (of_decide_eq_true (by kernel_rfl)) (by unfold Func.isWrapper; first | (rw [if_pos (by decide +kernel)]; kernel_rfl) | (rw [if_neg (by decide +kernel)]; exact ⟨rfl, rfl⟩))
    (fun os started H enc _ => lifted4 os started H enc)
#print axioms diskInvariant
end Go.Proofs.Ytjmnepfdhkabfaa
