/- The law DiskMatchesReference answers true for every input; no condition. -/
import Derived.Test.YtjmnepfdhkabfaaRows
import Derived.Test.YtjmnepfdhkabfaaDR
import Derived.Test.YtjmnepfdhkabfaaDL3
namespace Go.Proofs.Ytjmnepfdhkabfaa
set_option maxRecDepth 100000
set_option maxHeartbeats 4000000
set_option linter.unusedSimpArgs false
set_option linter.unusedVariables false
open Go Go.Zv
def tys3 : List (Bool × Ty) := [(false, .int .u8), (false, .slice tAct), (true, tDisk), (false, .int .i64), (false, .int .i64)]
theorem big3 (n : Nat) (l : List Act) (hl : l.length ≤ 9223372036854775807) (s : List (List UInt8)) (hs : s.length ≤ 9223372036854775807) (f t : Int) (w : Bool) (m i : Int) (g1 : gr l = true ∨ (gr l = false ∧ 70 < s.length)) :
    pc E 3 [.int .u8 n, .vs (l.map a5), .agg [sv s, .int .i64 f, .int .i64 t, .bool w], .int .i64 m, .int .i64 i] = some (.bool true) := by
  have h1 := c16 l hl
  rcases g1 with g1 | ⟨g1, g2⟩
  · rw [g1] at h1; rw [pc_eq]; simp +contextual -implicitDefEqProofs (maxSteps := 2000000) only [go_sem, ↓reduceIte, Nat.reduceAdd, Nat.reduceMul, Nat.reduceSub, Nat.reduceEqDiff, Nat.reduceLeDiff, Nat.reduceDiv, Nat.reduceMod, Nat.reduceBEq, Nat.reduceBNe, reduceCtorEq, Int.reduceLE, Int.reduceLT, Int.reduceToNat, Int.reduceNeg, Nat.reduceLT, Int.reduceEq, Int.reduceSub, Int.reduceAdd, Int.reduceMul, Nat.reducePow, Int.reduceBEq, Int.reduceBNe, Int.reduceMod, E_3, A3, c15, h1]
  · have g2' : (70 : Int) < s.length := by omega
    rw [g1] at h1; rw [pc_eq]; simp +contextual -implicitDefEqProofs (maxSteps := 2000000) only [go_sem, ↓reduceIte, Nat.reduceAdd, Nat.reduceMul, Nat.reduceSub, Nat.reduceEqDiff, Nat.reduceLeDiff, Nat.reduceDiv, Nat.reduceMod, Nat.reduceBEq, Nat.reduceBNe, reduceCtorEq, Int.reduceLE, Int.reduceLT, Int.reduceToNat, Int.reduceNeg, Nat.reduceLT, Int.reduceEq, Int.reduceSub, Int.reduceAdd, Int.reduceMul, Nat.reducePow, Int.reduceBEq, Int.reduceBNe, Int.reduceMod, E_3, A3, c15, h1, List.length_map, g2']
theorem row3 (args : List LV) (h : HasAll tys3 args) : pc E 3 args = some (.bool true) := by
  obtain ⟨x1, r1, rfl, ⟨n, hn, n1, n2⟩, x2, r2, rfl, ⟨l, hl, hll, hl2⟩, x3, r3, rfl, ⟨ds, rfl, q1, t1, rfl, ⟨sx, rfl, hsl, hs⟩, q2, t2, rfl, ⟨f, rfl, _⟩, q3, t3, rfl, ⟨t, rfl, _⟩, q4, t4, rfl, ⟨w, rfl⟩, rfl⟩, x4, r4, rfl, ⟨m, hm, _⟩, x5, r5, rfl, ⟨i, hi, _⟩, rfl⟩ := h
  cases hn; cases hl; cases hm; cases hi
  obtain ⟨n, rfl, hn⟩ := u8_nat n1 n2
  obtain ⟨l, rfl, ha⟩ := has_acts hl2
  obtain ⟨s, rfl⟩ := has_sec hs
  have hll := len_le hll
  have hsl := len_le hsl
  rw [List.length_map] at hll hsl
  by_cases hc : gr l = true ∨ (gr l = false ∧ 70 < s.length)
  · exact big3 n l hll s hsl f t w m i hc
  · have hg : gr l = false := by cases h : gr l <;> simp [h] at hc ⊢
    obtain ⟨h1, h2⟩ := ok_of ha hg
    exact law3 n hn l h1 h2 s (by simp [hg] at hc; omega) f t w m i
theorem lifted3 (os : Os) (started : os.Started) (H : Type) (enc : TypeId × Value → H) :
    ReturnsInHanded {} Try.checked os 3 .any (Rows.diskMatchesReferenceSpec.pre6 enc Try.prog Try.f3 Rows.diskMatchesReferenceRow.domain false) (Rows.diskMatchesReferenceSpec.post enc Try.prog Try.f3 false true false false) := by
  refine returnsInHanded_of_change (C := Try.checked) own started (by kernel_rfl) Try.func3
    (ChangeSpec.witness6 (enc := enc) (C := Try.checked) false ⟨#[], #[.int .u8 0, .slice none 0 0, .agg #[.slice none 0 0, .int .i64 0, .int .i64 0, .bool false], .int .i64 0, .int .i64 0], []⟩ 8 (by kernel_rfl) (by kernel_rfl) (by kernel_rfl) (by kernel_rfl)) ?_
  intro W base args ds gs before hval hW _ _
  exact law_contract (C := Try.checked) (tys := tys3) (tb := 4) mixed E_ok laid (by kernel_rfl) (by kernel_rfl) Try.underlying4 (by kernel_rfl) row3 rfl (fun ds h => by
    have h : ds.length = 5 := h
    match ds, h with
    | [d1, d2, d3, d4, d5], _ => rfl) W base args ds gs before hval hW
theorem diskMatchesReference : Rows.DiskMatchesReferenceSaid :=
  OpenClaim.holds_of_wide 3 Try.f3 rfl rfl rfl rfl rfl rfl rfl ⟨rfl, rfl, rfl, rfl, rfl⟩ rfl rfl rfl rfl rfl (by kernel_rfl) Try.func3 (by kernel_rfl)
    (of_decide_eq_true (by kernel_rfl)) (by unfold Func.isWrapper; first | (rw [if_pos (by decide +kernel)]; kernel_rfl) | (rw [if_neg (by decide +kernel)]; exact ⟨rfl, rfl⟩))
    (fun os started H enc _ => lifted3 os started H enc)
#print axioms diskMatchesReference
end Go.Proofs.Ytjmnepfdhkabfaa
