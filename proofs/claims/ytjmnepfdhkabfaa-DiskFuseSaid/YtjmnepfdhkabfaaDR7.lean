/- The law DiskFuse answers true for every input; no condition. -/
import Derived.Test.YtjmnepfdhkabfaaRows
import Derived.Test.YtjmnepfdhkabfaaDR
import Derived.Test.YtjmnepfdhkabfaaDL7
namespace Go.Proofs.Ytjmnepfdhkabfaa
set_option maxRecDepth 100000
set_option maxHeartbeats 4000000
set_option linter.unusedSimpArgs false
set_option linter.unusedVariables false
open Go Go.Zv
def tys7 : List (Bool × Ty) := [(false, .int .u8), (false, .slice tAct), (false, .int .u8)]
theorem big7 (n : Nat) (l : List Act) (hl : l.length ≤ 9223372036854775807) (m : Nat) (g1 : gr l = true) :
    pc E 7 [.int .u8 n, .vs (l.map a5), .int .u8 m] = some (.bool true) := by
  have h1 := c16 l hl
  rw [g1] at h1; rw [pc_eq]; simp +contextual -implicitDefEqProofs (maxSteps := 2000000) only [go_sem, ↓reduceIte, Nat.reduceAdd, Nat.reduceMul, Nat.reduceSub, Nat.reduceEqDiff, Nat.reduceLeDiff, Nat.reduceDiv, Nat.reduceMod, Nat.reduceBEq, Nat.reduceBNe, reduceCtorEq, Int.reduceLE, Int.reduceLT, Int.reduceToNat, Int.reduceNeg, Nat.reduceLT, Int.reduceEq, Int.reduceSub, Int.reduceAdd, Int.reduceMul, Nat.reducePow, Int.reduceBEq, Int.reduceBNe, Int.reduceMod, E_7, A7, c15, h1]
theorem row7 (args : List LV) (h : HasAll tys7 args) : pc E 7 args = some (.bool true) := by
  obtain ⟨x1, r1, rfl, ⟨n, hn, n1, n2⟩, x2, r2, rfl, ⟨l, hl, hll, hl2⟩, x3, r3, rfl, ⟨m, hm, m1, m2⟩, rfl⟩ := h
  cases hn; cases hl; cases hm
  obtain ⟨n, rfl, hn⟩ := u8_nat n1 n2
  obtain ⟨m, rfl, hm⟩ := u8_nat m1 m2
  obtain ⟨l, rfl, ha⟩ := has_acts hl2
  have hll := len_le hll
  rw [List.length_map] at hll
  cases hg : gr l with
  | true => exact big7 n l hll m hg
  | false =>
    obtain ⟨h1, h2⟩ := ok_of ha hg
    exact law7 n hn l h1 h2 m hm
theorem lifted7 (os : Os) (started : os.Started) (H : Type) (enc : TypeId × Value → H) :
    ReturnsInHanded {} Try.checked os 7 .any (Rows.diskFuseSpec.pre6 enc Try.prog Try.f7 Rows.diskFuseRow.domain false) (Rows.diskFuseSpec.post enc Try.prog Try.f7 false true false false) := by
  refine returnsInHanded_of_change (C := Try.checked) own started (by kernel_rfl) Try.func7
    (ChangeSpec.witness6 (enc := enc) (C := Try.checked) false ⟨#[], #[.int .u8 0, .slice none 0 0, .int .u8 0], []⟩ 8 (by kernel_rfl) (by kernel_rfl) (by kernel_rfl) (by kernel_rfl)) ?_
  intro W base args ds gs before hval hW _ _
  exact law_contract (C := Try.checked) (tys := tys7) (tb := 4) mixed E_ok laid (by kernel_rfl) (by kernel_rfl) Try.underlying4 (by kernel_rfl) row7 rfl (fun ds h => by
    have h : ds.length = 3 := h
    match ds, h with
    | [d1, d2, d3], _ => rfl) W base args ds gs before hval hW
theorem diskFuse : Rows.DiskFuseSaid :=
  OpenClaim.holds_of_wide 7 Try.f7 rfl rfl rfl rfl rfl rfl rfl ⟨rfl, rfl, rfl, rfl, rfl⟩ rfl rfl rfl rfl rfl (by kernel_rfl) Try.func7 (by kernel_rfl)
    (of_decide_eq_true (by kernel_rfl)) (by unfold Func.isWrapper; first | (rw [if_pos (by decide +kernel)]; kernel_rfl) | (rw [if_neg (by decide +kernel)]; exact ⟨rfl, rfl⟩))
    (fun os started H enc _ => lifted7 os started H enc)
#print axioms diskFuse
end Go.Proofs.Ytjmnepfdhkabfaa
