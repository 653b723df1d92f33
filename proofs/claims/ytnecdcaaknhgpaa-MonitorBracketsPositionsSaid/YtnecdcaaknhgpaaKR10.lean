/- Lower and upper joints enclose the position, are equal exactly at multiples of 12, differ by at most 1, and are monotonic. -/
import Derived.Test.YtnecdcaaknhgpaaRows
import Derived.Test.YtnecdcaaknhgpaaPart2
import Derived.Test.YtnecdcaaknhgpaaKMR
import Derived.Test.YtnecdcaaknhgpaaKOR
namespace Go.Proofs.Ytnecdcaaknhgpaa
set_option maxRecDepth 100000
set_option maxHeartbeats 4000000
set_option linter.unusedSimpArgs false
set_option linter.unusedVariables false
open Go Go.Zv
def tys10 : List (Bool × Ty) := [(true, tS3), (false, .int .u8)]
theorem row10 (args : List LV) (h : HasAll tys10 args) : pc E 10 args = some (.bool true) := by
  obtain ⟨x1, r1, rfl, ⟨d1, rfl, k1⟩, x2, r2, rfl, ⟨n, hn, n1, n2⟩, rfl⟩ := h
  cases hn
  obtain ⟨a, b, c, rfl, h0, h1, h2⟩ := has_s3 k1
  exact law10 c38 a b c n h0 h1 h2 (u8_rng n1 n2)
theorem lifted10 (os : Os) (started : os.Started) (H : Type) (enc : TypeId × Value → H) :
    ReturnsInHanded {} Try.checked os 10 .any (Rows.monitorBracketsPositionsSpec.pre6 enc Try.prog Try.f10 Rows.monitorBracketsPositionsRow.domain false) (Rows.monitorBracketsPositionsSpec.post enc Try.prog Try.f10 false true false false) := by
  refine returnsInHanded_of_change (C := Try.checked) own started (by kernel_rfl) Try.func10
    (ChangeSpec.witness6 (enc := enc) (C := Try.checked) false ⟨#[], #[.agg #[.int .i16 0, .int .i16 0, .int .i16 0], .int .u8 0], []⟩ 8 (by kernel_rfl) (by kernel_rfl) (by kernel_rfl) (by kernel_rfl)) ?_
  intro W base args ds gs before hval hW _ _
  exact law_contract (C := Try.checked) (tys := tys10) (tb := 4) mixed E_ok laid (by kernel_rfl) (by kernel_rfl) Try.underlying4 (by kernel_rfl) row10 rfl (fun ds h => by
    have h : ds.length = 2 := h
    match ds, h with
    | [d1, d2], _ => rfl) W base args ds gs before hval hW
theorem named10 : Try.pinned.checked.prog.funcNamed Rows.monitorBracketsPositionsRow.func = some 10 := by kernel_rfl
theorem joined10 : joinedFacts Try.prog 10 Try.f10 Rows.monitorBracketsPositionsSpec Rows.monitorBracketsPositionsRow = true := by
  rw [joinedFacts.eq_1, enters_, lifts_, make_]
  kernel_rfl
theorem monitorBracketsPositions : Rows.MonitorBracketsPositionsSaid :=
  OpenClaim.holds_of_wide 10 Try.f10 rfl rfl rfl rfl rfl rfl rfl ⟨rfl, rfl, rfl, rfl, rfl⟩ rfl rfl rfl rfl rfl named10 Try.func10 joined10
    (of_decide_eq_true (by kernel_rfl)) (by unfold Func.isWrapper; first | (rw [if_pos (by decide +kernel)]; kernel_rfl) | (rw [if_neg (by decide +kernel)]; exact ⟨rfl, rfl⟩))
    (fun os started H enc _ => lifted10 os started H enc)
#print axioms monitorBracketsPositions
end Go.Proofs.Ytnecdcaaknhgpaa
