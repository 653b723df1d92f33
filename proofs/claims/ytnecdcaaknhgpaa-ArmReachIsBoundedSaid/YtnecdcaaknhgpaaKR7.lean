/- For every arm and digits the law returns true. -/
import Derived.Test.YtnecdcaaknhgpaaRows
import Derived.Test.YtnecdcaaknhgpaaKR
import Derived.Test.YtnecdcaaknhgpaaPart3
namespace Go.Proofs.Ytnecdcaaknhgpaa
set_option maxRecDepth 100000
set_option maxHeartbeats 4000000
set_option linter.unusedSimpArgs false
set_option linter.unusedVariables false
open Go Go.Zv
def tys7 : List (Bool × Ty) := [(true, tArm), (true, tB3)]
theorem row7 (args : List LV) (h : HasAll tys7 args) : pc E 7 args = some (.bool true) := by
  obtain ⟨x1, r1, rfl, ⟨d1, rfl, k1⟩, x2, r2, rfl, ⟨d2, rfl, k2⟩, rfl⟩ := h
  obtain ⟨a, rfl⟩ := has_arm k1
  obtain ⟨p0, p1, p2, rfl, h0, h1, h2⟩ := has_b3 k2
  exact law7 a p0 p1 p2 h0 h1 h2
theorem lifted7 (os : Os) (started : os.Started) (H : Type) (enc : TypeId × Value → H) :
    ReturnsInHanded {} Try.checked os 7 .any (Rows.armReachIsBoundedSpec.pre6 enc Try.prog Try.f7 Rows.armReachIsBoundedRow.domain false) (Rows.armReachIsBoundedSpec.post enc Try.prog Try.f7 false true false false) := by
  refine returnsInHanded_of_change (C := Try.checked) own started (by kernel_rfl) Try.func7
    (ChangeSpec.witness6 (enc := enc) (C := Try.checked) false ⟨#[], #[.agg #[.int .i64 0, .int .i64 0, .int .i64 0, .int .i64 0, .int .i64 0, .int .i64 0, .int .i64 0, .int .i64 0, .int .i64 0, .int .i64 0, .int .i64 0, .int .i64 0], .agg #[.int .u8 0, .int .u8 0, .int .u8 0]], []⟩ 8 (by kernel_rfl) (by kernel_rfl) (by kernel_rfl) (by kernel_rfl)) ?_
  intro W base args ds gs before hval hW _ _
  exact law_contract (C := Try.checked) (tys := tys7) (tb := 4) mixed E_ok laid (by kernel_rfl) (by kernel_rfl) Try.underlying4 (by kernel_rfl) row7 rfl (fun ds h => by
    have h : ds.length = 2 := h
    match ds, h with
    | [d1, d2], _ => rfl) W base args ds gs before hval hW
theorem armReachIsBounded : Rows.ArmReachIsBoundedSaid :=
  OpenClaim.holds_of_wide 7 Try.f7 rfl rfl rfl rfl rfl rfl rfl ⟨rfl, rfl, rfl, rfl, rfl⟩ rfl rfl rfl rfl rfl (by kernel_rfl) Try.func7 (by kernel_rfl)
    (of_decide_eq_true (by kernel_rfl)) (by unfold Func.isWrapper; first | (rw [if_pos (by decide +kernel)]; kernel_rfl) | (rw [if_neg (by decide +kernel)]; exact ⟨rfl, rfl⟩))
    (fun os started H enc _ => lifted7 os started H enc)
#print axioms armReachIsBounded
end Go.Proofs.Ytnecdcaaknhgpaa
