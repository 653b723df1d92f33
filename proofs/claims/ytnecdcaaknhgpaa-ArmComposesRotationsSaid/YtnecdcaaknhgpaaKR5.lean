/- For every arm, digits, joint, turn and shift the law returns true. -/
import Derived.Test.YtnecdcaaknhgpaaRows
import Derived.Test.YtnecdcaaknhgpaaKR
import Derived.Test.YtnecdcaaknhgpaaPart3
namespace Go.Proofs.Ytnecdcaaknhgpaa
set_option maxRecDepth 100000
set_option maxHeartbeats 4000000
set_option linter.unusedSimpArgs false
set_option linter.unusedVariables false
open Go Go.Zv
def tys5 : List (Bool × Ty) := [(true, tArm), (true, tB3), (false, .int .u8), (false, .int .u8), (true, .cat [.int .i8, .int .i8])]
theorem row5 (args : List LV) (h : HasAll tys5 args) : pc E 5 args = some (.bool true) := by
  obtain ⟨x1, r1, rfl, ⟨d1, rfl, k1⟩, x2, r2, rfl, ⟨d2, rfl, k2⟩, x3, r3, rfl, ⟨m, hm, m1, m2⟩, x4, r4, rfl, ⟨i, hi, i1, i2⟩, x5, r5, rfl, ⟨d5, rfl, _, _, rfl, ⟨y0, rfl, y1, y2⟩, _, _, rfl, ⟨z0, rfl, z1, z2⟩, rfl⟩, rfl⟩ := h
  cases hm; cases hi
  obtain ⟨a, rfl⟩ := has_arm k1
  obtain ⟨p0, p1, p2, rfl, h0, h1, h2⟩ := has_b3 k2
  exact law5 a p0 p1 p2 m i y0 z0 h0 h1 h2 (u8_rng m1 m2) (u8_rng i1 i2) ⟨y1, y2⟩ ⟨z1, z2⟩
theorem lifted5 (os : Os) (started : os.Started) (H : Type) (enc : TypeId × Value → H) :
    ReturnsInHanded {} Try.checked os 5 .any (Rows.armComposesRotationsSpec.pre6 enc Try.prog Try.f5 Rows.armComposesRotationsRow.domain false) (Rows.armComposesRotationsSpec.post enc Try.prog Try.f5 false true false false) := by
  refine returnsInHanded_of_change (C := Try.checked) own started (by kernel_rfl) Try.func5
    (ChangeSpec.witness6 (enc := enc) (C := Try.checked) false ⟨#[], #[.agg #[.int .i64 0, .int .i64 0, .int .i64 0, .int .i64 0, .int .i64 0, .int .i64 0, .int .i64 0, .int .i64 0, .int .i64 0, .int .i64 0, .int .i64 0, .int .i64 0], .agg #[.int .u8 0, .int .u8 0, .int .u8 0], .int .u8 0, .int .u8 0, .agg #[.int .i8 0, .int .i8 0]], []⟩ 8 (by kernel_rfl) (by kernel_rfl) (by kernel_rfl) (by kernel_rfl)) ?_
  intro W base args ds gs before hval hW _ _
  exact law_contract (C := Try.checked) (tys := tys5) (tb := 4) mixed E_ok laid (by kernel_rfl) (by kernel_rfl) Try.underlying4 (by kernel_rfl) row5 rfl (fun ds h => by
    have h : ds.length = 5 := h
    match ds, h with
    | [d1, d2, d3, d4, d5], _ => rfl) W base args ds gs before hval hW
theorem armComposesRotations : Rows.ArmComposesRotationsSaid :=
  OpenClaim.holds_of_wide 5 Try.f5 rfl rfl rfl rfl rfl rfl rfl ⟨rfl, rfl, rfl, rfl, rfl⟩ rfl rfl rfl rfl rfl (by kernel_rfl) Try.func5 (by kernel_rfl)
    (of_decide_eq_true (by kernel_rfl)) (by unfold Func.isWrapper; first | (rw [if_pos (by decide +kernel)]; kernel_rfl) | (rw [if_neg (by decide +kernel)]; exact ⟨rfl, rfl⟩))
    (fun os started H enc _ => lifted5 os started H enc)
#print axioms armComposesRotations
end Go.Proofs.Ytnecdcaaknhgpaa
