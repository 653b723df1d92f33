/- The law PolygonRotationPreservesGeometry answers true for every input; no condition. -/
import Derived.Test.YteellikeoiedbaaRows
import Derived.Test.YteellikeoiedbaaIR
import Derived.Test.YteellikeoiedbaaIQ
import Derived.Test.YteellikeoiedbaaPart3
namespace Go.Proofs.Yteellikeoiedbaa
set_option maxRecDepth 100000
set_option maxHeartbeats 4000000
set_option linter.unusedSimpArgs false
set_option linter.unusedVariables false
open Go Go.Zv
def tys13 : List (Bool × Ty) := [(false, .slice tPt), (false, .int .i64), (true, tPt)]
theorem row13 (args : List LV) (h : HasAll tys13 args) : pc E 13 args = some (.bool true) := by
  obtain ⟨x0, r0, rfl, ⟨p, hp, _, kp⟩, x1, r1, rfl, ⟨q, hq, nq⟩, x2, r2, rfl, ⟨dx, rfl, kx⟩, rfl⟩ := h
  cases hp
  obtain ⟨p, rfl⟩ := has_pts kp
  cases hq
  obtain ⟨x1, x2, rfl, x3, x4⟩ := has_pt kx
  exact law13 p q x1 x2
theorem lifted13 (os : Os) (started : os.Started) (H : Type) (enc : TypeId × Value → H) :
    ReturnsInHanded {} Try.checked os 13 .any (Rows.polygonRotationPreservesGeometrySpec.pre6 enc Try.prog Try.f13 Rows.polygonRotationPreservesGeometryRow.domain false) (Rows.polygonRotationPreservesGeometrySpec.post enc Try.prog Try.f13 false true false false) := by
  refine returnsInHanded_of_change (C := Try.checked) own started (by kernel_rfl) Try.func13
    (ChangeSpec.witness6 (enc := enc) (C := Try.checked) false ⟨#[], #[.slice none 0 0, .int .i64 0, .agg #[.int .i64 0, .int .i64 0]], []⟩ 8 (by kernel_rfl) (by kernel_rfl) (by kernel_rfl) (by kernel_rfl)) ?_
  intro W base args ds gs before hval hW _ _
  exact law_contract (C := Try.checked) (tys := tys13) (tb := 4) mixed E_ok laid (by kernel_rfl) (by kernel_rfl) Try.underlying4 (by kernel_rfl) row13 rfl (fun ds h => by
    have h : ds.length = 3 := h
    match ds, h with
    | [d1, d2, d3], _ => rfl) W base args ds gs before hval hW
theorem named13 : Try.pinned.checked.prog.funcNamed Rows.polygonRotationPreservesGeometryRow.func = some 13 := by kernel_rfl
theorem joined13 : joinedFacts Try.prog 13 Try.f13 Rows.polygonRotationPreservesGeometrySpec Rows.polygonRotationPreservesGeometryRow = true := by
  rw [joinedFacts.eq_1, enters_, lifts_, make_]
  kernel_rfl
theorem polygonRotationPreservesGeometry : Rows.PolygonRotationPreservesGeometrySaid :=
  OpenClaim.holds_of_wide 13 Try.f13 rfl rfl rfl rfl rfl rfl rfl ⟨rfl, rfl, rfl, rfl, rfl⟩ rfl rfl rfl rfl rfl named13 Try.func13 joined13
    (of_decide_eq_true (by kernel_rfl)) (by unfold Func.isWrapper; first | (rw [if_pos (by decide +kernel)]; kernel_rfl) | (rw [if_neg (by decide +kernel)]; exact ⟨rfl, rfl⟩))
    (fun os started H enc _ => lifted13 os started H enc)
#print axioms polygonRotationPreservesGeometry
end Go.Proofs.Yteellikeoiedbaa
