/- The law PolygonTranslationPreservesGeometry answers true for every input; no condition. -/
import Derived.Test.YteellikeoiedbaaRows
import Derived.Test.YteellikeoiedbaaIR
import Derived.Test.YteellikeoiedbaaIQ
import Derived.Test.YteellikeoiedbaaPart3
namespace Go.Proofs.Yteellikeoiedbaa
set_option maxRecDepth 100000
set_option maxHeartbeats 4000000
set_option linter.unusedSimpArgs false
set_option linter.unusedVariables false
open Go Go.Zv
def tys12 : List (Bool × Ty) := [(false, .slice tPt), (true, tPt), (true, tPt)]
theorem row12 (args : List LV) (h : HasAll tys12 args) : pc E 12 args = some (.bool true) := by
  obtain ⟨x0, r0, rfl, ⟨p, hp, _, kp⟩, x1, r1, rfl, ⟨db, rfl, kb⟩, x2, r2, rfl, ⟨dx, rfl, kx⟩, rfl⟩ := h
  cases hp
  obtain ⟨p, rfl⟩ := has_pts kp
  obtain ⟨b1, b2, rfl, b3, b4⟩ := has_pt kb
  obtain ⟨x1, x2, rfl, x3, x4⟩ := has_pt kx
  exact law12 p b1 b2 x1 x2
theorem lifted12 (os : Os) (started : os.Started) (H : Type) (enc : TypeId × Value → H) :
    ReturnsInHanded {} Try.checked os 12 .any (Rows.polygonTranslationPreservesGeometrySpec.pre6 enc Try.prog Try.f12 Rows.polygonTranslationPreservesGeometryRow.domain false) (Rows.polygonTranslationPreservesGeometrySpec.post enc Try.prog Try.f12 false true false false) := by
  refine returnsInHanded_of_change (C := Try.checked) own started (by kernel_rfl) Try.func12
    (ChangeSpec.witness6 (enc := enc) (C := Try.checked) false ⟨#[], #[.slice none 0 0, .agg #[.int .i64 0, .int .i64 0], .agg #[.int .i64 0, .int .i64 0]], []⟩ 8 (by kernel_rfl) (by kernel_rfl) (by kernel_rfl) (by kernel_rfl)) ?_
  intro W base args ds gs before hval hW _ _
  exact law_contract (C := Try.checked) (tys := tys12) (tb := 4) mixed E_ok laid (by kernel_rfl) (by kernel_rfl) Try.underlying4 (by kernel_rfl) row12 rfl (fun ds h => by
    have h : ds.length = 3 := h
    match ds, h with
    | [d1, d2, d3], _ => rfl) W base args ds gs before hval hW
theorem named12 : Try.pinned.checked.prog.funcNamed Rows.polygonTranslationPreservesGeometryRow.func = some 12 := by kernel_rfl
theorem joined12 : joinedFacts Try.prog 12 Try.f12 Rows.polygonTranslationPreservesGeometrySpec Rows.polygonTranslationPreservesGeometryRow = true := by
  rw [joinedFacts.eq_1, enters_, lifts_, make_]
  kernel_rfl
theorem polygonTranslationPreservesGeometry : Rows.PolygonTranslationPreservesGeometrySaid :=
  OpenClaim.holds_of_wide 12 Try.f12 rfl rfl rfl rfl rfl rfl rfl ⟨rfl, rfl, rfl, rfl, rfl⟩ rfl rfl rfl rfl rfl named12 Try.func12 joined12
    (of_decide_eq_true (by kernel_rfl)) (by unfold Func.isWrapper; first | (rw [if_pos (by decide +kernel)]; kernel_rfl) | (rw [if_neg (by decide +kernel)]; exact ⟨rfl, rfl⟩))
    (fun os started H enc _ => lifted12 os started H enc)
#print axioms polygonTranslationPreservesGeometry
end Go.Proofs.Yteellikeoiedbaa
