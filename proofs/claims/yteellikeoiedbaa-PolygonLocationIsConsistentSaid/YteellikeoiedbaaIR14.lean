/- The law PolygonLocationIsConsistent answers true for every input; no condition. -/
import Derived.Test.YteellikeoiedbaaRows
import Derived.Test.YteellikeoiedbaaIR
import Derived.Test.YteellikeoiedbaaIQ
import Derived.Test.YteellikeoiedbaaPart3
namespace Go.Proofs.Yteellikeoiedbaa
set_option maxRecDepth 100000
set_option maxHeartbeats 4000000
set_option linter.unusedSimpArgs false
set_option linter.unusedVariables false
open Go Go.Zv
def tys14 : List (Bool × Ty) := [(false, .slice tPt), (true, tPt), (true, tPt)]
theorem row14 (args : List LV) (h : HasAll tys14 args) : pc E 14 args = some (.bool true) := by
  obtain ⟨x0, r0, rfl, ⟨p, hp, _, kp⟩, x1, r1, rfl, ⟨dx, rfl, kx⟩, x2, r2, rfl, ⟨dy, rfl, ky⟩, rfl⟩ := h
  cases hp
  obtain ⟨p, rfl⟩ := has_pts kp
  obtain ⟨x1, x2, rfl, x3, x4⟩ := has_pt kx
  obtain ⟨y1, y2, rfl, y3, y4⟩ := has_pt ky
  exact law14 p x1 x2 y1 y2
theorem lifted14 (os : Os) (started : os.Started) (H : Type) (enc : TypeId × Value → H) :
    ReturnsInHanded {} Try.checked os 14 .any (Rows.polygonLocationIsConsistentSpec.pre6 enc Try.prog Try.f14 Rows.polygonLocationIsConsistentRow.domain false) (Rows.polygonLocationIsConsistentSpec.post enc Try.prog Try.f14 false true false false) := by
  refine returnsInHanded_of_change (C := Try.checked) own started (by kernel_rfl) Try.func14
    (ChangeSpec.witness6 (enc := enc) (C := Try.checked) false ⟨#[], #[.slice none 0 0, .agg #[.int .i64 0, .int .i64 0], .agg #[.int .i64 0, .int .i64 0]], []⟩ 8 (by kernel_rfl) (by kernel_rfl) (by kernel_rfl) (by kernel_rfl)) ?_
  intro W base args ds gs before hval hW _ _
  exact law_contract (C := Try.checked) (tys := tys14) (tb := 4) mixed E_ok laid (by kernel_rfl) (by kernel_rfl) Try.underlying4 (by kernel_rfl) row14 rfl (fun ds h => by
    have h : ds.length = 3 := h
    match ds, h with
    | [d1, d2, d3], _ => rfl) W base args ds gs before hval hW
theorem named14 : Try.pinned.checked.prog.funcNamed Rows.polygonLocationIsConsistentRow.func = some 14 := by kernel_rfl
theorem joined14 : joinedFacts Try.prog 14 Try.f14 Rows.polygonLocationIsConsistentSpec Rows.polygonLocationIsConsistentRow = true := by
  rw [joinedFacts.eq_1, enters_, lifts_, make_]
  kernel_rfl
theorem polygonLocationIsConsistent : Rows.PolygonLocationIsConsistentSaid :=
  OpenClaim.holds_of_wide 14 Try.f14 rfl rfl rfl rfl rfl rfl rfl ⟨rfl, rfl, rfl, rfl, rfl⟩ rfl rfl rfl rfl rfl named14 Try.func14 joined14
    (of_decide_eq_true (by kernel_rfl)) (by unfold Func.isWrapper; first | (rw [if_pos (by decide +kernel)]; kernel_rfl) | (rw [if_neg (by decide +kernel)]; exact ⟨rfl, rfl⟩))
    (fun os started H enc _ => lifted14 os started H enc)
#print axioms polygonLocationIsConsistent
end Go.Proofs.Yteellikeoiedbaa
