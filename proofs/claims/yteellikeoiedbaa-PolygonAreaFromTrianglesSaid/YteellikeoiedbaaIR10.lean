/- The law PolygonAreaFromTriangles answers true for every input; no condition. -/
import Derived.Test.YteellikeoiedbaaRows
import Derived.Test.YteellikeoiedbaaIR
import Derived.Test.YteellikeoiedbaaIQ
import Derived.Test.YteellikeoiedbaaPart3
namespace Go.Proofs.Yteellikeoiedbaa
set_option maxRecDepth 100000
set_option maxHeartbeats 4000000
set_option linter.unusedSimpArgs false
set_option linter.unusedVariables false
open Go Go.Zv
def tys10 : List (Bool × Ty) := [(false, .slice tPt), (true, tPt)]
theorem row10 (args : List LV) (h : HasAll tys10 args) : pc E 10 args = some (.bool true) := by
  obtain ⟨x0, r0, rfl, ⟨p, hp, _, kp⟩, x1, r1, rfl, ⟨dx, rfl, kx⟩, rfl⟩ := h
  cases hp
  obtain ⟨p, rfl⟩ := has_pts kp
  obtain ⟨x1, x2, rfl, x3, x4⟩ := has_pt kx
  exact law10 p x1 x2
theorem lifted10 (os : Os) (started : os.Started) (H : Type) (enc : TypeId × Value → H) :
    ReturnsInHanded {} Try.checked os 10 .any (Rows.polygonAreaFromTrianglesSpec.pre6 enc Try.prog Try.f10 Rows.polygonAreaFromTrianglesRow.domain false) (Rows.polygonAreaFromTrianglesSpec.post enc Try.prog Try.f10 false true false false) := by
  refine returnsInHanded_of_change (C := Try.checked) own started (by kernel_rfl) Try.func10
    (ChangeSpec.witness6 (enc := enc) (C := Try.checked) false ⟨#[], #[.slice none 0 0, .agg #[.int .i64 0, .int .i64 0]], []⟩ 8 (by kernel_rfl) (by kernel_rfl) (by kernel_rfl) (by kernel_rfl)) ?_
  intro W base args ds gs before hval hW _ _
  exact law_contract (C := Try.checked) (tys := tys10) (tb := 4) mixed E_ok laid (by kernel_rfl) (by kernel_rfl) Try.underlying4 (by kernel_rfl) row10 rfl (fun ds h => by
    have h : ds.length = 2 := h
    match ds, h with
    | [d1, d2], _ => rfl) W base args ds gs before hval hW
theorem named10 : Try.pinned.checked.prog.funcNamed Rows.polygonAreaFromTrianglesRow.func = some 10 := by kernel_rfl
theorem joined10 : joinedFacts Try.prog 10 Try.f10 Rows.polygonAreaFromTrianglesSpec Rows.polygonAreaFromTrianglesRow = true := by
  rw [joinedFacts.eq_1, enters_, lifts_, make_]
  kernel_rfl
theorem polygonAreaFromTriangles : Rows.PolygonAreaFromTrianglesSaid :=
  OpenClaim.holds_of_wide 10 Try.f10 rfl rfl rfl rfl rfl rfl rfl ⟨rfl, rfl, rfl, rfl, rfl⟩ rfl rfl rfl rfl rfl named10 Try.func10 joined10
    (of_decide_eq_true (by kernel_rfl)) (by unfold Func.isWrapper; first | (rw [if_pos (by decide +kernel)]; kernel_rfl) | (rw [if_neg (by decide +kernel)]; exact ⟨rfl, rfl⟩))
    (fun os started H enc _ => lifted10 os started H enc)
#print axioms polygonAreaFromTriangles
end Go.Proofs.Yteellikeoiedbaa
