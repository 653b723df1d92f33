/- The law IntersectOrSeparated answers true for every input; no condition. -/
import Derived.Test.YteellikeoiedbaaRows
import Derived.Test.YteellikeoiedbaaIR
import Derived.Test.YteellikeoiedbaaIQ
import Derived.Test.YteellikeoiedbaaPart3
namespace Go.Proofs.Yteellikeoiedbaa
set_option maxRecDepth 100000
set_option maxHeartbeats 4000000
set_option linter.unusedSimpArgs false
set_option linter.unusedVariables false
open Go Go.Zv
def tys4 : List (Bool × Ty) := [(false, .slice tPt), (false, .slice tPt)]
theorem row4 (args : List LV) (h : HasAll tys4 args) : pc E 4 args = some (.bool true) := by
  obtain ⟨x0, r0, rfl, ⟨a, ha, _, ka⟩, x1, r1, rfl, ⟨b, hb, _, kb⟩, rfl⟩ := h
  cases ha
  obtain ⟨a, rfl⟩ := has_pts ka
  cases hb
  obtain ⟨b, rfl⟩ := has_pts kb
  exact law4 a b
theorem lifted4 (os : Os) (started : os.Started) (H : Type) (enc : TypeId × Value → H) :
    ReturnsInHanded {} Try.checked os 4 .any (Rows.intersectOrSeparatedSpec.pre6 enc Try.prog Try.f4 Rows.intersectOrSeparatedRow.domain false) (Rows.intersectOrSeparatedSpec.post enc Try.prog Try.f4 false true false false) := by
  refine returnsInHanded_of_change (C := Try.checked) own started (by kernel_rfl) Try.func4
    (ChangeSpec.witness6 (enc := enc) (C := Try.checked) false ⟨#[], #[.slice none 0 0, .slice none 0 0], []⟩ 8 (by kernel_rfl) (by kernel_rfl) (by kernel_rfl) (by kernel_rfl)) ?_
  intro W base args ds gs before hval hW _ _
  exact law_contract (C := Try.checked) (tys := tys4) (tb := 4) mixed E_ok laid (by kernel_rfl) (by kernel_rfl) Try.underlying4 (by kernel_rfl) row4 rfl (fun ds h => by
    have h : ds.length = 2 := h
    match ds, h with
    | [d1, d2], _ => rfl) W base args ds gs before hval hW
theorem named4 : Try.pinned.checked.prog.funcNamed Rows.intersectOrSeparatedRow.func = some 4 := by kernel_rfl
theorem joined4 : joinedFacts Try.prog 4 Try.f4 Rows.intersectOrSeparatedSpec Rows.intersectOrSeparatedRow = true := by
  rw [joinedFacts.eq_1, enters_, lifts_, make_]
  kernel_rfl
theorem intersectOrSeparated : Rows.IntersectOrSeparatedSaid :=
  OpenClaim.holds_of_wide 4 Try.f4 rfl rfl rfl rfl rfl rfl rfl ⟨rfl, rfl, rfl, rfl, rfl⟩ rfl rfl rfl rfl rfl named4 Try.func4 joined4
    (of_decide_eq_true (by kernel_rfl)) (by unfold Func.isWrapper; first | (rw [if_pos (by decide +kernel)]; kernel_rfl) | (rw [if_neg (by decide +kernel)]; exact ⟨rfl, rfl⟩))
    (fun os started H enc _ => lifted4 os started H enc)
#print axioms intersectOrSeparated
end Go.Proofs.Yteellikeoiedbaa
