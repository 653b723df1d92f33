/- The law IntersectTranslationInvariant answers true for every input; no condition. -/
import Derived.Test.YteellikeoiedbaaRows
import Derived.Test.YteellikeoiedbaaIR
import Derived.Test.YteellikeoiedbaaIQ
import Derived.Test.YteellikeoiedbaaPart3
namespace Go.Proofs.Yteellikeoiedbaa
set_option maxRecDepth 100000
set_option maxHeartbeats 4000000
set_option linter.unusedSimpArgs false
set_option linter.unusedVariables false
open Go Go.Zv
def tys8 : List (Bool × Ty) := [(false, .slice tPt), (false, .slice tPt), (false, .int .i16), (false, .int .i16)]
theorem row8 (args : List LV) (h : HasAll tys8 args) : pc E 8 args = some (.bool true) := by
  obtain ⟨x0, r0, rfl, ⟨a, ha, _, ka⟩, x1, r1, rfl, ⟨b, hb, _, kb⟩, x2, r2, rfl, ⟨x, hx, nx⟩, x3, r3, rfl, ⟨y, hy, ny⟩, rfl⟩ := h
  cases ha
  obtain ⟨a, rfl⟩ := has_pts ka
  cases hb
  obtain ⟨b, rfl⟩ := has_pts kb
  cases hx
  cases hy
  exact law8 a b x nx y ny
theorem lifted8 (os : Os) (started : os.Started) (H : Type) (enc : TypeId × Value → H) :
    ReturnsInHanded {} Try.checked os 8 .any (Rows.intersectTranslationInvariantSpec.pre6 enc Try.prog Try.f8 Rows.intersectTranslationInvariantRow.domain false) (Rows.intersectTranslationInvariantSpec.post enc Try.prog Try.f8 false true false false) := by
  refine returnsInHanded_of_change (C := Try.checked) own started (by kernel_rfl) Try.func8
    (ChangeSpec.witness6 (enc := enc) (C := Try.checked) false ⟨#[], #[.slice none 0 0, .slice none 0 0, .int .i16 0, .int .i16 0], []⟩ 8 (by kernel_rfl) (by kernel_rfl) (by kernel_rfl) (by kernel_rfl)) ?_
  intro W base args ds gs before hval hW _ _
  exact law_contract (C := Try.checked) (tys := tys8) (tb := 4) mixed E_ok laid (by kernel_rfl) (by kernel_rfl) Try.underlying4 (by kernel_rfl) row8 rfl (fun ds h => by
    have h : ds.length = 4 := h
    match ds, h with
    | [d1, d2, d3, d4], _ => rfl) W base args ds gs before hval hW
theorem named8 : Try.pinned.checked.prog.funcNamed Rows.intersectTranslationInvariantRow.func = some 8 := by kernel_rfl
theorem joined8 : joinedFacts Try.prog 8 Try.f8 Rows.intersectTranslationInvariantSpec Rows.intersectTranslationInvariantRow = true := by
  rw [joinedFacts.eq_1, enters_, lifts_, make_]
  kernel_rfl
theorem intersectTranslationInvariant : Rows.IntersectTranslationInvariantSaid :=
  OpenClaim.holds_of_wide 8 Try.f8 rfl rfl rfl rfl rfl rfl rfl ⟨rfl, rfl, rfl, rfl, rfl⟩ rfl rfl rfl rfl rfl named8 Try.func8 joined8
    (of_decide_eq_true (by kernel_rfl)) (by unfold Func.isWrapper; first | (rw [if_pos (by decide +kernel)]; kernel_rfl) | (rw [if_neg (by decide +kernel)]; exact ⟨rfl, rfl⟩))
    (fun os started H enc _ => lifted8 os started H enc)
#print axioms intersectTranslationInvariant
end Go.Proofs.Yteellikeoiedbaa
