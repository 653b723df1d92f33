/- Proved: GeomBoxes returns true whatever the input, and the input reads as it did. -/
import Derived.Test.YtojjdhdflhcdkaaRows
import Derived.Test.YtojjdhdflhcdkaaGR
import Derived.Test.YtojjdhdflhcdkaaL8
namespace Go.Proofs.Ytojjdhdflhcdkaa
set_option maxRecDepth 100000
set_option maxHeartbeats 4000000
set_option linter.unusedSimpArgs false
set_option linter.unusedVariables false
open Go Go.Zv
def tys8 : List (Bool × Ty) := [(false, .slice tPt), (false, .slice tPt)]
theorem row8 (args : List LV) (h : HasAll tys8 args) : pc E 8 args = some (.bool true) := by
  obtain ⟨x3, r3, rfl, ⟨l, hl, hll, hl2⟩, x4, r4, rfl, ⟨m, hm, hmm, hm2⟩, rfl⟩ := h
  cases hl; cases hm
  obtain ⟨l', rfl, bl⟩ := has_pts hl2
  obtain ⟨m', rfl, bm⟩ := has_pts hm2
  exact law8 l' m' (by unfold maxLen at hll; simp at hll; omega) (by unfold maxLen at hmm; simp at hmm; omega)
theorem lifted8 (os : Os) (started : os.Started) (H : Type) (enc : TypeId × Value → H) :
    ReturnsInHanded {} Try.checked os 8 .any (Rows.geomBoxesSpec.pre6 enc Try.prog Try.f8 Rows.geomBoxesRow.domain false) (Rows.geomBoxesSpec.post enc Try.prog Try.f8 false true false false) := by
  refine returnsInHanded_of_change (C := Try.checked) own started (by kernel_rfl) Try.func8
    (ChangeSpec.witness6 (enc := enc) (C := Try.checked) false ⟨#[], #[.slice none 0 0, .slice none 0 0], []⟩ 8 (by kernel_rfl) (by kernel_rfl) (by kernel_rfl) (by kernel_rfl)) ?_
  intro W base args ds gs before hval hW _ _
  exact law_contract (C := Try.checked) (tys := tys8) (tb := 4) mixed E_ok laid (by kernel_rfl) (by kernel_rfl) Try.underlying4 (by kernel_rfl) row8 rfl (fun ds h => by
    have h : ds.length = 2 := h
    match ds, h with
    | [d1, d2], _ => rfl) W base args ds gs before hval hW
theorem geomBoxes : Rows.GeomBoxesSaid :=
  OpenClaim.holds_of_wide 8 Try.f8 rfl rfl rfl rfl rfl rfl rfl ⟨rfl, rfl, rfl, rfl, rfl⟩ rfl rfl rfl rfl rfl (by kernel_rfl) Try.func8 (by kernel_rfl)
    (of_decide_eq_true (by kernel_rfl)) (by unfold Func.isWrapper; first | (rw [if_pos (by decide +kernel)]; kernel_rfl) | (rw [if_neg (by decide +kernel)]; exact ⟨rfl, rfl⟩))
    (fun os started H enc _ => lifted8 os started H enc)
#print axioms geomBoxes
end Go.Proofs.Ytojjdhdflhcdkaa
