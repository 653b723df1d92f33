/- Proved: GeomGaps returns true whatever the input, and the input reads as it did. -/
import Derived.Test.YtojjdhdflhcdkaaRows
import Derived.Test.YtojjdhdflhcdkaaGR
import Derived.Test.YtojjdhdflhcdkaaL9
namespace Go.Proofs.Ytojjdhdflhcdkaa
set_option maxRecDepth 100000
set_option maxHeartbeats 4000000
set_option linter.unusedSimpArgs false
set_option linter.unusedVariables false
open Go Go.Zv
def tys9 : List (Bool × Ty) := [(false, .slice tPt), (false, .slice tPt)]
theorem row9 (args : List LV) (h : HasAll tys9 args) : pc E 9 args = some (.bool true) := by
  obtain ⟨x3, r3, rfl, ⟨l, hl, hll, hl2⟩, x4, r4, rfl, ⟨m, hm, hmm, hm2⟩, rfl⟩ := h
  cases hl; cases hm
  obtain ⟨l', rfl, bl⟩ := has_pts hl2
  obtain ⟨m', rfl, bm⟩ := has_pts hm2
  exact law9 l' m' (by unfold maxLen at hll; simp at hll; omega) (by unfold maxLen at hmm; simp at hmm; omega)
theorem lifted9 (os : Os) (started : os.Started) (H : Type) (enc : TypeId × Value → H) :
    ReturnsInHanded {} Try.checked os 9 .any (Rows.geomGapsSpec.pre6 enc Try.prog Try.f9 Rows.geomGapsRow.domain false) (Rows.geomGapsSpec.post enc Try.prog Try.f9 false true false false) := by
  refine returnsInHanded_of_change (C := Try.checked) own started (by kernel_rfl) Try.func9
    (ChangeSpec.witness6 (enc := enc) (C := Try.checked) false ⟨#[], #[.slice none 0 0, .slice none 0 0], []⟩ 8 (by kernel_rfl) (by kernel_rfl) (by kernel_rfl) (by kernel_rfl)) ?_
  intro W base args ds gs before hval hW _ _
  exact law_contract (C := Try.checked) (tys := tys9) (tb := 4) mixed E_ok laid (by kernel_rfl) (by kernel_rfl) Try.underlying4 (by kernel_rfl) row9 rfl (fun ds h => by
    have h : ds.length = 2 := h
    match ds, h with
    | [d1, d2], _ => rfl) W base args ds gs before hval hW
theorem geomGaps : Rows.GeomGapsSaid :=
  OpenClaim.holds_of_wide 9 Try.f9 rfl rfl rfl rfl rfl rfl rfl ⟨rfl, rfl, rfl, rfl, rfl⟩ rfl rfl rfl rfl rfl (by kernel_rfl) Try.func9 (by kernel_rfl)
    (of_decide_eq_true (by kernel_rfl)) (by unfold Func.isWrapper; first | (rw [if_pos (by decide +kernel)]; kernel_rfl) | (rw [if_neg (by decide +kernel)]; exact ⟨rfl, rfl⟩))
    (fun os started H enc _ => lifted9 os started H enc)
#print axioms geomGaps
end Go.Proofs.Ytojjdhdflhcdkaa
