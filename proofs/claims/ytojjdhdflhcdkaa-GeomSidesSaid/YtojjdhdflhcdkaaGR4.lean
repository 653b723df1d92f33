/- Proved: GeomSides returns true whatever the input, and the input reads as it did. -/
import Derived.Test.YtojjdhdflhcdkaaRows
import Derived.Test.YtojjdhdflhcdkaaGR
import Derived.Test.YtojjdhdflhcdkaaL4
namespace Go.Proofs.Ytojjdhdflhcdkaa
set_option maxRecDepth 100000
set_option maxHeartbeats 4000000
set_option linter.unusedSimpArgs false
set_option linter.unusedVariables false
open Go Go.Zv
def tys4 : List (Bool × Ty) := [(true, .cat [tPt, tPt, tPt, tPt]), (false, .bool)]
theorem row4 (args : List LV) (h : HasAll tys4 args) : pc E 4 args = some (.bool true) := by
  obtain ⟨x1, r1, rfl, ⟨xs, rfl, hx⟩, x2, r2, rfl, ⟨s, hs⟩, rfl⟩ := h
  cases hs
  obtain ⟨a1, b1, rfl, ⟨a2, b2, rfl, ⟨n1, rfl, _⟩, a3, b3, rfl, ⟨n2, rfl, _⟩, rfl⟩, c1, d1, rfl, ⟨e2, f2, rfl, ⟨n3, rfl, _⟩, e3, f3, rfl, ⟨n4, rfl, _⟩, rfl⟩, c3, d3, rfl, ⟨g2, h2, rfl, ⟨n5, rfl, _⟩, g3, h3, rfl, ⟨n6, rfl, _⟩, rfl⟩, c4, d4, rfl, ⟨i2, j2, rfl, ⟨n7, rfl, _⟩, i3, j3, rfl, ⟨n8, rfl, _⟩, rfl⟩, rfl⟩ := hx
  exact law4 n1 n2 n3 n4 n5 n6 n7 n8 s
theorem lifted4 (os : Os) (started : os.Started) (H : Type) (enc : TypeId × Value → H) :
    ReturnsInHanded {} Try.checked os 4 .any (Rows.geomSidesSpec.pre6 enc Try.prog Try.f4 Rows.geomSidesRow.domain false) (Rows.geomSidesSpec.post enc Try.prog Try.f4 false true false false) := by
  refine returnsInHanded_of_change (C := Try.checked) own started (by kernel_rfl) Try.func4
    (ChangeSpec.witness6 (enc := enc) (C := Try.checked) false ⟨#[], #[.agg #[.int .i64 0, .int .i64 0, .int .i64 0, .int .i64 0, .int .i64 0, .int .i64 0, .int .i64 0, .int .i64 0], .bool false], []⟩ 8 (by kernel_rfl) (by kernel_rfl) (by kernel_rfl) (by kernel_rfl)) ?_
  intro W base args ds gs before hval hW _ _
  exact law_contract (C := Try.checked) (tys := tys4) (tb := 4) mixed E_ok laid (by kernel_rfl) (by kernel_rfl) Try.underlying4 (by kernel_rfl) row4 rfl (fun ds h => by
    have h : ds.length = 2 := h
    match ds, h with
    | [d1, d2], _ => rfl) W base args ds gs before hval hW
theorem geomSides : Rows.GeomSidesSaid :=
  OpenClaim.holds_of_wide 4 Try.f4 rfl rfl rfl rfl rfl rfl rfl ⟨rfl, rfl, rfl, rfl, rfl⟩ rfl rfl rfl rfl rfl (by kernel_rfl) Try.func4 (by kernel_rfl)
    (of_decide_eq_true (by kernel_rfl)) (by unfold Func.isWrapper; first | (rw [if_pos (by decide +kernel)]; kernel_rfl) | (rw [if_neg (by decide +kernel)]; exact ⟨rfl, rfl⟩))
    (fun os started H enc _ => lifted4 os started H enc)
#print axioms geomSides
end Go.Proofs.Ytojjdhdflhcdkaa
