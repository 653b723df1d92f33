/- Proved: GeomSymmetric returns true whatever the input, and the input reads as it did. -/
import Derived.Test.YtojjdhdflhcdkaaRows
import Derived.Test.YtojjdhdflhcdkaaGR
import Derived.Test.YtojjdhdflhcdkaaL7
namespace Go.Proofs.Ytojjdhdflhcdkaa
set_option maxRecDepth 100000
set_option maxHeartbeats 4000000
set_option linter.unusedSimpArgs false
set_option linter.unusedVariables false
open Go Go.Zv
def tys7 : List (Bool × Ty) := [(true, .cat [tPt, tPt, tPt, tPt]), (false, .bool), (true, tPt)]
theorem row7 (args : List LV) (h : HasAll tys7 args) : pc E 7 args = some (.bool true) := by
  obtain ⟨x1, r1, rfl, ⟨xs, rfl, hx⟩, x2, r2, rfl, ⟨s, hs⟩, x3, r3, rfl, ⟨ys, rfl, hy⟩, rfl⟩ := h
  cases hs
  obtain ⟨a1, b1, rfl, ⟨a2, b2, rfl, ⟨n1, rfl, _⟩, a3, b3, rfl, ⟨n2, rfl, _⟩, rfl⟩, c1, d1, rfl, ⟨e2, f2, rfl, ⟨n3, rfl, _⟩, e3, f3, rfl, ⟨n4, rfl, _⟩, rfl⟩, c3, d3, rfl, ⟨g2, h2, rfl, ⟨n5, rfl, _⟩, g3, h3, rfl, ⟨n6, rfl, _⟩, rfl⟩, c4, d4, rfl, ⟨i2, j2, rfl, ⟨n7, rfl, _⟩, i3, j3, rfl, ⟨n8, rfl, _⟩, rfl⟩, rfl⟩ := hx
  obtain ⟨k2, l2, rfl, ⟨n9, rfl, _⟩, k3, l3, rfl, ⟨n10, rfl, _⟩, rfl⟩ := hy
  exact law7 n1 n2 n3 n4 n5 n6 n7 n8 s n9 n10
theorem lifted7 (os : Os) (started : os.Started) (H : Type) (enc : TypeId × Value → H) :
    ReturnsInHanded {} Try.checked os 7 .any (Rows.geomSymmetricSpec.pre6 enc Try.prog Try.f7 Rows.geomSymmetricRow.domain false) (Rows.geomSymmetricSpec.post enc Try.prog Try.f7 false true false false) := by
  refine returnsInHanded_of_change (C := Try.checked) own started (by kernel_rfl) Try.func7
    (ChangeSpec.witness6 (enc := enc) (C := Try.checked) false ⟨#[], #[.agg #[.int .i64 0, .int .i64 0, .int .i64 0, .int .i64 0, .int .i64 0, .int .i64 0, .int .i64 0, .int .i64 0], .bool false, .agg #[.int .i64 0, .int .i64 0]], []⟩ 8 (by kernel_rfl) (by kernel_rfl) (by kernel_rfl) (by kernel_rfl)) ?_
  intro W base args ds gs before hval hW _ _
  exact law_contract (C := Try.checked) (tys := tys7) (tb := 4) mixed E_ok laid (by kernel_rfl) (by kernel_rfl) Try.underlying4 (by kernel_rfl) row7 rfl (fun ds h => by
    have h : ds.length = 3 := h
    match ds, h with
    | [d1, d2, d3], _ => rfl) W base args ds gs before hval hW
theorem geomSymmetric : Rows.GeomSymmetricSaid :=
  OpenClaim.holds_of_wide 7 Try.f7 rfl rfl rfl rfl rfl rfl rfl ⟨rfl, rfl, rfl, rfl, rfl⟩ rfl rfl rfl rfl rfl (by kernel_rfl) Try.func7 (by kernel_rfl)
    (of_decide_eq_true (by kernel_rfl)) (by unfold Func.isWrapper; first | (rw [if_pos (by decide +kernel)]; kernel_rfl) | (rw [if_neg (by decide +kernel)]; exact ⟨rfl, rfl⟩))
    (fun os started H enc _ => lifted7 os started H enc)
#print axioms geomSymmetric
end Go.Proofs.Ytojjdhdflhcdkaa
