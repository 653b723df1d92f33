/- For every polygon, shift and point the law returns true. -/
import Derived.Test.YteellikeoiedbaaRows
import Derived.Test.YteellikeoiedbaaIR
import Derived.Test.YteellikeoiedbaaIQ
import Derived.Test.YteellikeoiedbaaPart3
namespace Go.Proofs.Yteellikeoiedbaa
set_option maxRecDepth 100000
set_option maxHeartbeats 4000000
set_option linter.unusedSimpArgs false
set_option linter.unusedVariables false
open Go Go.Zv
def tys9 : List (Bool × Ty) := [(false, .slice tPt), (false, .int .u8), (true, tPt)]
theorem row9 (args : List LV) (h : HasAll tys9 args) : pc E 9 args = some (.bool true) := by
  obtain ⟨x1, r1, rfl, ⟨l, hl, hll, hl2⟩, x2, r2, rfl, ⟨n, hn, n1, n2⟩, x3, r3, rfl, ⟨ds, rfl, hx⟩, rfl⟩ := h
  cases hn; cases hl
  obtain ⟨n, rfl, hn⟩ := u8_nat n1 n2
  obtain ⟨l, rfl⟩ := has_pts hl2
  obtain ⟨x, y, rfl, _⟩ := has_pt hx
  exact law9 l n hn x y
theorem lifted9 (os : Os) (started : os.Started) (H : Type) (enc : TypeId × Value → H) :
    ReturnsInHanded {} Try.checked os 9 .any (Rows.polygonInvariantUnderCyclicShiftSpec.pre6 enc Try.prog Try.f9 Rows.polygonInvariantUnderCyclicShiftRow.domain false) (Rows.polygonInvariantUnderCyclicShiftSpec.post enc Try.prog Try.f9 false true false false) := by
  refine returnsInHanded_of_change (C := Try.checked) own started (by kernel_rfl) Try.func9
    (ChangeSpec.witness6 (enc := enc) (C := Try.checked) false ⟨#[], #[.slice none 0 0, .int .u8 0, .agg #[.int .i64 0, .int .i64 0]], []⟩ 8 (by kernel_rfl) (by kernel_rfl) (by kernel_rfl) (by kernel_rfl)) ?_
  intro W base args ds gs before hval hW _ _
  exact law_contract (C := Try.checked) (tys := tys9) (tb := 4) mixed E_ok laid (by kernel_rfl) (by kernel_rfl) Try.underlying4 (by kernel_rfl) row9 rfl (fun ds h => by
    have h : ds.length = 3 := h
    match ds, h with
    | [d1, d2, d3], _ => rfl) W base args ds gs before hval hW
theorem named9 : Try.pinned.checked.prog.funcNamed Rows.polygonInvariantUnderCyclicShiftRow.func = some 9 := by kernel_rfl
theorem joined9 : joinedFacts Try.prog 9 Try.f9 Rows.polygonInvariantUnderCyclicShiftSpec Rows.polygonInvariantUnderCyclicShiftRow = true := by
  rw [joinedFacts.eq_1, enters_, lifts_, make_]
  kernel_rfl
theorem polygonInvariantUnderCyclicShift : Rows.PolygonInvariantUnderCyclicShiftSaid :=
  OpenClaim.holds_of_wide 9 Try.f9 rfl rfl rfl rfl rfl rfl rfl ⟨rfl, rfl, rfl, rfl, rfl⟩ rfl rfl rfl rfl rfl named9 Try.func9 joined9
    (of_decide_eq_true (by kernel_rfl)) (by unfold Func.isWrapper; first | (rw [if_pos (by decide +kernel)]; kernel_rfl) | (rw [if_neg (by decide +kernel)]; exact ⟨rfl, rfl⟩))
    (fun os started H enc _ => lifted9 os started H enc)
#print axioms polygonInvariantUnderCyclicShift
end Go.Proofs.Yteellikeoiedbaa
