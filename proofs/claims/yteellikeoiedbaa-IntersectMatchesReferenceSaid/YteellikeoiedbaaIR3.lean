/- The law IntersectMatchesReference answers true for every input; no condition. -/
import Derived.Test.YteellikeoiedbaaRows
import Derived.Test.YteellikeoiedbaaIR
import Derived.Test.YteellikeoiedbaaIQ
import Derived.Test.YteellikeoiedbaaPart3
namespace Go.Proofs.Yteellikeoiedbaa
set_option maxRecDepth 100000
set_option maxHeartbeats 4000000
set_option linter.unusedSimpArgs false
set_option linter.unusedVariables false
open Go Go.Zv
def tys3 : List (Bool × Ty) := [(false, .slice tPt), (false, .slice tPt), (true, tPt), (true, t3)]
theorem row3 (args : List LV) (h : HasAll tys3 args) : pc E 3 args = some (.bool true) := by
  obtain ⟨x0, r0, rfl, ⟨a, ha, _, ka⟩, x1, r1, rfl, ⟨b, hb, _, kb⟩, x2, r2, rfl, ⟨dl, rfl, kl⟩, x3, r3, rfl, ⟨dt, rfl, kt⟩, rfl⟩ := h
  cases ha
  obtain ⟨a, rfl⟩ := has_pts ka
  cases hb
  obtain ⟨b, rfl⟩ := has_pts kb
  obtain ⟨l1, l2, rfl⟩ := has_2 kl
  obtain ⟨t1, t2, t3, rfl⟩ := has_3 kt
  exact law3 a b l1 l2 t1 t2 t3
theorem lifted3 (os : Os) (started : os.Started) (H : Type) (enc : TypeId × Value → H) :
    ReturnsInHanded {} Try.checked os 3 .any (Rows.intersectMatchesReferenceSpec.pre6 enc Try.prog Try.f3 Rows.intersectMatchesReferenceRow.domain false) (Rows.intersectMatchesReferenceSpec.post enc Try.prog Try.f3 false true false false) := by
  refine returnsInHanded_of_change (C := Try.checked) own started (by kernel_rfl) Try.func3
    (ChangeSpec.witness6 (enc := enc) (C := Try.checked) false ⟨#[], #[.slice none 0 0, .slice none 0 0, .agg #[.int .i64 0, .int .i64 0], .agg #[.int .i64 0, .int .i64 0, .int .i64 0]], []⟩ 8 (by kernel_rfl) (by kernel_rfl) (by kernel_rfl) (by kernel_rfl)) ?_
  intro W base args ds gs before hval hW _ _
  exact law_contract (C := Try.checked) (tys := tys3) (tb := 4) mixed E_ok laid (by kernel_rfl) (by kernel_rfl) Try.underlying4 (by kernel_rfl) row3 rfl (fun ds h => by
    have h : ds.length = 4 := h
    match ds, h with
    | [d1, d2, d3, d4], _ => rfl) W base args ds gs before hval hW
theorem named3 : Try.pinned.checked.prog.funcNamed Rows.intersectMatchesReferenceRow.func = some 3 := by kernel_rfl
theorem joined3 : joinedFacts Try.prog 3 Try.f3 Rows.intersectMatchesReferenceSpec Rows.intersectMatchesReferenceRow = true := by
  rw [joinedFacts.eq_1, enters_, lifts_, make_]
  kernel_rfl
theorem intersectMatchesReference : Rows.IntersectMatchesReferenceSaid :=
  OpenClaim.holds_of_wide 3 Try.f3 rfl rfl rfl rfl rfl rfl rfl ⟨rfl, rfl, rfl, rfl, rfl⟩ rfl rfl rfl rfl rfl named3 Try.func3 joined3
    (of_decide_eq_true (by kernel_rfl)) (by unfold Func.isWrapper; first | (rw [if_pos (by decide +kernel)]; kernel_rfl) | (rw [if_neg (by decide +kernel)]; exact ⟨rfl, rfl⟩))
    (fun os started H enc _ => lifted3 os started H enc)
#print axioms intersectMatchesReference
end Go.Proofs.Yteellikeoiedbaa
