/- For every valid cell, positions and curtains, BracketingJoints, KeepsDistance and Violations return what the reference implementation returns. -/
import Derived.Test.YtnecdcaaknhgpaaGreatRows
import Derived.Test.YtnecdcaaknhgpaaGreatPart3
import Derived.Test.YtnecdcaaknhgpaaGreatZKMR
import Derived.Test.YtnecdcaaknhgpaaGreatZKOR
set_option maxRecDepth 100000
set_option maxHeartbeats 4000000
set_option linter.unusedSimpArgs false
set_option linter.unusedVariables false
namespace Go.Proofs.YtnecdcaaknhgpaaGreat
open Go Go.Zv
def tys3 : List (Bool × Ty) := [(true, tCell), (true, tPos), (true, tPos), (false, .slice .bool), (true, tS3)]
theorem row3 (args : List LV) (h : HasAll tys3 args) : pc E 3 args = some (.bool true) := by
 obtain ⟨x1, r1, rfl, ⟨d1, rfl, k1⟩, x2, r2, rfl, ⟨d2, rfl, k2⟩, x3, r3, rfl, ⟨d3, rfl, k3⟩, x4, r4, rfl, ⟨bs, hb, _, k4⟩, x5, r5, rfl, ⟨d5, rfl, k5⟩, rfl⟩ := h
 cases hb
 obtain ⟨c, rfl⟩ := has_cell k1
 obtain ⟨w0, w1, w2, w3, w4, w5, rfl⟩ := has_pos k2
 obtain ⟨i0, i1, i2, i3, i4, i5, rfl⟩ := has_pos k3
 obtain ⟨br, rfl⟩ := has_bools k4
 obtain ⟨a, b, e, rfl, h0, h1, h2⟩ := has_s3 k5
 exact law3 c w0 w1 w2 w3 w4 w5 i0 i1 i2 i3 i4 i5 br a b e h0 h1 h2
theorem lifted3 (os : Os) (started : os.Started) (H : Type) (enc : TypeId × Value → H) :
  ReturnsInHanded {} Tryz.checked os 3 .any (Rows.monitorMatchesReferenceSpec.pre6 enc Tryz.prog Tryz.f3 Rows.monitorMatchesReferenceRow.domain false) (Rows.monitorMatchesReferenceSpec.post enc Tryz.prog Tryz.f3 false true false false) := by
 refine returnsInHanded_of_change (C := Tryz.checked) own started (by kernel_rfl) Tryz.func3
  (ChangeSpec.witness6 (enc := enc) (C := Tryz.checked) false ⟨#[], #[.agg #[.int .i64 0, .int .i64 0, .int .i64 0, .int .i64 0, .int .i64 0, .int .i64 0, .int .i64 0, .int .i64 0, .int .i64 0, .int .i64 0, .int .i64 0, .int .i64 0, .int .i64 0, .int .i64 0, .int .i64 0, .int .i64 0, .int .i64 0, .int .i64 0, .int .i64 0, .int .i64 0, .int .i64 0, .int .i64 0, .int .i64 0, .int .i64 0, .int .i64 0, .int .i64 0, .int .i64 0, .int .i64 0, .int .i64 0, .int .i64 0, .slice none 0 0, .slice none 0 0, .slice none 0 0, .slice none 0 0, .int .i64 0, .int .i64 0, .int .i64 0, .int .i64 0, .int .i64 0, .int .i64 0, .int .i64 0, .slice none 0 0, .int .i64 0, .int .i64 0], .agg #[.int .i64 0, .int .i64 0, .int .i64 0, .int .i64 0, .int .i64 0, .int .i64 0], .agg #[.int .i64 0, .int .i64 0, .int .i64 0, .int .i64 0, .int .i64 0, .int .i64 0], .slice none 0 0, .agg #[.int .i16 0, .int .i16 0, .int .i16 0]], []⟩ 8 (by kernel_rfl) (by kernel_rfl) (by kernel_rfl) (by kernel_rfl)) ?_
 intro W base args ds gs before hval hW _ _
 exact law_contract (C := Tryz.checked) (tys := tys3) (tb := 4) mixed E_ok laid (by kernel_rfl) (by kernel_rfl) Tryz.underlying4 (by kernel_rfl) row3 rfl (fun ds h => by
  have h : ds.length = 5 := h
  match ds, h with
  | [d1, d2, d3, d4, d5], _ => rfl) W base args ds gs before hval hW
theorem named3 : Tryz.pinned.checked.prog.funcNamed Rows.monitorMatchesReferenceRow.func = some 3 := by kernel_rfl
theorem joined3 : joinedFacts Tryz.prog 3 Tryz.f3 Rows.monitorMatchesReferenceSpec Rows.monitorMatchesReferenceRow = true := by
 rw [joinedFacts.eq_1, enters_, lifts_, make_]
 kernel_rfl
theorem monitorMatchesReference : Rows.MonitorMatchesReferenceSaid :=
 OpenClaim.holds_of_wide 3 Tryz.f3 rfl rfl rfl rfl rfl rfl rfl ⟨rfl, rfl, rfl, rfl, rfl⟩ rfl rfl rfl rfl rfl named3 Tryz.func3 joined3
  (of_decide_eq_true (by kernel_rfl)) (by unfold Func.isWrapper; first | (rw [if_pos (by decide +kernel)]; kernel_rfl) | (rw [if_neg (by decide +kernel)]; exact ⟨rfl, rfl⟩))
  (fun os started H enc _ => lifted3 os started H enc)
#print axioms monitorMatchesReference
end Go.Proofs.YtnecdcaaknhgpaaGreat
