/- For every arm, joint vector, digits, joint and direction the law returns true. -/
import Derived.Test.YtnecdcaaknhgpaaRows
import Derived.Test.YtnecdcaaknhgpaaKR
import Derived.Test.YtnecdcaaknhgpaaPart3
namespace Go.Proofs.Ytnecdcaaknhgpaa
set_option maxRecDepth 100000
set_option maxHeartbeats 4000000
set_option linter.unusedSimpArgs false
set_option linter.unusedVariables false
open Go Go.Zv
def tys3 : List (Bool × Ty) := [(true, tArm), (true, t3), (true, tB3), (false, .int .i64), (false, .int .i64)]
theorem row3 (args : List LV) (h : HasAll tys3 args) : pc E 3 args = some (.bool true) := by
  obtain ⟨x1, r1, rfl, ⟨d1, rfl, k1⟩, x2, r2, rfl, ⟨d2, rfl, k2⟩, x3, r3, rfl, ⟨d3, rfl, k3⟩, x4, r4, rfl, ⟨m, hm, _⟩, x5, r5, rfl, ⟨i, hi, _⟩, rfl⟩ := h
  cases hm; cases hi
  obtain ⟨a, rfl⟩ := has_arm k1
  obtain ⟨q0, q1, q2, rfl⟩ := has_3 k2
  obtain ⟨p0, p1, p2, rfl, h0, h1, h2⟩ := has_b3 k3
  exact law3 a q0 q1 q2 p0 p1 p2 m i h0 h1 h2
theorem lifted3 (os : Os) (started : os.Started) (H : Type) (enc : TypeId × Value → H) :
    ReturnsInHanded {} Try.checked os 3 .any (Rows.armMatchesReferenceSpec.pre6 enc Try.prog Try.f3 Rows.armMatchesReferenceRow.domain false) (Rows.armMatchesReferenceSpec.post enc Try.prog Try.f3 false true false false) := by
  refine returnsInHanded_of_change (C := Try.checked) own started (by kernel_rfl) Try.func3
    (ChangeSpec.witness6 (enc := enc) (C := Try.checked) false ⟨#[], #[.agg #[.int .i64 0, .int .i64 0, .int .i64 0, .int .i64 0, .int .i64 0, .int .i64 0, .int .i64 0, .int .i64 0, .int .i64 0, .int .i64 0, .int .i64 0, .int .i64 0], .agg #[.int .i64 0, .int .i64 0, .int .i64 0], .agg #[.int .u8 0, .int .u8 0, .int .u8 0], .int .i64 0, .int .i64 0], []⟩ 8 (by kernel_rfl) (by kernel_rfl) (by kernel_rfl) (by kernel_rfl)) ?_
  intro W base args ds gs before hval hW _ _
  exact law_contract (C := Try.checked) (tys := tys3) (tb := 4) mixed E_ok laid (by kernel_rfl) (by kernel_rfl) Try.underlying4 (by kernel_rfl) row3 rfl (fun ds h => by
    have h : ds.length = 5 := h
    match ds, h with
    | [d1, d2, d3, d4, d5], _ => rfl) W base args ds gs before hval hW
theorem armMatchesReference : Rows.ArmMatchesReferenceSaid :=
  OpenClaim.holds_of_wide 3 Try.f3 rfl rfl rfl rfl rfl rfl rfl ⟨rfl, rfl, rfl, rfl, rfl⟩ rfl rfl rfl rfl rfl (by kernel_rfl) Try.func3 (by kernel_rfl)
    (of_decide_eq_true (by kernel_rfl)) (by unfold Func.isWrapper; first | (rw [if_pos (by decide +kernel)]; kernel_rfl) | (rw [if_neg (by decide +kernel)]; exact ⟨rfl, rfl⟩))
    (fun os started H enc _ => lifted3 os started H enc)
#print axioms armMatchesReference
end Go.Proofs.Ytnecdcaaknhgpaa
