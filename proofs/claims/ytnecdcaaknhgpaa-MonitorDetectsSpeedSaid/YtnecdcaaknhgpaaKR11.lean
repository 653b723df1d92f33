/- With all curtains intact a joint causes TooFast exactly if it moves more than V counts; with one interrupted, if it moves more than V or Slow; a joint that stands still never does. -/
import Derived.Test.YtnecdcaaknhgpaaRows
import Derived.Test.YtnecdcaaknhgpaaPart3
import Derived.Test.YtnecdcaaknhgpaaKMR
import Derived.Test.YtnecdcaaknhgpaaKOR
namespace Go.Proofs.Ytnecdcaaknhgpaa
set_option maxRecDepth 100000
set_option maxHeartbeats 4000000
set_option linter.unusedSimpArgs false
set_option linter.unusedVariables false
open Go Go.Zv
def tys11 : List (Bool × Ty) := [(true, tCell), (true, tPos), (true, tPos), (false, .slice .bool)]
theorem row11 (args : List LV) (h : HasAll tys11 args) : pc E 11 args = some (.bool true) := by
  obtain ⟨x1, r1, rfl, ⟨d1, rfl, k1⟩, x2, r2, rfl, ⟨d2, rfl, k2⟩, x3, r3, rfl, ⟨d3, rfl, k3⟩, x4, r4, rfl, ⟨bs, hb, _, k4⟩, rfl⟩ := h
  cases hb
  obtain ⟨c, rfl⟩ := has_cell k1
  obtain ⟨w0, w1, w2, w3, w4, w5, rfl⟩ := has_pos k2
  obtain ⟨i0, i1, i2, i3, i4, i5, rfl⟩ := has_pos k3
  obtain ⟨br, rfl⟩ := has_bools k4
  exact law11 c38 c w0 w1 w2 w3 w4 w5 i0 i1 i2 i3 i4 i5 br
theorem lifted11 (os : Os) (started : os.Started) (H : Type) (enc : TypeId × Value → H) :
    ReturnsInHanded {} Try.checked os 11 .any (Rows.monitorDetectsSpeedSpec.pre6 enc Try.prog Try.f11 Rows.monitorDetectsSpeedRow.domain false) (Rows.monitorDetectsSpeedSpec.post enc Try.prog Try.f11 false true false false) := by
  refine returnsInHanded_of_change (C := Try.checked) own started (by kernel_rfl) Try.func11
    (ChangeSpec.witness6 (enc := enc) (C := Try.checked) false ⟨#[], #[.agg #[.int .i64 0, .int .i64 0, .int .i64 0, .int .i64 0, .int .i64 0, .int .i64 0, .int .i64 0, .int .i64 0, .int .i64 0, .int .i64 0, .int .i64 0, .int .i64 0, .int .i64 0, .int .i64 0, .int .i64 0, .int .i64 0, .int .i64 0, .int .i64 0, .int .i64 0, .int .i64 0, .int .i64 0, .int .i64 0, .int .i64 0, .int .i64 0, .int .i64 0, .int .i64 0, .int .i64 0, .int .i64 0, .int .i64 0, .int .i64 0, .slice none 0 0, .slice none 0 0, .slice none 0 0, .slice none 0 0, .int .i64 0, .int .i64 0, .int .i64 0, .int .i64 0, .int .i64 0, .int .i64 0, .int .i64 0, .slice none 0 0, .int .i64 0, .int .i64 0], .agg #[.int .i64 0, .int .i64 0, .int .i64 0, .int .i64 0, .int .i64 0, .int .i64 0], .agg #[.int .i64 0, .int .i64 0, .int .i64 0, .int .i64 0, .int .i64 0, .int .i64 0], .slice none 0 0], []⟩ 8 (by kernel_rfl) (by kernel_rfl) (by kernel_rfl) (by kernel_rfl)) ?_
  intro W base args ds gs before hval hW _ _
  exact law_contract (C := Try.checked) (tys := tys11) (tb := 4) mixed E_ok laid (by kernel_rfl) (by kernel_rfl) Try.underlying4 (by kernel_rfl) row11 rfl (fun ds h => by
    have h : ds.length = 4 := h
    match ds, h with
    | [d1, d2, d3, d4], _ => rfl) W base args ds gs before hval hW
theorem named11 : Try.pinned.checked.prog.funcNamed Rows.monitorDetectsSpeedRow.func = some 11 := by kernel_rfl
theorem joined11 : joinedFacts Try.prog 11 Try.f11 Rows.monitorDetectsSpeedSpec Rows.monitorDetectsSpeedRow = true := by
  rw [joinedFacts.eq_1, enters_, lifts_, make_]
  kernel_rfl
theorem monitorDetectsSpeed : Rows.MonitorDetectsSpeedSaid :=
  OpenClaim.holds_of_wide 11 Try.f11 rfl rfl rfl rfl rfl rfl rfl ⟨rfl, rfl, rfl, rfl, rfl⟩ rfl rfl rfl rfl rfl named11 Try.func11 joined11
    (of_decide_eq_true (by kernel_rfl)) (by unfold Func.isWrapper; first | (rw [if_pos (by decide +kernel)]; kernel_rfl) | (rw [if_neg (by decide +kernel)]; exact ⟨rfl, rfl⟩))
    (fun os started H enc _ => lifted11 os started H enc)
#print axioms monitorDetectsSpeed
end Go.Proofs.Ytnecdcaaknhgpaa
