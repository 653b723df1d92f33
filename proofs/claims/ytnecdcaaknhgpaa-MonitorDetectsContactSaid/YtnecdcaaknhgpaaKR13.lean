/- If links of both arms intersect at lower or upper joints and Gap is at least 1, KeepsDistance is false; InZone is reported exactly for arms with a link that intersects a zone with an interrupted curtain. -/
import Derived.Test.YtnecdcaaknhgpaaRows
import Derived.Test.YtnecdcaaknhgpaaPart3
import Derived.Test.YtnecdcaaknhgpaaKMR
import Derived.Test.YtnecdcaaknhgpaaKOR
set_option maxRecDepth 100000
set_option maxHeartbeats 4000000
set_option linter.unusedSimpArgs false
set_option linter.unusedVariables false
namespace Go.Proofs.Ytnecdcaaknhgpaa
open Go Go.Zv
def tys13 : List (Bool × Ty) := [(true, tCell), (true, tPos), (false, .slice .bool)]
theorem row13 (args : List LV) (h : HasAll tys13 args) : pc E 13 args = some (.bool true) := by
 obtain ⟨x1, r1, rfl, ⟨d1, rfl, k1⟩, x2, r2, rfl, ⟨d2, rfl, k2⟩, x3, r3, rfl, ⟨bs, hb, _, k4⟩, rfl⟩ := h
 cases hb
 obtain ⟨c, rfl⟩ := has_cell k1
 obtain ⟨i0, i1, i2, i3, i4, i5, rfl⟩ := has_pos k2
 obtain ⟨br, rfl⟩ := has_bools k4
 exact law13 c38 c i0 i1 i2 i3 i4 i5 br
theorem lifted13 (os : Os) (started : os.Started) (H : Type) (enc : TypeId × Value → H) :
  ReturnsInHanded {} Try.checked os 13 .any (Rows.monitorDetectsContactSpec.pre6 enc Try.prog Try.f13 Rows.monitorDetectsContactRow.domain false) (Rows.monitorDetectsContactSpec.post enc Try.prog Try.f13 false true false false) := by
 refine returnsInHanded_of_change (C := Try.checked) own started (by kernel_rfl) Try.func13
  (ChangeSpec.witness6 (enc := enc) (C := Try.checked) false ⟨#[], #[.agg #[.int .i64 0, .int .i64 0, .int .i64 0, .int .i64 0, .int .i64 0, .int .i64 0, .int .i64 0, .int .i64 0, .int .i64 0, .int .i64 0, .int .i64 0, .int .i64 0, .int .i64 0, .int .i64 0, .int .i64 0, .int .i64 0, .int .i64 0, .int .i64 0, .int .i64 0, .int .i64 0, .int .i64 0, .int .i64 0, .int .i64 0, .int .i64 0, .int .i64 0, .int .i64 0, .int .i64 0, .int .i64 0, .int .i64 0, .int .i64 0, .slice none 0 0, .slice none 0 0, .slice none 0 0, .slice none 0 0, .int .i64 0, .int .i64 0, .int .i64 0, .int .i64 0, .int .i64 0, .int .i64 0, .int .i64 0, .slice none 0 0, .int .i64 0, .int .i64 0], .agg #[.int .i64 0, .int .i64 0, .int .i64 0, .int .i64 0, .int .i64 0, .int .i64 0], .slice none 0 0], []⟩ 8 (by kernel_rfl) (by kernel_rfl) (by kernel_rfl) (by kernel_rfl)) ?_
 intro W base args ds gs before hval hW _ _
 exact law_contract (C := Try.checked) (tys := tys13) (tb := 4) mixed E_ok laid (by kernel_rfl) (by kernel_rfl) Try.underlying4 (by kernel_rfl) row13 rfl (fun ds h => by
  have h : ds.length = 3 := h
  match ds, h with
  | [d1, d2, d3], _ => rfl) W base args ds gs before hval hW
theorem named13 : Try.pinned.checked.prog.funcNamed Rows.monitorDetectsContactRow.func = some 13 := by kernel_rfl
theorem joined13 : joinedFacts Try.prog 13 Try.f13 Rows.monitorDetectsContactSpec Rows.monitorDetectsContactRow = true := by
 rw [joinedFacts.eq_1, enters_, lifts_, make_]
 kernel_rfl
theorem monitorDetectsContact : Rows.MonitorDetectsContactSaid :=
 OpenClaim.holds_of_wide 13 Try.f13 rfl rfl rfl rfl rfl rfl rfl ⟨rfl, rfl, rfl, rfl, rfl⟩ rfl rfl rfl rfl rfl named13 Try.func13 joined13
  (of_decide_eq_true (by kernel_rfl)) (by unfold Func.isWrapper; first | (rw [if_pos (by decide +kernel)]; kernel_rfl) | (rw [if_neg (by decide +kernel)]; exact ⟨rfl, rfl⟩))
  (fun os started H enc _ => lifted13 os started H enc)
#print axioms monitorDetectsContact
end Go.Proofs.Ytnecdcaaknhgpaa
