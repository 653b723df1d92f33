/- Interrupting another curtain removes no violation; increasing Gap never makes KeepsDistance true, and with Gap 0 it is true. -/
import Derived.Test.YtnecdcaaknhgpaaRows
import Derived.Test.YtnecdcaaknhgpaaPart3
import Derived.Test.YtnecdcaaknhgpaaKMR
import Derived.Test.YtnecdcaaknhgpaaKOR
namespace Go.Proofs.Ytnecdcaaknhgpaa
set_option maxRecDepth 100000
set_option maxHeartbeats 4000000
set_option linter.unusedSimpArgs false
set_option linter.unusedVariables false
open Go Go.Zv
def tys12 : List (Bool × Ty) := [(true, tCell), (true, tPos), (true, tPos), (false, .slice .bool), (false, .int .u8), (false, .int .u8)]
theorem row12 (args : List LV) (h : HasAll tys12 args) : pc E 12 args = some (.bool true) := by
  obtain ⟨x1, r1, rfl, ⟨d1, rfl, k1⟩, x2, r2, rfl, ⟨d2, rfl, k2⟩, x3, r3, rfl, ⟨d3, rfl, k3⟩, x4, r4, rfl, ⟨bs, hb, _, k4⟩, x5, r5, rfl, ⟨n, hn, n1, n2⟩, x6, r6, rfl, ⟨m, hm, m1, m2⟩, rfl⟩ := h
  cases hb; cases hn; cases hm
  obtain ⟨c, rfl⟩ := has_cell k1
  obtain ⟨w0, w1, w2, w3, w4, w5, rfl⟩ := has_pos k2
  obtain ⟨i0, i1, i2, i3, i4, i5, rfl⟩ := has_pos k3
  obtain ⟨br, rfl⟩ := has_bools k4
  exact law12 c38 c w0 w1 w2 w3 w4 w5 i0 i1 i2 i3 i4 i5 br n m (u8_rng n1 n2) (u8_rng m1 m2)
theorem lifted12 (os : Os) (started : os.Started) (H : Type) (enc : TypeId × Value → H) :
    ReturnsInHanded {} Try.checked os 12 .any (Rows.monitorIsMonotonicSpec.pre6 enc Try.prog Try.f12 Rows.monitorIsMonotonicRow.domain false) (Rows.monitorIsMonotonicSpec.post enc Try.prog Try.f12 false true false false) := by
  refine returnsInHanded_of_change (C := Try.checked) own started (by kernel_rfl) Try.func12
    (ChangeSpec.witness6 (enc := enc) (C := Try.checked) false ⟨#[], #[.agg #[.int .i64 0, .int .i64 0, .int .i64 0, .int .i64 0, .int .i64 0, .int .i64 0, .int .i64 0, .int .i64 0, .int .i64 0, .int .i64 0, .int .i64 0, .int .i64 0, .int .i64 0, .int .i64 0, .int .i64 0, .int .i64 0, .int .i64 0, .int .i64 0, .int .i64 0, .int .i64 0, .int .i64 0, .int .i64 0, .int .i64 0, .int .i64 0, .int .i64 0, .int .i64 0, .int .i64 0, .int .i64 0, .int .i64 0, .int .i64 0, .slice none 0 0, .slice none 0 0, .slice none 0 0, .slice none 0 0, .int .i64 0, .int .i64 0, .int .i64 0, .int .i64 0, .int .i64 0, .int .i64 0, .int .i64 0, .slice none 0 0, .int .i64 0, .int .i64 0], .agg #[.int .i64 0, .int .i64 0, .int .i64 0, .int .i64 0, .int .i64 0, .int .i64 0], .agg #[.int .i64 0, .int .i64 0, .int .i64 0, .int .i64 0, .int .i64 0, .int .i64 0], .slice none 0 0, .int .u8 0, .int .u8 0], []⟩ 8 (by kernel_rfl) (by kernel_rfl) (by kernel_rfl) (by kernel_rfl)) ?_
  intro W base args ds gs before hval hW _ _
  exact law_contract (C := Try.checked) (tys := tys12) (tb := 4) mixed E_ok laid (by kernel_rfl) (by kernel_rfl) Try.underlying4 (by kernel_rfl) row12 rfl (fun ds h => by
    have h : ds.length = 6 := h
    match ds, h with
    | [d1, d2, d3, d4, d5, d6], _ => rfl) W base args ds gs before hval hW
theorem named12 : Try.pinned.checked.prog.funcNamed Rows.monitorIsMonotonicRow.func = some 12 := by kernel_rfl
theorem joined12 : joinedFacts Try.prog 12 Try.f12 Rows.monitorIsMonotonicSpec Rows.monitorIsMonotonicRow = true := by
  rw [joinedFacts.eq_1, enters_, lifts_, make_]
  kernel_rfl
theorem monitorIsMonotonic : Rows.MonitorIsMonotonicSaid :=
  OpenClaim.holds_of_wide 12 Try.f12 rfl rfl rfl rfl rfl rfl rfl ⟨rfl, rfl, rfl, rfl, rfl⟩ rfl rfl rfl rfl rfl named12 Try.func12 joined12
    (of_decide_eq_true (by kernel_rfl)) (by unfold Func.isWrapper; first | (rw [if_pos (by decide +kernel)]; kernel_rfl) | (rw [if_neg (by decide +kernel)]; exact ⟨rfl, rfl⟩))
    (fun os started H enc _ => lifted12 os started H enc)
#print axioms monitorIsMonotonic
end Go.Proofs.Ytnecdcaaknhgpaa
