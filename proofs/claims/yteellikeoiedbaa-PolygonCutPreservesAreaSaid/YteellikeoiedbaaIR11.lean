/- The law PolygonCutPreservesArea answers true for every input; no condition. -/
import Derived.Test.YteellikeoiedbaaRows
import Derived.Test.YteellikeoiedbaaIR
import Derived.Test.YteellikeoiedbaaIQ
import Derived.Test.YteellikeoiedbaaPart3
namespace Go.Proofs.Yteellikeoiedbaa
set_option maxRecDepth 100000
set_option maxHeartbeats 4000000
set_option linter.unusedSimpArgs false
set_option linter.unusedVariables false
open Go Go.Zv
def tys11 : List (Bool × Ty) := [(false, .slice tPt), (false, .int .u8), (false, .int .u8), (true, tPt)]
theorem row11 (args : List LV) (h : HasAll tys11 args) : pc E 11 args = some (.bool true) := by
  obtain ⟨x0, r0, rfl, ⟨p, hp, _, kp⟩, x1, r1, rfl, ⟨f, hf, nf1, nf2⟩, x2, r2, rfl, ⟨t, ht, nt1, nt2⟩, x3, r3, rfl, ⟨dx, rfl, kx⟩, rfl⟩ := h
  cases hp
  obtain ⟨p, rfl⟩ := has_pts kp
  cases hf
  obtain ⟨f, rfl, nf⟩ := u8_nat nf1 nf2
  cases ht
  obtain ⟨t, rfl, nt⟩ := u8_nat nt1 nt2
  obtain ⟨x1, x2, rfl, x3, x4⟩ := has_pt kx
  exact law11 p f nf t nt x1 x2
theorem lifted11 (os : Os) (started : os.Started) (H : Type) (enc : TypeId × Value → H) :
    ReturnsInHanded {} Try.checked os 11 .any (Rows.polygonCutPreservesAreaSpec.pre6 enc Try.prog Try.f11 Rows.polygonCutPreservesAreaRow.domain false) (Rows.polygonCutPreservesAreaSpec.post enc Try.prog Try.f11 false true false false) := by
  refine returnsInHanded_of_change (C := Try.checked) own started (by kernel_rfl) Try.func11
    (ChangeSpec.witness6 (enc := enc) (C := Try.checked) false ⟨#[], #[.slice none 0 0, .int .u8 0, .int .u8 0, .agg #[.int .i64 0, .int .i64 0]], []⟩ 8 (by kernel_rfl) (by kernel_rfl) (by kernel_rfl) (by kernel_rfl)) ?_
  intro W base args ds gs before hval hW _ _
  exact law_contract (C := Try.checked) (tys := tys11) (tb := 4) mixed E_ok laid (by kernel_rfl) (by kernel_rfl) Try.underlying4 (by kernel_rfl) row11 rfl (fun ds h => by
    have h : ds.length = 4 := h
    match ds, h with
    | [d1, d2, d3, d4], _ => rfl) W base args ds gs before hval hW
theorem named11 : Try.pinned.checked.prog.funcNamed Rows.polygonCutPreservesAreaRow.func = some 11 := by kernel_rfl
theorem joined11 : joinedFacts Try.prog 11 Try.f11 Rows.polygonCutPreservesAreaSpec Rows.polygonCutPreservesAreaRow = true := by
  rw [joinedFacts.eq_1, enters_, lifts_, make_]
  kernel_rfl
theorem polygonCutPreservesArea : Rows.PolygonCutPreservesAreaSaid :=
  OpenClaim.holds_of_wide 11 Try.f11 rfl rfl rfl rfl rfl rfl rfl ⟨rfl, rfl, rfl, rfl, rfl⟩ rfl rfl rfl rfl rfl named11 Try.func11 joined11
    (of_decide_eq_true (by kernel_rfl)) (by unfold Func.isWrapper; first | (rw [if_pos (by decide +kernel)]; kernel_rfl) | (rw [if_neg (by decide +kernel)]; exact ⟨rfl, rfl⟩))
    (fun os started H enc _ => lifted11 os started H enc)
#print axioms polygonCutPreservesArea
end Go.Proofs.Yteellikeoiedbaa
