/- Playing the negated jerks of a minimum-time profile from its end leads back to the start within the same limits: the law answers true for every input; no condition. -/
import Derived.Test.YtcdpfcdlnbbegaaRows
import Derived.Test.YtcdpfcdlnbbegaaPart1
import Derived.Test.YtcdpfcdlnbbegaaVRQ
import Derived.Test.YtcdpfcdlnbbegaaVOR
namespace Go.Proofs.Ytcdpfcdlnbbegaa
set_option maxRecDepth 100000
set_option maxHeartbeats 4000000
set_option linter.unusedSimpArgs false
set_option linter.unusedVariables false
open Go Go.Zv
def tys3 : List (Bool × Ty) := [(false, .int .u8), (false, .int .u8), (false, .int .u8), (false, .int .u16)]
theorem row3 (args : List LV) (h : HasAll tys3 args) : pc E 3 args = some (.bool true) := by
  obtain ⟨x1, r1, rfl, ⟨v, hv, v1, v2⟩, x2, r2, rfl, ⟨a, ha, a1, a2⟩, x3, r3, rfl, ⟨j, hj, j1, j2⟩, x4, r4, rfl, ⟨d, hd, d1, d2⟩, rfl⟩ := h
  cases hv; cases ha; cases hj; cases hd
  have e1 : IntKind.u8.min = 0 := rfl
  have e2 : IntKind.u8.max = 255 := rfl
  have e3 : IntKind.u16.min = 0 := rfl
  have e4 : IntKind.u16.max = 65535 := rfl
  rw [e1] at v1 a1 j1
  rw [e2] at v2 a2 j2
  rw [e3] at d1
  rw [e4] at d2
  exact law3 v a j d ⟨v1, v2⟩ ⟨a1, a2⟩ ⟨j1, j2⟩ ⟨d1, d2⟩
theorem lifted3 (os : Os) (started : os.Started) (H : Type) (enc : TypeId × Value → H) :
    ReturnsInHanded {} Try.checked os 3 .any (Rows.topReversedProfileSpec.pre6 enc Try.prog Try.f3 Rows.topReversedProfileRow.domain false) (Rows.topReversedProfileSpec.post enc Try.prog Try.f3 false true false false) := by
  refine returnsInHanded_of_change (C := Try.checked) own started (by kernel_rfl) Try.func3
    (ChangeSpec.witness6 (enc := enc) (C := Try.checked) false ⟨#[], #[.int .u8 0, .int .u8 0, .int .u8 0, .int .u16 0], []⟩ 8 (by kernel_rfl) (by kernel_rfl) (by kernel_rfl) (by kernel_rfl)) ?_
  intro W base args ds gs before hval hW _ _
  exact law_contract (C := Try.checked) (tys := tys3) (tb := 4) mixed E_ok laid (by kernel_rfl) (by kernel_rfl) Try.underlying4 (by kernel_rfl) row3 rfl (fun ds h => by
    have h : ds.length = 4 := h
    match ds, h with
    | [d1, d2, d3, d4], _ => rfl) W base args ds gs before hval hW
theorem named3 : Try.pinned.checked.prog.funcNamed Rows.topReversedProfileRow.func = some 3 := by kernel_rfl
theorem joined3 : joinedFacts Try.prog 3 Try.f3 Rows.topReversedProfileSpec Rows.topReversedProfileRow = true := by
  rw [joinedFacts.eq_1, enters_, lifts_, make_]
  kernel_rfl
theorem topReversedProfile : Rows.TopReversedProfileSaid :=
  OpenClaim.holds_of_wide 3 Try.f3 rfl rfl rfl rfl rfl rfl rfl ⟨rfl, rfl, rfl, rfl, rfl⟩ rfl rfl rfl rfl rfl named3 Try.func3 joined3
    (of_decide_eq_true (by kernel_rfl)) (by unfold Func.isWrapper; first | (rw [if_pos (by decide +kernel)]; kernel_rfl) | (rw [if_neg (by decide +kernel)]; exact ⟨rfl, rfl⟩))
    (fun os started H enc _ => lifted3 os started H enc)
#print axioms topReversedProfile
end Go.Proofs.Ytcdpfcdlnbbegaa
