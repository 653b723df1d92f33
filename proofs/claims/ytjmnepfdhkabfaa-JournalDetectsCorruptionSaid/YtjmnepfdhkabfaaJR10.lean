/- Changing any single byte of an encoding, cutting it or appending a byte makes it undecodable. -/
import Derived.Test.YtjmnepfdhkabfaaRows
import Derived.Test.YtjmnepfdhkabfaaJR
import Derived.Test.YtjmnepfdhkabfaaJOR
import Derived.Test.YtjmnepfdhkabfaaPart3
namespace Go.Proofs.Ytjmnepfdhkabfaa
set_option maxRecDepth 100000
set_option maxHeartbeats 4000000
set_option linter.unusedSimpArgs false
set_option linter.unusedVariables false
open Go Go.Zv
def tys10 : List (Bool × Ty) := [(true, tRec), (false, .int .u8), (false, .int .u8)]
theorem row10 (args : List LV) (h : HasAll tys10 args) : pc E 10 args = some (.bool true) := by
  obtain ⟨x1, r1, rfl, ⟨d1, rfl, k1⟩, x2, r2, rfl, ⟨n, hn, n1, n2⟩, x3, r3, rfl, ⟨m, hm, m1, m2⟩, rfl⟩ := h
  cases hn; cases hm
  obtain ⟨r, rfl, _⟩ := has_rec k1
  obtain ⟨a, rfl⟩ := u8_byte n1 n2
  obtain ⟨b, rfl⟩ := u8_byte m1 m2
  exact law10 c31 r a b
theorem lifted10 (os : Os) (started : os.Started) (H : Type) (enc : TypeId × Value → H) :
    ReturnsInHanded {} Try.checked os 10 .any (Rows.journalDetectsCorruptionSpec.pre6 enc Try.prog Try.f10 Rows.journalDetectsCorruptionRow.domain false) (Rows.journalDetectsCorruptionSpec.post enc Try.prog Try.f10 false true false false) := by
  refine returnsInHanded_of_change (C := Try.checked) own started (by kernel_rfl) Try.func10
    (ChangeSpec.witness6 (enc := enc) (C := Try.checked) false ⟨#[], #[.agg #[.int .i64 0, .int .i64 0, .int .i64 0, .int .i64 0, .int .i64 0, .int .i64 0, .int .i64 0, .int .i64 0, .int .i64 0, .int .i64 0, .slice none 0 0, .int .i64 0], .int .u8 0, .int .u8 0], []⟩ 8 (by kernel_rfl) (by kernel_rfl) (by kernel_rfl) (by kernel_rfl)) ?_
  intro W base args ds gs before hval hW _ _
  exact law_contract (C := Try.checked) (tys := tys10) (tb := 4) mixed E_ok laid (by kernel_rfl) (by kernel_rfl) Try.underlying4 (by kernel_rfl) row10 rfl (fun ds h => by
    have h : ds.length = 3 := h
    match ds, h with
    | [d1, d2, d3], _ => rfl) W base args ds gs before hval hW
theorem named10 : Try.pinned.checked.prog.funcNamed Rows.journalDetectsCorruptionRow.func = some 10 := by kernel_rfl
theorem joined10 : joinedFacts Try.prog 10 Try.f10 Rows.journalDetectsCorruptionSpec Rows.journalDetectsCorruptionRow = true := by
  rw [joinedFacts.eq_1, enters_, lifts_, make_]
  kernel_rfl
theorem journalDetectsCorruption : Rows.JournalDetectsCorruptionSaid :=
  OpenClaim.holds_of_wide 10 Try.f10 rfl rfl rfl rfl rfl rfl rfl ⟨rfl, rfl, rfl, rfl, rfl⟩ rfl rfl rfl rfl rfl named10 Try.func10 joined10
    (of_decide_eq_true (by kernel_rfl)) (by unfold Func.isWrapper; first | (rw [if_pos (by decide +kernel)]; kernel_rfl) | (rw [if_neg (by decide +kernel)]; exact ⟨rfl, rfl⟩))
    (fun os started H enc _ => lifted10 os started H enc)
#print axioms journalDetectsCorruption
end Go.Proofs.Ytjmnepfdhkabfaa
