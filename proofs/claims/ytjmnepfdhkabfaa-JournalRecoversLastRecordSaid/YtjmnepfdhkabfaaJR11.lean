/- After any sequence of calls of Append, Recover returns the last record that was put and a journal equal to the current one. -/
import Derived.Test.YtjmnepfdhkabfaaRows
import Derived.Test.YtjmnepfdhkabfaaJR
import Derived.Test.YtjmnepfdhkabfaaJOR
import Derived.Test.YtjmnepfdhkabfaaPart3
namespace Go.Proofs.Ytjmnepfdhkabfaa
set_option maxRecDepth 100000
set_option maxHeartbeats 4000000
set_option linter.unusedSimpArgs false
set_option linter.unusedVariables false
open Go Go.Zv
def tys11 : List (Bool × Ty) := [(false, .int .u8), (false, .slice tRec)]
theorem row11 (args : List LV) (h : HasAll tys11 args) : pc E 11 args = some (.bool true) := by
  obtain ⟨x1, r1, rfl, ⟨n, hn, n1, n2⟩, x2, r2, rfl, ⟨l, hl, hll, kl⟩, rfl⟩ := h
  cases hn; cases hl
  obtain ⟨a, rfl, ha⟩ := u8_nat n1 n2
  obtain ⟨l, rfl⟩ := has_recs kl
  exact law11 c31 a ha l
theorem lifted11 (os : Os) (started : os.Started) (H : Type) (enc : TypeId × Value → H) :
    ReturnsInHanded {} Try.checked os 11 .any (Rows.journalRecoversLastRecordSpec.pre6 enc Try.prog Try.f11 Rows.journalRecoversLastRecordRow.domain false) (Rows.journalRecoversLastRecordSpec.post enc Try.prog Try.f11 false true false false) := by
  refine returnsInHanded_of_change (C := Try.checked) own started (by kernel_rfl) Try.func11
    (ChangeSpec.witness6 (enc := enc) (C := Try.checked) false ⟨#[], #[.int .u8 0, .slice none 0 0], []⟩ 8 (by kernel_rfl) (by kernel_rfl) (by kernel_rfl) (by kernel_rfl)) ?_
  intro W base args ds gs before hval hW _ _
  exact law_contract (C := Try.checked) (tys := tys11) (tb := 4) mixed E_ok laid (by kernel_rfl) (by kernel_rfl) Try.underlying4 (by kernel_rfl) row11 rfl (fun ds h => by
    have h : ds.length = 2 := h
    match ds, h with
    | [d1, d2], _ => rfl) W base args ds gs before hval hW
theorem named11 : Try.pinned.checked.prog.funcNamed Rows.journalRecoversLastRecordRow.func = some 11 := by kernel_rfl
theorem joined11 : joinedFacts Try.prog 11 Try.f11 Rows.journalRecoversLastRecordSpec Rows.journalRecoversLastRecordRow = true := by
  rw [joinedFacts.eq_1, enters_, lifts_, make_]
  kernel_rfl
theorem journalRecoversLastRecord : Rows.JournalRecoversLastRecordSaid :=
  OpenClaim.holds_of_wide 11 Try.f11 rfl rfl rfl rfl rfl rfl rfl ⟨rfl, rfl, rfl, rfl, rfl⟩ rfl rfl rfl rfl rfl named11 Try.func11 joined11
    (of_decide_eq_true (by kernel_rfl)) (by unfold Func.isWrapper; first | (rw [if_pos (by decide +kernel)]; kernel_rfl) | (rw [if_neg (by decide +kernel)]; exact ⟨rfl, rfl⟩))
    (fun os started H enc _ => lifted11 os started H enc)
#print axioms journalRecoversLastRecord
end Go.Proofs.Ytjmnepfdhkabfaa
