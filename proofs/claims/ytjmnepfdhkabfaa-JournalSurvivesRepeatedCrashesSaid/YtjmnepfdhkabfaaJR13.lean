/- Over any sequence of appended records, power losses and recoveries, Recover always returns a record that was appended, never one older than the last that is sure. -/
import Derived.Test.YtjmnepfdhkabfaaRows
import Derived.Test.YtjmnepfdhkabfaaJR
import Derived.Test.YtjmnepfdhkabfaaJOR
import Derived.Test.YtjmnepfdhkabfaaPart2
namespace Go.Proofs.Ytjmnepfdhkabfaa
set_option maxRecDepth 100000
set_option maxHeartbeats 4000000
set_option linter.unusedSimpArgs false
set_option linter.unusedVariables false
open Go Go.Zv
def tys13 : List (Bool × Ty) := [(false, .int .u8), (false, .slice tRec), (false, .slice (.cat [.int .u8, .int .u8]))]
theorem row13 (args : List LV) (h : HasAll tys13 args) : pc E 13 args = some (.bool true) := by
  obtain ⟨x1, r1, rfl, ⟨n, hn, n1, n2⟩, x2, r2, rfl, ⟨l, hl, hll, kl⟩, x3, r3, rfl, ⟨m, hm, _, km⟩, rfl⟩ := h
  cases hn; cases hl; cases hm
  obtain ⟨a, rfl, ha⟩ := u8_nat n1 n2
  obtain ⟨l, rfl⟩ := has_recs kl
  obtain ⟨m, rfl⟩ := has_cuts km
  exact law13 c31 a ha l m
theorem lifted13 (os : Os) (started : os.Started) (H : Type) (enc : TypeId × Value → H) :
    ReturnsInHanded {} Try.checked os 13 .any (Rows.journalSurvivesRepeatedCrashesSpec.pre6 enc Try.prog Try.f13 Rows.journalSurvivesRepeatedCrashesRow.domain false) (Rows.journalSurvivesRepeatedCrashesSpec.post enc Try.prog Try.f13 false true false false) := by
  refine returnsInHanded_of_change (C := Try.checked) own started (by kernel_rfl) Try.func13
    (ChangeSpec.witness6 (enc := enc) (C := Try.checked) false ⟨#[], #[.int .u8 0, .slice none 0 0, .slice none 0 0], []⟩ 8 (by kernel_rfl) (by kernel_rfl) (by kernel_rfl) (by kernel_rfl)) ?_
  intro W base args ds gs before hval hW _ _
  exact law_contract (C := Try.checked) (tys := tys13) (tb := 4) mixed E_ok laid (by kernel_rfl) (by kernel_rfl) Try.underlying4 (by kernel_rfl) row13 rfl (fun ds h => by
    have h : ds.length = 3 := h
    match ds, h with
    | [d1, d2, d3], _ => rfl) W base args ds gs before hval hW
theorem named13 : Try.pinned.checked.prog.funcNamed Rows.journalSurvivesRepeatedCrashesRow.func = some 13 := by kernel_rfl
theorem joined13 : joinedFacts Try.prog 13 Try.f13 Rows.journalSurvivesRepeatedCrashesSpec Rows.journalSurvivesRepeatedCrashesRow = true := by
  rw [joinedFacts.eq_1, enters_, lifts_, make_]
  kernel_rfl
theorem journalSurvivesRepeatedCrashes : Rows.JournalSurvivesRepeatedCrashesSaid :=
  OpenClaim.holds_of_wide 13 Try.f13 rfl rfl rfl rfl rfl rfl rfl ⟨rfl, rfl, rfl, rfl, rfl⟩ rfl rfl rfl rfl rfl named13 Try.func13 joined13
    (of_decide_eq_true (by kernel_rfl)) (by unfold Func.isWrapper; first | (rw [if_pos (by decide +kernel)]; kernel_rfl) | (rw [if_neg (by decide +kernel)]; exact ⟨rfl, rfl⟩))
    (fun os started H enc _ => lifted13 os started H enc)
#print axioms journalSurvivesRepeatedCrashes
end Go.Proofs.Ytjmnepfdhkabfaa
