/- If the power is lost during any write, after any number of bytes, Recover returns the last record that was written or the one that was being written. -/
import Derived.Test.YtjmnepfdhkabfaaRows
import Derived.Test.YtjmnepfdhkabfaaJR
import Derived.Test.YtjmnepfdhkabfaaJOR
import Derived.Test.YtjmnepfdhkabfaaPart3
namespace Go.Proofs.Ytjmnepfdhkabfaa
set_option maxRecDepth 100000
set_option maxHeartbeats 4000000
set_option linter.unusedSimpArgs false
set_option linter.unusedVariables false
open Go Go.Zv
def tys12 : List (Bool × Ty) := [(false, .int .u8), (false, .slice tRec), (false, .int .u8), (false, .int .u8)]
theorem row12 (args : List LV) (h : HasAll tys12 args) : pc E 12 args = some (.bool true) := by
  obtain ⟨x1, r1, rfl, ⟨n, hn, n1, n2⟩, x2, r2, rfl, ⟨l, hl, hll, kl⟩, x3, r3, rfl, ⟨f, hf, f1, f2⟩, x4, r4, rfl, ⟨t, ht, t1, t2⟩, rfl⟩ := h
  cases hn; cases hl; cases hf; cases ht
  obtain ⟨a, rfl, ha⟩ := u8_nat n1 n2
  obtain ⟨f, rfl, hf⟩ := u8_nat f1 f2
  obtain ⟨t, rfl, ht⟩ := u8_nat t1 t2
  obtain ⟨l, rfl⟩ := has_recs kl
  exact law12 c31 a ha l f hf t ht
theorem lifted12 (os : Os) (started : os.Started) (H : Type) (enc : TypeId × Value → H) :
    ReturnsInHanded {} Try.checked os 12 .any (Rows.journalSurvivesTornWritesSpec.pre6 enc Try.prog Try.f12 Rows.journalSurvivesTornWritesRow.domain false) (Rows.journalSurvivesTornWritesSpec.post enc Try.prog Try.f12 false true false false) := by
  refine returnsInHanded_of_change (C := Try.checked) own started (by kernel_rfl) Try.func12
    (ChangeSpec.witness6 (enc := enc) (C := Try.checked) false ⟨#[], #[.int .u8 0, .slice none 0 0, .int .u8 0, .int .u8 0], []⟩ 8 (by kernel_rfl) (by kernel_rfl) (by kernel_rfl) (by kernel_rfl)) ?_
  intro W base args ds gs before hval hW _ _
  exact law_contract (C := Try.checked) (tys := tys12) (tb := 4) mixed E_ok laid (by kernel_rfl) (by kernel_rfl) Try.underlying4 (by kernel_rfl) row12 rfl (fun ds h => by
    have h : ds.length = 4 := h
    match ds, h with
    | [d1, d2, d3, d4], _ => rfl) W base args ds gs before hval hW
theorem named12 : Try.pinned.checked.prog.funcNamed Rows.journalSurvivesTornWritesRow.func = some 12 := by kernel_rfl
theorem joined12 : joinedFacts Try.prog 12 Try.f12 Rows.journalSurvivesTornWritesSpec Rows.journalSurvivesTornWritesRow = true := by
  rw [joinedFacts.eq_1, enters_, lifts_, make_]
  kernel_rfl
theorem journalSurvivesTornWrites : Rows.JournalSurvivesTornWritesSaid :=
  OpenClaim.holds_of_wide 12 Try.f12 rfl rfl rfl rfl rfl rfl rfl ⟨rfl, rfl, rfl, rfl, rfl⟩ rfl rfl rfl rfl rfl named12 Try.func12 joined12
    (of_decide_eq_true (by kernel_rfl)) (by unfold Func.isWrapper; first | (rw [if_pos (by decide +kernel)]; kernel_rfl) | (rw [if_neg (by decide +kernel)]; exact ⟨rfl, rfl⟩))
    (fun os started H enc _ => lifted12 os started H enc)
#print axioms journalSurvivesTornWrites
end Go.Proofs.Ytjmnepfdhkabfaa
