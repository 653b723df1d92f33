/- The encoding of a valid record fills a sector and decodes to the record; different records have different encodings; bytes that decode to a record are its encoding. -/
import Derived.Test.YtjmnepfdhkabfaaRows
import Derived.Test.YtjmnepfdhkabfaaJR
import Derived.Test.YtjmnepfdhkabfaaJOR
import Derived.Test.YtjmnepfdhkabfaaPart3
namespace Go.Proofs.Ytjmnepfdhkabfaa
set_option maxRecDepth 100000
set_option maxHeartbeats 4000000
set_option linter.unusedSimpArgs false
set_option linter.unusedVariables false
open Go Go.Zv
def tys9 : List (Bool × Ty) := [(true, tRec), (true, tRec), (false, .slice (.int .u8))]
theorem row9 (args : List LV) (h : HasAll tys9 args) : pc E 9 args = some (.bool true) := by
  obtain ⟨x1, r1, rfl, ⟨d1, rfl, k1⟩, x2, r2, rfl, ⟨d2, rfl, k2⟩, x3, r3, rfl, ⟨b, hb, _, kb⟩, rfl⟩ := h
  cases hb
  obtain ⟨r, rfl, _⟩ := has_rec k1
  obtain ⟨s, rfl, _⟩ := has_rec k2
  obtain ⟨b, rfl⟩ := has_bytes kb
  exact law9 c31 r s b
theorem lifted9 (os : Os) (started : os.Started) (H : Type) (enc : TypeId × Value → H) :
    ReturnsInHanded {} Try.checked os 9 .any (Rows.journalRoundTripSpec.pre6 enc Try.prog Try.f9 Rows.journalRoundTripRow.domain false) (Rows.journalRoundTripSpec.post enc Try.prog Try.f9 false true false false) := by
  refine returnsInHanded_of_change (C := Try.checked) own started (by kernel_rfl) Try.func9
    (ChangeSpec.witness6 (enc := enc) (C := Try.checked) false ⟨#[], #[.agg #[.int .i64 0, .int .i64 0, .int .i64 0, .int .i64 0, .int .i64 0, .int .i64 0, .int .i64 0, .int .i64 0, .int .i64 0, .int .i64 0, .slice none 0 0, .int .i64 0], .agg #[.int .i64 0, .int .i64 0, .int .i64 0, .int .i64 0, .int .i64 0, .int .i64 0, .int .i64 0, .int .i64 0, .int .i64 0, .int .i64 0, .slice none 0 0, .int .i64 0], .slice none 0 0], []⟩ 8 (by kernel_rfl) (by kernel_rfl) (by kernel_rfl) (by kernel_rfl)) ?_
  intro W base args ds gs before hval hW _ _
  exact law_contract (C := Try.checked) (tys := tys9) (tb := 4) mixed E_ok laid (by kernel_rfl) (by kernel_rfl) Try.underlying4 (by kernel_rfl) row9 rfl (fun ds h => by
    have h : ds.length = 3 := h
    match ds, h with
    | [d1, d2, d3], _ => rfl) W base args ds gs before hval hW
theorem named9 : Try.pinned.checked.prog.funcNamed Rows.journalRoundTripRow.func = some 9 := by kernel_rfl
theorem joined9 : joinedFacts Try.prog 9 Try.f9 Rows.journalRoundTripSpec Rows.journalRoundTripRow = true := by
  rw [joinedFacts.eq_1, enters_, lifts_, make_]
  kernel_rfl
theorem journalRoundTrip : Rows.JournalRoundTripSaid :=
  OpenClaim.holds_of_wide 9 Try.f9 rfl rfl rfl rfl rfl rfl rfl ⟨rfl, rfl, rfl, rfl, rfl⟩ rfl rfl rfl rfl rfl named9 Try.func9 joined9
    (of_decide_eq_true (by kernel_rfl)) (by unfold Func.isWrapper; first | (rw [if_pos (by decide +kernel)]; kernel_rfl) | (rw [if_neg (by decide +kernel)]; exact ⟨rfl, rfl⟩))
    (fun os started H enc _ => lifted9 os started H enc)
#print axioms journalRoundTrip
end Go.Proofs.Ytjmnepfdhkabfaa
