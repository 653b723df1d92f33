/- Part of the proof: what functions of the program compute, over the evaluation that the engine's texts tie to the machine. -/
import Derived.Test.YtojjdhdflhcdkaaRows
import Derived.Test.YtojjdhdflhcdkaaGB
import Derived.Test.YtojjdhdflhcdkaaG1
namespace Go.Proofs.Ytojjdhdflhcdkaa
set_option maxRecDepth 100000
set_option maxHeartbeats 4000000
set_option linter.unusedSimpArgs false
set_option linter.unusedVariables false
open Go Go.Zv
theorem own : ownKnob Try.prog.godebug = none := by kernel_rfl
def tPt : Ty := .cat [.int .i64, .int .i64]
theorem has_pts {xs : List (List LV)} (h : ∀ x ∈ xs, Has tPt x) : ∃ l : List (Int × Int), xs = l.map c2 ∧ ∀ p ∈ l, IntKind.i64.min ≤ p.1 ∧ p.1 ≤ IntKind.i64.max ∧ IntKind.i64.min ≤ p.2 ∧ p.2 ≤ IntKind.i64.max := by
  induction xs with
  | nil => exact ⟨[], rfl, by simp⟩
  | cons x xs ih =>
    obtain ⟨l, rfl, hl⟩ := ih fun y hy => h y (by simp [hy])
    obtain ⟨a, b, rfl, ⟨n, rfl, hn⟩, r1, r2, rfl, ⟨m, rfl, hm⟩, rfl⟩ := h x (by simp)
    refine ⟨(n, m) :: l, by simp [c2], fun p hp => ?_⟩
    simp only [List.mem_cons] at hp
    rcases hp with rfl | hp
    · exact ⟨hn.1, hn.2, hm.1, hm.2⟩
    · exact hl p hp
end Go.Proofs.Ytojjdhdflhcdkaa
