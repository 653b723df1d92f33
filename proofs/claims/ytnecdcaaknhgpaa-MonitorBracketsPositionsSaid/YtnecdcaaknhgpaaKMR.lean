/- Part of the proof: the evaluation of the program's code and its tie to the machine, or what functions of the program compute over it. -/
import Derived.Test.YtnecdcaaknhgpaaKRQ
import Derived.Test.YtnecdcaaknhgpaaPart2
namespace Go.Proofs.Ytnecdcaaknhgpaa
set_option maxRecDepth 100000
set_option maxHeartbeats 4000000
set_option linter.unusedSimpArgs false
set_option linter.unusedVariables false
open Go Go.Zv
def tPt : Ty := .cat [.int .i64, .int .i64]
def tPol : Ty := .slice tPt
def tPlc : Ty := .cat [.str, tPt, t3]
def tPrt : Ty := .cat [.str, tPol, .int .i64]
def tCell : Ty := .cat [.cat [tArm, tArm], .cat [t3, t3], .slice tPol, .slice tPlc, .slice tPrt, .slice (.int .i64), .int .i64, t3, t3, .slice (.cat [tPol]), .int .i64, .int .i64]
def tPos : Ty := .cat [t3, t3]
def tS3 : Ty := .cat [.int .i16, .int .i16, .int .i16]
theorem has_s3 {x : List LV} (h : Has tS3 x) : ∃ a b c : Int, x = [.int .i16 a, .int .i16 b, .int .i16 c] ∧ (-32768 ≤ a ∧ a ≤ 32767) ∧ (-32768 ≤ b ∧ b ≤ 32767) ∧ (-32768 ≤ c ∧ c ≤ 32767) := by
  obtain ⟨_, _, rfl, ⟨a, rfl, a1, a2⟩, _, _, rfl, ⟨b, rfl, b1, b2⟩, _, _, rfl, ⟨c, rfl, c1, c2⟩, rfl⟩ := h
  have e1 : IntKind.i16.min = -32768 := rfl
  have e2 : IntKind.i16.max = 32767 := rfl
  rw [e1, e2] at *
  exact ⟨a, b, c, rfl, ⟨a1, a2⟩, ⟨b1, b2⟩, ⟨c1, c2⟩⟩
end Go.Proofs.Ytnecdcaaknhgpaa
