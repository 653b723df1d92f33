/- Part of the proof: the evaluation of the program's code and its tie to the machine, or what functions of the program compute over it. -/
import Derived.Test.YtnecdcaaknhgpaaRows
import Derived.Test.YtnecdcaaknhgpaaKB
import Derived.Test.YtnecdcaaknhgpaaPart2
namespace Go.Proofs.Ytnecdcaaknhgpaa
set_option maxRecDepth 100000
set_option maxHeartbeats 4000000
set_option linter.unusedSimpArgs false
set_option linter.unusedVariables false
open Go Go.Zv
theorem own : ownKnob Try.prog.godebug = none := by kernel_rfl
def t3 : Ty := .cat [.int .i64, .int .i64, .int .i64]
def tArm : Ty := .cat [.cat [.int .i64, .int .i64], t3, .int .i64, t3, t3]
def tB3 : Ty := .cat [.int .u8, .int .u8, .int .u8]
theorem u8_rng {n : Int} (h1 : IntKind.u8.min ≤ n) (h2 : n ≤ IntKind.u8.max) : 0 ≤ n ∧ n ≤ 255 := ⟨h1, h2⟩
end Go.Proofs.Ytnecdcaaknhgpaa
