/- Part of the proof: the evaluation of the program's code and its tie to the machine, or what functions of the program compute over it. -/
import Derived.Test.YtcdpfcdlnbbegaaRows
import Derived.Test.YtcdpfcdlnbbegaaVB
import Derived.Test.YtcdpfcdlnbbegaaPart1
namespace Go.Proofs.Ytcdpfcdlnbbegaa
set_option maxRecDepth 100000
set_option maxHeartbeats 4000000
set_option linter.unusedSimpArgs false
set_option linter.unusedVariables false
open Go Go.Zv
theorem own : ownKnob Try.prog.godebug = none := by kernel_rfl
end Go.Proofs.Ytcdpfcdlnbbegaa
