/- Part of the proof: the evaluation of the program's code and its tie to the machine, or what functions of the program compute over it. -/
import Derived.Test.YtbpneedpcccpaaaGreatCKMR
set_option maxRecDepth 100000
set_option maxHeartbeats 4000000
set_option linter.unusedSimpArgs false
set_option linter.unusedVariables false
namespace Go.Proofs.YtbpneedpcccpaaaGreat
open Go Go.Zv
def tState : Ty:=.cat [.cat [t3,t3],.cat [.int .i64,.int .i64],.slice (.int .i64)]
def tS2 : Ty:=.cat [.int .i16,.int .i16]
end Go.Proofs.YtbpneedpcccpaaaGreat
