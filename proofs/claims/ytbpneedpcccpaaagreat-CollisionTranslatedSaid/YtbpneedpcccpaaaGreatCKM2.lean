/- Part of the proof: the evaluation of the program's code and its tie to the machine, or what functions of the program compute over it. -/
import Derived.Test.YtbpneedpcccpaaaGreatCKMR
set_option maxRecDepth 100000
set_option maxHeartbeats 4000000
set_option linter.unusedSimpArgs false
set_option linter.unusedVariables false
namespace Go.Proofs.YtbpneedpcccpaaaGreat
open Go Go.Zv
def tState : Ty:=.cat [.cat [t3,t3],.cat [.int .i64,.int .i64],.slice (.int .i64)]
def tS2 : Ty:=.cat [.int .i16,.int .i16]
theorem has_s2 {x : List LV} (h : Has tS2 x) : ∃ a b : Int,x = [.int .i16 a,.int .i16 b]∧(-32768≤a∧a≤32767)∧(-32768≤b∧b≤32767):=by
 obtain ⟨_,_,rfl,⟨a,rfl,a1,a2⟩,_,_,rfl,⟨b,rfl,b1,b2⟩,rfl⟩:=h
 have e1 : IntKind.i16.min = -32768:=rfl
 have e2 : IntKind.i16.max = 32767:=rfl
 rw [e1,e2] at *
 exact ⟨a,b,rfl,⟨a1,a2⟩,⟨b1,b2⟩⟩
end Go.Proofs.YtbpneedpcccpaaaGreat
