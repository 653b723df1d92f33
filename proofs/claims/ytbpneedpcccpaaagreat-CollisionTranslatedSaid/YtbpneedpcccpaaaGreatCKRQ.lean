/- Part of the proof: the evaluation of the program's code and its tie to the machine, or what functions of the program compute over it. -/
import Derived.Test.YtbpneedpcccpaaaGreatRows
import Derived.Test.YtbpneedpcccpaaaGreatCB
import Derived.Test.YtbpneedpcccpaaaGreatPart2
import Derived.Test.YtbpneedpcccpaaaGreatPart3
set_option maxRecDepth 100000
set_option maxHeartbeats 4000000
set_option linter.unusedSimpArgs false
set_option linter.unusedVariables false
namespace Go.Proofs.YtbpneedpcccpaaaGreat
open Go Go.Zv
theorem own : ownKnob Tryz.prog.godebug = none:=by kernel_rfl
def t3 : Ty:=.cat [.int .i64,.int .i64,.int .i64]
def tArm : Ty:=.cat [.cat [.int .i64,.int .i64],t3,.int .i64,t3,t3]
def tB3 : Ty:=.cat [.int .u8,.int .u8,.int .u8]
theorem has_3 {x : List LV} (h : Has t3 x) : ∃ a b c : Int,x = [.z a,.z b,.z c]:=by
 obtain ⟨_,_,rfl,⟨a,rfl,_⟩,_,_,rfl,⟨b,rfl,_⟩,_,_,rfl,⟨c,rfl,_⟩,rfl⟩:=h
 exact ⟨a,b,c,rfl⟩
theorem has_b3 {x : List LV} (h : Has tB3 x) : ∃ a b c : Int,x = [.int .u8 a,.int .u8 b,.int .u8 c]∧(0≤a∧a≤255)∧(0≤b∧b≤255)∧(0≤c∧c≤255):=by
 obtain ⟨_,_,rfl,⟨a,rfl,a1,a2⟩,_,_,rfl,⟨b,rfl,b1,b2⟩,_,_,rfl,⟨c,rfl,c1,c2⟩,rfl⟩:=h
 have e1 : IntKind.u8.min = 0:=rfl
 have e2 : IntKind.u8.max = 255:=rfl
 rw [e1,e2] at *
 exact ⟨a,b,c,rfl,⟨a1,a2⟩,⟨b1,b2⟩,⟨c1,c2⟩⟩
theorem has_arm {x : List LV} (h : Has tArm x) : ∃ a : Arm,x = avc a:=by
 obtain ⟨_,_,rfl,⟨_,_,rfl,⟨bx,rfl,_⟩,_,_,rfl,⟨by_,rfl,_⟩,rfl⟩,_,_,rfl,h1,_,_,rfl,⟨w,rfl,_⟩,_,_,rfl,h2,_,_,rfl,h3,rfl⟩:=h
 obtain ⟨l0,l1,l2,rfl⟩:=has_3 h1
 obtain ⟨lo0,lo1,lo2,rfl⟩:=has_3 h2
 obtain ⟨hi0,hi1,hi2,rfl⟩:=has_3 h3
 exact ⟨⟨bx,by_,l0,l1,l2,w,lo0,lo1,lo2,hi0,hi1,hi2⟩,rfl⟩
end Go.Proofs.YtbpneedpcccpaaaGreat
