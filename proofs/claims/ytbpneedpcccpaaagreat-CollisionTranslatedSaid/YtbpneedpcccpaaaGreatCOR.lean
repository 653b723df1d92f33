/- Part of the proof: the evaluation of the program's code and its tie to the machine, or what functions of the program compute over it. -/
import Derived.Test.YtbpneedpcccpaaaGreatProg
import Derived.Test.YtbpneedpcccpaaaGreatCB
import Derived.KernelRfl
import Derived.JoinedOf
set_option maxRecDepth 100000
set_option maxHeartbeats 4000000
set_option linter.unusedSimpArgs false
set_option linter.unusedVariables false
namespace Go.Proofs.YtbpneedpcccpaaaGreat
open Go Go.Zv
def ordN : List Nat:=[
 104,97,114,110,101,115,115,32,99,97,50,52,55,97,102,55,57,50,49,50,100,99,99,57,54,97,99,98,98,102,100,102,51,55,98,102,50,50,52,50,54,102,
 101,99,56,57,102,102,100,99,102,51,56,51,98,50,97,99,54,48,49,48,50,48,55,53,51,100,51,99,101,51,32,99,117,116,32,97,116,32,97,109,98,105,
 100,101,120,116,101,114,47,97,109,98,105,100,101,120,116,101,114,108,97,119,49,52,46,67,111,108,108,105,115,105,111,110,77,97,116,99,104,101,
 115,82,101,102,101,114,101,110,99,101,32,97,109,98,105,100,101,120,116,101,114,47,97,109,98,105,100,101,120,116,101,114,108,97,119,49,52,46,
 67,111,108,108,105,115,105,111,110,84,111,117,99,104,32,97,109,98,105,100,101,120,116,101,114,47,97,109,98,105,100,101,120,116,101,114,108,97,
 119,49,52,46,67,111,108,108,105,115,105,111,110,69,120,99,104,97,110,103,101,100,32,97,109,98,105,100,101,120,116,101,114,47,97,109,98,105,
 100,101,120,116,101,114,108,97,119,49,52,46,67,111,108,108,105,115,105,111,110,65,100,100,70,105,120,116,117,114,101,32,97,109,98,105,100,101,
 120,116,101,114,47,97,109,98,105,100,101,120,116,101,114,108,97,119,49,52,46,67,111,108,108,105,115,105,111,110,73,110,100,101,112,101,110,100,
 101,110,116,32,97,109,98,105,100,101,120,116,101,114,47,97,109,98,105,100,101,120,116,101,114,108,97,119,49,52,46,67,111,108,108,105,115,105,
 111,110,84,114,97,110,115,108,97,116,101,100,32,97,109,98,105,100,101,120,116,101,114,47,97,109,98,105,100,101,120,116,101,114,108,97,119,49,
 52,46,67,111,108,108,105,115,105,111,110,66,111,100,105,101,115]
theorem ordS0 : Tryz.prog.initOrder = "harness ca247af79212dcc96acbbfdf37bf22426fec89ffdcf383b2ac601020753d3ce3 cut at ambidexter/ambidexterlaw14.CollisionMatchesReference ambidexter/ambidexterlaw14.CollisionTouch ambidexter/ambidexterlaw14.CollisionExchanged ambidexter/ambidexterlaw14.CollisionAddFixture ambidexter/ambidexterlaw14.CollisionIndependent ambidexter/ambidexterlaw14.CollisionTranslated ambidexter/ambidexterlaw14.CollisionBodies" := by kernel_rfl
theorem ordS1 : "harness ca247af79212dcc96acbbfdf37bf22426fec89ffdcf383b2ac601020753d3ce3 cut at ambidexter/ambidexterlaw14.CollisionMatchesReference ambidexter/ambidexterlaw14.CollisionTouch ambidexter/ambidexterlaw14.CollisionExchanged ambidexter/ambidexterlaw14.CollisionAddFixture ambidexter/ambidexterlaw14.CollisionIndependent ambidexter/ambidexterlaw14.CollisionTranslated ambidexter/ambidexterlaw14.CollisionBodies" = String.ofList (ordN.map Char.ofNat):=by kernel_rfl
theorem ordS : Tryz.prog.initOrder = String.ofList (ordN.map Char.ofNat):=ordS0.trans ordS1
theorem ordL : Tryz.prog.initOrder.toList = ordN.map Char.ofNat:=by rw [ordS,String.toList_ofList]
def ordW : List (List Char):=behindMainWord (wordsSigns (ordN.map Char.ofNat))
theorem ordW_c : ordW = "cut".toList::ordW.tail:=by kernel_rfl
theorem strip_ : stripLifts liftWords ("cut".toList::ordW.tail) = ([], "cut".toList::ordW.tail):=by kernel_rfl
theorem lays_ : Tryz.prog.laysLater = false:=by kernel_rfl
theorem refl_ : Tryz.prog.bearsReflect = false:=by kernel_rfl
theorem door_ : Tryz.prog.doorFits [] = true:=by kernel_rfl
theorem beh_ : behindMainWord (wordsSigns Tryz.prog.initOrder.toList) = "cut".toList::ordW.tail:=by rw [ordL]; exact ordW_c
theorem enters_ : Tryz.prog.mayEnter = true:=by
 rw [Program.mayEnter.eq_1,beh_]
 simp only [strip_,lays_,refl_,door_,List.contains_nil,Qa5,Qaq,Qax,List.head?_cons]
 kernel_rfl
theorem lifts_ : Tryz.prog.liftsFinal = false:=by
 rw [Program.liftsFinal.eq_1,Program.headLifts.eq_1,beh_]
 simp only [strip_]
 kernel_rfl
theorem make_ : Tryz.prog.make = some .cut:=by
 rw [Program.make.eq_1,beh_]
 kernel_rfl
end Go.Proofs.YtbpneedpcccpaaaGreat
