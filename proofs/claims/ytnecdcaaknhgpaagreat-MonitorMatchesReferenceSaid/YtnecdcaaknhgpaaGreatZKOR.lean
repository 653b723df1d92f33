/- Part of the proof: the evaluation of the program's code and its tie to the machine, or what functions of the program compute over it. -/
import Derived.Test.YtnecdcaaknhgpaaGreatProg
import Derived.Test.YtnecdcaaknhgpaaGreatZB
import Derived.KernelRfl
import Derived.JoinedOf
set_option maxRecDepth 100000
set_option maxHeartbeats 4000000
set_option linter.unusedSimpArgs false
set_option linter.unusedVariables false
namespace Go.Proofs.YtnecdcaaknhgpaaGreat
open Go Go.Zv
def ordN : List Nat := [
 104, 97, 114, 110, 101, 115, 115, 32, 52, 51, 53, 102, 101, 51, 52, 51, 98, 100, 56, 100, 101, 97, 49, 52, 51, 55, 50, 54, 53, 101, 99, 102, 56, 102, 102, 51, 98, 55, 55, 55, 52,
 97, 101, 49, 53, 102, 57, 100, 53, 98, 48, 52, 57, 97, 99, 57, 56, 48, 102, 50, 52, 99, 51, 102, 49, 97, 50, 48, 97, 53, 98, 53, 32, 99, 117, 116, 32, 97, 116, 32, 97, 109, 98,
 105, 100, 101, 120, 116, 101, 114, 47, 97, 109, 98, 105, 100, 101, 120, 116, 101, 114, 108, 97, 119, 50, 55, 46, 77, 111, 110, 105, 116, 111, 114, 77, 97, 116, 99, 104, 101, 115,
 82, 101, 102, 101, 114, 101, 110, 99, 101]
theorem ordS0 : Tryz.prog.initOrder = "harness 435fe343bd8dea1437265ecf8ff3b7774ae15f9d5b049ac980f24c3f1a20a5b5 cut at ambidexter/ambidexterlaw27.MonitorMatchesReference" := by kernel_rfl
theorem ordS1 : "harness 435fe343bd8dea1437265ecf8ff3b7774ae15f9d5b049ac980f24c3f1a20a5b5 cut at ambidexter/ambidexterlaw27.MonitorMatchesReference" = String.ofList (ordN.map Char.ofNat) := by kernel_rfl
theorem ordS : Tryz.prog.initOrder = String.ofList (ordN.map Char.ofNat) := ordS0.trans ordS1
theorem ordL : Tryz.prog.initOrder.toList = ordN.map Char.ofNat := by rw [ordS, String.toList_ofList]
def ordW : List (List Char) := behindMainWord (wordsSigns (ordN.map Char.ofNat))
theorem ordW_c : ordW = "cut".toList :: ordW.tail := by kernel_rfl
theorem strip_ : stripLifts liftWords ("cut".toList :: ordW.tail) = ([], "cut".toList :: ordW.tail) := by kernel_rfl
theorem lays_ : Tryz.prog.laysLater = false := by kernel_rfl
theorem refl_ : Tryz.prog.bearsReflect = false := by kernel_rfl
theorem door_ : Tryz.prog.doorFits [] = true := by kernel_rfl
theorem beh_ : behindMainWord (wordsSigns Tryz.prog.initOrder.toList) = "cut".toList :: ordW.tail := by rw [ordL]; exact ordW_c
theorem enters_ : Tryz.prog.mayEnter = true := by
 rw [Program.mayEnter.eq_1, beh_]
 simp only [strip_, lays_, refl_, door_, List.contains_nil, Bool.not_false, Bool.or_true, Bool.and_true, List.head?_cons]
 kernel_rfl
theorem lifts_ : Tryz.prog.liftsFinal = false := by
 rw [Program.liftsFinal.eq_1, Program.headLifts.eq_1, beh_]
 simp only [strip_]
 kernel_rfl
theorem make_ : Tryz.prog.make = some .cut := by
 rw [Program.make.eq_1, beh_]
 kernel_rfl
end Go.Proofs.YtnecdcaaknhgpaaGreat
