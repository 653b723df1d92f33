/- Part of the proof: the evaluation of the program's code and its tie to the machine, or what functions of the program compute over it. -/
import Derived.Test.YtnecdcaaknhgpaaProg
import Derived.Test.YtnecdcaaknhgpaaKB
import Derived.KernelRfl
import Derived.JoinedOf
set_option maxRecDepth 100000
set_option maxHeartbeats 4000000
set_option linter.unusedSimpArgs false
set_option linter.unusedVariables false
namespace Go.Proofs.Ytnecdcaaknhgpaa
open Go Go.Zv
def ordN : List Nat := [
 104, 97, 114, 110, 101, 115, 115, 32, 100, 98, 48, 55, 52, 100, 100, 50, 98, 54, 102, 51, 55, 51, 99, 102, 49, 57, 99, 56, 48, 57, 48, 55, 48, 54, 55, 56, 53, 51, 51, 56, 56, 56,
 98, 101, 98, 51, 48, 99, 53, 54, 99, 100, 98, 51, 54, 97, 99, 101, 98, 102, 56, 100, 53, 54, 54, 49, 99, 48, 54, 49, 54, 56, 32, 99, 117, 116, 32, 97, 116, 32, 97, 109, 98, 105,
 100, 101, 120, 116, 101, 114, 47, 97, 109, 98, 105, 100, 101, 120, 116, 101, 114, 108, 97, 119, 48, 55, 46, 65, 114, 109, 77, 97, 116, 99, 104, 101, 115, 82, 101, 102, 101, 114,
 101, 110, 99, 101, 32, 97, 109, 98, 105, 100, 101, 120, 116, 101, 114, 47, 97, 109, 98, 105, 100, 101, 120, 116, 101, 114, 108, 97, 119, 48, 55, 46, 65, 114, 109, 77, 111, 118,
 101, 115, 65, 115, 67, 104, 97, 105, 110, 32, 97, 109, 98, 105, 100, 101, 120, 116, 101, 114, 47, 97, 109, 98, 105, 100, 101, 120, 116, 101, 114, 108, 97, 119, 48, 55, 46, 65, 114,
 109, 67, 111, 109, 112, 111, 115, 101, 115, 82, 111, 116, 97, 116, 105, 111, 110, 115, 32, 97, 109, 98, 105, 100, 101, 120, 116, 101, 114, 47, 97, 109, 98, 105, 100, 101, 120, 116,
 101, 114, 108, 97, 119, 48, 55, 46, 65, 114, 109, 83, 116, 101, 112, 115, 65, 114, 101, 82, 101, 118, 101, 114, 115, 105, 98, 108, 101, 32, 97, 109, 98, 105, 100, 101, 120, 116,
 101, 114, 47, 97, 109, 98, 105, 100, 101, 120, 116, 101, 114, 108, 97, 119, 48, 55, 46, 65, 114, 109, 82, 101, 97, 99, 104, 73, 115, 66, 111, 117, 110, 100, 101, 100, 32, 97, 109,
 98, 105, 100, 101, 120, 116, 101, 114, 47, 97, 109, 98, 105, 100, 101, 120, 116, 101, 114, 108, 97, 119, 48, 55, 46, 65, 114, 109, 76, 105, 110, 107, 115, 65, 114, 101, 82, 105,
 103, 105, 100, 32, 97, 109, 98, 105, 100, 101, 120, 116, 101, 114, 47, 97, 109, 98, 105, 100, 101, 120, 116, 101, 114, 116, 111, 112, 46, 84, 111, 112, 81, 117, 97, 114, 116, 101,
 114, 84, 117, 114, 110, 32, 97, 109, 98, 105, 100, 101, 120, 116, 101, 114, 47, 97, 109, 98, 105, 100, 101, 120, 116, 101, 114, 108, 97, 119, 50, 55, 46, 77, 111, 110, 105, 116,
 111, 114, 66, 114, 97, 99, 107, 101, 116, 115, 80, 111, 115, 105, 116, 105, 111, 110, 115, 32, 97, 109, 98, 105, 100, 101, 120, 116, 101, 114, 47, 97, 109, 98, 105, 100, 101, 120,
 116, 101, 114, 108, 97, 119, 50, 55, 46, 77, 111, 110, 105, 116, 111, 114, 68, 101, 116, 101, 99, 116, 115, 83, 112, 101, 101, 100, 32, 97, 109, 98, 105, 100, 101, 120, 116, 101,
 114, 47, 97, 109, 98, 105, 100, 101, 120, 116, 101, 114, 108, 97, 119, 50, 55, 46, 77, 111, 110, 105, 116, 111, 114, 73, 115, 77, 111, 110, 111, 116, 111, 110, 105, 99, 32, 97,
 109, 98, 105, 100, 101, 120, 116, 101, 114, 47, 97, 109, 98, 105, 100, 101, 120, 116, 101, 114, 108, 97, 119, 50, 55, 46, 77, 111, 110, 105, 116, 111, 114, 68, 101, 116, 101, 99,
 116, 115, 67, 111, 110, 116, 97, 99, 116]
theorem ordS0 : Try.prog.initOrder = "harness db074dd2b6f373cf19c809070678533888beb30c56cdb36acebf8d5661c06168 cut at ambidexter/ambidexterlaw07.ArmMatchesReference ambidexter/ambidexterlaw07.ArmMovesAsChain ambidexter/ambidexterlaw07.ArmComposesRotations ambidexter/ambidexterlaw07.ArmStepsAreReversible ambidexter/ambidexterlaw07.ArmReachIsBounded ambidexter/ambidexterlaw07.ArmLinksAreRigid ambidexter/ambidextertop.TopQuarterTurn ambidexter/ambidexterlaw27.MonitorBracketsPositions ambidexter/ambidexterlaw27.MonitorDetectsSpeed ambidexter/ambidexterlaw27.MonitorIsMonotonic ambidexter/ambidexterlaw27.MonitorDetectsContact" := by kernel_rfl
theorem ordS1 : "harness db074dd2b6f373cf19c809070678533888beb30c56cdb36acebf8d5661c06168 cut at ambidexter/ambidexterlaw07.ArmMatchesReference ambidexter/ambidexterlaw07.ArmMovesAsChain ambidexter/ambidexterlaw07.ArmComposesRotations ambidexter/ambidexterlaw07.ArmStepsAreReversible ambidexter/ambidexterlaw07.ArmReachIsBounded ambidexter/ambidexterlaw07.ArmLinksAreRigid ambidexter/ambidextertop.TopQuarterTurn ambidexter/ambidexterlaw27.MonitorBracketsPositions ambidexter/ambidexterlaw27.MonitorDetectsSpeed ambidexter/ambidexterlaw27.MonitorIsMonotonic ambidexter/ambidexterlaw27.MonitorDetectsContact" = String.ofList (ordN.map Char.ofNat) := by kernel_rfl
theorem ordS : Try.prog.initOrder = String.ofList (ordN.map Char.ofNat) := ordS0.trans ordS1
theorem ordL : Try.prog.initOrder.toList = ordN.map Char.ofNat := by rw [ordS, String.toList_ofList]
def ordW : List (List Char) := behindMainWord (wordsSigns (ordN.map Char.ofNat))
theorem ordW_c : ordW = "cut".toList :: ordW.tail := by kernel_rfl
theorem strip_ : stripLifts liftWords ("cut".toList :: ordW.tail) = ([], "cut".toList :: ordW.tail) := by kernel_rfl
theorem lays_ : Try.prog.laysLater = false := by kernel_rfl
theorem refl_ : Try.prog.bearsReflect = false := by kernel_rfl
theorem door_ : Try.prog.doorFits [] = true := by kernel_rfl
theorem beh_ : behindMainWord (wordsSigns Try.prog.initOrder.toList) = "cut".toList :: ordW.tail := by rw [ordL]; exact ordW_c
theorem enters_ : Try.prog.mayEnter = true := by
 rw [Program.mayEnter.eq_1, beh_]
 simp only [strip_, lays_, refl_, door_, List.contains_nil, Bool.not_false, Bool.or_true, Bool.and_true, List.head?_cons]
 kernel_rfl
theorem lifts_ : Try.prog.liftsFinal = false := by
 rw [Program.liftsFinal.eq_1, Program.headLifts.eq_1, beh_]
 simp only [strip_]
 kernel_rfl
theorem make_ : Try.prog.make = some .cut := by
 rw [Program.make.eq_1, beh_]
 kernel_rfl
end Go.Proofs.Ytnecdcaaknhgpaa
