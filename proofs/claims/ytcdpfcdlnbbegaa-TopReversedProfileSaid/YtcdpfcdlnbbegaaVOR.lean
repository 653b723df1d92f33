/- Part of the proof: the evaluation of the program's code and its tie to the machine, or what functions of the program compute over it. -/
import Derived.Test.YtcdpfcdlnbbegaaProg
import Derived.Test.YtcdpfcdlnbbegaaVB
import Derived.KernelRfl
import Derived.JoinedOf
namespace Go.Proofs.Ytcdpfcdlnbbegaa
set_option maxRecDepth 100000
set_option maxHeartbeats 4000000
set_option linter.unusedSimpArgs false
set_option linter.unusedVariables false
open Go Go.Zv
def ordN : List Nat := [
  104, 97, 114, 110, 101, 115, 115, 32, 54, 50, 98, 99, 56, 54, 101, 56, 52, 101, 54, 53, 49, 53, 53, 52, 54, 52, 51, 102, 98, 99, 48, 55, 98, 53, 51, 49, 55, 98, 97, 102, 99, 100,
  57, 50, 54, 51, 52, 56, 49, 49, 50, 49, 100, 50, 51, 101, 98, 100, 99, 55, 98, 100, 48, 54, 51, 98, 99, 101, 101, 48, 55, 102, 32, 99, 117, 116, 32, 97, 116, 32, 97, 109, 98, 105,
  100, 101, 120, 116, 101, 114, 47, 97, 109, 98, 105, 100, 101, 120, 116, 101, 114, 116, 111, 112, 46, 84, 111, 112, 82, 101, 118, 101, 114, 115, 101, 100, 80, 114, 111, 102, 105,
  108, 101]
theorem ordS0 : Try.prog.initOrder = "harness 62bc86e84e651554643fbc07b5317bafcd9263481121d23ebdc7bd063bcee07f cut at ambidexter/ambidextertop.TopReversedProfile" := by kernel_rfl
theorem ordS1 : "harness 62bc86e84e651554643fbc07b5317bafcd9263481121d23ebdc7bd063bcee07f cut at ambidexter/ambidextertop.TopReversedProfile" = String.ofList (ordN.map Char.ofNat) := by kernel_rfl
theorem ordS : Try.prog.initOrder = String.ofList (ordN.map Char.ofNat) := ordS0.trans ordS1
theorem ordL : Try.prog.initOrder.toList = ordN.map Char.ofNat := by rw [ordS, String.toList_ofList]
def ordW : List (List Char) := behindMainWord (wordsSigns (ordN.map Char.ofNat))
theorem ordW_c : ordW = "cut".toList :: ordW.tail := by kernel_rfl
theorem strip_ : stripLifts liftWords ("cut".toList :: ordW.tail) = ([], "cut".toList :: ordW.tail) := by kernel_rfl
theorem lays_ : Try.prog.laysLater = false := by kernel_rfl
theorem refl_ : Try.prog.bearsReflect = false := by kernel_rfl
theorem door_ : Try.prog.doorFits [] = true := by kernel_rfl
theorem beh_ : behindMainWord (wordsSigns Try.prog.initOrder.toList) = "cut".toList :: ordW.tail := by rw [ordL]; exact ordW_c
theorem enters_ : Try.prog.mayEnter = true := by
  rw [Program.mayEnter.eq_1, beh_]
  simp only [strip_, lays_, refl_, door_, List.contains_nil, Bool.not_false, Bool.or_true, Bool.and_true, List.head?_cons]
  kernel_rfl
theorem lifts_ : Try.prog.liftsFinal = false := by
  rw [Program.liftsFinal.eq_1, Program.headLifts.eq_1, beh_]
  simp only [strip_]
  kernel_rfl
theorem make_ : Try.prog.make = some .cut := by
  rw [Program.make.eq_1, beh_]
  kernel_rfl
end Go.Proofs.Ytcdpfcdlnbbegaa
