/- Part of the proof: the evaluation of the program's code and its tie to the machine, or what functions of the program compute over it. -/
import Derived.Test.YtjmnepfdhkabfaaProg
import Derived.Test.YtjmnepfdhkabfaaDB
import Derived.KernelRfl
import Derived.JoinedOf
namespace Go.Proofs.Ytjmnepfdhkabfaa
set_option maxRecDepth 100000
set_option maxHeartbeats 4000000
set_option linter.unusedSimpArgs false
set_option linter.unusedVariables false
open Go Go.Zv
def ordN : List Nat := [
  104, 97, 114, 110, 101, 115, 115, 32, 99, 49, 56, 98, 51, 56, 49, 57, 55, 57, 53, 53, 102, 52, 51, 98, 53, 100, 100, 56, 48, 49, 102, 48, 49, 102, 52, 100, 97, 56, 99, 51, 98, 55,
  97, 53, 57, 55, 101, 56, 51, 101, 54, 98, 98, 52, 53, 102, 98, 49, 56, 98, 50, 54, 49, 48, 101, 51, 102, 48, 57, 57, 98, 101, 32, 99, 117, 116, 32, 97, 116, 32, 97, 109, 98, 105,
  100, 101, 120, 116, 101, 114, 47, 97, 109, 98, 105, 100, 101, 120, 116, 101, 114, 108, 97, 119, 51, 48, 46, 68, 105, 115, 107, 77, 97, 116, 99, 104, 101, 115, 82, 101, 102, 101,
  114, 101, 110, 99, 101, 32, 97, 109, 98, 105, 100, 101, 120, 116, 101, 114, 47, 97, 109, 98, 105, 100, 101, 120, 116, 101, 114, 108, 97, 119, 51, 48, 46, 68, 105, 115, 107, 73,
  110, 118, 97, 114, 105, 97, 110, 116, 32, 97, 109, 98, 105, 100, 101, 120, 116, 101, 114, 47, 97, 109, 98, 105, 100, 101, 120, 116, 101, 114, 108, 97, 119, 51, 48, 46, 68, 105,
  115, 107, 68, 117, 114, 97, 98, 108, 101, 32, 97, 109, 98, 105, 100, 101, 120, 116, 101, 114, 47, 97, 109, 98, 105, 100, 101, 120, 116, 101, 114, 108, 97, 119, 51, 48, 46, 68, 105,
  115, 107, 84, 111, 114, 110, 32, 97, 109, 98, 105, 100, 101, 120, 116, 101, 114, 47, 97, 109, 98, 105, 100, 101, 120, 116, 101, 114, 108, 97, 119, 51, 48, 46, 68, 105, 115, 107,
  70, 117, 115, 101, 32, 97, 109, 98, 105, 100, 101, 120, 116, 101, 114, 47, 97, 109, 98, 105, 100, 101, 120, 116, 101, 114, 108, 97, 119, 51, 48, 46, 68, 105, 115, 107, 67, 111,
  109, 109, 117, 116, 101, 32, 97, 109, 98, 105, 100, 101, 120, 116, 101, 114, 47, 97, 109, 98, 105, 100, 101, 120, 116, 101, 114, 108, 97, 119, 51, 49, 46, 74, 111, 117, 114, 110,
  97, 108, 82, 111, 117, 110, 100, 84, 114, 105, 112, 32, 97, 109, 98, 105, 100, 101, 120, 116, 101, 114, 47, 97, 109, 98, 105, 100, 101, 120, 116, 101, 114, 108, 97, 119, 51, 49,
  46, 74, 111, 117, 114, 110, 97, 108, 68, 101, 116, 101, 99, 116, 115, 67, 111, 114, 114, 117, 112, 116, 105, 111, 110, 32, 97, 109, 98, 105, 100, 101, 120, 116, 101, 114, 47, 97,
  109, 98, 105, 100, 101, 120, 116, 101, 114, 108, 97, 119, 51, 49, 46, 74, 111, 117, 114, 110, 97, 108, 82, 101, 99, 111, 118, 101, 114, 115, 76, 97, 115, 116, 82, 101, 99, 111,
  114, 100, 32, 97, 109, 98, 105, 100, 101, 120, 116, 101, 114, 47, 97, 109, 98, 105, 100, 101, 120, 116, 101, 114, 108, 97, 119, 51, 49, 46, 74, 111, 117, 114, 110, 97, 108, 83,
  117, 114, 118, 105, 118, 101, 115, 84, 111, 114, 110, 87, 114, 105, 116, 101, 115, 32, 97, 109, 98, 105, 100, 101, 120, 116, 101, 114, 47, 97, 109, 98, 105, 100, 101, 120, 116,
  101, 114, 108, 97, 119, 51, 49, 46, 74, 111, 117, 114, 110, 97, 108, 83, 117, 114, 118, 105, 118, 101, 115, 82, 101, 112, 101, 97, 116, 101, 100, 67, 114, 97, 115, 104, 101, 115,
  32, 97, 109, 98, 105, 100, 101, 120, 116, 101, 114, 47, 97, 109, 98, 105, 100, 101, 120, 116, 101, 114, 116, 111, 112, 46, 84, 111, 112, 82, 101, 118, 101, 114, 115, 101, 100, 80,
  114, 111, 102, 105, 108, 101]
theorem ordS0 : Try.prog.initOrder = "harness c18b38197955f43b5dd801f01f4da8c3b7a597e83e6bb45fb18b2610e3f099be cut at ambidexter/ambidexterlaw30.DiskMatchesReference ambidexter/ambidexterlaw30.DiskInvariant ambidexter/ambidexterlaw30.DiskDurable ambidexter/ambidexterlaw30.DiskTorn ambidexter/ambidexterlaw30.DiskFuse ambidexter/ambidexterlaw30.DiskCommute ambidexter/ambidexterlaw31.JournalRoundTrip ambidexter/ambidexterlaw31.JournalDetectsCorruption ambidexter/ambidexterlaw31.JournalRecoversLastRecord ambidexter/ambidexterlaw31.JournalSurvivesTornWrites ambidexter/ambidexterlaw31.JournalSurvivesRepeatedCrashes ambidexter/ambidextertop.TopReversedProfile" := by kernel_rfl
theorem ordS1 : "harness c18b38197955f43b5dd801f01f4da8c3b7a597e83e6bb45fb18b2610e3f099be cut at ambidexter/ambidexterlaw30.DiskMatchesReference ambidexter/ambidexterlaw30.DiskInvariant ambidexter/ambidexterlaw30.DiskDurable ambidexter/ambidexterlaw30.DiskTorn ambidexter/ambidexterlaw30.DiskFuse ambidexter/ambidexterlaw30.DiskCommute ambidexter/ambidexterlaw31.JournalRoundTrip ambidexter/ambidexterlaw31.JournalDetectsCorruption ambidexter/ambidexterlaw31.JournalRecoversLastRecord ambidexter/ambidexterlaw31.JournalSurvivesTornWrites ambidexter/ambidexterlaw31.JournalSurvivesRepeatedCrashes ambidexter/ambidextertop.TopReversedProfile" = String.ofList (ordN.map Char.ofNat) := by kernel_rfl
theorem ordS : Try.prog.initOrder = String.ofList (ordN.map Char.ofNat) := ordS0.trans ordS1
theorem ordL : Try.prog.initOrder.toList = ordN.map Char.ofNat := by rw [ordS, String.toList_ofList]
def ordW : List (List Char) := behindMainWord (wordsSigns (ordN.map Char.ofNat))
theorem ordW_c : ordW = "cut".toList :: ordW.tail := by kernel_rfl
theorem strip_ : stripLifts liftWords ("cut".toList :: ordW.tail) = ([], "cut".toList :: ordW.tail) := by kernel_rfl
theorem lays_ : Try.prog.laysLater = false := by kernel_rfl
theorem refl_ : Try.prog.bearsReflect = false := by kernel_rfl
theorem door_ : Try.prog.doorFits [] = true := by kernel_rfl
theorem beh_ : behindMainWord (wordsSigns Try.prog.initOrder.toList) = "cut".toList :: ordW.tail := by rw [ordL]; exact ordW_c
theorem enters_ : Try.prog.mayEnter = true := by
  rw [Program.mayEnter.eq_1, beh_]
  simp only [strip_, lays_, refl_, door_, List.contains_nil, Bool.not_false, Bool.or_true, Bool.and_true, List.head?_cons]
  kernel_rfl
theorem lifts_ : Try.prog.liftsFinal = false := by
  rw [Program.liftsFinal.eq_1, Program.headLifts.eq_1, beh_]
  simp only [strip_]
  kernel_rfl
theorem make_ : Try.prog.make = some .cut := by
  rw [Program.make.eq_1, beh_]
  kernel_rfl
end Go.Proofs.Ytjmnepfdhkabfaa
