/- Part of the proof: the evaluation of the program's code and its tie to the machine, or what functions of the program compute over it. -/
import Derived.Test.YteellikeoiedbaaProg
import Derived.Test.YteellikeoiedbaaIB
import Derived.KernelRfl
import Derived.JoinedOf
namespace Go.Proofs.Yteellikeoiedbaa
set_option maxRecDepth 100000
set_option maxHeartbeats 4000000
set_option linter.unusedSimpArgs false
set_option linter.unusedVariables false
open Go Go.Zv
def ordN : List Nat := [
  104, 97, 114, 110, 101, 115, 115, 32, 100, 52, 102, 51, 99, 57, 53, 57, 48, 49, 55, 57, 50, 53, 100, 50, 102, 100, 49, 53, 56, 50, 55, 48, 97, 53, 52, 98, 54, 57, 98, 48, 54, 100,
  49, 48, 51, 98, 99, 99, 50, 48, 97, 56, 51, 57, 102, 49, 50, 50, 99, 57, 50, 98, 97, 101, 97, 53, 51, 54, 98, 97, 51, 51, 32, 99, 117, 116, 32, 97, 116, 32, 97, 109, 98, 105, 100,
  101, 120, 116, 101, 114, 47, 97, 109, 98, 105, 100, 101, 120, 116, 101, 114, 108, 97, 119, 48, 53, 46, 73, 110, 116, 101, 114, 115, 101, 99, 116, 77, 97, 116, 99, 104, 101, 115,
  82, 101, 102, 101, 114, 101, 110, 99, 101, 32, 97, 109, 98, 105, 100, 101, 120, 116, 101, 114, 47, 97, 109, 98, 105, 100, 101, 120, 116, 101, 114, 108, 97, 119, 48, 53, 46, 73,
  110, 116, 101, 114, 115, 101, 99, 116, 79, 114, 83, 101, 112, 97, 114, 97, 116, 101, 100, 32, 97, 109, 98, 105, 100, 101, 120, 116, 101, 114, 47, 97, 109, 98, 105, 100, 101, 120,
  116, 101, 114, 108, 97, 119, 48, 53, 46, 73, 110, 116, 101, 114, 115, 101, 99, 116, 83, 121, 109, 109, 101, 116, 114, 105, 99, 32, 97, 109, 98, 105, 100, 101, 120, 116, 101, 114,
  47, 97, 109, 98, 105, 100, 101, 120, 116, 101, 114, 108, 97, 119, 48, 53, 46, 73, 110, 116, 101, 114, 115, 101, 99, 116, 83, 101, 112, 97, 114, 97, 116, 111, 114, 83, 111, 117,
  110, 100, 32, 97, 109, 98, 105, 100, 101, 120, 116, 101, 114, 47, 97, 109, 98, 105, 100, 101, 120, 116, 101, 114, 108, 97, 119, 48, 53, 46, 73, 110, 116, 101, 114, 115, 101, 99,
  116, 67, 114, 105, 116, 101, 114, 105, 111, 110, 32, 97, 109, 98, 105, 100, 101, 120, 116, 101, 114, 47, 97, 109, 98, 105, 100, 101, 120, 116, 101, 114, 108, 97, 119, 48, 53, 46,
  73, 110, 116, 101, 114, 115, 101, 99, 116, 84, 114, 97, 110, 115, 108, 97, 116, 105, 111, 110, 73, 110, 118, 97, 114, 105, 97, 110, 116, 32, 97, 109, 98, 105, 100, 101, 120, 116,
  101, 114, 47, 97, 109, 98, 105, 100, 101, 120, 116, 101, 114, 108, 97, 119, 48, 51, 46, 80, 111, 108, 121, 103, 111, 110, 73, 110, 118, 97, 114, 105, 97, 110, 116, 85, 110, 100,
  101, 114, 67, 121, 99, 108, 105, 99, 83, 104, 105, 102, 116, 32, 97, 109, 98, 105, 100, 101, 120, 116, 101, 114, 47, 97, 109, 98, 105, 100, 101, 120, 116, 101, 114, 108, 97, 119,
  48, 51, 46, 80, 111, 108, 121, 103, 111, 110, 65, 114, 101, 97, 70, 114, 111, 109, 84, 114, 105, 97, 110, 103, 108, 101, 115, 32, 97, 109, 98, 105, 100, 101, 120, 116, 101, 114,
  47, 97, 109, 98, 105, 100, 101, 120, 116, 101, 114, 108, 97, 119, 48, 51, 46, 80, 111, 108, 121, 103, 111, 110, 67, 117, 116, 80, 114, 101, 115, 101, 114, 118, 101, 115, 65, 114,
  101, 97, 32, 97, 109, 98, 105, 100, 101, 120, 116, 101, 114, 47, 97, 109, 98, 105, 100, 101, 120, 116, 101, 114, 108, 97, 119, 48, 51, 46, 80, 111, 108, 121, 103, 111, 110, 84,
  114, 97, 110, 115, 108, 97, 116, 105, 111, 110, 80, 114, 101, 115, 101, 114, 118, 101, 115, 71, 101, 111, 109, 101, 116, 114, 121, 32, 97, 109, 98, 105, 100, 101, 120, 116, 101,
  114, 47, 97, 109, 98, 105, 100, 101, 120, 116, 101, 114, 108, 97, 119, 48, 51, 46, 80, 111, 108, 121, 103, 111, 110, 82, 111, 116, 97, 116, 105, 111, 110, 80, 114, 101, 115, 101,
  114, 118, 101, 115, 71, 101, 111, 109, 101, 116, 114, 121, 32, 97, 109, 98, 105, 100, 101, 120, 116, 101, 114, 47, 97, 109, 98, 105, 100, 101, 120, 116, 101, 114, 108, 97, 119, 48,
  51, 46, 80, 111, 108, 121, 103, 111, 110, 76, 111, 99, 97, 116, 105, 111, 110, 73, 115, 67, 111, 110, 115, 105, 115, 116, 101, 110, 116]
theorem ordS0 : Try.prog.initOrder = "harness d4f3c959017925d2fd158270a54b69b06d103bcc20a839f122c92baea536ba33 cut at ambidexter/ambidexterlaw05.IntersectMatchesReference ambidexter/ambidexterlaw05.IntersectOrSeparated ambidexter/ambidexterlaw05.IntersectSymmetric ambidexter/ambidexterlaw05.IntersectSeparatorSound ambidexter/ambidexterlaw05.IntersectCriterion ambidexter/ambidexterlaw05.IntersectTranslationInvariant ambidexter/ambidexterlaw03.PolygonInvariantUnderCyclicShift ambidexter/ambidexterlaw03.PolygonAreaFromTriangles ambidexter/ambidexterlaw03.PolygonCutPreservesArea ambidexter/ambidexterlaw03.PolygonTranslationPreservesGeometry ambidexter/ambidexterlaw03.PolygonRotationPreservesGeometry ambidexter/ambidexterlaw03.PolygonLocationIsConsistent" := by kernel_rfl
theorem ordS1 : "harness d4f3c959017925d2fd158270a54b69b06d103bcc20a839f122c92baea536ba33 cut at ambidexter/ambidexterlaw05.IntersectMatchesReference ambidexter/ambidexterlaw05.IntersectOrSeparated ambidexter/ambidexterlaw05.IntersectSymmetric ambidexter/ambidexterlaw05.IntersectSeparatorSound ambidexter/ambidexterlaw05.IntersectCriterion ambidexter/ambidexterlaw05.IntersectTranslationInvariant ambidexter/ambidexterlaw03.PolygonInvariantUnderCyclicShift ambidexter/ambidexterlaw03.PolygonAreaFromTriangles ambidexter/ambidexterlaw03.PolygonCutPreservesArea ambidexter/ambidexterlaw03.PolygonTranslationPreservesGeometry ambidexter/ambidexterlaw03.PolygonRotationPreservesGeometry ambidexter/ambidexterlaw03.PolygonLocationIsConsistent" = String.ofList (ordN.map Char.ofNat) := by kernel_rfl
theorem ordS : Try.prog.initOrder = String.ofList (ordN.map Char.ofNat) := ordS0.trans ordS1
theorem ordL : Try.prog.initOrder.toList = ordN.map Char.ofNat := by rw [ordS, String.toList_ofList]
def ordW : List (List Char) := behindMainWord (wordsSigns (ordN.map Char.ofNat))
theorem ordW_c : ordW = "cut".toList :: ordW.tail := by kernel_rfl
theorem strip_ : stripLifts liftWords ("cut".toList :: ordW.tail) = ([], "cut".toList :: ordW.tail) := by kernel_rfl
theorem lays_ : Try.prog.laysLater = false := by kernel_rfl
theorem refl_ : Try.prog.bearsReflect = false := by kernel_rfl
theorem door_ : Try.prog.doorFits [] = true := by kernel_rfl
theorem beh_ : behindMainWord (wordsSigns Try.prog.initOrder.toList) = "cut".toList :: ordW.tail := by rw [ordL]; exact ordW_c
theorem enters_ : Try.prog.mayEnter = true := by
  rw [Program.mayEnter.eq_1, beh_]
  simp only [strip_, lays_, refl_, door_, List.contains_nil, Bool.not_false, Bool.or_true, Bool.and_true, List.head?_cons]
  kernel_rfl
theorem lifts_ : Try.prog.liftsFinal = false := by
  rw [Program.liftsFinal.eq_1, Program.headLifts.eq_1, beh_]
  simp only [strip_]
  kernel_rfl
theorem make_ : Try.prog.make = some .cut := by
  rw [Program.make.eq_1, beh_]
  kernel_rfl
end Go.Proofs.Yteellikeoiedbaa
