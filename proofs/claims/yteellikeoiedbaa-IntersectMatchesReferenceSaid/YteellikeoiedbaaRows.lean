/-
  No cell of these rows narrows 'for every input' (looked for: loops, veiled, ifaces, maps, wideKeys, modest, calm, conditions, laid).
  DERIVED. THE GIVEN ROWS OF THIS SEAT. 12 by the template 'for every input the law returns true; each argument reads behind the call as it read before'; 0 by the template 'total and deterministic' (their statements: YteellikeoiedbaaTotals.lean).
  GIVEN WITH THE SEED: the statements are not yours to turn. If you find one false, say at which input.
  Laid BY PROGRAM, IN A SANDBOX (cutbox-rows.mjs): the forced cells as the released guide's own fill.sh prints them over the translation 6244b0816fa743b3… (all of the seat's roots in one cut). By AI agents, Wed Nov 11 2026. No macro, syntax, notation, axiom, sorry.
-/
import Derived.Test.YteellikeoiedbaaChecked
import GoSem.Claim
import GoSem.ClaimJoined
import GoSem.ClaimMapViews
import Derived.JoinedTies
import Derived.KernelRfl
namespace Go.Proofs.Yteellikeoiedbaa
/- THE CELL 'sum', in the pinned program and in every row, IS THE sha256 OF THE DUMP (.gsa) THAT YteellikeoiedbaaProg.lean LOADS. Nothing in Lean hashes anything: it is a label: what it is worth is what the hold of that sum in a sandbox is worth. -/
noncomputable def Try.pinned : Pinned := { name := "yteellikeoiedbaa", sum := "6244b0816fa743b33ede6111da789b40bcf1b648fdd7a094ec822be75a733771", checked := Try.checked }
namespace Rows
def none {H : Type} : Left H := { results := [], args := [] }

/-- 'ambidexterlaw05.IntersectMatchesReference': WHATEVER THE INPUT: true; the input reads as it did. -/
def intersectMatchesReferenceSpec : ChangeSpec := { name := "intersectMatchesReference", fn := fun _ => fun
  | [d1, d2, d3, d4] => { results := [.lit (.bool true)], args := [d1, d2, d3, d4] }
  | _ => none }
def intersectMatchesReferenceRow : OpenClaim := { program := "yteellikeoiedbaa", sum := "6244b0816fa743b33ede6111da789b40bcf1b648fdd7a094ec822be75a733771", func := "ambidexter/ambidexterlaw05.IntersectMatchesReference", spec := "intersectMatchesReference", unfollowed := true, recurses := true, apart := false }
def IntersectMatchesReferenceSaid : Prop := intersectMatchesReferenceRow.holds Try.pinned (OpenSpec.ofChange intersectMatchesReferenceSpec)

/-- ITS FALSE NEIGHBOUR: 'it returns false'. Refute it at one input. -/
def intersectMatchesReferenceWrong : ChangeSpec := { name := "intersectMatchesReference", fn := fun _ => fun
  | [d1, d2, d3, d4] => { results := [.lit (.bool false)], args := [d1, d2, d3, d4] }
  | _ => none }
def IntersectMatchesReferenceWrongFalsely : Prop := intersectMatchesReferenceRow.holds Try.pinned (OpenSpec.ofChange intersectMatchesReferenceWrong)

/-- 'ambidexterlaw05.IntersectOrSeparated': WHATEVER THE INPUT: true; the input reads as it did. -/
def intersectOrSeparatedSpec : ChangeSpec := { name := "intersectOrSeparated", fn := fun _ => fun
  | [d1, d2] => { results := [.lit (.bool true)], args := [d1, d2] }
  | _ => none }
def intersectOrSeparatedRow : OpenClaim := { program := "yteellikeoiedbaa", sum := "6244b0816fa743b33ede6111da789b40bcf1b648fdd7a094ec822be75a733771", func := "ambidexter/ambidexterlaw05.IntersectOrSeparated", spec := "intersectOrSeparated", unfollowed := true, recurses := true, apart := false }
def IntersectOrSeparatedSaid : Prop := intersectOrSeparatedRow.holds Try.pinned (OpenSpec.ofChange intersectOrSeparatedSpec)

/-- ITS FALSE NEIGHBOUR: 'it returns false'. Refute it at one input. -/
def intersectOrSeparatedWrong : ChangeSpec := { name := "intersectOrSeparated", fn := fun _ => fun
  | [d1, d2] => { results := [.lit (.bool false)], args := [d1, d2] }
  | _ => none }
def IntersectOrSeparatedWrongFalsely : Prop := intersectOrSeparatedRow.holds Try.pinned (OpenSpec.ofChange intersectOrSeparatedWrong)

/-- 'ambidexterlaw05.IntersectSymmetric': WHATEVER THE INPUT: true; the input reads as it did. -/
def intersectSymmetricSpec : ChangeSpec := { name := "intersectSymmetric", fn := fun _ => fun
  | [d1, d2, d3, d4] => { results := [.lit (.bool true)], args := [d1, d2, d3, d4] }
  | _ => none }
def intersectSymmetricRow : OpenClaim := { program := "yteellikeoiedbaa", sum := "6244b0816fa743b33ede6111da789b40bcf1b648fdd7a094ec822be75a733771", func := "ambidexter/ambidexterlaw05.IntersectSymmetric", spec := "intersectSymmetric", unfollowed := true, recurses := true, apart := false }
def IntersectSymmetricSaid : Prop := intersectSymmetricRow.holds Try.pinned (OpenSpec.ofChange intersectSymmetricSpec)

/-- ITS FALSE NEIGHBOUR: 'it returns false'. Refute it at one input. -/
def intersectSymmetricWrong : ChangeSpec := { name := "intersectSymmetric", fn := fun _ => fun
  | [d1, d2, d3, d4] => { results := [.lit (.bool false)], args := [d1, d2, d3, d4] }
  | _ => none }
def IntersectSymmetricWrongFalsely : Prop := intersectSymmetricRow.holds Try.pinned (OpenSpec.ofChange intersectSymmetricWrong)

/-- 'ambidexterlaw05.IntersectSeparatorSound': WHATEVER THE INPUT: true; the input reads as it did. -/
def intersectSeparatorSoundSpec : ChangeSpec := { name := "intersectSeparatorSound", fn := fun _ => fun
  | [d1, d2, d3, d4] => { results := [.lit (.bool true)], args := [d1, d2, d3, d4] }
  | _ => none }
def intersectSeparatorSoundRow : OpenClaim := { program := "yteellikeoiedbaa", sum := "6244b0816fa743b33ede6111da789b40bcf1b648fdd7a094ec822be75a733771", func := "ambidexter/ambidexterlaw05.IntersectSeparatorSound", spec := "intersectSeparatorSound", unfollowed := true, recurses := true, apart := false }
def IntersectSeparatorSoundSaid : Prop := intersectSeparatorSoundRow.holds Try.pinned (OpenSpec.ofChange intersectSeparatorSoundSpec)

/-- ITS FALSE NEIGHBOUR: 'it returns false'. Refute it at one input. -/
def intersectSeparatorSoundWrong : ChangeSpec := { name := "intersectSeparatorSound", fn := fun _ => fun
  | [d1, d2, d3, d4] => { results := [.lit (.bool false)], args := [d1, d2, d3, d4] }
  | _ => none }
def IntersectSeparatorSoundWrongFalsely : Prop := intersectSeparatorSoundRow.holds Try.pinned (OpenSpec.ofChange intersectSeparatorSoundWrong)

/-- 'ambidexterlaw05.IntersectCriterion': WHATEVER THE INPUT: true; the input reads as it did. -/
def intersectCriterionSpec : ChangeSpec := { name := "intersectCriterion", fn := fun _ => fun
  | [d1, d2] => { results := [.lit (.bool true)], args := [d1, d2] }
  | _ => none }
def intersectCriterionRow : OpenClaim := { program := "yteellikeoiedbaa", sum := "6244b0816fa743b33ede6111da789b40bcf1b648fdd7a094ec822be75a733771", func := "ambidexter/ambidexterlaw05.IntersectCriterion", spec := "intersectCriterion", unfollowed := true, recurses := true, apart := false }
def IntersectCriterionSaid : Prop := intersectCriterionRow.holds Try.pinned (OpenSpec.ofChange intersectCriterionSpec)

/-- ITS FALSE NEIGHBOUR: 'it returns false'. Refute it at one input. -/
def intersectCriterionWrong : ChangeSpec := { name := "intersectCriterion", fn := fun _ => fun
  | [d1, d2] => { results := [.lit (.bool false)], args := [d1, d2] }
  | _ => none }
def IntersectCriterionWrongFalsely : Prop := intersectCriterionRow.holds Try.pinned (OpenSpec.ofChange intersectCriterionWrong)

/-- 'ambidexterlaw05.IntersectTranslationInvariant': WHATEVER THE INPUT: true; the input reads as it did. -/
def intersectTranslationInvariantSpec : ChangeSpec := { name := "intersectTranslationInvariant", fn := fun _ => fun
  | [d1, d2, d3, d4] => { results := [.lit (.bool true)], args := [d1, d2, d3, d4] }
  | _ => none }
def intersectTranslationInvariantRow : OpenClaim := { program := "yteellikeoiedbaa", sum := "6244b0816fa743b33ede6111da789b40bcf1b648fdd7a094ec822be75a733771", func := "ambidexter/ambidexterlaw05.IntersectTranslationInvariant", spec := "intersectTranslationInvariant", unfollowed := true, recurses := true, apart := false }
def IntersectTranslationInvariantSaid : Prop := intersectTranslationInvariantRow.holds Try.pinned (OpenSpec.ofChange intersectTranslationInvariantSpec)

/-- ITS FALSE NEIGHBOUR: 'it returns false'. Refute it at one input. -/
def intersectTranslationInvariantWrong : ChangeSpec := { name := "intersectTranslationInvariant", fn := fun _ => fun
  | [d1, d2, d3, d4] => { results := [.lit (.bool false)], args := [d1, d2, d3, d4] }
  | _ => none }
def IntersectTranslationInvariantWrongFalsely : Prop := intersectTranslationInvariantRow.holds Try.pinned (OpenSpec.ofChange intersectTranslationInvariantWrong)

/-- 'ambidexterlaw03.PolygonInvariantUnderCyclicShift': WHATEVER THE INPUT: true; the input reads as it did. -/
def polygonInvariantUnderCyclicShiftSpec : ChangeSpec := { name := "polygonInvariantUnderCyclicShift", fn := fun _ => fun
  | [d1, d2, d3] => { results := [.lit (.bool true)], args := [d1, d2, d3] }
  | _ => none }
def polygonInvariantUnderCyclicShiftRow : OpenClaim := { program := "yteellikeoiedbaa", sum := "6244b0816fa743b33ede6111da789b40bcf1b648fdd7a094ec822be75a733771", func := "ambidexter/ambidexterlaw03.PolygonInvariantUnderCyclicShift", spec := "polygonInvariantUnderCyclicShift", unfollowed := true, recurses := true, apart := false }
def PolygonInvariantUnderCyclicShiftSaid : Prop := polygonInvariantUnderCyclicShiftRow.holds Try.pinned (OpenSpec.ofChange polygonInvariantUnderCyclicShiftSpec)

/-- ITS FALSE NEIGHBOUR: 'it returns false'. Refute it at one input. -/
def polygonInvariantUnderCyclicShiftWrong : ChangeSpec := { name := "polygonInvariantUnderCyclicShift", fn := fun _ => fun
  | [d1, d2, d3] => { results := [.lit (.bool false)], args := [d1, d2, d3] }
  | _ => none }
def PolygonInvariantUnderCyclicShiftWrongFalsely : Prop := polygonInvariantUnderCyclicShiftRow.holds Try.pinned (OpenSpec.ofChange polygonInvariantUnderCyclicShiftWrong)

/-- 'ambidexterlaw03.PolygonAreaFromTriangles': WHATEVER THE INPUT: true; the input reads as it did. -/
def polygonAreaFromTrianglesSpec : ChangeSpec := { name := "polygonAreaFromTriangles", fn := fun _ => fun
  | [d1, d2] => { results := [.lit (.bool true)], args := [d1, d2] }
  | _ => none }
def polygonAreaFromTrianglesRow : OpenClaim := { program := "yteellikeoiedbaa", sum := "6244b0816fa743b33ede6111da789b40bcf1b648fdd7a094ec822be75a733771", func := "ambidexter/ambidexterlaw03.PolygonAreaFromTriangles", spec := "polygonAreaFromTriangles", unfollowed := true, recurses := true, apart := false }
def PolygonAreaFromTrianglesSaid : Prop := polygonAreaFromTrianglesRow.holds Try.pinned (OpenSpec.ofChange polygonAreaFromTrianglesSpec)

/-- ITS FALSE NEIGHBOUR: 'it returns false'. Refute it at one input. -/
def polygonAreaFromTrianglesWrong : ChangeSpec := { name := "polygonAreaFromTriangles", fn := fun _ => fun
  | [d1, d2] => { results := [.lit (.bool false)], args := [d1, d2] }
  | _ => none }
def PolygonAreaFromTrianglesWrongFalsely : Prop := polygonAreaFromTrianglesRow.holds Try.pinned (OpenSpec.ofChange polygonAreaFromTrianglesWrong)

/-- 'ambidexterlaw03.PolygonCutPreservesArea': WHATEVER THE INPUT: true; the input reads as it did. -/
def polygonCutPreservesAreaSpec : ChangeSpec := { name := "polygonCutPreservesArea", fn := fun _ => fun
  | [d1, d2, d3, d4] => { results := [.lit (.bool true)], args := [d1, d2, d3, d4] }
  | _ => none }
def polygonCutPreservesAreaRow : OpenClaim := { program := "yteellikeoiedbaa", sum := "6244b0816fa743b33ede6111da789b40bcf1b648fdd7a094ec822be75a733771", func := "ambidexter/ambidexterlaw03.PolygonCutPreservesArea", spec := "polygonCutPreservesArea", unfollowed := true, recurses := true, apart := false }
def PolygonCutPreservesAreaSaid : Prop := polygonCutPreservesAreaRow.holds Try.pinned (OpenSpec.ofChange polygonCutPreservesAreaSpec)

/-- ITS FALSE NEIGHBOUR: 'it returns false'. Refute it at one input. -/
def polygonCutPreservesAreaWrong : ChangeSpec := { name := "polygonCutPreservesArea", fn := fun _ => fun
  | [d1, d2, d3, d4] => { results := [.lit (.bool false)], args := [d1, d2, d3, d4] }
  | _ => none }
def PolygonCutPreservesAreaWrongFalsely : Prop := polygonCutPreservesAreaRow.holds Try.pinned (OpenSpec.ofChange polygonCutPreservesAreaWrong)

/-- 'ambidexterlaw03.PolygonTranslationPreservesGeometry': WHATEVER THE INPUT: true; the input reads as it did. -/
def polygonTranslationPreservesGeometrySpec : ChangeSpec := { name := "polygonTranslationPreservesGeometry", fn := fun _ => fun
  | [d1, d2, d3] => { results := [.lit (.bool true)], args := [d1, d2, d3] }
  | _ => none }
def polygonTranslationPreservesGeometryRow : OpenClaim := { program := "yteellikeoiedbaa", sum := "6244b0816fa743b33ede6111da789b40bcf1b648fdd7a094ec822be75a733771", func := "ambidexter/ambidexterlaw03.PolygonTranslationPreservesGeometry", spec := "polygonTranslationPreservesGeometry", unfollowed := true, recurses := true, apart := false }
def PolygonTranslationPreservesGeometrySaid : Prop := polygonTranslationPreservesGeometryRow.holds Try.pinned (OpenSpec.ofChange polygonTranslationPreservesGeometrySpec)

/-- ITS FALSE NEIGHBOUR: 'it returns false'. Refute it at one input. -/
def polygonTranslationPreservesGeometryWrong : ChangeSpec := { name := "polygonTranslationPreservesGeometry", fn := fun _ => fun
  | [d1, d2, d3] => { results := [.lit (.bool false)], args := [d1, d2, d3] }
  | _ => none }
def PolygonTranslationPreservesGeometryWrongFalsely : Prop := polygonTranslationPreservesGeometryRow.holds Try.pinned (OpenSpec.ofChange polygonTranslationPreservesGeometryWrong)

/-- 'ambidexterlaw03.PolygonRotationPreservesGeometry': WHATEVER THE INPUT: true; the input reads as it did. -/
def polygonRotationPreservesGeometrySpec : ChangeSpec := { name := "polygonRotationPreservesGeometry", fn := fun _ => fun
  | [d1, d2, d3] => { results := [.lit (.bool true)], args := [d1, d2, d3] }
  | _ => none }
def polygonRotationPreservesGeometryRow : OpenClaim := { program := "yteellikeoiedbaa", sum := "6244b0816fa743b33ede6111da789b40bcf1b648fdd7a094ec822be75a733771", func := "ambidexter/ambidexterlaw03.PolygonRotationPreservesGeometry", spec := "polygonRotationPreservesGeometry", unfollowed := true, recurses := true, apart := false }
def PolygonRotationPreservesGeometrySaid : Prop := polygonRotationPreservesGeometryRow.holds Try.pinned (OpenSpec.ofChange polygonRotationPreservesGeometrySpec)

/-- ITS FALSE NEIGHBOUR: 'it returns false'. Refute it at one input. -/
def polygonRotationPreservesGeometryWrong : ChangeSpec := { name := "polygonRotationPreservesGeometry", fn := fun _ => fun
  | [d1, d2, d3] => { results := [.lit (.bool false)], args := [d1, d2, d3] }
  | _ => none }
def PolygonRotationPreservesGeometryWrongFalsely : Prop := polygonRotationPreservesGeometryRow.holds Try.pinned (OpenSpec.ofChange polygonRotationPreservesGeometryWrong)

/-- 'ambidexterlaw03.PolygonLocationIsConsistent': WHATEVER THE INPUT: true; the input reads as it did. -/
def polygonLocationIsConsistentSpec : ChangeSpec := { name := "polygonLocationIsConsistent", fn := fun _ => fun
  | [d1, d2, d3] => { results := [.lit (.bool true)], args := [d1, d2, d3] }
  | _ => none }
def polygonLocationIsConsistentRow : OpenClaim := { program := "yteellikeoiedbaa", sum := "6244b0816fa743b33ede6111da789b40bcf1b648fdd7a094ec822be75a733771", func := "ambidexter/ambidexterlaw03.PolygonLocationIsConsistent", spec := "polygonLocationIsConsistent", unfollowed := true, recurses := true, apart := false }
def PolygonLocationIsConsistentSaid : Prop := polygonLocationIsConsistentRow.holds Try.pinned (OpenSpec.ofChange polygonLocationIsConsistentSpec)

/-- ITS FALSE NEIGHBOUR: 'it returns false'. Refute it at one input. -/
def polygonLocationIsConsistentWrong : ChangeSpec := { name := "polygonLocationIsConsistent", fn := fun _ => fun
  | [d1, d2, d3] => { results := [.lit (.bool false)], args := [d1, d2, d3] }
  | _ => none }
def PolygonLocationIsConsistentWrongFalsely : Prop := polygonLocationIsConsistentRow.holds Try.pinned (OpenSpec.ofChange polygonLocationIsConsistentWrong)

/- THE SECOND FORM. 'bulk': how many values and letters a reading holds, each counted each time it is reached (what is shared counts as often as it is met; a slice's spare places count too). A statement '..UptoSaid' is the law's where the arguments, and the package variables that the reading takes, are together of bulk at most 1048576: NARROWER than '..Said'. Prove '..Said' where nothing that the law and all that it calls make is longer than what came in: it says more and counts as full. Else prove '..UptoSaid'. A law counts once. -/
mutual
def uptoBulk {H : Type} : DataW H → Nat
  | .lit (.string bytes) => bytes.length + 1
  | .lit _ => 1
  | .nil => 1
  | .ptr d => uptoBulk d + 1
  | .slice elems spare => uptoBulkAll elems + uptoBulkAll spare + 1
  | .agg parts => uptoBulkAll parts + 1
  | .iface _ d => uptoBulk d + 1
  | .map entries => uptoBulkEntries entries + 1
  | .held _ => 1
def uptoBulkAll {H : Type} : List (DataW H) → Nat
  | [] => 0
  | d :: r => uptoBulk d + uptoBulkAll r
def uptoBulkEntries {H : Type} : List (Lit × DataW H) → Nat
  | [] => 0
  | x :: r => uptoBulkEntry x + uptoBulkEntries r
def uptoBulkEntry {H : Type} : Lit × DataW H → Nat
  | (.string bytes, d) => bytes.length + uptoBulk d + 1
  | (_, d) => uptoBulk d + 1
 end
def uptoSmall : (H : Type) → List (DataW H) → Bool := fun _ ds => decide (uptoBulkAll ds ≤ 1048576)
def OpenSpec.upto (s : _root_.Go.ChangeSpec) : _root_.Go.OpenSpec := { _root_.Go.OpenSpec.ofChange s with cond := some uptoSmall }

/-- 'ambidexterlaw05.IntersectMatchesReference', WHERE WHAT IT READS IS OF BULK AT MOST 1048576: true; the input reads as it did. -/
def intersectMatchesReferenceUptoRow : OpenClaim := { program := "yteellikeoiedbaa", sum := "6244b0816fa743b33ede6111da789b40bcf1b648fdd7a094ec822be75a733771", func := "ambidexter/ambidexterlaw05.IntersectMatchesReference", spec := "intersectMatchesReference", unfollowed := true, recurses := true, apart := false, narrowed := true }
def IntersectMatchesReferenceUptoSaid : Prop := intersectMatchesReferenceUptoRow.holds Try.pinned (OpenSpec.upto intersectMatchesReferenceSpec)

/-- 'ambidexterlaw05.IntersectOrSeparated', WHERE WHAT IT READS IS OF BULK AT MOST 1048576: true; the input reads as it did. -/
def intersectOrSeparatedUptoRow : OpenClaim := { program := "yteellikeoiedbaa", sum := "6244b0816fa743b33ede6111da789b40bcf1b648fdd7a094ec822be75a733771", func := "ambidexter/ambidexterlaw05.IntersectOrSeparated", spec := "intersectOrSeparated", unfollowed := true, recurses := true, apart := false, narrowed := true }
def IntersectOrSeparatedUptoSaid : Prop := intersectOrSeparatedUptoRow.holds Try.pinned (OpenSpec.upto intersectOrSeparatedSpec)

/-- 'ambidexterlaw05.IntersectSymmetric', WHERE WHAT IT READS IS OF BULK AT MOST 1048576: true; the input reads as it did. -/
def intersectSymmetricUptoRow : OpenClaim := { program := "yteellikeoiedbaa", sum := "6244b0816fa743b33ede6111da789b40bcf1b648fdd7a094ec822be75a733771", func := "ambidexter/ambidexterlaw05.IntersectSymmetric", spec := "intersectSymmetric", unfollowed := true, recurses := true, apart := false, narrowed := true }
def IntersectSymmetricUptoSaid : Prop := intersectSymmetricUptoRow.holds Try.pinned (OpenSpec.upto intersectSymmetricSpec)

/-- 'ambidexterlaw05.IntersectSeparatorSound', WHERE WHAT IT READS IS OF BULK AT MOST 1048576: true; the input reads as it did. -/
def intersectSeparatorSoundUptoRow : OpenClaim := { program := "yteellikeoiedbaa", sum := "6244b0816fa743b33ede6111da789b40bcf1b648fdd7a094ec822be75a733771", func := "ambidexter/ambidexterlaw05.IntersectSeparatorSound", spec := "intersectSeparatorSound", unfollowed := true, recurses := true, apart := false, narrowed := true }
def IntersectSeparatorSoundUptoSaid : Prop := intersectSeparatorSoundUptoRow.holds Try.pinned (OpenSpec.upto intersectSeparatorSoundSpec)

/-- 'ambidexterlaw05.IntersectCriterion', WHERE WHAT IT READS IS OF BULK AT MOST 1048576: true; the input reads as it did. -/
def intersectCriterionUptoRow : OpenClaim := { program := "yteellikeoiedbaa", sum := "6244b0816fa743b33ede6111da789b40bcf1b648fdd7a094ec822be75a733771", func := "ambidexter/ambidexterlaw05.IntersectCriterion", spec := "intersectCriterion", unfollowed := true, recurses := true, apart := false, narrowed := true }
def IntersectCriterionUptoSaid : Prop := intersectCriterionUptoRow.holds Try.pinned (OpenSpec.upto intersectCriterionSpec)

/-- 'ambidexterlaw05.IntersectTranslationInvariant', WHERE WHAT IT READS IS OF BULK AT MOST 1048576: true; the input reads as it did. -/
def intersectTranslationInvariantUptoRow : OpenClaim := { program := "yteellikeoiedbaa", sum := "6244b0816fa743b33ede6111da789b40bcf1b648fdd7a094ec822be75a733771", func := "ambidexter/ambidexterlaw05.IntersectTranslationInvariant", spec := "intersectTranslationInvariant", unfollowed := true, recurses := true, apart := false, narrowed := true }
def IntersectTranslationInvariantUptoSaid : Prop := intersectTranslationInvariantUptoRow.holds Try.pinned (OpenSpec.upto intersectTranslationInvariantSpec)

/-- 'ambidexterlaw03.PolygonInvariantUnderCyclicShift', WHERE WHAT IT READS IS OF BULK AT MOST 1048576: true; the input reads as it did. -/
def polygonInvariantUnderCyclicShiftUptoRow : OpenClaim := { program := "yteellikeoiedbaa", sum := "6244b0816fa743b33ede6111da789b40bcf1b648fdd7a094ec822be75a733771", func := "ambidexter/ambidexterlaw03.PolygonInvariantUnderCyclicShift", spec := "polygonInvariantUnderCyclicShift", unfollowed := true, recurses := true, apart := false, narrowed := true }
def PolygonInvariantUnderCyclicShiftUptoSaid : Prop := polygonInvariantUnderCyclicShiftUptoRow.holds Try.pinned (OpenSpec.upto polygonInvariantUnderCyclicShiftSpec)

/-- 'ambidexterlaw03.PolygonAreaFromTriangles', WHERE WHAT IT READS IS OF BULK AT MOST 1048576: true; the input reads as it did. -/
def polygonAreaFromTrianglesUptoRow : OpenClaim := { program := "yteellikeoiedbaa", sum := "6244b0816fa743b33ede6111da789b40bcf1b648fdd7a094ec822be75a733771", func := "ambidexter/ambidexterlaw03.PolygonAreaFromTriangles", spec := "polygonAreaFromTriangles", unfollowed := true, recurses := true, apart := false, narrowed := true }
def PolygonAreaFromTrianglesUptoSaid : Prop := polygonAreaFromTrianglesUptoRow.holds Try.pinned (OpenSpec.upto polygonAreaFromTrianglesSpec)

/-- 'ambidexterlaw03.PolygonCutPreservesArea', WHERE WHAT IT READS IS OF BULK AT MOST 1048576: true; the input reads as it did. -/
def polygonCutPreservesAreaUptoRow : OpenClaim := { program := "yteellikeoiedbaa", sum := "6244b0816fa743b33ede6111da789b40bcf1b648fdd7a094ec822be75a733771", func := "ambidexter/ambidexterlaw03.PolygonCutPreservesArea", spec := "polygonCutPreservesArea", unfollowed := true, recurses := true, apart := false, narrowed := true }
def PolygonCutPreservesAreaUptoSaid : Prop := polygonCutPreservesAreaUptoRow.holds Try.pinned (OpenSpec.upto polygonCutPreservesAreaSpec)

/-- 'ambidexterlaw03.PolygonTranslationPreservesGeometry', WHERE WHAT IT READS IS OF BULK AT MOST 1048576: true; the input reads as it did. -/
def polygonTranslationPreservesGeometryUptoRow : OpenClaim := { program := "yteellikeoiedbaa", sum := "6244b0816fa743b33ede6111da789b40bcf1b648fdd7a094ec822be75a733771", func := "ambidexter/ambidexterlaw03.PolygonTranslationPreservesGeometry", spec := "polygonTranslationPreservesGeometry", unfollowed := true, recurses := true, apart := false, narrowed := true }
def PolygonTranslationPreservesGeometryUptoSaid : Prop := polygonTranslationPreservesGeometryUptoRow.holds Try.pinned (OpenSpec.upto polygonTranslationPreservesGeometrySpec)

/-- 'ambidexterlaw03.PolygonRotationPreservesGeometry', WHERE WHAT IT READS IS OF BULK AT MOST 1048576: true; the input reads as it did. -/
def polygonRotationPreservesGeometryUptoRow : OpenClaim := { program := "yteellikeoiedbaa", sum := "6244b0816fa743b33ede6111da789b40bcf1b648fdd7a094ec822be75a733771", func := "ambidexter/ambidexterlaw03.PolygonRotationPreservesGeometry", spec := "polygonRotationPreservesGeometry", unfollowed := true, recurses := true, apart := false, narrowed := true }
def PolygonRotationPreservesGeometryUptoSaid : Prop := polygonRotationPreservesGeometryUptoRow.holds Try.pinned (OpenSpec.upto polygonRotationPreservesGeometrySpec)

/-- 'ambidexterlaw03.PolygonLocationIsConsistent', WHERE WHAT IT READS IS OF BULK AT MOST 1048576: true; the input reads as it did. -/
def polygonLocationIsConsistentUptoRow : OpenClaim := { program := "yteellikeoiedbaa", sum := "6244b0816fa743b33ede6111da789b40bcf1b648fdd7a094ec822be75a733771", func := "ambidexter/ambidexterlaw03.PolygonLocationIsConsistent", spec := "polygonLocationIsConsistent", unfollowed := true, recurses := true, apart := false, narrowed := true }
def PolygonLocationIsConsistentUptoSaid : Prop := polygonLocationIsConsistentUptoRow.holds Try.pinned (OpenSpec.upto polygonLocationIsConsistentSpec)

end Rows
end Go.Proofs.Yteellikeoiedbaa
