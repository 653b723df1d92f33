/-
  No cell of these rows narrows 'for every input' (looked for: loops, veiled, ifaces, maps, wideKeys, modest, calm, conditions, laid).
  DERIVED. THE GIVEN ROWS OF THIS SEAT. 7 by the template 'for every input the law returns true; each argument reads behind the call as it read before'; 0 by the template 'total and deterministic' (their statements: YtojjdhdflhcdkaaTotals.lean).
  GIVEN WITH THE SEED: the statements are not yours to turn. If you find one false, say at which input.
  Laid BY PROGRAM, IN A SANDBOX (cutbox-rows.mjs): the forced cells as the released guide's own fill.sh prints them over the translation 15656f40ba76df8c… (all of the seat's roots in one cut). By AI agents, Wed Nov 11 2026. No macro, syntax, notation, axiom, sorry.
-/
import Derived.Test.YtojjdhdflhcdkaaChecked
import GoSem.Claim
import GoSem.ClaimJoined
import GoSem.ClaimMapViews
import Derived.JoinedTies
import Derived.KernelRfl
namespace Go.Proofs.Ytojjdhdflhcdkaa
/- THE CELL 'sum', in the pinned program and in every row, IS THE sha256 OF THE DUMP (.gsa) THAT YtojjdhdflhcdkaaProg.lean LOADS. Nothing in Lean hashes anything: it is a label: what it is worth is what the hold of that sum in a sandbox is worth. -/
noncomputable def Try.pinned : Pinned := { name := "ytojjdhdflhcdkaa", sum := "15656f40ba76df8c4f43fb40e4648db01b582f61d1c5c4a168ab21583050ef34", checked := Try.checked }
namespace Rows
def none {H : Type} : Left H := { results := [], args := [] }

/-- 'ambidexterlaw02.GeomMatchesReference': WHATEVER THE INPUT: true; the input reads as it did. -/
def geomMatchesReferenceSpec : ChangeSpec := { name := "geomMatchesReference", fn := fun _ => fun
  | [d1, d2, d3, d4] => { results := [.lit (.bool true)], args := [d1, d2, d3, d4] }
  | _ => none }
def geomMatchesReferenceRow : OpenClaim := { program := "ytojjdhdflhcdkaa", sum := "15656f40ba76df8c4f43fb40e4648db01b582f61d1c5c4a168ab21583050ef34", func := "ambidexter/ambidexterlaw02.GeomMatchesReference", spec := "geomMatchesReference", unfollowed := true, recurses := true, apart := false }
def GeomMatchesReferenceSaid : Prop := geomMatchesReferenceRow.holds Try.pinned (OpenSpec.ofChange geomMatchesReferenceSpec)

/-- ITS FALSE NEIGHBOUR: 'it returns false'. Refute it at one input. -/
def geomMatchesReferenceWrong : ChangeSpec := { name := "geomMatchesReference", fn := fun _ => fun
  | [d1, d2, d3, d4] => { results := [.lit (.bool false)], args := [d1, d2, d3, d4] }
  | _ => none }
def GeomMatchesReferenceWrongFalsely : Prop := geomMatchesReferenceRow.holds Try.pinned (OpenSpec.ofChange geomMatchesReferenceWrong)

/-- 'ambidexterlaw02.GeomSides': WHATEVER THE INPUT: true; the input reads as it did. -/
def geomSidesSpec : ChangeSpec := { name := "geomSides", fn := fun _ => fun
  | [d1, d2] => { results := [.lit (.bool true)], args := [d1, d2] }
  | _ => none }
def geomSidesRow : OpenClaim := { program := "ytojjdhdflhcdkaa", sum := "15656f40ba76df8c4f43fb40e4648db01b582f61d1c5c4a168ab21583050ef34", func := "ambidexter/ambidexterlaw02.GeomSides", spec := "geomSides", unfollowed := true, recurses := true, apart := false }
def GeomSidesSaid : Prop := geomSidesRow.holds Try.pinned (OpenSpec.ofChange geomSidesSpec)

/-- ITS FALSE NEIGHBOUR: 'it returns false'. Refute it at one input. -/
def geomSidesWrong : ChangeSpec := { name := "geomSides", fn := fun _ => fun
  | [d1, d2] => { results := [.lit (.bool false)], args := [d1, d2] }
  | _ => none }
def GeomSidesWrongFalsely : Prop := geomSidesRow.holds Try.pinned (OpenSpec.ofChange geomSidesWrong)

/-- 'ambidexterlaw02.GeomOn': WHATEVER THE INPUT: true; the input reads as it did. -/
def geomOnSpec : ChangeSpec := { name := "geomOn", fn := fun _ => fun
  | [d1, d2] => { results := [.lit (.bool true)], args := [d1, d2] }
  | _ => none }
def geomOnRow : OpenClaim := { program := "ytojjdhdflhcdkaa", sum := "15656f40ba76df8c4f43fb40e4648db01b582f61d1c5c4a168ab21583050ef34", func := "ambidexter/ambidexterlaw02.GeomOn", spec := "geomOn", unfollowed := true, recurses := true, apart := false }
def GeomOnSaid : Prop := geomOnRow.holds Try.pinned (OpenSpec.ofChange geomOnSpec)

/-- ITS FALSE NEIGHBOUR: 'it returns false'. Refute it at one input. -/
def geomOnWrong : ChangeSpec := { name := "geomOn", fn := fun _ => fun
  | [d1, d2] => { results := [.lit (.bool false)], args := [d1, d2] }
  | _ => none }
def GeomOnWrongFalsely : Prop := geomOnRow.holds Try.pinned (OpenSpec.ofChange geomOnWrong)

/-- 'ambidexterlaw02.GeomCuts': WHATEVER THE INPUT: true; the input reads as it did. -/
def geomCutsSpec : ChangeSpec := { name := "geomCuts", fn := fun _ => fun
  | [d1, d2] => { results := [.lit (.bool true)], args := [d1, d2] }
  | _ => none }
def geomCutsRow : OpenClaim := { program := "ytojjdhdflhcdkaa", sum := "15656f40ba76df8c4f43fb40e4648db01b582f61d1c5c4a168ab21583050ef34", func := "ambidexter/ambidexterlaw02.GeomCuts", spec := "geomCuts", unfollowed := true, recurses := true, apart := false }
def GeomCutsSaid : Prop := geomCutsRow.holds Try.pinned (OpenSpec.ofChange geomCutsSpec)

/-- ITS FALSE NEIGHBOUR: 'it returns false'. Refute it at one input. -/
def geomCutsWrong : ChangeSpec := { name := "geomCuts", fn := fun _ => fun
  | [d1, d2] => { results := [.lit (.bool false)], args := [d1, d2] }
  | _ => none }
def GeomCutsWrongFalsely : Prop := geomCutsRow.holds Try.pinned (OpenSpec.ofChange geomCutsWrong)

/-- 'ambidexterlaw02.GeomSymmetric': WHATEVER THE INPUT: true; the input reads as it did. -/
def geomSymmetricSpec : ChangeSpec := { name := "geomSymmetric", fn := fun _ => fun
  | [d1, d2, d3] => { results := [.lit (.bool true)], args := [d1, d2, d3] }
  | _ => none }
def geomSymmetricRow : OpenClaim := { program := "ytojjdhdflhcdkaa", sum := "15656f40ba76df8c4f43fb40e4648db01b582f61d1c5c4a168ab21583050ef34", func := "ambidexter/ambidexterlaw02.GeomSymmetric", spec := "geomSymmetric", unfollowed := true, recurses := true, apart := false }
def GeomSymmetricSaid : Prop := geomSymmetricRow.holds Try.pinned (OpenSpec.ofChange geomSymmetricSpec)

/-- ITS FALSE NEIGHBOUR: 'it returns false'. Refute it at one input. -/
def geomSymmetricWrong : ChangeSpec := { name := "geomSymmetric", fn := fun _ => fun
  | [d1, d2, d3] => { results := [.lit (.bool false)], args := [d1, d2, d3] }
  | _ => none }
def GeomSymmetricWrongFalsely : Prop := geomSymmetricRow.holds Try.pinned (OpenSpec.ofChange geomSymmetricWrong)

/-- 'ambidexterlaw02.GeomBoxes': WHATEVER THE INPUT: true; the input reads as it did. -/
def geomBoxesSpec : ChangeSpec := { name := "geomBoxes", fn := fun _ => fun
  | [d1, d2] => { results := [.lit (.bool true)], args := [d1, d2] }
  | _ => none }
def geomBoxesRow : OpenClaim := { program := "ytojjdhdflhcdkaa", sum := "15656f40ba76df8c4f43fb40e4648db01b582f61d1c5c4a168ab21583050ef34", func := "ambidexter/ambidexterlaw02.GeomBoxes", spec := "geomBoxes", unfollowed := true, recurses := true, apart := false }
def GeomBoxesSaid : Prop := geomBoxesRow.holds Try.pinned (OpenSpec.ofChange geomBoxesSpec)

/-- ITS FALSE NEIGHBOUR: 'it returns false'. Refute it at one input. -/
def geomBoxesWrong : ChangeSpec := { name := "geomBoxes", fn := fun _ => fun
  | [d1, d2] => { results := [.lit (.bool false)], args := [d1, d2] }
  | _ => none }
def GeomBoxesWrongFalsely : Prop := geomBoxesRow.holds Try.pinned (OpenSpec.ofChange geomBoxesWrong)

/-- 'ambidexterlaw02.GeomGaps': WHATEVER THE INPUT: true; the input reads as it did. -/
def geomGapsSpec : ChangeSpec := { name := "geomGaps", fn := fun _ => fun
  | [d1, d2] => { results := [.lit (.bool true)], args := [d1, d2] }
  | _ => none }
def geomGapsRow : OpenClaim := { program := "ytojjdhdflhcdkaa", sum := "15656f40ba76df8c4f43fb40e4648db01b582f61d1c5c4a168ab21583050ef34", func := "ambidexter/ambidexterlaw02.GeomGaps", spec := "geomGaps", unfollowed := true, recurses := true, apart := false }
def GeomGapsSaid : Prop := geomGapsRow.holds Try.pinned (OpenSpec.ofChange geomGapsSpec)

/-- ITS FALSE NEIGHBOUR: 'it returns false'. Refute it at one input. -/
def geomGapsWrong : ChangeSpec := { name := "geomGaps", fn := fun _ => fun
  | [d1, d2] => { results := [.lit (.bool false)], args := [d1, d2] }
  | _ => none }
def GeomGapsWrongFalsely : Prop := geomGapsRow.holds Try.pinned (OpenSpec.ofChange geomGapsWrong)

/- THE SECOND FORM. 'bulk': how many values and letters a reading holds, each counted each time it is reached (what is shared counts as often as it is met; a slice's spare places count too). A statement '..UptoSaid' is the law's where the arguments, and the package variables that the reading takes, are together of bulk at most 1048576: NARROWER than '..Said'. Prove '..Said' where nothing that the law and all that it calls make is longer than what came in: it says more and counts as full. Else prove '..UptoSaid'. A law counts once. -/
mutual
def uptoBulk {H : Type} : DataW H → Nat
  | .lit (.string bytes) => bytes.length + 1
  | .lit _ => 1
  | .nil => 1
  | .ptr d => uptoBulk d + 1
  | .slice elems spare => uptoBulkAll elems + uptoBulkAll spare + 1
  | .agg parts => uptoBulkAll parts + 1
  | .iface _ d => uptoBulk d + 1
  | .map entries => uptoBulkEntries entries + 1
  | .held _ => 1
def uptoBulkAll {H : Type} : List (DataW H) → Nat
  | [] => 0
  | d :: r => uptoBulk d + uptoBulkAll r
def uptoBulkEntries {H : Type} : List (Lit × DataW H) → Nat
  | [] => 0
  | x :: r => uptoBulkEntry x + uptoBulkEntries r
def uptoBulkEntry {H : Type} : Lit × DataW H → Nat
  | (.string bytes, d) => bytes.length + uptoBulk d + 1
  | (_, d) => uptoBulk d + 1
 end
def uptoSmall : (H : Type) → List (DataW H) → Bool := fun _ ds => decide (uptoBulkAll ds ≤ 1048576)
def OpenSpec.upto (s : _root_.Go.ChangeSpec) : _root_.Go.OpenSpec := { _root_.Go.OpenSpec.ofChange s with cond := some uptoSmall }

/-- 'ambidexterlaw02.GeomMatchesReference', WHERE WHAT IT READS IS OF BULK AT MOST 1048576: true; the input reads as it did. -/
def geomMatchesReferenceUptoRow : OpenClaim := { program := "ytojjdhdflhcdkaa", sum := "15656f40ba76df8c4f43fb40e4648db01b582f61d1c5c4a168ab21583050ef34", func := "ambidexter/ambidexterlaw02.GeomMatchesReference", spec := "geomMatchesReference", unfollowed := true, recurses := true, apart := false, narrowed := true }
def GeomMatchesReferenceUptoSaid : Prop := geomMatchesReferenceUptoRow.holds Try.pinned (OpenSpec.upto geomMatchesReferenceSpec)

/-- 'ambidexterlaw02.GeomSides', WHERE WHAT IT READS IS OF BULK AT MOST 1048576: true; the input reads as it did. -/
def geomSidesUptoRow : OpenClaim := { program := "ytojjdhdflhcdkaa", sum := "15656f40ba76df8c4f43fb40e4648db01b582f61d1c5c4a168ab21583050ef34", func := "ambidexter/ambidexterlaw02.GeomSides", spec := "geomSides", unfollowed := true, recurses := true, apart := false, narrowed := true }
def GeomSidesUptoSaid : Prop := geomSidesUptoRow.holds Try.pinned (OpenSpec.upto geomSidesSpec)

/-- 'ambidexterlaw02.GeomOn', WHERE WHAT IT READS IS OF BULK AT MOST 1048576: true; the input reads as it did. -/
def geomOnUptoRow : OpenClaim := { program := "ytojjdhdflhcdkaa", sum := "15656f40ba76df8c4f43fb40e4648db01b582f61d1c5c4a168ab21583050ef34", func := "ambidexter/ambidexterlaw02.GeomOn", spec := "geomOn", unfollowed := true, recurses := true, apart := false, narrowed := true }
def GeomOnUptoSaid : Prop := geomOnUptoRow.holds Try.pinned (OpenSpec.upto geomOnSpec)

/-- 'ambidexterlaw02.GeomCuts', WHERE WHAT IT READS IS OF BULK AT MOST 1048576: true; the input reads as it did. -/
def geomCutsUptoRow : OpenClaim := { program := "ytojjdhdflhcdkaa", sum := "15656f40ba76df8c4f43fb40e4648db01b582f61d1c5c4a168ab21583050ef34", func := "ambidexter/ambidexterlaw02.GeomCuts", spec := "geomCuts", unfollowed := true, recurses := true, apart := false, narrowed := true }
def GeomCutsUptoSaid : Prop := geomCutsUptoRow.holds Try.pinned (OpenSpec.upto geomCutsSpec)

/-- 'ambidexterlaw02.GeomSymmetric', WHERE WHAT IT READS IS OF BULK AT MOST 1048576: true; the input reads as it did. -/
def geomSymmetricUptoRow : OpenClaim := { program := "ytojjdhdflhcdkaa", sum := "15656f40ba76df8c4f43fb40e4648db01b582f61d1c5c4a168ab21583050ef34", func := "ambidexter/ambidexterlaw02.GeomSymmetric", spec := "geomSymmetric", unfollowed := true, recurses := true, apart := false, narrowed := true }
def GeomSymmetricUptoSaid : Prop := geomSymmetricUptoRow.holds Try.pinned (OpenSpec.upto geomSymmetricSpec)

/-- 'ambidexterlaw02.GeomBoxes', WHERE WHAT IT READS IS OF BULK AT MOST 1048576: true; the input reads as it did. -/
def geomBoxesUptoRow : OpenClaim := { program := "ytojjdhdflhcdkaa", sum := "15656f40ba76df8c4f43fb40e4648db01b582f61d1c5c4a168ab21583050ef34", func := "ambidexter/ambidexterlaw02.GeomBoxes", spec := "geomBoxes", unfollowed := true, recurses := true, apart := false, narrowed := true }
def GeomBoxesUptoSaid : Prop := geomBoxesUptoRow.holds Try.pinned (OpenSpec.upto geomBoxesSpec)

/-- 'ambidexterlaw02.GeomGaps', WHERE WHAT IT READS IS OF BULK AT MOST 1048576: true; the input reads as it did. -/
def geomGapsUptoRow : OpenClaim := { program := "ytojjdhdflhcdkaa", sum := "15656f40ba76df8c4f43fb40e4648db01b582f61d1c5c4a168ab21583050ef34", func := "ambidexter/ambidexterlaw02.GeomGaps", spec := "geomGaps", unfollowed := true, recurses := true, apart := false, narrowed := true }
def GeomGapsUptoSaid : Prop := geomGapsUptoRow.holds Try.pinned (OpenSpec.upto geomGapsSpec)

end Rows
end Go.Proofs.Ytojjdhdflhcdkaa
