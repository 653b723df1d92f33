/-
  No cell of these rows narrows 'for every input' (looked for: loops, veiled, ifaces, maps, wideKeys, modest, calm, conditions, laid).
  DERIVED. THE GIVEN ROWS OF THIS SEAT. 11 by the template 'for every input the law returns true; each argument reads behind the call as it read before'; 0 by the template 'total and deterministic' (their statements: YtnecdcaaknhgpaaTotals.lean).
  GIVEN WITH THE SEED: the statements are not yours to turn. If you find one false, say at which input.
  Laid BY PROGRAM, IN A SANDBOX (cutbox-rows.mjs): the forced cells as the released guide's own fill.sh prints them over the translation bc34dde33bf8f295… (all of the seat's roots in one cut). By AI agents, Wed Nov 11 2026. No macro, syntax, notation, axiom, sorry.
-/
import Derived.Test.YtnecdcaaknhgpaaChecked
import GoSem.Claim
import GoSem.ClaimJoined
import GoSem.ClaimMapViews
import Derived.JoinedTies
import Derived.KernelRfl
namespace Go.Proofs.Ytnecdcaaknhgpaa
/- THE CELL 'sum', in the pinned program and in every row, IS THE sha256 OF THE DUMP (.gsa) THAT YtnecdcaaknhgpaaProg.lean LOADS. Nothing in Lean hashes anything: it is a label: what it is worth is what the hold of that sum in a sandbox is worth. -/
noncomputable def Try.pinned : Pinned := { name := "ytnecdcaaknhgpaa", sum := "bc34dde33bf8f295e3e24db278eb72a46fbb3c16678cbb479c58f8f575771978", checked := Try.checked }
namespace Rows
def none {H : Type} : Left H := { results := [], args := [] }

/-- 'ambidexterlaw07.ArmMatchesReference': WHATEVER THE INPUT: true; the input reads as it did. -/
def armMatchesReferenceSpec : ChangeSpec := { name := "armMatchesReference", fn := fun _ => fun
  | [d1, d2, d3, d4, d5] => { results := [.lit (.bool true)], args := [d1, d2, d3, d4, d5] }
  | _ => none }
def armMatchesReferenceRow : OpenClaim := { program := "ytnecdcaaknhgpaa", sum := "bc34dde33bf8f295e3e24db278eb72a46fbb3c16678cbb479c58f8f575771978", func := "ambidexter/ambidexterlaw07.ArmMatchesReference", spec := "armMatchesReference", unfollowed := true, recurses := true, apart := false }
def ArmMatchesReferenceSaid : Prop := armMatchesReferenceRow.holds Try.pinned (OpenSpec.ofChange armMatchesReferenceSpec)

/-- ITS FALSE NEIGHBOUR: 'it returns false'. Refute it at one input. -/
def armMatchesReferenceWrong : ChangeSpec := { name := "armMatchesReference", fn := fun _ => fun
  | [d1, d2, d3, d4, d5] => { results := [.lit (.bool false)], args := [d1, d2, d3, d4, d5] }
  | _ => none }
def ArmMatchesReferenceWrongFalsely : Prop := armMatchesReferenceRow.holds Try.pinned (OpenSpec.ofChange armMatchesReferenceWrong)

/-- 'ambidexterlaw07.ArmMovesAsChain': WHATEVER THE INPUT: true; the input reads as it did. -/
def armMovesAsChainSpec : ChangeSpec := { name := "armMovesAsChain", fn := fun _ => fun
  | [d1, d2, d3, d4] => { results := [.lit (.bool true)], args := [d1, d2, d3, d4] }
  | _ => none }
def armMovesAsChainRow : OpenClaim := { program := "ytnecdcaaknhgpaa", sum := "bc34dde33bf8f295e3e24db278eb72a46fbb3c16678cbb479c58f8f575771978", func := "ambidexter/ambidexterlaw07.ArmMovesAsChain", spec := "armMovesAsChain", unfollowed := true, recurses := true, apart := false }
def ArmMovesAsChainSaid : Prop := armMovesAsChainRow.holds Try.pinned (OpenSpec.ofChange armMovesAsChainSpec)

/-- ITS FALSE NEIGHBOUR: 'it returns false'. Refute it at one input. -/
def armMovesAsChainWrong : ChangeSpec := { name := "armMovesAsChain", fn := fun _ => fun
  | [d1, d2, d3, d4] => { results := [.lit (.bool false)], args := [d1, d2, d3, d4] }
  | _ => none }
def ArmMovesAsChainWrongFalsely : Prop := armMovesAsChainRow.holds Try.pinned (OpenSpec.ofChange armMovesAsChainWrong)

/-- 'ambidexterlaw07.ArmComposesRotations': WHATEVER THE INPUT: true; the input reads as it did. -/
def armComposesRotationsSpec : ChangeSpec := { name := "armComposesRotations", fn := fun _ => fun
  | [d1, d2, d3, d4, d5] => { results := [.lit (.bool true)], args := [d1, d2, d3, d4, d5] }
  | _ => none }
def armComposesRotationsRow : OpenClaim := { program := "ytnecdcaaknhgpaa", sum := "bc34dde33bf8f295e3e24db278eb72a46fbb3c16678cbb479c58f8f575771978", func := "ambidexter/ambidexterlaw07.ArmComposesRotations", spec := "armComposesRotations", unfollowed := true, recurses := true, apart := false }
def ArmComposesRotationsSaid : Prop := armComposesRotationsRow.holds Try.pinned (OpenSpec.ofChange armComposesRotationsSpec)

/-- ITS FALSE NEIGHBOUR: 'it returns false'. Refute it at one input. -/
def armComposesRotationsWrong : ChangeSpec := { name := "armComposesRotations", fn := fun _ => fun
  | [d1, d2, d3, d4, d5] => { results := [.lit (.bool false)], args := [d1, d2, d3, d4, d5] }
  | _ => none }
def ArmComposesRotationsWrongFalsely : Prop := armComposesRotationsRow.holds Try.pinned (OpenSpec.ofChange armComposesRotationsWrong)

/-- 'ambidexterlaw07.ArmStepsAreReversible': WHATEVER THE INPUT: true; the input reads as it did. -/
def armStepsAreReversibleSpec : ChangeSpec := { name := "armStepsAreReversible", fn := fun _ => fun
  | [d1, d2, d3] => { results := [.lit (.bool true)], args := [d1, d2, d3] }
  | _ => none }
def armStepsAreReversibleRow : OpenClaim := { program := "ytnecdcaaknhgpaa", sum := "bc34dde33bf8f295e3e24db278eb72a46fbb3c16678cbb479c58f8f575771978", func := "ambidexter/ambidexterlaw07.ArmStepsAreReversible", spec := "armStepsAreReversible", unfollowed := true, recurses := true, apart := false }
def ArmStepsAreReversibleSaid : Prop := armStepsAreReversibleRow.holds Try.pinned (OpenSpec.ofChange armStepsAreReversibleSpec)

/-- ITS FALSE NEIGHBOUR: 'it returns false'. Refute it at one input. -/
def armStepsAreReversibleWrong : ChangeSpec := { name := "armStepsAreReversible", fn := fun _ => fun
  | [d1, d2, d3] => { results := [.lit (.bool false)], args := [d1, d2, d3] }
  | _ => none }
def ArmStepsAreReversibleWrongFalsely : Prop := armStepsAreReversibleRow.holds Try.pinned (OpenSpec.ofChange armStepsAreReversibleWrong)

/-- 'ambidexterlaw07.ArmReachIsBounded': WHATEVER THE INPUT: true; the input reads as it did. -/
def armReachIsBoundedSpec : ChangeSpec := { name := "armReachIsBounded", fn := fun _ => fun
  | [d1, d2] => { results := [.lit (.bool true)], args := [d1, d2] }
  | _ => none }
def armReachIsBoundedRow : OpenClaim := { program := "ytnecdcaaknhgpaa", sum := "bc34dde33bf8f295e3e24db278eb72a46fbb3c16678cbb479c58f8f575771978", func := "ambidexter/ambidexterlaw07.ArmReachIsBounded", spec := "armReachIsBounded", unfollowed := true, recurses := true, apart := false }
def ArmReachIsBoundedSaid : Prop := armReachIsBoundedRow.holds Try.pinned (OpenSpec.ofChange armReachIsBoundedSpec)

/-- ITS FALSE NEIGHBOUR: 'it returns false'. Refute it at one input. -/
def armReachIsBoundedWrong : ChangeSpec := { name := "armReachIsBounded", fn := fun _ => fun
  | [d1, d2] => { results := [.lit (.bool false)], args := [d1, d2] }
  | _ => none }
def ArmReachIsBoundedWrongFalsely : Prop := armReachIsBoundedRow.holds Try.pinned (OpenSpec.ofChange armReachIsBoundedWrong)

/-- 'ambidexterlaw07.ArmLinksAreRigid': WHATEVER THE INPUT: true; the input reads as it did. -/
def armLinksAreRigidSpec : ChangeSpec := { name := "armLinksAreRigid", fn := fun _ => fun
  | [d1, d2] => { results := [.lit (.bool true)], args := [d1, d2] }
  | _ => none }
def armLinksAreRigidRow : OpenClaim := { program := "ytnecdcaaknhgpaa", sum := "bc34dde33bf8f295e3e24db278eb72a46fbb3c16678cbb479c58f8f575771978", func := "ambidexter/ambidexterlaw07.ArmLinksAreRigid", spec := "armLinksAreRigid", unfollowed := true, recurses := true, apart := false }
def ArmLinksAreRigidSaid : Prop := armLinksAreRigidRow.holds Try.pinned (OpenSpec.ofChange armLinksAreRigidSpec)

/-- ITS FALSE NEIGHBOUR: 'it returns false'. Refute it at one input. -/
def armLinksAreRigidWrong : ChangeSpec := { name := "armLinksAreRigid", fn := fun _ => fun
  | [d1, d2] => { results := [.lit (.bool false)], args := [d1, d2] }
  | _ => none }
def ArmLinksAreRigidWrongFalsely : Prop := armLinksAreRigidRow.holds Try.pinned (OpenSpec.ofChange armLinksAreRigidWrong)

/-- 'ambidextertop.TopQuarterTurn': WHATEVER THE INPUT: true; the input reads as it did. -/
def topQuarterTurnSpec : ChangeSpec := { name := "topQuarterTurn", fn := fun _ => fun
  | [d1, d2] => { results := [.lit (.bool true)], args := [d1, d2] }
  | _ => none }
def topQuarterTurnRow : OpenClaim := { program := "ytnecdcaaknhgpaa", sum := "bc34dde33bf8f295e3e24db278eb72a46fbb3c16678cbb479c58f8f575771978", func := "ambidexter/ambidextertop.TopQuarterTurn", spec := "topQuarterTurn", unfollowed := true, recurses := true, apart := false }
def TopQuarterTurnSaid : Prop := topQuarterTurnRow.holds Try.pinned (OpenSpec.ofChange topQuarterTurnSpec)

/-- ITS FALSE NEIGHBOUR: 'it returns false'. Refute it at one input. -/
def topQuarterTurnWrong : ChangeSpec := { name := "topQuarterTurn", fn := fun _ => fun
  | [d1, d2] => { results := [.lit (.bool false)], args := [d1, d2] }
  | _ => none }
def TopQuarterTurnWrongFalsely : Prop := topQuarterTurnRow.holds Try.pinned (OpenSpec.ofChange topQuarterTurnWrong)

/-- 'ambidexterlaw27.MonitorBracketsPositions': WHATEVER THE INPUT: true; the input reads as it did. -/
def monitorBracketsPositionsSpec : ChangeSpec := { name := "monitorBracketsPositions", fn := fun _ => fun
  | [d1, d2] => { results := [.lit (.bool true)], args := [d1, d2] }
  | _ => none }
def monitorBracketsPositionsRow : OpenClaim := { program := "ytnecdcaaknhgpaa", sum := "bc34dde33bf8f295e3e24db278eb72a46fbb3c16678cbb479c58f8f575771978", func := "ambidexter/ambidexterlaw27.MonitorBracketsPositions", spec := "monitorBracketsPositions", unfollowed := true, recurses := true, apart := false }
def MonitorBracketsPositionsSaid : Prop := monitorBracketsPositionsRow.holds Try.pinned (OpenSpec.ofChange monitorBracketsPositionsSpec)

/-- ITS FALSE NEIGHBOUR: 'it returns false'. Refute it at one input. -/
def monitorBracketsPositionsWrong : ChangeSpec := { name := "monitorBracketsPositions", fn := fun _ => fun
  | [d1, d2] => { results := [.lit (.bool false)], args := [d1, d2] }
  | _ => none }
def MonitorBracketsPositionsWrongFalsely : Prop := monitorBracketsPositionsRow.holds Try.pinned (OpenSpec.ofChange monitorBracketsPositionsWrong)

/-- 'ambidexterlaw27.MonitorDetectsSpeed': WHATEVER THE INPUT: true; the input reads as it did. -/
def monitorDetectsSpeedSpec : ChangeSpec := { name := "monitorDetectsSpeed", fn := fun _ => fun
  | [d1, d2, d3, d4] => { results := [.lit (.bool true)], args := [d1, d2, d3, d4] }
  | _ => none }
def monitorDetectsSpeedRow : OpenClaim := { program := "ytnecdcaaknhgpaa", sum := "bc34dde33bf8f295e3e24db278eb72a46fbb3c16678cbb479c58f8f575771978", func := "ambidexter/ambidexterlaw27.MonitorDetectsSpeed", spec := "monitorDetectsSpeed", unfollowed := true, recurses := true, apart := false }
def MonitorDetectsSpeedSaid : Prop := monitorDetectsSpeedRow.holds Try.pinned (OpenSpec.ofChange monitorDetectsSpeedSpec)

/-- ITS FALSE NEIGHBOUR: 'it returns false'. Refute it at one input. -/
def monitorDetectsSpeedWrong : ChangeSpec := { name := "monitorDetectsSpeed", fn := fun _ => fun
  | [d1, d2, d3, d4] => { results := [.lit (.bool false)], args := [d1, d2, d3, d4] }
  | _ => none }
def MonitorDetectsSpeedWrongFalsely : Prop := monitorDetectsSpeedRow.holds Try.pinned (OpenSpec.ofChange monitorDetectsSpeedWrong)

/-- 'ambidexterlaw27.MonitorIsMonotonic': WHATEVER THE INPUT: true; the input reads as it did. -/
def monitorIsMonotonicSpec : ChangeSpec := { name := "monitorIsMonotonic", fn := fun _ => fun
  | [d1, d2, d3, d4, d5, d6] => { results := [.lit (.bool true)], args := [d1, d2, d3, d4, d5, d6] }
  | _ => none }
def monitorIsMonotonicRow : OpenClaim := { program := "ytnecdcaaknhgpaa", sum := "bc34dde33bf8f295e3e24db278eb72a46fbb3c16678cbb479c58f8f575771978", func := "ambidexter/ambidexterlaw27.MonitorIsMonotonic", spec := "monitorIsMonotonic", unfollowed := true, recurses := true, apart := false }
def MonitorIsMonotonicSaid : Prop := monitorIsMonotonicRow.holds Try.pinned (OpenSpec.ofChange monitorIsMonotonicSpec)

/-- ITS FALSE NEIGHBOUR: 'it returns false'. Refute it at one input. -/
def monitorIsMonotonicWrong : ChangeSpec := { name := "monitorIsMonotonic", fn := fun _ => fun
  | [d1, d2, d3, d4, d5, d6] => { results := [.lit (.bool false)], args := [d1, d2, d3, d4, d5, d6] }
  | _ => none }
def MonitorIsMonotonicWrongFalsely : Prop := monitorIsMonotonicRow.holds Try.pinned (OpenSpec.ofChange monitorIsMonotonicWrong)

/-- 'ambidexterlaw27.MonitorDetectsContact': WHATEVER THE INPUT: true; the input reads as it did. -/
def monitorDetectsContactSpec : ChangeSpec := { name := "monitorDetectsContact", fn := fun _ => fun
  | [d1, d2, d3] => { results := [.lit (.bool true)], args := [d1, d2, d3] }
  | _ => none }
def monitorDetectsContactRow : OpenClaim := { program := "ytnecdcaaknhgpaa", sum := "bc34dde33bf8f295e3e24db278eb72a46fbb3c16678cbb479c58f8f575771978", func := "ambidexter/ambidexterlaw27.MonitorDetectsContact", spec := "monitorDetectsContact", unfollowed := true, recurses := true, apart := false }
def MonitorDetectsContactSaid : Prop := monitorDetectsContactRow.holds Try.pinned (OpenSpec.ofChange monitorDetectsContactSpec)

/-- ITS FALSE NEIGHBOUR: 'it returns false'. Refute it at one input. -/
def monitorDetectsContactWrong : ChangeSpec := { name := "monitorDetectsContact", fn := fun _ => fun
  | [d1, d2, d3] => { results := [.lit (.bool false)], args := [d1, d2, d3] }
  | _ => none }
def MonitorDetectsContactWrongFalsely : Prop := monitorDetectsContactRow.holds Try.pinned (OpenSpec.ofChange monitorDetectsContactWrong)

/- THE SECOND FORM. 'bulk': how many values and letters a reading holds, each counted each time it is reached (what is shared counts as often as it is met; a slice's spare places count too). A statement '..UptoSaid' is the law's where the arguments, and the package variables that the reading takes, are together of bulk at most 1048576: NARROWER than '..Said'. Prove '..Said' where nothing that the law and all that it calls make is longer than what came in: it says more and counts as full. Else prove '..UptoSaid'. A law counts once. -/
mutual
def uptoBulk {H : Type} : DataW H → Nat
  | .lit (.string bytes) => bytes.length + 1
  | .lit _ => 1
  | .nil => 1
  | .ptr d => uptoBulk d + 1
  | .slice elems spare => uptoBulkAll elems + uptoBulkAll spare + 1
  | .agg parts => uptoBulkAll parts + 1
  | .iface _ d => uptoBulk d + 1
  | .map entries => uptoBulkEntries entries + 1
  | .held _ => 1
def uptoBulkAll {H : Type} : List (DataW H) → Nat
  | [] => 0
  | d :: r => uptoBulk d + uptoBulkAll r
def uptoBulkEntries {H : Type} : List (Lit × DataW H) → Nat
  | [] => 0
  | x :: r => uptoBulkEntry x + uptoBulkEntries r
def uptoBulkEntry {H : Type} : Lit × DataW H → Nat
  | (.string bytes, d) => bytes.length + uptoBulk d + 1
  | (_, d) => uptoBulk d + 1
 end
def uptoSmall : (H : Type) → List (DataW H) → Bool := fun _ ds => decide (uptoBulkAll ds ≤ 1048576)
def OpenSpec.upto (s : _root_.Go.ChangeSpec) : _root_.Go.OpenSpec := { _root_.Go.OpenSpec.ofChange s with cond := some uptoSmall }

/-- 'ambidexterlaw07.ArmMatchesReference', WHERE WHAT IT READS IS OF BULK AT MOST 1048576: true; the input reads as it did. -/
def armMatchesReferenceUptoRow : OpenClaim := { program := "ytnecdcaaknhgpaa", sum := "bc34dde33bf8f295e3e24db278eb72a46fbb3c16678cbb479c58f8f575771978", func := "ambidexter/ambidexterlaw07.ArmMatchesReference", spec := "armMatchesReference", unfollowed := true, recurses := true, apart := false, narrowed := true }
def ArmMatchesReferenceUptoSaid : Prop := armMatchesReferenceUptoRow.holds Try.pinned (OpenSpec.upto armMatchesReferenceSpec)

/-- 'ambidexterlaw07.ArmMovesAsChain', WHERE WHAT IT READS IS OF BULK AT MOST 1048576: true; the input reads as it did. -/
def armMovesAsChainUptoRow : OpenClaim := { program := "ytnecdcaaknhgpaa", sum := "bc34dde33bf8f295e3e24db278eb72a46fbb3c16678cbb479c58f8f575771978", func := "ambidexter/ambidexterlaw07.ArmMovesAsChain", spec := "armMovesAsChain", unfollowed := true, recurses := true, apart := false, narrowed := true }
def ArmMovesAsChainUptoSaid : Prop := armMovesAsChainUptoRow.holds Try.pinned (OpenSpec.upto armMovesAsChainSpec)

/-- 'ambidexterlaw07.ArmComposesRotations', WHERE WHAT IT READS IS OF BULK AT MOST 1048576: true; the input reads as it did. -/
def armComposesRotationsUptoRow : OpenClaim := { program := "ytnecdcaaknhgpaa", sum := "bc34dde33bf8f295e3e24db278eb72a46fbb3c16678cbb479c58f8f575771978", func := "ambidexter/ambidexterlaw07.ArmComposesRotations", spec := "armComposesRotations", unfollowed := true, recurses := true, apart := false, narrowed := true }
def ArmComposesRotationsUptoSaid : Prop := armComposesRotationsUptoRow.holds Try.pinned (OpenSpec.upto armComposesRotationsSpec)

/-- 'ambidexterlaw07.ArmStepsAreReversible', WHERE WHAT IT READS IS OF BULK AT MOST 1048576: true; the input reads as it did. -/
def armStepsAreReversibleUptoRow : OpenClaim := { program := "ytnecdcaaknhgpaa", sum := "bc34dde33bf8f295e3e24db278eb72a46fbb3c16678cbb479c58f8f575771978", func := "ambidexter/ambidexterlaw07.ArmStepsAreReversible", spec := "armStepsAreReversible", unfollowed := true, recurses := true, apart := false, narrowed := true }
def ArmStepsAreReversibleUptoSaid : Prop := armStepsAreReversibleUptoRow.holds Try.pinned (OpenSpec.upto armStepsAreReversibleSpec)

/-- 'ambidexterlaw07.ArmReachIsBounded', WHERE WHAT IT READS IS OF BULK AT MOST 1048576: true; the input reads as it did. -/
def armReachIsBoundedUptoRow : OpenClaim := { program := "ytnecdcaaknhgpaa", sum := "bc34dde33bf8f295e3e24db278eb72a46fbb3c16678cbb479c58f8f575771978", func := "ambidexter/ambidexterlaw07.ArmReachIsBounded", spec := "armReachIsBounded", unfollowed := true, recurses := true, apart := false, narrowed := true }
def ArmReachIsBoundedUptoSaid : Prop := armReachIsBoundedUptoRow.holds Try.pinned (OpenSpec.upto armReachIsBoundedSpec)

/-- 'ambidexterlaw07.ArmLinksAreRigid', WHERE WHAT IT READS IS OF BULK AT MOST 1048576: true; the input reads as it did. -/
def armLinksAreRigidUptoRow : OpenClaim := { program := "ytnecdcaaknhgpaa", sum := "bc34dde33bf8f295e3e24db278eb72a46fbb3c16678cbb479c58f8f575771978", func := "ambidexter/ambidexterlaw07.ArmLinksAreRigid", spec := "armLinksAreRigid", unfollowed := true, recurses := true, apart := false, narrowed := true }
def ArmLinksAreRigidUptoSaid : Prop := armLinksAreRigidUptoRow.holds Try.pinned (OpenSpec.upto armLinksAreRigidSpec)

/-- 'ambidextertop.TopQuarterTurn', WHERE WHAT IT READS IS OF BULK AT MOST 1048576: true; the input reads as it did. -/
def topQuarterTurnUptoRow : OpenClaim := { program := "ytnecdcaaknhgpaa", sum := "bc34dde33bf8f295e3e24db278eb72a46fbb3c16678cbb479c58f8f575771978", func := "ambidexter/ambidextertop.TopQuarterTurn", spec := "topQuarterTurn", unfollowed := true, recurses := true, apart := false, narrowed := true }
def TopQuarterTurnUptoSaid : Prop := topQuarterTurnUptoRow.holds Try.pinned (OpenSpec.upto topQuarterTurnSpec)

/-- 'ambidexterlaw27.MonitorBracketsPositions', WHERE WHAT IT READS IS OF BULK AT MOST 1048576: true; the input reads as it did. -/
def monitorBracketsPositionsUptoRow : OpenClaim := { program := "ytnecdcaaknhgpaa", sum := "bc34dde33bf8f295e3e24db278eb72a46fbb3c16678cbb479c58f8f575771978", func := "ambidexter/ambidexterlaw27.MonitorBracketsPositions", spec := "monitorBracketsPositions", unfollowed := true, recurses := true, apart := false, narrowed := true }
def MonitorBracketsPositionsUptoSaid : Prop := monitorBracketsPositionsUptoRow.holds Try.pinned (OpenSpec.upto monitorBracketsPositionsSpec)

/-- 'ambidexterlaw27.MonitorDetectsSpeed', WHERE WHAT IT READS IS OF BULK AT MOST 1048576: true; the input reads as it did. -/
def monitorDetectsSpeedUptoRow : OpenClaim := { program := "ytnecdcaaknhgpaa", sum := "bc34dde33bf8f295e3e24db278eb72a46fbb3c16678cbb479c58f8f575771978", func := "ambidexter/ambidexterlaw27.MonitorDetectsSpeed", spec := "monitorDetectsSpeed", unfollowed := true, recurses := true, apart := false, narrowed := true }
def MonitorDetectsSpeedUptoSaid : Prop := monitorDetectsSpeedUptoRow.holds Try.pinned (OpenSpec.upto monitorDetectsSpeedSpec)

/-- 'ambidexterlaw27.MonitorIsMonotonic', WHERE WHAT IT READS IS OF BULK AT MOST 1048576: true; the input reads as it did. -/
def monitorIsMonotonicUptoRow : OpenClaim := { program := "ytnecdcaaknhgpaa", sum := "bc34dde33bf8f295e3e24db278eb72a46fbb3c16678cbb479c58f8f575771978", func := "ambidexter/ambidexterlaw27.MonitorIsMonotonic", spec := "monitorIsMonotonic", unfollowed := true, recurses := true, apart := false, narrowed := true }
def MonitorIsMonotonicUptoSaid : Prop := monitorIsMonotonicUptoRow.holds Try.pinned (OpenSpec.upto monitorIsMonotonicSpec)

/-- 'ambidexterlaw27.MonitorDetectsContact', WHERE WHAT IT READS IS OF BULK AT MOST 1048576: true; the input reads as it did. -/
def monitorDetectsContactUptoRow : OpenClaim := { program := "ytnecdcaaknhgpaa", sum := "bc34dde33bf8f295e3e24db278eb72a46fbb3c16678cbb479c58f8f575771978", func := "ambidexter/ambidexterlaw27.MonitorDetectsContact", spec := "monitorDetectsContact", unfollowed := true, recurses := true, apart := false, narrowed := true }
def MonitorDetectsContactUptoSaid : Prop := monitorDetectsContactUptoRow.holds Try.pinned (OpenSpec.upto monitorDetectsContactSpec)

end Rows
end Go.Proofs.Ytnecdcaaknhgpaa
