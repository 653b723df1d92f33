/-
  No cell of these rows narrows 'for every input' (looked for: loops, veiled, ifaces, maps, wideKeys, modest, calm, conditions, laid).
  DERIVED. THE GIVEN ROWS OF THIS SEAT. 7 by the template 'for every input the law returns true; each argument reads behind the call as it read before'; 0 by the template 'total and deterministic' (their statements: YtbpneedpcccpaaaGreatTotals.lean).
  GIVEN WITH THE SEED: the statements are not yours to turn. If you find one false, say at which input.
  Laid BY PROGRAM, IN A SANDBOX (cutbox-rows.mjs): the forced cells as the released guide's own fill.sh prints them over the translation 892f8f1b58cff068… (all of the seat's roots in one cut). By AI agents, Wed Nov 11 2026. No macro, syntax, notation, axiom, sorry.
-/
import Derived.Test.YtbpneedpcccpaaaGreatChecked
import GoSem.Claim
import GoSem.ClaimJoined
import GoSem.ClaimMapViews
import Derived.JoinedTies
import Derived.KernelRfl
namespace Go.Proofs.YtbpneedpcccpaaaGreat
/- THE CELL 'sum', in the pinned program and in every row, IS THE sha256 OF THE DUMP (.gsa) THAT YtbpneedpcccpaaaGreatProg.lean LOADS. Nothing in Lean hashes anything: it is a label: what it is worth is what the hold of that sum in a sandbox is worth. -/
noncomputable def Tryz.pinned : Pinned := { name := "ytbpneedpcccpaaagreat", sum := "892f8f1b58cff068d2fc95a8929e2d83a213c5a0bd1fb45d77e4db1336948b96", checked := Tryz.checked }
namespace Rows
def none {H : Type} : Left H := { results := [], args := [] }

/-- 'ambidexterlaw14.CollisionMatchesReference': WHATEVER THE INPUT: true; the input reads as it did. -/
def collisionMatchesReferenceSpec : ChangeSpec := { name := "collisionMatchesReference", fn := fun _ => fun
  | [d1, d2, d3] => { results := [.lit (.bool true)], args := [d1, d2, d3] }
  | _ => none }
def collisionMatchesReferenceRow : OpenClaim := { program := "ytbpneedpcccpaaagreat", sum := "892f8f1b58cff068d2fc95a8929e2d83a213c5a0bd1fb45d77e4db1336948b96", func := "ambidexter/ambidexterlaw14.CollisionMatchesReference", spec := "collisionMatchesReference", unfollowed := true, recurses := true, plainKeys := false, apart := false }
def CollisionMatchesReferenceSaid : Prop := collisionMatchesReferenceRow.holds Tryz.pinned (OpenSpec.ofChange collisionMatchesReferenceSpec)

/-- ITS FALSE NEIGHBOUR: 'it returns false'. Refute it at one input. -/
def collisionMatchesReferenceWrong : ChangeSpec := { name := "collisionMatchesReference", fn := fun _ => fun
  | [d1, d2, d3] => { results := [.lit (.bool false)], args := [d1, d2, d3] }
  | _ => none }
def CollisionMatchesReferenceWrongFalsely : Prop := collisionMatchesReferenceRow.holds Tryz.pinned (OpenSpec.ofChange collisionMatchesReferenceWrong)

/-- 'ambidexterlaw14.CollisionTouch': WHATEVER THE INPUT: true; the input reads as it did. -/
def collisionTouchSpec : ChangeSpec := { name := "collisionTouch", fn := fun _ => fun
  | [d1, d2] => { results := [.lit (.bool true)], args := [d1, d2] }
  | _ => none }
def collisionTouchRow : OpenClaim := { program := "ytbpneedpcccpaaagreat", sum := "892f8f1b58cff068d2fc95a8929e2d83a213c5a0bd1fb45d77e4db1336948b96", func := "ambidexter/ambidexterlaw14.CollisionTouch", spec := "collisionTouch", unfollowed := true, recurses := true, plainKeys := false, apart := false }
def CollisionTouchSaid : Prop := collisionTouchRow.holds Tryz.pinned (OpenSpec.ofChange collisionTouchSpec)

/-- ITS FALSE NEIGHBOUR: 'it returns false'. Refute it at one input. -/
def collisionTouchWrong : ChangeSpec := { name := "collisionTouch", fn := fun _ => fun
  | [d1, d2] => { results := [.lit (.bool false)], args := [d1, d2] }
  | _ => none }
def CollisionTouchWrongFalsely : Prop := collisionTouchRow.holds Tryz.pinned (OpenSpec.ofChange collisionTouchWrong)

/-- 'ambidexterlaw14.CollisionExchanged': WHATEVER THE INPUT: true; the input reads as it did. -/
def collisionExchangedSpec : ChangeSpec := { name := "collisionExchanged", fn := fun _ => fun
  | [d1, d2] => { results := [.lit (.bool true)], args := [d1, d2] }
  | _ => none }
def collisionExchangedRow : OpenClaim := { program := "ytbpneedpcccpaaagreat", sum := "892f8f1b58cff068d2fc95a8929e2d83a213c5a0bd1fb45d77e4db1336948b96", func := "ambidexter/ambidexterlaw14.CollisionExchanged", spec := "collisionExchanged", unfollowed := true, recurses := true, plainKeys := false, apart := false }
def CollisionExchangedSaid : Prop := collisionExchangedRow.holds Tryz.pinned (OpenSpec.ofChange collisionExchangedSpec)

/-- ITS FALSE NEIGHBOUR: 'it returns false'. Refute it at one input. -/
def collisionExchangedWrong : ChangeSpec := { name := "collisionExchanged", fn := fun _ => fun
  | [d1, d2] => { results := [.lit (.bool false)], args := [d1, d2] }
  | _ => none }
def CollisionExchangedWrongFalsely : Prop := collisionExchangedRow.holds Tryz.pinned (OpenSpec.ofChange collisionExchangedWrong)

/-- 'ambidexterlaw14.CollisionAddFixture': WHATEVER THE INPUT: true; the input reads as it did. -/
def collisionAddFixtureSpec : ChangeSpec := { name := "collisionAddFixture", fn := fun _ => fun
  | [d1, d2, d3] => { results := [.lit (.bool true)], args := [d1, d2, d3] }
  | _ => none }
def collisionAddFixtureRow : OpenClaim := { program := "ytbpneedpcccpaaagreat", sum := "892f8f1b58cff068d2fc95a8929e2d83a213c5a0bd1fb45d77e4db1336948b96", func := "ambidexter/ambidexterlaw14.CollisionAddFixture", spec := "collisionAddFixture", unfollowed := true, recurses := true, plainKeys := false, apart := false }
def CollisionAddFixtureSaid : Prop := collisionAddFixtureRow.holds Tryz.pinned (OpenSpec.ofChange collisionAddFixtureSpec)

/-- ITS FALSE NEIGHBOUR: 'it returns false'. Refute it at one input. -/
def collisionAddFixtureWrong : ChangeSpec := { name := "collisionAddFixture", fn := fun _ => fun
  | [d1, d2, d3] => { results := [.lit (.bool false)], args := [d1, d2, d3] }
  | _ => none }
def CollisionAddFixtureWrongFalsely : Prop := collisionAddFixtureRow.holds Tryz.pinned (OpenSpec.ofChange collisionAddFixtureWrong)

/-- 'ambidexterlaw14.CollisionIndependent': WHATEVER THE INPUT: true; the input reads as it did. -/
def collisionIndependentSpec : ChangeSpec := { name := "collisionIndependent", fn := fun _ => fun
  | [d1, d2, d3, d4] => { results := [.lit (.bool true)], args := [d1, d2, d3, d4] }
  | _ => none }
def collisionIndependentRow : OpenClaim := { program := "ytbpneedpcccpaaagreat", sum := "892f8f1b58cff068d2fc95a8929e2d83a213c5a0bd1fb45d77e4db1336948b96", func := "ambidexter/ambidexterlaw14.CollisionIndependent", spec := "collisionIndependent", unfollowed := true, recurses := true, plainKeys := false, apart := false }
def CollisionIndependentSaid : Prop := collisionIndependentRow.holds Tryz.pinned (OpenSpec.ofChange collisionIndependentSpec)

/-- ITS FALSE NEIGHBOUR: 'it returns false'. Refute it at one input. -/
def collisionIndependentWrong : ChangeSpec := { name := "collisionIndependent", fn := fun _ => fun
  | [d1, d2, d3, d4] => { results := [.lit (.bool false)], args := [d1, d2, d3, d4] }
  | _ => none }
def CollisionIndependentWrongFalsely : Prop := collisionIndependentRow.holds Tryz.pinned (OpenSpec.ofChange collisionIndependentWrong)

/-- 'ambidexterlaw14.CollisionTranslated': WHATEVER THE INPUT: true; the input reads as it did. -/
def collisionTranslatedSpec : ChangeSpec := { name := "collisionTranslated", fn := fun _ => fun
  | [d1, d2, d3] => { results := [.lit (.bool true)], args := [d1, d2, d3] }
  | _ => none }
def collisionTranslatedRow : OpenClaim := { program := "ytbpneedpcccpaaagreat", sum := "892f8f1b58cff068d2fc95a8929e2d83a213c5a0bd1fb45d77e4db1336948b96", func := "ambidexter/ambidexterlaw14.CollisionTranslated", spec := "collisionTranslated", unfollowed := true, recurses := true, plainKeys := false, apart := false }
def CollisionTranslatedSaid : Prop := collisionTranslatedRow.holds Tryz.pinned (OpenSpec.ofChange collisionTranslatedSpec)

/-- ITS FALSE NEIGHBOUR: 'it returns false'. Refute it at one input. -/
def collisionTranslatedWrong : ChangeSpec := { name := "collisionTranslated", fn := fun _ => fun
  | [d1, d2, d3] => { results := [.lit (.bool false)], args := [d1, d2, d3] }
  | _ => none }
def CollisionTranslatedWrongFalsely : Prop := collisionTranslatedRow.holds Tryz.pinned (OpenSpec.ofChange collisionTranslatedWrong)

/-- 'ambidexterlaw14.CollisionBodies': WHATEVER THE INPUT: true; the input reads as it did. -/
def collisionBodiesSpec : ChangeSpec := { name := "collisionBodies", fn := fun _ => fun
  | [d1, d2] => { results := [.lit (.bool true)], args := [d1, d2] }
  | _ => none }
def collisionBodiesRow : OpenClaim := { program := "ytbpneedpcccpaaagreat", sum := "892f8f1b58cff068d2fc95a8929e2d83a213c5a0bd1fb45d77e4db1336948b96", func := "ambidexter/ambidexterlaw14.CollisionBodies", spec := "collisionBodies", unfollowed := true, recurses := true, plainKeys := false, apart := false }
def CollisionBodiesSaid : Prop := collisionBodiesRow.holds Tryz.pinned (OpenSpec.ofChange collisionBodiesSpec)

/-- ITS FALSE NEIGHBOUR: 'it returns false'. Refute it at one input. -/
def collisionBodiesWrong : ChangeSpec := { name := "collisionBodies", fn := fun _ => fun
  | [d1, d2] => { results := [.lit (.bool false)], args := [d1, d2] }
  | _ => none }
def CollisionBodiesWrongFalsely : Prop := collisionBodiesRow.holds Tryz.pinned (OpenSpec.ofChange collisionBodiesWrong)

/- THE SECOND FORM. 'bulk': how many values and letters a reading holds, each counted each time it is reached (what is shared counts as often as it is met; a slice's spare places count too). A statement '..UptoSaid' is the law's where the arguments, and the package variables that the reading takes, are together of bulk at most 1048576: NARROWER than '..Said'. Prove '..Said' where nothing that the law and all that it calls make is longer than what came in: it says more and counts as full. Else prove '..UptoSaid'. A law counts once. -/
mutual
def uptoBulk {H : Type} : DataW H → Nat
  | .lit (.string bytes) => bytes.length + 1
  | .lit _ => 1
  | .nil => 1
  | .ptr d => uptoBulk d + 1
  | .slice elems spare => uptoBulkAll elems + uptoBulkAll spare + 1
  | .agg parts => uptoBulkAll parts + 1
  | .iface _ d => uptoBulk d + 1
  | .map entries => uptoBulkEntries entries + 1
  | .held _ => 1
def uptoBulkAll {H : Type} : List (DataW H) → Nat
  | [] => 0
  | d :: r => uptoBulk d + uptoBulkAll r
def uptoBulkEntries {H : Type} : List (Lit × DataW H) → Nat
  | [] => 0
  | x :: r => uptoBulkEntry x + uptoBulkEntries r
def uptoBulkEntry {H : Type} : Lit × DataW H → Nat
  | (.string bytes, d) => bytes.length + uptoBulk d + 1
  | (_, d) => uptoBulk d + 1
 end
def uptoSmall : (H : Type) → List (DataW H) → Bool := fun _ ds => decide (uptoBulkAll ds ≤ 1048576)
def OpenSpec.upto (s : _root_.Go.ChangeSpec) : _root_.Go.OpenSpec := { _root_.Go.OpenSpec.ofChange s with cond := some uptoSmall }

/-- 'ambidexterlaw14.CollisionMatchesReference', WHERE WHAT IT READS IS OF BULK AT MOST 1048576: true; the input reads as it did. -/
def collisionMatchesReferenceUptoRow : OpenClaim := { program := "ytbpneedpcccpaaagreat", sum := "892f8f1b58cff068d2fc95a8929e2d83a213c5a0bd1fb45d77e4db1336948b96", func := "ambidexter/ambidexterlaw14.CollisionMatchesReference", spec := "collisionMatchesReference", unfollowed := true, recurses := true, plainKeys := false, apart := false, narrowed := true }
def CollisionMatchesReferenceUptoSaid : Prop := collisionMatchesReferenceUptoRow.holds Tryz.pinned (OpenSpec.upto collisionMatchesReferenceSpec)

/-- 'ambidexterlaw14.CollisionTouch', WHERE WHAT IT READS IS OF BULK AT MOST 1048576: true; the input reads as it did. -/
def collisionTouchUptoRow : OpenClaim := { program := "ytbpneedpcccpaaagreat", sum := "892f8f1b58cff068d2fc95a8929e2d83a213c5a0bd1fb45d77e4db1336948b96", func := "ambidexter/ambidexterlaw14.CollisionTouch", spec := "collisionTouch", unfollowed := true, recurses := true, plainKeys := false, apart := false, narrowed := true }
def CollisionTouchUptoSaid : Prop := collisionTouchUptoRow.holds Tryz.pinned (OpenSpec.upto collisionTouchSpec)

/-- 'ambidexterlaw14.CollisionExchanged', WHERE WHAT IT READS IS OF BULK AT MOST 1048576: true; the input reads as it did. -/
def collisionExchangedUptoRow : OpenClaim := { program := "ytbpneedpcccpaaagreat", sum := "892f8f1b58cff068d2fc95a8929e2d83a213c5a0bd1fb45d77e4db1336948b96", func := "ambidexter/ambidexterlaw14.CollisionExchanged", spec := "collisionExchanged", unfollowed := true, recurses := true, plainKeys := false, apart := false, narrowed := true }
def CollisionExchangedUptoSaid : Prop := collisionExchangedUptoRow.holds Tryz.pinned (OpenSpec.upto collisionExchangedSpec)

/-- 'ambidexterlaw14.CollisionAddFixture', WHERE WHAT IT READS IS OF BULK AT MOST 1048576: true; the input reads as it did. -/
def collisionAddFixtureUptoRow : OpenClaim := { program := "ytbpneedpcccpaaagreat", sum := "892f8f1b58cff068d2fc95a8929e2d83a213c5a0bd1fb45d77e4db1336948b96", func := "ambidexter/ambidexterlaw14.CollisionAddFixture", spec := "collisionAddFixture", unfollowed := true, recurses := true, plainKeys := false, apart := false, narrowed := true }
def CollisionAddFixtureUptoSaid : Prop := collisionAddFixtureUptoRow.holds Tryz.pinned (OpenSpec.upto collisionAddFixtureSpec)

/-- 'ambidexterlaw14.CollisionIndependent', WHERE WHAT IT READS IS OF BULK AT MOST 1048576: true; the input reads as it did. -/
def collisionIndependentUptoRow : OpenClaim := { program := "ytbpneedpcccpaaagreat", sum := "892f8f1b58cff068d2fc95a8929e2d83a213c5a0bd1fb45d77e4db1336948b96", func := "ambidexter/ambidexterlaw14.CollisionIndependent", spec := "collisionIndependent", unfollowed := true, recurses := true, plainKeys := false, apart := false, narrowed := true }
def CollisionIndependentUptoSaid : Prop := collisionIndependentUptoRow.holds Tryz.pinned (OpenSpec.upto collisionIndependentSpec)

/-- 'ambidexterlaw14.CollisionTranslated', WHERE WHAT IT READS IS OF BULK AT MOST 1048576: true; the input reads as it did. -/
def collisionTranslatedUptoRow : OpenClaim := { program := "ytbpneedpcccpaaagreat", sum := "892f8f1b58cff068d2fc95a8929e2d83a213c5a0bd1fb45d77e4db1336948b96", func := "ambidexter/ambidexterlaw14.CollisionTranslated", spec := "collisionTranslated", unfollowed := true, recurses := true, plainKeys := false, apart := false, narrowed := true }
def CollisionTranslatedUptoSaid : Prop := collisionTranslatedUptoRow.holds Tryz.pinned (OpenSpec.upto collisionTranslatedSpec)

/-- 'ambidexterlaw14.CollisionBodies', WHERE WHAT IT READS IS OF BULK AT MOST 1048576: true; the input reads as it did. -/
def collisionBodiesUptoRow : OpenClaim := { program := "ytbpneedpcccpaaagreat", sum := "892f8f1b58cff068d2fc95a8929e2d83a213c5a0bd1fb45d77e4db1336948b96", func := "ambidexter/ambidexterlaw14.CollisionBodies", spec := "collisionBodies", unfollowed := true, recurses := true, plainKeys := false, apart := false, narrowed := true }
def CollisionBodiesUptoSaid : Prop := collisionBodiesUptoRow.holds Tryz.pinned (OpenSpec.upto collisionBodiesSpec)

end Rows
end Go.Proofs.YtbpneedpcccpaaaGreat
