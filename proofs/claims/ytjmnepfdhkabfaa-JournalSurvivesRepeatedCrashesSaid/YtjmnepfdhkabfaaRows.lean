/-
  No cell of these rows narrows 'for every input' (looked for: loops, veiled, ifaces, maps, wideKeys, modest, calm, conditions, laid).
  DERIVED. THE GIVEN ROWS OF THIS SEAT. 12 by the template 'for every input the law returns true; each argument reads behind the call as it read before'; 0 by the template 'total and deterministic' (their statements: YtjmnepfdhkabfaaTotals.lean).
  GIVEN WITH THE SEED: the statements are not yours to turn. If you find one false, say at which input.
  Laid BY PROGRAM, IN A SANDBOX (cutbox-rows.mjs): the forced cells as the released guide's own fill.sh prints them over the translation 8012e61243784d6c… (all of the seat's roots in one cut). By AI agents, Wed Nov 11 2026. No macro, syntax, notation, axiom, sorry.
-/
import Derived.Test.YtjmnepfdhkabfaaChecked
import GoSem.Claim
import GoSem.ClaimJoined
import GoSem.ClaimMapViews
import Derived.JoinedTies
import Derived.KernelRfl
namespace Go.Proofs.Ytjmnepfdhkabfaa
/- THE CELL 'sum', in the pinned program and in every row, IS THE sha256 OF THE DUMP (.gsa) THAT YtjmnepfdhkabfaaProg.lean LOADS. Nothing in Lean hashes anything: it is a label: what it is worth is what the hold of that sum in a sandbox is worth. -/
noncomputable def Try.pinned : Pinned := { name := "ytjmnepfdhkabfaa", sum := "8012e61243784d6c9cd02cfd2094c3dfec39aeedecb2508b4765b267fee60f4e", checked := Try.checked }
namespace Rows
def none {H : Type} : Left H := { results := [], args := [] }

/-- 'ambidexterlaw30.DiskMatchesReference': WHATEVER THE INPUT: true; the input reads as it did. -/
def diskMatchesReferenceSpec : ChangeSpec := { name := "diskMatchesReference", fn := fun _ => fun
  | [d1, d2, d3, d4, d5] => { results := [.lit (.bool true)], args := [d1, d2, d3, d4, d5] }
  | _ => none }
def diskMatchesReferenceRow : OpenClaim := { program := "ytjmnepfdhkabfaa", sum := "8012e61243784d6c9cd02cfd2094c3dfec39aeedecb2508b4765b267fee60f4e", func := "ambidexter/ambidexterlaw30.DiskMatchesReference", spec := "diskMatchesReference", unfollowed := true, recurses := true, apart := false }
def DiskMatchesReferenceSaid : Prop := diskMatchesReferenceRow.holds Try.pinned (OpenSpec.ofChange diskMatchesReferenceSpec)

/-- ITS FALSE NEIGHBOUR: 'it returns false'. Refute it at one input. -/
def diskMatchesReferenceWrong : ChangeSpec := { name := "diskMatchesReference", fn := fun _ => fun
  | [d1, d2, d3, d4, d5] => { results := [.lit (.bool false)], args := [d1, d2, d3, d4, d5] }
  | _ => none }
def DiskMatchesReferenceWrongFalsely : Prop := diskMatchesReferenceRow.holds Try.pinned (OpenSpec.ofChange diskMatchesReferenceWrong)

/-- 'ambidexterlaw30.DiskInvariant': WHATEVER THE INPUT: true; the input reads as it did. -/
def diskInvariantSpec : ChangeSpec := { name := "diskInvariant", fn := fun _ => fun
  | [d1, d2, d3] => { results := [.lit (.bool true)], args := [d1, d2, d3] }
  | _ => none }
def diskInvariantRow : OpenClaim := { program := "ytjmnepfdhkabfaa", sum := "8012e61243784d6c9cd02cfd2094c3dfec39aeedecb2508b4765b267fee60f4e", func := "ambidexter/ambidexterlaw30.DiskInvariant", spec := "diskInvariant", unfollowed := true, recurses := true, apart := false }
def DiskInvariantSaid : Prop := diskInvariantRow.holds Try.pinned (OpenSpec.ofChange diskInvariantSpec)

/-- ITS FALSE NEIGHBOUR: 'it returns false'. Refute it at one input. -/
def diskInvariantWrong : ChangeSpec := { name := "diskInvariant", fn := fun _ => fun
  | [d1, d2, d3] => { results := [.lit (.bool false)], args := [d1, d2, d3] }
  | _ => none }
def DiskInvariantWrongFalsely : Prop := diskInvariantRow.holds Try.pinned (OpenSpec.ofChange diskInvariantWrong)

/-- 'ambidexterlaw30.DiskDurable': WHATEVER THE INPUT: true; the input reads as it did. -/
def diskDurableSpec : ChangeSpec := { name := "diskDurable", fn := fun _ => fun
  | [d1, d2, d3] => { results := [.lit (.bool true)], args := [d1, d2, d3] }
  | _ => none }
def diskDurableRow : OpenClaim := { program := "ytjmnepfdhkabfaa", sum := "8012e61243784d6c9cd02cfd2094c3dfec39aeedecb2508b4765b267fee60f4e", func := "ambidexter/ambidexterlaw30.DiskDurable", spec := "diskDurable", unfollowed := true, recurses := true, apart := false }
def DiskDurableSaid : Prop := diskDurableRow.holds Try.pinned (OpenSpec.ofChange diskDurableSpec)

/-- ITS FALSE NEIGHBOUR: 'it returns false'. Refute it at one input. -/
def diskDurableWrong : ChangeSpec := { name := "diskDurable", fn := fun _ => fun
  | [d1, d2, d3] => { results := [.lit (.bool false)], args := [d1, d2, d3] }
  | _ => none }
def DiskDurableWrongFalsely : Prop := diskDurableRow.holds Try.pinned (OpenSpec.ofChange diskDurableWrong)

/-- 'ambidexterlaw30.DiskTorn': WHATEVER THE INPUT: true; the input reads as it did. -/
def diskTornSpec : ChangeSpec := { name := "diskTorn", fn := fun _ => fun
  | [d1, d2, d3] => { results := [.lit (.bool true)], args := [d1, d2, d3] }
  | _ => none }
def diskTornRow : OpenClaim := { program := "ytjmnepfdhkabfaa", sum := "8012e61243784d6c9cd02cfd2094c3dfec39aeedecb2508b4765b267fee60f4e", func := "ambidexter/ambidexterlaw30.DiskTorn", spec := "diskTorn", unfollowed := true, recurses := true, apart := false }
def DiskTornSaid : Prop := diskTornRow.holds Try.pinned (OpenSpec.ofChange diskTornSpec)

/-- ITS FALSE NEIGHBOUR: 'it returns false'. Refute it at one input. -/
def diskTornWrong : ChangeSpec := { name := "diskTorn", fn := fun _ => fun
  | [d1, d2, d3] => { results := [.lit (.bool false)], args := [d1, d2, d3] }
  | _ => none }
def DiskTornWrongFalsely : Prop := diskTornRow.holds Try.pinned (OpenSpec.ofChange diskTornWrong)

/-- 'ambidexterlaw30.DiskFuse': WHATEVER THE INPUT: true; the input reads as it did. -/
def diskFuseSpec : ChangeSpec := { name := "diskFuse", fn := fun _ => fun
  | [d1, d2, d3] => { results := [.lit (.bool true)], args := [d1, d2, d3] }
  | _ => none }
def diskFuseRow : OpenClaim := { program := "ytjmnepfdhkabfaa", sum := "8012e61243784d6c9cd02cfd2094c3dfec39aeedecb2508b4765b267fee60f4e", func := "ambidexter/ambidexterlaw30.DiskFuse", spec := "diskFuse", unfollowed := true, recurses := true, apart := false }
def DiskFuseSaid : Prop := diskFuseRow.holds Try.pinned (OpenSpec.ofChange diskFuseSpec)

/-- ITS FALSE NEIGHBOUR: 'it returns false'. Refute it at one input. -/
def diskFuseWrong : ChangeSpec := { name := "diskFuse", fn := fun _ => fun
  | [d1, d2, d3] => { results := [.lit (.bool false)], args := [d1, d2, d3] }
  | _ => none }
def DiskFuseWrongFalsely : Prop := diskFuseRow.holds Try.pinned (OpenSpec.ofChange diskFuseWrong)

/-- 'ambidexterlaw30.DiskCommute': WHATEVER THE INPUT: true; the input reads as it did. -/
def diskCommuteSpec : ChangeSpec := { name := "diskCommute", fn := fun _ => fun
  | [d1, d2, d3, d4] => { results := [.lit (.bool true)], args := [d1, d2, d3, d4] }
  | _ => none }
def diskCommuteRow : OpenClaim := { program := "ytjmnepfdhkabfaa", sum := "8012e61243784d6c9cd02cfd2094c3dfec39aeedecb2508b4765b267fee60f4e", func := "ambidexter/ambidexterlaw30.DiskCommute", spec := "diskCommute", unfollowed := true, recurses := true, apart := false }
def DiskCommuteSaid : Prop := diskCommuteRow.holds Try.pinned (OpenSpec.ofChange diskCommuteSpec)

/-- ITS FALSE NEIGHBOUR: 'it returns false'. Refute it at one input. -/
def diskCommuteWrong : ChangeSpec := { name := "diskCommute", fn := fun _ => fun
  | [d1, d2, d3, d4] => { results := [.lit (.bool false)], args := [d1, d2, d3, d4] }
  | _ => none }
def DiskCommuteWrongFalsely : Prop := diskCommuteRow.holds Try.pinned (OpenSpec.ofChange diskCommuteWrong)

/-- 'ambidexterlaw31.JournalRoundTrip': WHATEVER THE INPUT: true; the input reads as it did. -/
def journalRoundTripSpec : ChangeSpec := { name := "journalRoundTrip", fn := fun _ => fun
  | [d1, d2, d3] => { results := [.lit (.bool true)], args := [d1, d2, d3] }
  | _ => none }
def journalRoundTripRow : OpenClaim := { program := "ytjmnepfdhkabfaa", sum := "8012e61243784d6c9cd02cfd2094c3dfec39aeedecb2508b4765b267fee60f4e", func := "ambidexter/ambidexterlaw31.JournalRoundTrip", spec := "journalRoundTrip", unfollowed := true, recurses := true, apart := false }
def JournalRoundTripSaid : Prop := journalRoundTripRow.holds Try.pinned (OpenSpec.ofChange journalRoundTripSpec)

/-- ITS FALSE NEIGHBOUR: 'it returns false'. Refute it at one input. -/
def journalRoundTripWrong : ChangeSpec := { name := "journalRoundTrip", fn := fun _ => fun
  | [d1, d2, d3] => { results := [.lit (.bool false)], args := [d1, d2, d3] }
  | _ => none }
def JournalRoundTripWrongFalsely : Prop := journalRoundTripRow.holds Try.pinned (OpenSpec.ofChange journalRoundTripWrong)

/-- 'ambidexterlaw31.JournalDetectsCorruption': WHATEVER THE INPUT: true; the input reads as it did. -/
def journalDetectsCorruptionSpec : ChangeSpec := { name := "journalDetectsCorruption", fn := fun _ => fun
  | [d1, d2, d3] => { results := [.lit (.bool true)], args := [d1, d2, d3] }
  | _ => none }
def journalDetectsCorruptionRow : OpenClaim := { program := "ytjmnepfdhkabfaa", sum := "8012e61243784d6c9cd02cfd2094c3dfec39aeedecb2508b4765b267fee60f4e", func := "ambidexter/ambidexterlaw31.JournalDetectsCorruption", spec := "journalDetectsCorruption", unfollowed := true, recurses := true, apart := false }
def JournalDetectsCorruptionSaid : Prop := journalDetectsCorruptionRow.holds Try.pinned (OpenSpec.ofChange journalDetectsCorruptionSpec)

/-- ITS FALSE NEIGHBOUR: 'it returns false'. Refute it at one input. -/
def journalDetectsCorruptionWrong : ChangeSpec := { name := "journalDetectsCorruption", fn := fun _ => fun
  | [d1, d2, d3] => { results := [.lit (.bool false)], args := [d1, d2, d3] }
  | _ => none }
def JournalDetectsCorruptionWrongFalsely : Prop := journalDetectsCorruptionRow.holds Try.pinned (OpenSpec.ofChange journalDetectsCorruptionWrong)

/-- 'ambidexterlaw31.JournalRecoversLastRecord': WHATEVER THE INPUT: true; the input reads as it did. -/
def journalRecoversLastRecordSpec : ChangeSpec := { name := "journalRecoversLastRecord", fn := fun _ => fun
  | [d1, d2] => { results := [.lit (.bool true)], args := [d1, d2] }
  | _ => none }
def journalRecoversLastRecordRow : OpenClaim := { program := "ytjmnepfdhkabfaa", sum := "8012e61243784d6c9cd02cfd2094c3dfec39aeedecb2508b4765b267fee60f4e", func := "ambidexter/ambidexterlaw31.JournalRecoversLastRecord", spec := "journalRecoversLastRecord", unfollowed := true, recurses := true, apart := false }
def JournalRecoversLastRecordSaid : Prop := journalRecoversLastRecordRow.holds Try.pinned (OpenSpec.ofChange journalRecoversLastRecordSpec)

/-- ITS FALSE NEIGHBOUR: 'it returns false'. Refute it at one input. -/
def journalRecoversLastRecordWrong : ChangeSpec := { name := "journalRecoversLastRecord", fn := fun _ => fun
  | [d1, d2] => { results := [.lit (.bool false)], args := [d1, d2] }
  | _ => none }
def JournalRecoversLastRecordWrongFalsely : Prop := journalRecoversLastRecordRow.holds Try.pinned (OpenSpec.ofChange journalRecoversLastRecordWrong)

/-- 'ambidexterlaw31.JournalSurvivesTornWrites': WHATEVER THE INPUT: true; the input reads as it did. -/
def journalSurvivesTornWritesSpec : ChangeSpec := { name := "journalSurvivesTornWrites", fn := fun _ => fun
  | [d1, d2, d3, d4] => { results := [.lit (.bool true)], args := [d1, d2, d3, d4] }
  | _ => none }
def journalSurvivesTornWritesRow : OpenClaim := { program := "ytjmnepfdhkabfaa", sum := "8012e61243784d6c9cd02cfd2094c3dfec39aeedecb2508b4765b267fee60f4e", func := "ambidexter/ambidexterlaw31.JournalSurvivesTornWrites", spec := "journalSurvivesTornWrites", unfollowed := true, recurses := true, apart := false }
def JournalSurvivesTornWritesSaid : Prop := journalSurvivesTornWritesRow.holds Try.pinned (OpenSpec.ofChange journalSurvivesTornWritesSpec)

/-- ITS FALSE NEIGHBOUR: 'it returns false'. Refute it at one input. -/
def journalSurvivesTornWritesWrong : ChangeSpec := { name := "journalSurvivesTornWrites", fn := fun _ => fun
  | [d1, d2, d3, d4] => { results := [.lit (.bool false)], args := [d1, d2, d3, d4] }
  | _ => none }
def JournalSurvivesTornWritesWrongFalsely : Prop := journalSurvivesTornWritesRow.holds Try.pinned (OpenSpec.ofChange journalSurvivesTornWritesWrong)

/-- 'ambidexterlaw31.JournalSurvivesRepeatedCrashes': WHATEVER THE INPUT: true; the input reads as it did. -/
def journalSurvivesRepeatedCrashesSpec : ChangeSpec := { name := "journalSurvivesRepeatedCrashes", fn := fun _ => fun
  | [d1, d2, d3] => { results := [.lit (.bool true)], args := [d1, d2, d3] }
  | _ => none }
def journalSurvivesRepeatedCrashesRow : OpenClaim := { program := "ytjmnepfdhkabfaa", sum := "8012e61243784d6c9cd02cfd2094c3dfec39aeedecb2508b4765b267fee60f4e", func := "ambidexter/ambidexterlaw31.JournalSurvivesRepeatedCrashes", spec := "journalSurvivesRepeatedCrashes", unfollowed := true, recurses := true, apart := false }
def JournalSurvivesRepeatedCrashesSaid : Prop := journalSurvivesRepeatedCrashesRow.holds Try.pinned (OpenSpec.ofChange journalSurvivesRepeatedCrashesSpec)

/-- ITS FALSE NEIGHBOUR: 'it returns false'. Refute it at one input. -/
def journalSurvivesRepeatedCrashesWrong : ChangeSpec := { name := "journalSurvivesRepeatedCrashes", fn := fun _ => fun
  | [d1, d2, d3] => { results := [.lit (.bool false)], args := [d1, d2, d3] }
  | _ => none }
def JournalSurvivesRepeatedCrashesWrongFalsely : Prop := journalSurvivesRepeatedCrashesRow.holds Try.pinned (OpenSpec.ofChange journalSurvivesRepeatedCrashesWrong)

/-- 'ambidextertop.TopReversedProfile': WHATEVER THE INPUT: true; the input reads as it did. -/
def topReversedProfileSpec : ChangeSpec := { name := "topReversedProfile", fn := fun _ => fun
  | [d1, d2, d3, d4] => { results := [.lit (.bool true)], args := [d1, d2, d3, d4] }
  | _ => none }
def topReversedProfileRow : OpenClaim := { program := "ytjmnepfdhkabfaa", sum := "8012e61243784d6c9cd02cfd2094c3dfec39aeedecb2508b4765b267fee60f4e", func := "ambidexter/ambidextertop.TopReversedProfile", spec := "topReversedProfile", unfollowed := true, recurses := true, apart := false }
def TopReversedProfileSaid : Prop := topReversedProfileRow.holds Try.pinned (OpenSpec.ofChange topReversedProfileSpec)

/-- ITS FALSE NEIGHBOUR: 'it returns false'. Refute it at one input. -/
def topReversedProfileWrong : ChangeSpec := { name := "topReversedProfile", fn := fun _ => fun
  | [d1, d2, d3, d4] => { results := [.lit (.bool false)], args := [d1, d2, d3, d4] }
  | _ => none }
def TopReversedProfileWrongFalsely : Prop := topReversedProfileRow.holds Try.pinned (OpenSpec.ofChange topReversedProfileWrong)

/- THE SECOND FORM. 'bulk': how many values and letters a reading holds, each counted each time it is reached (what is shared counts as often as it is met; a slice's spare places count too). A statement '..UptoSaid' is the law's where the arguments, and the package variables that the reading takes, are together of bulk at most 1048576: NARROWER than '..Said'. Prove '..Said' where nothing that the law and all that it calls make is longer than what came in: it says more and counts as full. Else prove '..UptoSaid'. A law counts once. -/
mutual
def uptoBulk {H : Type} : DataW H → Nat
  | .lit (.string bytes) => bytes.length + 1
  | .lit _ => 1
  | .nil => 1
  | .ptr d => uptoBulk d + 1
  | .slice elems spare => uptoBulkAll elems + uptoBulkAll spare + 1
  | .agg parts => uptoBulkAll parts + 1
  | .iface _ d => uptoBulk d + 1
  | .map entries => uptoBulkEntries entries + 1
  | .held _ => 1
def uptoBulkAll {H : Type} : List (DataW H) → Nat
  | [] => 0
  | d :: r => uptoBulk d + uptoBulkAll r
def uptoBulkEntries {H : Type} : List (Lit × DataW H) → Nat
  | [] => 0
  | x :: r => uptoBulkEntry x + uptoBulkEntries r
def uptoBulkEntry {H : Type} : Lit × DataW H → Nat
  | (.string bytes, d) => bytes.length + uptoBulk d + 1
  | (_, d) => uptoBulk d + 1
 end
def uptoSmall : (H : Type) → List (DataW H) → Bool := fun _ ds => decide (uptoBulkAll ds ≤ 1048576)
def OpenSpec.upto (s : _root_.Go.ChangeSpec) : _root_.Go.OpenSpec := { _root_.Go.OpenSpec.ofChange s with cond := some uptoSmall }

/-- 'ambidexterlaw30.DiskMatchesReference', WHERE WHAT IT READS IS OF BULK AT MOST 1048576: true; the input reads as it did. -/
def diskMatchesReferenceUptoRow : OpenClaim := { program := "ytjmnepfdhkabfaa", sum := "8012e61243784d6c9cd02cfd2094c3dfec39aeedecb2508b4765b267fee60f4e", func := "ambidexter/ambidexterlaw30.DiskMatchesReference", spec := "diskMatchesReference", unfollowed := true, recurses := true, apart := false, narrowed := true }
def DiskMatchesReferenceUptoSaid : Prop := diskMatchesReferenceUptoRow.holds Try.pinned (OpenSpec.upto diskMatchesReferenceSpec)

/-- 'ambidexterlaw30.DiskInvariant', WHERE WHAT IT READS IS OF BULK AT MOST 1048576: true; the input reads as it did. -/
def diskInvariantUptoRow : OpenClaim := { program := "ytjmnepfdhkabfaa", sum := "8012e61243784d6c9cd02cfd2094c3dfec39aeedecb2508b4765b267fee60f4e", func := "ambidexter/ambidexterlaw30.DiskInvariant", spec := "diskInvariant", unfollowed := true, recurses := true, apart := false, narrowed := true }
def DiskInvariantUptoSaid : Prop := diskInvariantUptoRow.holds Try.pinned (OpenSpec.upto diskInvariantSpec)

/-- 'ambidexterlaw30.DiskDurable', WHERE WHAT IT READS IS OF BULK AT MOST 1048576: true; the input reads as it did. -/
def diskDurableUptoRow : OpenClaim := { program := "ytjmnepfdhkabfaa", sum := "8012e61243784d6c9cd02cfd2094c3dfec39aeedecb2508b4765b267fee60f4e", func := "ambidexter/ambidexterlaw30.DiskDurable", spec := "diskDurable", unfollowed := true, recurses := true, apart := false, narrowed := true }
def DiskDurableUptoSaid : Prop := diskDurableUptoRow.holds Try.pinned (OpenSpec.upto diskDurableSpec)

/-- 'ambidexterlaw30.DiskTorn', WHERE WHAT IT READS IS OF BULK AT MOST 1048576: true; the input reads as it did. -/
def diskTornUptoRow : OpenClaim := { program := "ytjmnepfdhkabfaa", sum := "8012e61243784d6c9cd02cfd2094c3dfec39aeedecb2508b4765b267fee60f4e", func := "ambidexter/ambidexterlaw30.DiskTorn", spec := "diskTorn", unfollowed := true, recurses := true, apart := false, narrowed := true }
def DiskTornUptoSaid : Prop := diskTornUptoRow.holds Try.pinned (OpenSpec.upto diskTornSpec)

/-- 'ambidexterlaw30.DiskFuse', WHERE WHAT IT READS IS OF BULK AT MOST 1048576: true; the input reads as it did. -/
def diskFuseUptoRow : OpenClaim := { program := "ytjmnepfdhkabfaa", sum := "8012e61243784d6c9cd02cfd2094c3dfec39aeedecb2508b4765b267fee60f4e", func := "ambidexter/ambidexterlaw30.DiskFuse", spec := "diskFuse", unfollowed := true, recurses := true, apart := false, narrowed := true }
def DiskFuseUptoSaid : Prop := diskFuseUptoRow.holds Try.pinned (OpenSpec.upto diskFuseSpec)

/-- 'ambidexterlaw30.DiskCommute', WHERE WHAT IT READS IS OF BULK AT MOST 1048576: true; the input reads as it did. -/
def diskCommuteUptoRow : OpenClaim := { program := "ytjmnepfdhkabfaa", sum := "8012e61243784d6c9cd02cfd2094c3dfec39aeedecb2508b4765b267fee60f4e", func := "ambidexter/ambidexterlaw30.DiskCommute", spec := "diskCommute", unfollowed := true, recurses := true, apart := false, narrowed := true }
def DiskCommuteUptoSaid : Prop := diskCommuteUptoRow.holds Try.pinned (OpenSpec.upto diskCommuteSpec)

/-- 'ambidexterlaw31.JournalRoundTrip', WHERE WHAT IT READS IS OF BULK AT MOST 1048576: true; the input reads as it did. -/
def journalRoundTripUptoRow : OpenClaim := { program := "ytjmnepfdhkabfaa", sum := "8012e61243784d6c9cd02cfd2094c3dfec39aeedecb2508b4765b267fee60f4e", func := "ambidexter/ambidexterlaw31.JournalRoundTrip", spec := "journalRoundTrip", unfollowed := true, recurses := true, apart := false, narrowed := true }
def JournalRoundTripUptoSaid : Prop := journalRoundTripUptoRow.holds Try.pinned (OpenSpec.upto journalRoundTripSpec)

/-- 'ambidexterlaw31.JournalDetectsCorruption', WHERE WHAT IT READS IS OF BULK AT MOST 1048576: true; the input reads as it did. -/
def journalDetectsCorruptionUptoRow : OpenClaim := { program := "ytjmnepfdhkabfaa", sum := "8012e61243784d6c9cd02cfd2094c3dfec39aeedecb2508b4765b267fee60f4e", func := "ambidexter/ambidexterlaw31.JournalDetectsCorruption", spec := "journalDetectsCorruption", unfollowed := true, recurses := true, apart := false, narrowed := true }
def JournalDetectsCorruptionUptoSaid : Prop := journalDetectsCorruptionUptoRow.holds Try.pinned (OpenSpec.upto journalDetectsCorruptionSpec)

/-- 'ambidexterlaw31.JournalRecoversLastRecord', WHERE WHAT IT READS IS OF BULK AT MOST 1048576: true; the input reads as it did. -/
def journalRecoversLastRecordUptoRow : OpenClaim := { program := "ytjmnepfdhkabfaa", sum := "8012e61243784d6c9cd02cfd2094c3dfec39aeedecb2508b4765b267fee60f4e", func := "ambidexter/ambidexterlaw31.JournalRecoversLastRecord", spec := "journalRecoversLastRecord", unfollowed := true, recurses := true, apart := false, narrowed := true }
def JournalRecoversLastRecordUptoSaid : Prop := journalRecoversLastRecordUptoRow.holds Try.pinned (OpenSpec.upto journalRecoversLastRecordSpec)

/-- 'ambidexterlaw31.JournalSurvivesTornWrites', WHERE WHAT IT READS IS OF BULK AT MOST 1048576: true; the input reads as it did. -/
def journalSurvivesTornWritesUptoRow : OpenClaim := { program := "ytjmnepfdhkabfaa", sum := "8012e61243784d6c9cd02cfd2094c3dfec39aeedecb2508b4765b267fee60f4e", func := "ambidexter/ambidexterlaw31.JournalSurvivesTornWrites", spec := "journalSurvivesTornWrites", unfollowed := true, recurses := true, apart := false, narrowed := true }
def JournalSurvivesTornWritesUptoSaid : Prop := journalSurvivesTornWritesUptoRow.holds Try.pinned (OpenSpec.upto journalSurvivesTornWritesSpec)

/-- 'ambidexterlaw31.JournalSurvivesRepeatedCrashes', WHERE WHAT IT READS IS OF BULK AT MOST 1048576: true; the input reads as it did. -/
def journalSurvivesRepeatedCrashesUptoRow : OpenClaim := { program := "ytjmnepfdhkabfaa", sum := "8012e61243784d6c9cd02cfd2094c3dfec39aeedecb2508b4765b267fee60f4e", func := "ambidexter/ambidexterlaw31.JournalSurvivesRepeatedCrashes", spec := "journalSurvivesRepeatedCrashes", unfollowed := true, recurses := true, apart := false, narrowed := true }
def JournalSurvivesRepeatedCrashesUptoSaid : Prop := journalSurvivesRepeatedCrashesUptoRow.holds Try.pinned (OpenSpec.upto journalSurvivesRepeatedCrashesSpec)

/-- 'ambidextertop.TopReversedProfile', WHERE WHAT IT READS IS OF BULK AT MOST 1048576: true; the input reads as it did. -/
def topReversedProfileUptoRow : OpenClaim := { program := "ytjmnepfdhkabfaa", sum := "8012e61243784d6c9cd02cfd2094c3dfec39aeedecb2508b4765b267fee60f4e", func := "ambidexter/ambidextertop.TopReversedProfile", spec := "topReversedProfile", unfollowed := true, recurses := true, apart := false, narrowed := true }
def TopReversedProfileUptoSaid : Prop := topReversedProfileUptoRow.holds Try.pinned (OpenSpec.upto topReversedProfileSpec)

end Rows
end Go.Proofs.Ytjmnepfdhkabfaa
