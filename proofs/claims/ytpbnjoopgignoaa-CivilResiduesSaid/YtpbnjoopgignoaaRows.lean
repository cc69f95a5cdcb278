/-
  No cell of these rows narrows 'for every input' (looked for: loops, veiled, ifaces, maps, wideKeys, modest, calm, conditions, laid).
  DERIVED. THE GIVEN ROWS OF THIS SEAT. 10 by the template 'for every input the law returns true; each argument reads behind the call as it read before'; 0 by the template 'total and deterministic' (their statements: YtpbnjoopgignoaaTotals.lean).
  GIVEN WITH THE SEED: the statements are not yours to turn. If you find one false, say at which input.
  Laid BY PROGRAM, IN A SANDBOX (cutbox-rows.mjs): the forced cells as the released guide's own fill.sh prints them over the translation 07eb4623c1363041… (all of the seat's roots in one cut). By AI agents, Wed Nov 11 2026. No macro, syntax, notation, axiom, sorry.
-/
import Derived.Test.YtpbnjoopgignoaaChecked
import GoSem.Claim
import GoSem.ClaimJoined
import GoSem.ClaimMapViews
import Derived.JoinedTies
import Derived.KernelRfl
namespace Go.Proofs.Ytpbnjoopgignoaa
/- THE CELL 'sum', in the pinned program and in every row, IS THE sha256 OF THE DUMP (.gsa) THAT YtpbnjoopgignoaaProg.lean LOADS. Nothing in Lean hashes anything: it is a label: what it is worth is what the hold of that sum in a sandbox is worth. -/
noncomputable def Try.pinned : Pinned := { name := "ytpbnjoopgignoaa", sum := "07eb4623c13630415a2b05f53eb70b4d54de8bd303ce44d78bcdd7662017a666", checked := Try.checked }
namespace Rows
def none {H : Type} : Left H := { results := [], args := [] }

/-- 'kalendslaw02.CivilMatchesReference': WHATEVER THE INPUT: true; the input reads as it did. -/
def civilMatchesReferenceSpec : ChangeSpec := { name := "civilMatchesReference", fn := fun _ => fun
  | [d1, d2] => { results := [.lit (.bool true)], args := [d1, d2] }
  | _ => none }
def civilMatchesReferenceRow : OpenClaim := { program := "ytpbnjoopgignoaa", sum := "07eb4623c13630415a2b05f53eb70b4d54de8bd303ce44d78bcdd7662017a666", func := "kalends/kalendslaw02.CivilMatchesReference", spec := "civilMatchesReference", unfollowed := true, recurses := true, apart := false }
def CivilMatchesReferenceSaid : Prop := civilMatchesReferenceRow.holds Try.pinned (OpenSpec.ofChange civilMatchesReferenceSpec)

/-- ITS FALSE NEIGHBOUR: 'it returns false'. Refute it at one input. -/
def civilMatchesReferenceWrong : ChangeSpec := { name := "civilMatchesReference", fn := fun _ => fun
  | [d1, d2] => { results := [.lit (.bool false)], args := [d1, d2] }
  | _ => none }
def CivilMatchesReferenceWrongFalsely : Prop := civilMatchesReferenceRow.holds Try.pinned (OpenSpec.ofChange civilMatchesReferenceWrong)

/-- 'kalendslaw02.CivilDatesMatchReference': WHATEVER THE INPUT: true; the input reads as it did. -/
def civilDatesMatchReferenceSpec : ChangeSpec := { name := "civilDatesMatchReference", fn := fun _ => fun
  | [d1, d2, d3] => { results := [.lit (.bool true)], args := [d1, d2, d3] }
  | _ => none }
def civilDatesMatchReferenceRow : OpenClaim := { program := "ytpbnjoopgignoaa", sum := "07eb4623c13630415a2b05f53eb70b4d54de8bd303ce44d78bcdd7662017a666", func := "kalends/kalendslaw02.CivilDatesMatchReference", spec := "civilDatesMatchReference", unfollowed := true, recurses := true, apart := false }
def CivilDatesMatchReferenceSaid : Prop := civilDatesMatchReferenceRow.holds Try.pinned (OpenSpec.ofChange civilDatesMatchReferenceSpec)

/-- ITS FALSE NEIGHBOUR: 'it returns false'. Refute it at one input. -/
def civilDatesMatchReferenceWrong : ChangeSpec := { name := "civilDatesMatchReference", fn := fun _ => fun
  | [d1, d2, d3] => { results := [.lit (.bool false)], args := [d1, d2, d3] }
  | _ => none }
def CivilDatesMatchReferenceWrongFalsely : Prop := civilDatesMatchReferenceRow.holds Try.pinned (OpenSpec.ofChange civilDatesMatchReferenceWrong)

/-- 'kalendslaw02.CivilRoundTrip': WHATEVER THE INPUT: true; the input reads as it did. -/
def civilRoundTripSpec : ChangeSpec := { name := "civilRoundTrip", fn := fun _ => fun
  | [d1, d2, d3] => { results := [.lit (.bool true)], args := [d1, d2, d3] }
  | _ => none }
def civilRoundTripRow : OpenClaim := { program := "ytpbnjoopgignoaa", sum := "07eb4623c13630415a2b05f53eb70b4d54de8bd303ce44d78bcdd7662017a666", func := "kalends/kalendslaw02.CivilRoundTrip", spec := "civilRoundTrip", unfollowed := true, recurses := true, apart := false }
def CivilRoundTripSaid : Prop := civilRoundTripRow.holds Try.pinned (OpenSpec.ofChange civilRoundTripSpec)

/-- ITS FALSE NEIGHBOUR: 'it returns false'. Refute it at one input. -/
def civilRoundTripWrong : ChangeSpec := { name := "civilRoundTrip", fn := fun _ => fun
  | [d1, d2, d3] => { results := [.lit (.bool false)], args := [d1, d2, d3] }
  | _ => none }
def CivilRoundTripWrongFalsely : Prop := civilRoundTripRow.holds Try.pinned (OpenSpec.ofChange civilRoundTripWrong)

/-- 'kalendslaw02.CivilSuccessor': WHATEVER THE INPUT: true; the input reads as it did. -/
def civilSuccessorSpec : ChangeSpec := { name := "civilSuccessor", fn := fun _ => fun
  | [d1, d2] => { results := [.lit (.bool true)], args := [d1, d2] }
  | _ => none }
def civilSuccessorRow : OpenClaim := { program := "ytpbnjoopgignoaa", sum := "07eb4623c13630415a2b05f53eb70b4d54de8bd303ce44d78bcdd7662017a666", func := "kalends/kalendslaw02.CivilSuccessor", spec := "civilSuccessor", unfollowed := true, recurses := true, apart := false }
def CivilSuccessorSaid : Prop := civilSuccessorRow.holds Try.pinned (OpenSpec.ofChange civilSuccessorSpec)

/-- ITS FALSE NEIGHBOUR: 'it returns false'. Refute it at one input. -/
def civilSuccessorWrong : ChangeSpec := { name := "civilSuccessor", fn := fun _ => fun
  | [d1, d2] => { results := [.lit (.bool false)], args := [d1, d2] }
  | _ => none }
def CivilSuccessorWrongFalsely : Prop := civilSuccessorRow.holds Try.pinned (OpenSpec.ofChange civilSuccessorWrong)

/-- 'kalendslaw02.CivilLengths': WHATEVER THE INPUT: true; the input reads as it did. -/
def civilLengthsSpec : ChangeSpec := { name := "civilLengths", fn := fun _ => fun
  | [d1, d2] => { results := [.lit (.bool true)], args := [d1, d2] }
  | _ => none }
def civilLengthsRow : OpenClaim := { program := "ytpbnjoopgignoaa", sum := "07eb4623c13630415a2b05f53eb70b4d54de8bd303ce44d78bcdd7662017a666", func := "kalends/kalendslaw02.CivilLengths", spec := "civilLengths", unfollowed := true, recurses := true, apart := false }
def CivilLengthsSaid : Prop := civilLengthsRow.holds Try.pinned (OpenSpec.ofChange civilLengthsSpec)

/-- ITS FALSE NEIGHBOUR: 'it returns false'. Refute it at one input. -/
def civilLengthsWrong : ChangeSpec := { name := "civilLengths", fn := fun _ => fun
  | [d1, d2] => { results := [.lit (.bool false)], args := [d1, d2] }
  | _ => none }
def CivilLengthsWrongFalsely : Prop := civilLengthsRow.holds Try.pinned (OpenSpec.ofChange civilLengthsWrong)

/-- 'kalendslaw02.CivilRepeats': WHATEVER THE INPUT: true; the input reads as it did. -/
def civilRepeatsSpec : ChangeSpec := { name := "civilRepeats", fn := fun _ => fun
  | [d1, d2, d3] => { results := [.lit (.bool true)], args := [d1, d2, d3] }
  | _ => none }
def civilRepeatsRow : OpenClaim := { program := "ytpbnjoopgignoaa", sum := "07eb4623c13630415a2b05f53eb70b4d54de8bd303ce44d78bcdd7662017a666", func := "kalends/kalendslaw02.CivilRepeats", spec := "civilRepeats", unfollowed := true, recurses := true, apart := false }
def CivilRepeatsSaid : Prop := civilRepeatsRow.holds Try.pinned (OpenSpec.ofChange civilRepeatsSpec)

/-- ITS FALSE NEIGHBOUR: 'it returns false'. Refute it at one input. -/
def civilRepeatsWrong : ChangeSpec := { name := "civilRepeats", fn := fun _ => fun
  | [d1, d2, d3] => { results := [.lit (.bool false)], args := [d1, d2, d3] }
  | _ => none }
def CivilRepeatsWrongFalsely : Prop := civilRepeatsRow.holds Try.pinned (OpenSpec.ofChange civilRepeatsWrong)

/-- 'kalendslaw02.CivilWeeks': WHATEVER THE INPUT: true; the input reads as it did. -/
def civilWeeksSpec : ChangeSpec := { name := "civilWeeks", fn := fun _ => fun
  | [d1, d2] => { results := [.lit (.bool true)], args := [d1, d2] }
  | _ => none }
def civilWeeksRow : OpenClaim := { program := "ytpbnjoopgignoaa", sum := "07eb4623c13630415a2b05f53eb70b4d54de8bd303ce44d78bcdd7662017a666", func := "kalends/kalendslaw02.CivilWeeks", spec := "civilWeeks", unfollowed := true, recurses := true, apart := false }
def CivilWeeksSaid : Prop := civilWeeksRow.holds Try.pinned (OpenSpec.ofChange civilWeeksSpec)

/-- ITS FALSE NEIGHBOUR: 'it returns false'. Refute it at one input. -/
def civilWeeksWrong : ChangeSpec := { name := "civilWeeks", fn := fun _ => fun
  | [d1, d2] => { results := [.lit (.bool false)], args := [d1, d2] }
  | _ => none }
def CivilWeeksWrongFalsely : Prop := civilWeeksRow.holds Try.pinned (OpenSpec.ofChange civilWeeksWrong)

/-- 'kalendslaw02.CivilPositions': WHATEVER THE INPUT: true; the input reads as it did. -/
def civilPositionsSpec : ChangeSpec := { name := "civilPositions", fn := fun _ => fun
  | [d1, d2, d3] => { results := [.lit (.bool true)], args := [d1, d2, d3] }
  | _ => none }
def civilPositionsRow : OpenClaim := { program := "ytpbnjoopgignoaa", sum := "07eb4623c13630415a2b05f53eb70b4d54de8bd303ce44d78bcdd7662017a666", func := "kalends/kalendslaw02.CivilPositions", spec := "civilPositions", unfollowed := true, recurses := true, apart := false }
def CivilPositionsSaid : Prop := civilPositionsRow.holds Try.pinned (OpenSpec.ofChange civilPositionsSpec)

/-- ITS FALSE NEIGHBOUR: 'it returns false'. Refute it at one input. -/
def civilPositionsWrong : ChangeSpec := { name := "civilPositions", fn := fun _ => fun
  | [d1, d2, d3] => { results := [.lit (.bool false)], args := [d1, d2, d3] }
  | _ => none }
def CivilPositionsWrongFalsely : Prop := civilPositionsRow.holds Try.pinned (OpenSpec.ofChange civilPositionsWrong)

/-- 'kalendslaw02.CivilJulian': WHATEVER THE INPUT: true; the input reads as it did. -/
def civilJulianSpec : ChangeSpec := { name := "civilJulian", fn := fun _ => fun
  | [d] => { results := [.lit (.bool true)], args := [d] }
  | _ => none }
def civilJulianRow : OpenClaim := { program := "ytpbnjoopgignoaa", sum := "07eb4623c13630415a2b05f53eb70b4d54de8bd303ce44d78bcdd7662017a666", func := "kalends/kalendslaw02.CivilJulian", spec := "civilJulian", unfollowed := true, recurses := true, apart := false }
def CivilJulianSaid : Prop := civilJulianRow.holds Try.pinned (OpenSpec.ofChange civilJulianSpec)

/-- ITS FALSE NEIGHBOUR: 'it returns false'. Refute it at one input. -/
def civilJulianWrong : ChangeSpec := { name := "civilJulian", fn := fun _ => fun
  | [d] => { results := [.lit (.bool false)], args := [d] }
  | _ => none }
def CivilJulianWrongFalsely : Prop := civilJulianRow.holds Try.pinned (OpenSpec.ofChange civilJulianWrong)

/-- 'kalendslaw02.CivilResidues': WHATEVER THE INPUT: true; the input reads as it did. -/
def civilResiduesSpec : ChangeSpec := { name := "civilResidues", fn := fun _ => fun
  | [d] => { results := [.lit (.bool true)], args := [d] }
  | _ => none }
def civilResiduesRow : OpenClaim := { program := "ytpbnjoopgignoaa", sum := "07eb4623c13630415a2b05f53eb70b4d54de8bd303ce44d78bcdd7662017a666", func := "kalends/kalendslaw02.CivilResidues", spec := "civilResidues", unfollowed := true, recurses := true, named := ["math/bits.divideError", "math/bits.overflowError"], apart := false }
def CivilResiduesSaid : Prop := civilResiduesRow.holds Try.pinned (OpenSpec.ofChange civilResiduesSpec)

/-- ITS FALSE NEIGHBOUR: 'it returns false'. Refute it at one input. -/
def civilResiduesWrong : ChangeSpec := { name := "civilResidues", fn := fun _ => fun
  | [d] => { results := [.lit (.bool false)], args := [d] }
  | _ => none }
def CivilResiduesWrongFalsely : Prop := civilResiduesRow.holds Try.pinned (OpenSpec.ofChange civilResiduesWrong)

/- THE SECOND FORM. 'bulk': how many values and letters a reading holds, each counted each time it is reached (what is shared counts as often as it is met; a slice's spare places count too). A statement '..UptoSaid' is the law's where the arguments, and the package variables that the reading takes, are together of bulk at most 1048576: NARROWER than '..Said'. Prove '..Said' where nothing that the law and all that it calls make is longer than what came in: it says more and counts as full. Else prove '..UptoSaid'. A law counts once. -/
mutual
def uptoBulk {H : Type} : DataW H → Nat
  | .lit (.string bytes) => bytes.length + 1
  | .lit _ => 1
  | .nil => 1
  | .ptr d => uptoBulk d + 1
  | .slice elems spare => uptoBulkAll elems + uptoBulkAll spare + 1
  | .agg parts => uptoBulkAll parts + 1
  | .iface _ d => uptoBulk d + 1
  | .map entries => uptoBulkEntries entries + 1
  | .held _ => 1
def uptoBulkAll {H : Type} : List (DataW H) → Nat
  | [] => 0
  | d :: r => uptoBulk d + uptoBulkAll r
def uptoBulkEntries {H : Type} : List (Lit × DataW H) → Nat
  | [] => 0
  | x :: r => uptoBulkEntry x + uptoBulkEntries r
def uptoBulkEntry {H : Type} : Lit × DataW H → Nat
  | (.string bytes, d) => bytes.length + uptoBulk d + 1
  | (_, d) => uptoBulk d + 1
 end
def uptoSmall : (H : Type) → List (DataW H) → Bool := fun _ ds => decide (uptoBulkAll ds ≤ 1048576)
def OpenSpec.upto (s : _root_.Go.ChangeSpec) : _root_.Go.OpenSpec := { _root_.Go.OpenSpec.ofChange s with cond := some uptoSmall }

/-- 'kalendslaw02.CivilMatchesReference', WHERE WHAT IT READS IS OF BULK AT MOST 1048576: true; the input reads as it did. -/
def civilMatchesReferenceUptoRow : OpenClaim := { program := "ytpbnjoopgignoaa", sum := "07eb4623c13630415a2b05f53eb70b4d54de8bd303ce44d78bcdd7662017a666", func := "kalends/kalendslaw02.CivilMatchesReference", spec := "civilMatchesReference", unfollowed := true, recurses := true, apart := false, narrowed := true }
def CivilMatchesReferenceUptoSaid : Prop := civilMatchesReferenceUptoRow.holds Try.pinned (OpenSpec.upto civilMatchesReferenceSpec)

/-- 'kalendslaw02.CivilDatesMatchReference', WHERE WHAT IT READS IS OF BULK AT MOST 1048576: true; the input reads as it did. -/
def civilDatesMatchReferenceUptoRow : OpenClaim := { program := "ytpbnjoopgignoaa", sum := "07eb4623c13630415a2b05f53eb70b4d54de8bd303ce44d78bcdd7662017a666", func := "kalends/kalendslaw02.CivilDatesMatchReference", spec := "civilDatesMatchReference", unfollowed := true, recurses := true, apart := false, narrowed := true }
def CivilDatesMatchReferenceUptoSaid : Prop := civilDatesMatchReferenceUptoRow.holds Try.pinned (OpenSpec.upto civilDatesMatchReferenceSpec)

/-- 'kalendslaw02.CivilRoundTrip', WHERE WHAT IT READS IS OF BULK AT MOST 1048576: true; the input reads as it did. -/
def civilRoundTripUptoRow : OpenClaim := { program := "ytpbnjoopgignoaa", sum := "07eb4623c13630415a2b05f53eb70b4d54de8bd303ce44d78bcdd7662017a666", func := "kalends/kalendslaw02.CivilRoundTrip", spec := "civilRoundTrip", unfollowed := true, recurses := true, apart := false, narrowed := true }
def CivilRoundTripUptoSaid : Prop := civilRoundTripUptoRow.holds Try.pinned (OpenSpec.upto civilRoundTripSpec)

/-- 'kalendslaw02.CivilSuccessor', WHERE WHAT IT READS IS OF BULK AT MOST 1048576: true; the input reads as it did. -/
def civilSuccessorUptoRow : OpenClaim := { program := "ytpbnjoopgignoaa", sum := "07eb4623c13630415a2b05f53eb70b4d54de8bd303ce44d78bcdd7662017a666", func := "kalends/kalendslaw02.CivilSuccessor", spec := "civilSuccessor", unfollowed := true, recurses := true, apart := false, narrowed := true }
def CivilSuccessorUptoSaid : Prop := civilSuccessorUptoRow.holds Try.pinned (OpenSpec.upto civilSuccessorSpec)

/-- 'kalendslaw02.CivilLengths', WHERE WHAT IT READS IS OF BULK AT MOST 1048576: true; the input reads as it did. -/
def civilLengthsUptoRow : OpenClaim := { program := "ytpbnjoopgignoaa", sum := "07eb4623c13630415a2b05f53eb70b4d54de8bd303ce44d78bcdd7662017a666", func := "kalends/kalendslaw02.CivilLengths", spec := "civilLengths", unfollowed := true, recurses := true, apart := false, narrowed := true }
def CivilLengthsUptoSaid : Prop := civilLengthsUptoRow.holds Try.pinned (OpenSpec.upto civilLengthsSpec)

/-- 'kalendslaw02.CivilRepeats', WHERE WHAT IT READS IS OF BULK AT MOST 1048576: true; the input reads as it did. -/
def civilRepeatsUptoRow : OpenClaim := { program := "ytpbnjoopgignoaa", sum := "07eb4623c13630415a2b05f53eb70b4d54de8bd303ce44d78bcdd7662017a666", func := "kalends/kalendslaw02.CivilRepeats", spec := "civilRepeats", unfollowed := true, recurses := true, apart := false, narrowed := true }
def CivilRepeatsUptoSaid : Prop := civilRepeatsUptoRow.holds Try.pinned (OpenSpec.upto civilRepeatsSpec)

/-- 'kalendslaw02.CivilWeeks', WHERE WHAT IT READS IS OF BULK AT MOST 1048576: true; the input reads as it did. -/
def civilWeeksUptoRow : OpenClaim := { program := "ytpbnjoopgignoaa", sum := "07eb4623c13630415a2b05f53eb70b4d54de8bd303ce44d78bcdd7662017a666", func := "kalends/kalendslaw02.CivilWeeks", spec := "civilWeeks", unfollowed := true, recurses := true, apart := false, narrowed := true }
def CivilWeeksUptoSaid : Prop := civilWeeksUptoRow.holds Try.pinned (OpenSpec.upto civilWeeksSpec)

/-- 'kalendslaw02.CivilPositions', WHERE WHAT IT READS IS OF BULK AT MOST 1048576: true; the input reads as it did. -/
def civilPositionsUptoRow : OpenClaim := { program := "ytpbnjoopgignoaa", sum := "07eb4623c13630415a2b05f53eb70b4d54de8bd303ce44d78bcdd7662017a666", func := "kalends/kalendslaw02.CivilPositions", spec := "civilPositions", unfollowed := true, recurses := true, apart := false, narrowed := true }
def CivilPositionsUptoSaid : Prop := civilPositionsUptoRow.holds Try.pinned (OpenSpec.upto civilPositionsSpec)

/-- 'kalendslaw02.CivilJulian', WHERE WHAT IT READS IS OF BULK AT MOST 1048576: true; the input reads as it did. -/
def civilJulianUptoRow : OpenClaim := { program := "ytpbnjoopgignoaa", sum := "07eb4623c13630415a2b05f53eb70b4d54de8bd303ce44d78bcdd7662017a666", func := "kalends/kalendslaw02.CivilJulian", spec := "civilJulian", unfollowed := true, recurses := true, apart := false, narrowed := true }
def CivilJulianUptoSaid : Prop := civilJulianUptoRow.holds Try.pinned (OpenSpec.upto civilJulianSpec)

/-- 'kalendslaw02.CivilResidues', WHERE WHAT IT READS IS OF BULK AT MOST 1048576: true; the input reads as it did. -/
def civilResiduesUptoRow : OpenClaim := { program := "ytpbnjoopgignoaa", sum := "07eb4623c13630415a2b05f53eb70b4d54de8bd303ce44d78bcdd7662017a666", func := "kalends/kalendslaw02.CivilResidues", spec := "civilResidues", unfollowed := true, recurses := true, named := ["math/bits.divideError", "math/bits.overflowError"], apart := false, narrowed := true }
def CivilResiduesUptoSaid : Prop := civilResiduesUptoRow.holds Try.pinned (OpenSpec.upto civilResiduesSpec)

end Rows
end Go.Proofs.Ytpbnjoopgignoaa
