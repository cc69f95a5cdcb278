/-
  No cell of these rows narrows 'for every input' (looked for: loops, veiled, ifaces, maps, wideKeys, modest, calm, conditions, laid).
  DERIVED. THE GIVEN ROWS OF THIS SEAT. 10 by the template 'for every input the law returns true; each argument reads behind the call as it read before'; 0 by the template 'total and deterministic' (their statements: YtlakekoekilbaaaTotals.lean).
  GIVEN WITH THE SEED: the statements are not yours to turn. If you find one false, say at which input.
  Laid BY PROGRAM, IN A SANDBOX (cutbox-rows.mjs): the forced cells as the released guide's own fill.sh prints them over the translation a8614612448e73e5… (all of the seat's roots in one cut). By AI agents, Wed Nov 11 2026. No macro, syntax, notation, axiom, sorry.
-/
import Derived.Test.YtlakekoekilbaaaChecked
import GoSem.Claim
import GoSem.ClaimJoined
import GoSem.ClaimMapViews
import Derived.JoinedTies
import Derived.KernelRfl
namespace Go.Proofs.Ytlakekoekilbaaa
/- THE CELL 'sum', in the pinned program and in every row, IS THE sha256 OF THE DUMP (.gsa) THAT YtlakekoekilbaaaProg.lean LOADS. Nothing in Lean hashes anything: it is a label: what it is worth is what the hold of that sum in a sandbox is worth. -/
noncomputable def Try.pinned : Pinned := { name := "ytlakekoekilbaaa", sum := "a8614612448e73e57ac25d92a639550d674ae507384ca12cce629baf697f16aa", checked := Try.checked }
namespace Rows
def none {H : Type} : Left H := { results := [], args := [] }

/-- 'kalendslaw01.NumberMatchesReference': WHATEVER THE INPUT: true; the input reads as it did. -/
def numberMatchesReferenceSpec : ChangeSpec := { name := "numberMatchesReference", fn := fun _ => fun
  | [d1, d2, d3] => { results := [.lit (.bool true)], args := [d1, d2, d3] }
  | _ => none }
def numberMatchesReferenceRow : OpenClaim := { program := "ytlakekoekilbaaa", sum := "a8614612448e73e57ac25d92a639550d674ae507384ca12cce629baf697f16aa", func := "kalends/kalendslaw01.NumberMatchesReference", spec := "numberMatchesReference", unfollowed := true, recurses := true, named := ["math/bits.divideError", "math/bits.overflowError"], apart := false }
def NumberMatchesReferenceSaid : Prop := numberMatchesReferenceRow.holds Try.pinned (OpenSpec.ofChange numberMatchesReferenceSpec)

/-- ITS FALSE NEIGHBOUR: 'it returns false'. Refute it at one input. -/
def numberMatchesReferenceWrong : ChangeSpec := { name := "numberMatchesReference", fn := fun _ => fun
  | [d1, d2, d3] => { results := [.lit (.bool false)], args := [d1, d2, d3] }
  | _ => none }
def NumberMatchesReferenceWrongFalsely : Prop := numberMatchesReferenceRow.holds Try.pinned (OpenSpec.ofChange numberMatchesReferenceWrong)

/-- 'kalendslaw01.NumberSolveMatchesReference': WHATEVER THE INPUT: true; the input reads as it did. -/
def numberSolveMatchesReferenceSpec : ChangeSpec := { name := "numberSolveMatchesReference", fn := fun _ => fun
  | [d1, d2, d3] => { results := [.lit (.bool true)], args := [d1, d2, d3] }
  | _ => none }
def numberSolveMatchesReferenceRow : OpenClaim := { program := "ytlakekoekilbaaa", sum := "a8614612448e73e57ac25d92a639550d674ae507384ca12cce629baf697f16aa", func := "kalends/kalendslaw01.NumberSolveMatchesReference", spec := "numberSolveMatchesReference", unfollowed := true, recurses := true, named := ["math/bits.divideError", "math/bits.overflowError"], apart := false }
def NumberSolveMatchesReferenceSaid : Prop := numberSolveMatchesReferenceRow.holds Try.pinned (OpenSpec.ofChange numberSolveMatchesReferenceSpec)

/-- ITS FALSE NEIGHBOUR: 'it returns false'. Refute it at one input. -/
def numberSolveMatchesReferenceWrong : ChangeSpec := { name := "numberSolveMatchesReference", fn := fun _ => fun
  | [d1, d2, d3] => { results := [.lit (.bool false)], args := [d1, d2, d3] }
  | _ => none }
def NumberSolveMatchesReferenceWrongFalsely : Prop := numberSolveMatchesReferenceRow.holds Try.pinned (OpenSpec.ofChange numberSolveMatchesReferenceWrong)

/-- 'kalendslaw01.NumberDivision': WHATEVER THE INPUT: true; the input reads as it did. -/
def numberDivisionSpec : ChangeSpec := { name := "numberDivision", fn := fun _ => fun
  | [d1, d2] => { results := [.lit (.bool true)], args := [d1, d2] }
  | _ => none }
def numberDivisionRow : OpenClaim := { program := "ytlakekoekilbaaa", sum := "a8614612448e73e57ac25d92a639550d674ae507384ca12cce629baf697f16aa", func := "kalends/kalendslaw01.NumberDivision", spec := "numberDivision", unfollowed := true, recurses := true, named := ["math/bits.divideError", "math/bits.overflowError"], apart := false }
def NumberDivisionSaid : Prop := numberDivisionRow.holds Try.pinned (OpenSpec.ofChange numberDivisionSpec)

/-- ITS FALSE NEIGHBOUR: 'it returns false'. Refute it at one input. -/
def numberDivisionWrong : ChangeSpec := { name := "numberDivision", fn := fun _ => fun
  | [d1, d2] => { results := [.lit (.bool false)], args := [d1, d2] }
  | _ => none }
def NumberDivisionWrongFalsely : Prop := numberDivisionRow.holds Try.pinned (OpenSpec.ofChange numberDivisionWrong)

/-- 'kalendslaw01.NumberGcdIsGreatest': WHATEVER THE INPUT: true; the input reads as it did. -/
def numberGcdIsGreatestSpec : ChangeSpec := { name := "numberGcdIsGreatest", fn := fun _ => fun
  | [d1, d2, d3] => { results := [.lit (.bool true)], args := [d1, d2, d3] }
  | _ => none }
def numberGcdIsGreatestRow : OpenClaim := { program := "ytlakekoekilbaaa", sum := "a8614612448e73e57ac25d92a639550d674ae507384ca12cce629baf697f16aa", func := "kalends/kalendslaw01.NumberGcdIsGreatest", spec := "numberGcdIsGreatest", unfollowed := true, recurses := true, named := ["math/bits.divideError", "math/bits.overflowError"], apart := false }
def NumberGcdIsGreatestSaid : Prop := numberGcdIsGreatestRow.holds Try.pinned (OpenSpec.ofChange numberGcdIsGreatestSpec)

/-- ITS FALSE NEIGHBOUR: 'it returns false'. Refute it at one input. -/
def numberGcdIsGreatestWrong : ChangeSpec := { name := "numberGcdIsGreatest", fn := fun _ => fun
  | [d1, d2, d3] => { results := [.lit (.bool false)], args := [d1, d2, d3] }
  | _ => none }
def NumberGcdIsGreatestWrongFalsely : Prop := numberGcdIsGreatestRow.holds Try.pinned (OpenSpec.ofChange numberGcdIsGreatestWrong)

/-- 'kalendslaw01.NumberLcmIsLeast': WHATEVER THE INPUT: true; the input reads as it did. -/
def numberLcmIsLeastSpec : ChangeSpec := { name := "numberLcmIsLeast", fn := fun _ => fun
  | [d1, d2] => { results := [.lit (.bool true)], args := [d1, d2] }
  | _ => none }
def numberLcmIsLeastRow : OpenClaim := { program := "ytlakekoekilbaaa", sum := "a8614612448e73e57ac25d92a639550d674ae507384ca12cce629baf697f16aa", func := "kalends/kalendslaw01.NumberLcmIsLeast", spec := "numberLcmIsLeast", unfollowed := true, recurses := true, named := ["math/bits.divideError", "math/bits.overflowError"], apart := false }
def NumberLcmIsLeastSaid : Prop := numberLcmIsLeastRow.holds Try.pinned (OpenSpec.ofChange numberLcmIsLeastSpec)

/-- ITS FALSE NEIGHBOUR: 'it returns false'. Refute it at one input. -/
def numberLcmIsLeastWrong : ChangeSpec := { name := "numberLcmIsLeast", fn := fun _ => fun
  | [d1, d2] => { results := [.lit (.bool false)], args := [d1, d2] }
  | _ => none }
def NumberLcmIsLeastWrongFalsely : Prop := numberLcmIsLeastRow.holds Try.pinned (OpenSpec.ofChange numberLcmIsLeastWrong)

/-- 'kalendslaw01.NumberSolveIsExact': WHATEVER THE INPUT: true; the input reads as it did. -/
def numberSolveIsExactSpec : ChangeSpec := { name := "numberSolveIsExact", fn := fun _ => fun
  | [d1, d2, d3] => { results := [.lit (.bool true)], args := [d1, d2, d3] }
  | _ => none }
def numberSolveIsExactRow : OpenClaim := { program := "ytlakekoekilbaaa", sum := "a8614612448e73e57ac25d92a639550d674ae507384ca12cce629baf697f16aa", func := "kalends/kalendslaw01.NumberSolveIsExact", spec := "numberSolveIsExact", unfollowed := true, recurses := true, named := ["math/bits.divideError", "math/bits.overflowError"], apart := false }
def NumberSolveIsExactSaid : Prop := numberSolveIsExactRow.holds Try.pinned (OpenSpec.ofChange numberSolveIsExactSpec)

/-- ITS FALSE NEIGHBOUR: 'it returns false'. Refute it at one input. -/
def numberSolveIsExactWrong : ChangeSpec := { name := "numberSolveIsExact", fn := fun _ => fun
  | [d1, d2, d3] => { results := [.lit (.bool false)], args := [d1, d2, d3] }
  | _ => none }
def NumberSolveIsExactWrongFalsely : Prop := numberSolveIsExactRow.holds Try.pinned (OpenSpec.ofChange numberSolveIsExactWrong)

/-- 'kalendslaw01.NumberSolveThree': WHATEVER THE INPUT: true; the input reads as it did. -/
def numberSolveThreeSpec : ChangeSpec := { name := "numberSolveThree", fn := fun _ => fun
  | [d1, d2] => { results := [.lit (.bool true)], args := [d1, d2] }
  | _ => none }
def numberSolveThreeRow : OpenClaim := { program := "ytlakekoekilbaaa", sum := "a8614612448e73e57ac25d92a639550d674ae507384ca12cce629baf697f16aa", func := "kalends/kalendslaw01.NumberSolveThree", spec := "numberSolveThree", unfollowed := true, recurses := true, named := ["math/bits.divideError", "math/bits.overflowError"], apart := false }
def NumberSolveThreeSaid : Prop := numberSolveThreeRow.holds Try.pinned (OpenSpec.ofChange numberSolveThreeSpec)

/-- ITS FALSE NEIGHBOUR: 'it returns false'. Refute it at one input. -/
def numberSolveThreeWrong : ChangeSpec := { name := "numberSolveThree", fn := fun _ => fun
  | [d1, d2] => { results := [.lit (.bool false)], args := [d1, d2] }
  | _ => none }
def NumberSolveThreeWrongFalsely : Prop := numberSolveThreeRow.holds Try.pinned (OpenSpec.ofChange numberSolveThreeWrong)

/-- 'kalendslaw01.NumberSolveFindsMembers': WHATEVER THE INPUT: true; the input reads as it did. -/
def numberSolveFindsMembersSpec : ChangeSpec := { name := "numberSolveFindsMembers", fn := fun _ => fun
  | [d1, d2, d3] => { results := [.lit (.bool true)], args := [d1, d2, d3] }
  | _ => none }
def numberSolveFindsMembersRow : OpenClaim := { program := "ytlakekoekilbaaa", sum := "a8614612448e73e57ac25d92a639550d674ae507384ca12cce629baf697f16aa", func := "kalends/kalendslaw01.NumberSolveFindsMembers", spec := "numberSolveFindsMembers", unfollowed := true, recurses := true, named := ["math/bits.divideError", "math/bits.overflowError"], apart := false }
def NumberSolveFindsMembersSaid : Prop := numberSolveFindsMembersRow.holds Try.pinned (OpenSpec.ofChange numberSolveFindsMembersSpec)

/-- ITS FALSE NEIGHBOUR: 'it returns false'. Refute it at one input. -/
def numberSolveFindsMembersWrong : ChangeSpec := { name := "numberSolveFindsMembers", fn := fun _ => fun
  | [d1, d2, d3] => { results := [.lit (.bool false)], args := [d1, d2, d3] }
  | _ => none }
def NumberSolveFindsMembersWrongFalsely : Prop := numberSolveFindsMembersRow.holds Try.pinned (OpenSpec.ofChange numberSolveFindsMembersWrong)

/-- 'kalendslaw01.NumberRanksRestore': WHATEVER THE INPUT: true; the input reads as it did. -/
def numberRanksRestoreSpec : ChangeSpec := { name := "numberRanksRestore", fn := fun _ => fun
  | [d] => { results := [.lit (.bool true)], args := [d] }
  | _ => none }
def numberRanksRestoreRow : OpenClaim := { program := "ytlakekoekilbaaa", sum := "a8614612448e73e57ac25d92a639550d674ae507384ca12cce629baf697f16aa", func := "kalends/kalendslaw01.NumberRanksRestore", spec := "numberRanksRestore", unfollowed := true, recurses := true, named := ["math/bits.divideError", "math/bits.overflowError"], apart := false }
def NumberRanksRestoreSaid : Prop := numberRanksRestoreRow.holds Try.pinned (OpenSpec.ofChange numberRanksRestoreSpec)

/-- ITS FALSE NEIGHBOUR: 'it returns false'. Refute it at one input. -/
def numberRanksRestoreWrong : ChangeSpec := { name := "numberRanksRestore", fn := fun _ => fun
  | [d] => { results := [.lit (.bool false)], args := [d] }
  | _ => none }
def NumberRanksRestoreWrongFalsely : Prop := numberRanksRestoreRow.holds Try.pinned (OpenSpec.ofChange numberRanksRestoreWrong)

/-- 'kalendslaw01.NumberPurity': WHATEVER THE INPUT: true; the input reads as it did. -/
def numberPuritySpec : ChangeSpec := { name := "numberPurity", fn := fun _ => fun
  | [d1, d2] => { results := [.lit (.bool true)], args := [d1, d2] }
  | _ => none }
def numberPurityRow : OpenClaim := { program := "ytlakekoekilbaaa", sum := "a8614612448e73e57ac25d92a639550d674ae507384ca12cce629baf697f16aa", func := "kalends/kalendslaw01.NumberPurity", spec := "numberPurity", unfollowed := true, recurses := true, named := ["math/bits.divideError", "math/bits.overflowError"], apart := false }
def NumberPuritySaid : Prop := numberPurityRow.holds Try.pinned (OpenSpec.ofChange numberPuritySpec)

/-- ITS FALSE NEIGHBOUR: 'it returns false'. Refute it at one input. -/
def numberPurityWrong : ChangeSpec := { name := "numberPurity", fn := fun _ => fun
  | [d1, d2] => { results := [.lit (.bool false)], args := [d1, d2] }
  | _ => none }
def NumberPurityWrongFalsely : Prop := numberPurityRow.holds Try.pinned (OpenSpec.ofChange numberPurityWrong)

/- THE SECOND FORM. 'bulk': how many values and letters a reading holds, each counted each time it is reached (what is shared counts as often as it is met; a slice's spare places count too). A statement '..UptoSaid' is the law's where the arguments, and the package variables that the reading takes, are together of bulk at most 1048576: NARROWER than '..Said'. Prove '..Said' where nothing that the law and all that it calls make is longer than what came in: it says more and counts as full. Else prove '..UptoSaid'. A law counts once. -/
mutual
def uptoBulk {H : Type} : DataW H → Nat
  | .lit (.string bytes) => bytes.length + 1
  | .lit _ => 1
  | .nil => 1
  | .ptr d => uptoBulk d + 1
  | .slice elems spare => uptoBulkAll elems + uptoBulkAll spare + 1
  | .agg parts => uptoBulkAll parts + 1
  | .iface _ d => uptoBulk d + 1
  | .map entries => uptoBulkEntries entries + 1
  | .held _ => 1
def uptoBulkAll {H : Type} : List (DataW H) → Nat
  | [] => 0
  | d :: r => uptoBulk d + uptoBulkAll r
def uptoBulkEntries {H : Type} : List (Lit × DataW H) → Nat
  | [] => 0
  | x :: r => uptoBulkEntry x + uptoBulkEntries r
def uptoBulkEntry {H : Type} : Lit × DataW H → Nat
  | (.string bytes, d) => bytes.length + uptoBulk d + 1
  | (_, d) => uptoBulk d + 1
 end
def uptoSmall : (H : Type) → List (DataW H) → Bool := fun _ ds => decide (uptoBulkAll ds ≤ 1048576)
def OpenSpec.upto (s : _root_.Go.ChangeSpec) : _root_.Go.OpenSpec := { _root_.Go.OpenSpec.ofChange s with cond := some uptoSmall }

/-- 'kalendslaw01.NumberMatchesReference', WHERE WHAT IT READS IS OF BULK AT MOST 1048576: true; the input reads as it did. -/
def numberMatchesReferenceUptoRow : OpenClaim := { program := "ytlakekoekilbaaa", sum := "a8614612448e73e57ac25d92a639550d674ae507384ca12cce629baf697f16aa", func := "kalends/kalendslaw01.NumberMatchesReference", spec := "numberMatchesReference", unfollowed := true, recurses := true, named := ["math/bits.divideError", "math/bits.overflowError"], apart := false, narrowed := true }
def NumberMatchesReferenceUptoSaid : Prop := numberMatchesReferenceUptoRow.holds Try.pinned (OpenSpec.upto numberMatchesReferenceSpec)

/-- 'kalendslaw01.NumberSolveMatchesReference', WHERE WHAT IT READS IS OF BULK AT MOST 1048576: true; the input reads as it did. -/
def numberSolveMatchesReferenceUptoRow : OpenClaim := { program := "ytlakekoekilbaaa", sum := "a8614612448e73e57ac25d92a639550d674ae507384ca12cce629baf697f16aa", func := "kalends/kalendslaw01.NumberSolveMatchesReference", spec := "numberSolveMatchesReference", unfollowed := true, recurses := true, named := ["math/bits.divideError", "math/bits.overflowError"], apart := false, narrowed := true }
def NumberSolveMatchesReferenceUptoSaid : Prop := numberSolveMatchesReferenceUptoRow.holds Try.pinned (OpenSpec.upto numberSolveMatchesReferenceSpec)

/-- 'kalendslaw01.NumberDivision', WHERE WHAT IT READS IS OF BULK AT MOST 1048576: true; the input reads as it did. -/
def numberDivisionUptoRow : OpenClaim := { program := "ytlakekoekilbaaa", sum := "a8614612448e73e57ac25d92a639550d674ae507384ca12cce629baf697f16aa", func := "kalends/kalendslaw01.NumberDivision", spec := "numberDivision", unfollowed := true, recurses := true, named := ["math/bits.divideError", "math/bits.overflowError"], apart := false, narrowed := true }
def NumberDivisionUptoSaid : Prop := numberDivisionUptoRow.holds Try.pinned (OpenSpec.upto numberDivisionSpec)

/-- 'kalendslaw01.NumberGcdIsGreatest', WHERE WHAT IT READS IS OF BULK AT MOST 1048576: true; the input reads as it did. -/
def numberGcdIsGreatestUptoRow : OpenClaim := { program := "ytlakekoekilbaaa", sum := "a8614612448e73e57ac25d92a639550d674ae507384ca12cce629baf697f16aa", func := "kalends/kalendslaw01.NumberGcdIsGreatest", spec := "numberGcdIsGreatest", unfollowed := true, recurses := true, named := ["math/bits.divideError", "math/bits.overflowError"], apart := false, narrowed := true }
def NumberGcdIsGreatestUptoSaid : Prop := numberGcdIsGreatestUptoRow.holds Try.pinned (OpenSpec.upto numberGcdIsGreatestSpec)

/-- 'kalendslaw01.NumberLcmIsLeast', WHERE WHAT IT READS IS OF BULK AT MOST 1048576: true; the input reads as it did. -/
def numberLcmIsLeastUptoRow : OpenClaim := { program := "ytlakekoekilbaaa", sum := "a8614612448e73e57ac25d92a639550d674ae507384ca12cce629baf697f16aa", func := "kalends/kalendslaw01.NumberLcmIsLeast", spec := "numberLcmIsLeast", unfollowed := true, recurses := true, named := ["math/bits.divideError", "math/bits.overflowError"], apart := false, narrowed := true }
def NumberLcmIsLeastUptoSaid : Prop := numberLcmIsLeastUptoRow.holds Try.pinned (OpenSpec.upto numberLcmIsLeastSpec)

/-- 'kalendslaw01.NumberSolveIsExact', WHERE WHAT IT READS IS OF BULK AT MOST 1048576: true; the input reads as it did. -/
def numberSolveIsExactUptoRow : OpenClaim := { program := "ytlakekoekilbaaa", sum := "a8614612448e73e57ac25d92a639550d674ae507384ca12cce629baf697f16aa", func := "kalends/kalendslaw01.NumberSolveIsExact", spec := "numberSolveIsExact", unfollowed := true, recurses := true, named := ["math/bits.divideError", "math/bits.overflowError"], apart := false, narrowed := true }
def NumberSolveIsExactUptoSaid : Prop := numberSolveIsExactUptoRow.holds Try.pinned (OpenSpec.upto numberSolveIsExactSpec)

/-- 'kalendslaw01.NumberSolveThree', WHERE WHAT IT READS IS OF BULK AT MOST 1048576: true; the input reads as it did. -/
def numberSolveThreeUptoRow : OpenClaim := { program := "ytlakekoekilbaaa", sum := "a8614612448e73e57ac25d92a639550d674ae507384ca12cce629baf697f16aa", func := "kalends/kalendslaw01.NumberSolveThree", spec := "numberSolveThree", unfollowed := true, recurses := true, named := ["math/bits.divideError", "math/bits.overflowError"], apart := false, narrowed := true }
def NumberSolveThreeUptoSaid : Prop := numberSolveThreeUptoRow.holds Try.pinned (OpenSpec.upto numberSolveThreeSpec)

/-- 'kalendslaw01.NumberSolveFindsMembers', WHERE WHAT IT READS IS OF BULK AT MOST 1048576: true; the input reads as it did. -/
def numberSolveFindsMembersUptoRow : OpenClaim := { program := "ytlakekoekilbaaa", sum := "a8614612448e73e57ac25d92a639550d674ae507384ca12cce629baf697f16aa", func := "kalends/kalendslaw01.NumberSolveFindsMembers", spec := "numberSolveFindsMembers", unfollowed := true, recurses := true, named := ["math/bits.divideError", "math/bits.overflowError"], apart := false, narrowed := true }
def NumberSolveFindsMembersUptoSaid : Prop := numberSolveFindsMembersUptoRow.holds Try.pinned (OpenSpec.upto numberSolveFindsMembersSpec)

/-- 'kalendslaw01.NumberRanksRestore', WHERE WHAT IT READS IS OF BULK AT MOST 1048576: true; the input reads as it did. -/
def numberRanksRestoreUptoRow : OpenClaim := { program := "ytlakekoekilbaaa", sum := "a8614612448e73e57ac25d92a639550d674ae507384ca12cce629baf697f16aa", func := "kalends/kalendslaw01.NumberRanksRestore", spec := "numberRanksRestore", unfollowed := true, recurses := true, named := ["math/bits.divideError", "math/bits.overflowError"], apart := false, narrowed := true }
def NumberRanksRestoreUptoSaid : Prop := numberRanksRestoreUptoRow.holds Try.pinned (OpenSpec.upto numberRanksRestoreSpec)

/-- 'kalendslaw01.NumberPurity', WHERE WHAT IT READS IS OF BULK AT MOST 1048576: true; the input reads as it did. -/
def numberPurityUptoRow : OpenClaim := { program := "ytlakekoekilbaaa", sum := "a8614612448e73e57ac25d92a639550d674ae507384ca12cce629baf697f16aa", func := "kalends/kalendslaw01.NumberPurity", spec := "numberPurity", unfollowed := true, recurses := true, named := ["math/bits.divideError", "math/bits.overflowError"], apart := false, narrowed := true }
def NumberPurityUptoSaid : Prop := numberPurityUptoRow.holds Try.pinned (OpenSpec.upto numberPuritySpec)

end Rows
end Go.Proofs.Ytlakekoekilbaaa
