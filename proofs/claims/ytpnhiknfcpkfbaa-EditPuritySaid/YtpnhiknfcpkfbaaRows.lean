/-
  No cell of these rows narrows 'for every input' (looked for: loops, veiled, ifaces, maps, wideKeys, modest, calm, conditions, laid).
  DERIVED. THE GIVEN ROWS OF THIS SEAT. 8 by the template 'for every input the law returns true; each argument reads behind the call as it read before'; 0 by the template 'total and deterministic' (their statements: YtpnhiknfcpkfbaaTotals.lean).
  GIVEN WITH THE SEED: the statements are not yours to turn. If you find one false, say at which input.
  Laid BY PROGRAM, IN A SANDBOX (cutbox-rows.mjs): the forced cells as the released guide's own fill.sh prints them over the translation c669459f94881563… (all of the seat's roots in one cut). By AI agents, Wed Nov 11 2026. No macro, syntax, notation, axiom, sorry.
-/
import Derived.Test.YtpnhiknfcpkfbaaChecked
import GoSem.Claim
import GoSem.ClaimJoined
import GoSem.ClaimMapViews
import Derived.JoinedTies
import Derived.KernelRfl
namespace Go.Proofs.Ytpnhiknfcpkfbaa
/- THE CELL 'sum', in the pinned program and in every row, IS THE sha256 OF THE DUMP (.gsa) THAT YtpnhiknfcpkfbaaProg.lean LOADS. Nothing in Lean hashes anything: it is a label: what it is worth is what the hold of that sum in a sandbox is worth. -/
noncomputable def Try.pinned : Pinned := { name := "ytpnhiknfcpkfbaa", sum := "c669459f9488156320c24300c97075a62c50fff968707c356ef191dfa643924f", checked := Try.checked }
namespace Rows
def none {H : Type} : Left H := { results := [], args := [] }

/-- 'kalendslaw36.EditOrder': WHATEVER THE INPUT: true; the input reads as it did. -/
def editOrderSpec : ChangeSpec := { name := "editOrder", fn := fun _ => fun
  | [d1, d2, d3] => { results := [.lit (.bool true)], args := [d1, d2, d3] }
  | _ => none }
def editOrderRow : OpenClaim := { program := "ytpnhiknfcpkfbaa", sum := "c669459f9488156320c24300c97075a62c50fff968707c356ef191dfa643924f", func := "kalends/kalendslaw36.EditOrder", spec := "editOrder", unfollowed := true, recurses := true, plainKeys := false, apart := false }
def EditOrderSaid : Prop := editOrderRow.holds Try.pinned (OpenSpec.ofChange editOrderSpec)

/-- ITS FALSE NEIGHBOUR: 'it returns false'. Refute it at one input. -/
def editOrderWrong : ChangeSpec := { name := "editOrder", fn := fun _ => fun
  | [d1, d2, d3] => { results := [.lit (.bool false)], args := [d1, d2, d3] }
  | _ => none }
def EditOrderWrongFalsely : Prop := editOrderRow.holds Try.pinned (OpenSpec.ofChange editOrderWrong)

/-- 'kalendslaw36.EditConvergence': WHATEVER THE INPUT: true; the input reads as it did. -/
def editConvergenceSpec : ChangeSpec := { name := "editConvergence", fn := fun _ => fun
  | [d1, d2, d3] => { results := [.lit (.bool true)], args := [d1, d2, d3] }
  | _ => none }
def editConvergenceRow : OpenClaim := { program := "ytpnhiknfcpkfbaa", sum := "c669459f9488156320c24300c97075a62c50fff968707c356ef191dfa643924f", func := "kalends/kalendslaw36.EditConvergence", spec := "editConvergence", unfollowed := true, recurses := true, plainKeys := false, apart := false }
def EditConvergenceSaid : Prop := editConvergenceRow.holds Try.pinned (OpenSpec.ofChange editConvergenceSpec)

/-- ITS FALSE NEIGHBOUR: 'it returns false'. Refute it at one input. -/
def editConvergenceWrong : ChangeSpec := { name := "editConvergence", fn := fun _ => fun
  | [d1, d2, d3] => { results := [.lit (.bool false)], args := [d1, d2, d3] }
  | _ => none }
def EditConvergenceWrongFalsely : Prop := editConvergenceRow.holds Try.pinned (OpenSpec.ofChange editConvergenceWrong)

/-- 'kalendslaw36.EditNothingIsLost': WHATEVER THE INPUT: true; the input reads as it did. -/
def editNothingIsLostSpec : ChangeSpec := { name := "editNothingIsLost", fn := fun _ => fun
  | [d] => { results := [.lit (.bool true)], args := [d] }
  | _ => none }
def editNothingIsLostRow : OpenClaim := { program := "ytpnhiknfcpkfbaa", sum := "c669459f9488156320c24300c97075a62c50fff968707c356ef191dfa643924f", func := "kalends/kalendslaw36.EditNothingIsLost", spec := "editNothingIsLost", unfollowed := true, recurses := true, plainKeys := false, apart := false }
def EditNothingIsLostSaid : Prop := editNothingIsLostRow.holds Try.pinned (OpenSpec.ofChange editNothingIsLostSpec)

/-- ITS FALSE NEIGHBOUR: 'it returns false'. Refute it at one input. -/
def editNothingIsLostWrong : ChangeSpec := { name := "editNothingIsLost", fn := fun _ => fun
  | [d] => { results := [.lit (.bool false)], args := [d] }
  | _ => none }
def EditNothingIsLostWrongFalsely : Prop := editNothingIsLostRow.holds Try.pinned (OpenSpec.ofChange editNothingIsLostWrong)

/-- 'kalendslaw36.EditRebaseBeforeMerge': WHATEVER THE INPUT: true; the input reads as it did. -/
def editRebaseBeforeMergeSpec : ChangeSpec := { name := "editRebaseBeforeMerge", fn := fun _ => fun
  | [d1, d2, d3] => { results := [.lit (.bool true)], args := [d1, d2, d3] }
  | _ => none }
def editRebaseBeforeMergeRow : OpenClaim := { program := "ytpnhiknfcpkfbaa", sum := "c669459f9488156320c24300c97075a62c50fff968707c356ef191dfa643924f", func := "kalends/kalendslaw36.EditRebaseBeforeMerge", spec := "editRebaseBeforeMerge", unfollowed := true, recurses := true, plainKeys := false, apart := false }
def EditRebaseBeforeMergeSaid : Prop := editRebaseBeforeMergeRow.holds Try.pinned (OpenSpec.ofChange editRebaseBeforeMergeSpec)

/-- ITS FALSE NEIGHBOUR: 'it returns false'. Refute it at one input. -/
def editRebaseBeforeMergeWrong : ChangeSpec := { name := "editRebaseBeforeMerge", fn := fun _ => fun
  | [d1, d2, d3] => { results := [.lit (.bool false)], args := [d1, d2, d3] }
  | _ => none }
def EditRebaseBeforeMergeWrongFalsely : Prop := editRebaseBeforeMergeRow.holds Try.pinned (OpenSpec.ofChange editRebaseBeforeMergeWrong)

/-- 'kalendslaw36.EditPartsHoldDays': WHATEVER THE INPUT: true; the input reads as it did. -/
def editPartsHoldDaysSpec : ChangeSpec := { name := "editPartsHoldDays", fn := fun _ => fun
  | [d1, d2, d3] => { results := [.lit (.bool true)], args := [d1, d2, d3] }
  | _ => none }
def editPartsHoldDaysRow : OpenClaim := { program := "ytpnhiknfcpkfbaa", sum := "c669459f9488156320c24300c97075a62c50fff968707c356ef191dfa643924f", func := "kalends/kalendslaw36.EditPartsHoldDays", spec := "editPartsHoldDays", unfollowed := true, recurses := true, plainKeys := false, apart := false }
def EditPartsHoldDaysSaid : Prop := editPartsHoldDaysRow.holds Try.pinned (OpenSpec.ofChange editPartsHoldDaysSpec)

/-- ITS FALSE NEIGHBOUR: 'it returns false'. Refute it at one input. -/
def editPartsHoldDaysWrong : ChangeSpec := { name := "editPartsHoldDays", fn := fun _ => fun
  | [d1, d2, d3] => { results := [.lit (.bool false)], args := [d1, d2, d3] }
  | _ => none }
def EditPartsHoldDaysWrongFalsely : Prop := editPartsHoldDaysRow.holds Try.pinned (OpenSpec.ofChange editPartsHoldDaysWrong)

/-- 'kalendslaw36.EditInForceHasEffect': WHATEVER THE INPUT: true; the input reads as it did. -/
def editInForceHasEffectSpec : ChangeSpec := { name := "editInForceHasEffect", fn := fun _ => fun
  | [d1, d2] => { results := [.lit (.bool true)], args := [d1, d2] }
  | _ => none }
def editInForceHasEffectRow : OpenClaim := { program := "ytpnhiknfcpkfbaa", sum := "c669459f9488156320c24300c97075a62c50fff968707c356ef191dfa643924f", func := "kalends/kalendslaw36.EditInForceHasEffect", spec := "editInForceHasEffect", unfollowed := true, recurses := true, plainKeys := false, apart := false }
def EditInForceHasEffectSaid : Prop := editInForceHasEffectRow.holds Try.pinned (OpenSpec.ofChange editInForceHasEffectSpec)

/-- ITS FALSE NEIGHBOUR: 'it returns false'. Refute it at one input. -/
def editInForceHasEffectWrong : ChangeSpec := { name := "editInForceHasEffect", fn := fun _ => fun
  | [d1, d2] => { results := [.lit (.bool false)], args := [d1, d2] }
  | _ => none }
def EditInForceHasEffectWrongFalsely : Prop := editInForceHasEffectRow.holds Try.pinned (OpenSpec.ofChange editInForceHasEffectWrong)

/-- 'kalendslaw36.EditConflictsAreRefused': WHATEVER THE INPUT: true; the input reads as it did. -/
def editConflictsAreRefusedSpec : ChangeSpec := { name := "editConflictsAreRefused", fn := fun _ => fun
  | [d1, d2, d3] => { results := [.lit (.bool true)], args := [d1, d2, d3] }
  | _ => none }
def editConflictsAreRefusedRow : OpenClaim := { program := "ytpnhiknfcpkfbaa", sum := "c669459f9488156320c24300c97075a62c50fff968707c356ef191dfa643924f", func := "kalends/kalendslaw36.EditConflictsAreRefused", spec := "editConflictsAreRefused", unfollowed := true, recurses := true, plainKeys := false, apart := false }
def EditConflictsAreRefusedSaid : Prop := editConflictsAreRefusedRow.holds Try.pinned (OpenSpec.ofChange editConflictsAreRefusedSpec)

/-- ITS FALSE NEIGHBOUR: 'it returns false'. Refute it at one input. -/
def editConflictsAreRefusedWrong : ChangeSpec := { name := "editConflictsAreRefused", fn := fun _ => fun
  | [d1, d2, d3] => { results := [.lit (.bool false)], args := [d1, d2, d3] }
  | _ => none }
def EditConflictsAreRefusedWrongFalsely : Prop := editConflictsAreRefusedRow.holds Try.pinned (OpenSpec.ofChange editConflictsAreRefusedWrong)

/-- 'kalendslaw36.EditPurity': WHATEVER THE INPUT: true; the input reads as it did. -/
def editPuritySpec : ChangeSpec := { name := "editPurity", fn := fun _ => fun
  | [d1, d2] => { results := [.lit (.bool true)], args := [d1, d2] }
  | _ => none }
def editPurityRow : OpenClaim := { program := "ytpnhiknfcpkfbaa", sum := "c669459f9488156320c24300c97075a62c50fff968707c356ef191dfa643924f", func := "kalends/kalendslaw36.EditPurity", spec := "editPurity", unfollowed := true, recurses := true, plainKeys := false, apart := false }
def EditPuritySaid : Prop := editPurityRow.holds Try.pinned (OpenSpec.ofChange editPuritySpec)

/-- ITS FALSE NEIGHBOUR: 'it returns false'. Refute it at one input. -/
def editPurityWrong : ChangeSpec := { name := "editPurity", fn := fun _ => fun
  | [d1, d2] => { results := [.lit (.bool false)], args := [d1, d2] }
  | _ => none }
def EditPurityWrongFalsely : Prop := editPurityRow.holds Try.pinned (OpenSpec.ofChange editPurityWrong)

/- THE SECOND FORM. 'bulk': how many values and letters a reading holds, each counted each time it is reached (what is shared counts as often as it is met; a slice's spare places count too). A statement '..UptoSaid' is the law's where the arguments, and the package variables that the reading takes, are together of bulk at most 1048576: NARROWER than '..Said'. Prove '..Said' where nothing that the law and all that it calls make is longer than what came in: it says more and counts as full. Else prove '..UptoSaid'. A law counts once. -/
mutual
def uptoBulk {H : Type} : DataW H → Nat
  | .lit (.string bytes) => bytes.length + 1
  | .lit _ => 1
  | .nil => 1
  | .ptr d => uptoBulk d + 1
  | .slice elems spare => uptoBulkAll elems + uptoBulkAll spare + 1
  | .agg parts => uptoBulkAll parts + 1
  | .iface _ d => uptoBulk d + 1
  | .map entries => uptoBulkEntries entries + 1
  | .held _ => 1
def uptoBulkAll {H : Type} : List (DataW H) → Nat
  | [] => 0
  | d :: r => uptoBulk d + uptoBulkAll r
def uptoBulkEntries {H : Type} : List (Lit × DataW H) → Nat
  | [] => 0
  | x :: r => uptoBulkEntry x + uptoBulkEntries r
def uptoBulkEntry {H : Type} : Lit × DataW H → Nat
  | (.string bytes, d) => bytes.length + uptoBulk d + 1
  | (_, d) => uptoBulk d + 1
 end
def uptoSmall : (H : Type) → List (DataW H) → Bool := fun _ ds => decide (uptoBulkAll ds ≤ 1048576)
def OpenSpec.upto (s : _root_.Go.ChangeSpec) : _root_.Go.OpenSpec := { _root_.Go.OpenSpec.ofChange s with cond := some uptoSmall }

/-- 'kalendslaw36.EditOrder', WHERE WHAT IT READS IS OF BULK AT MOST 1048576: true; the input reads as it did. -/
def editOrderUptoRow : OpenClaim := { program := "ytpnhiknfcpkfbaa", sum := "c669459f9488156320c24300c97075a62c50fff968707c356ef191dfa643924f", func := "kalends/kalendslaw36.EditOrder", spec := "editOrder", unfollowed := true, recurses := true, plainKeys := false, apart := false, narrowed := true }
def EditOrderUptoSaid : Prop := editOrderUptoRow.holds Try.pinned (OpenSpec.upto editOrderSpec)

/-- 'kalendslaw36.EditConvergence', WHERE WHAT IT READS IS OF BULK AT MOST 1048576: true; the input reads as it did. -/
def editConvergenceUptoRow : OpenClaim := { program := "ytpnhiknfcpkfbaa", sum := "c669459f9488156320c24300c97075a62c50fff968707c356ef191dfa643924f", func := "kalends/kalendslaw36.EditConvergence", spec := "editConvergence", unfollowed := true, recurses := true, plainKeys := false, apart := false, narrowed := true }
def EditConvergenceUptoSaid : Prop := editConvergenceUptoRow.holds Try.pinned (OpenSpec.upto editConvergenceSpec)

/-- 'kalendslaw36.EditNothingIsLost', WHERE WHAT IT READS IS OF BULK AT MOST 1048576: true; the input reads as it did. -/
def editNothingIsLostUptoRow : OpenClaim := { program := "ytpnhiknfcpkfbaa", sum := "c669459f9488156320c24300c97075a62c50fff968707c356ef191dfa643924f", func := "kalends/kalendslaw36.EditNothingIsLost", spec := "editNothingIsLost", unfollowed := true, recurses := true, plainKeys := false, apart := false, narrowed := true }
def EditNothingIsLostUptoSaid : Prop := editNothingIsLostUptoRow.holds Try.pinned (OpenSpec.upto editNothingIsLostSpec)

/-- 'kalendslaw36.EditRebaseBeforeMerge', WHERE WHAT IT READS IS OF BULK AT MOST 1048576: true; the input reads as it did. -/
def editRebaseBeforeMergeUptoRow : OpenClaim := { program := "ytpnhiknfcpkfbaa", sum := "c669459f9488156320c24300c97075a62c50fff968707c356ef191dfa643924f", func := "kalends/kalendslaw36.EditRebaseBeforeMerge", spec := "editRebaseBeforeMerge", unfollowed := true, recurses := true, plainKeys := false, apart := false, narrowed := true }
def EditRebaseBeforeMergeUptoSaid : Prop := editRebaseBeforeMergeUptoRow.holds Try.pinned (OpenSpec.upto editRebaseBeforeMergeSpec)

/-- 'kalendslaw36.EditPartsHoldDays', WHERE WHAT IT READS IS OF BULK AT MOST 1048576: true; the input reads as it did. -/
def editPartsHoldDaysUptoRow : OpenClaim := { program := "ytpnhiknfcpkfbaa", sum := "c669459f9488156320c24300c97075a62c50fff968707c356ef191dfa643924f", func := "kalends/kalendslaw36.EditPartsHoldDays", spec := "editPartsHoldDays", unfollowed := true, recurses := true, plainKeys := false, apart := false, narrowed := true }
def EditPartsHoldDaysUptoSaid : Prop := editPartsHoldDaysUptoRow.holds Try.pinned (OpenSpec.upto editPartsHoldDaysSpec)

/-- 'kalendslaw36.EditInForceHasEffect', WHERE WHAT IT READS IS OF BULK AT MOST 1048576: true; the input reads as it did. -/
def editInForceHasEffectUptoRow : OpenClaim := { program := "ytpnhiknfcpkfbaa", sum := "c669459f9488156320c24300c97075a62c50fff968707c356ef191dfa643924f", func := "kalends/kalendslaw36.EditInForceHasEffect", spec := "editInForceHasEffect", unfollowed := true, recurses := true, plainKeys := false, apart := false, narrowed := true }
def EditInForceHasEffectUptoSaid : Prop := editInForceHasEffectUptoRow.holds Try.pinned (OpenSpec.upto editInForceHasEffectSpec)

/-- 'kalendslaw36.EditConflictsAreRefused', WHERE WHAT IT READS IS OF BULK AT MOST 1048576: true; the input reads as it did. -/
def editConflictsAreRefusedUptoRow : OpenClaim := { program := "ytpnhiknfcpkfbaa", sum := "c669459f9488156320c24300c97075a62c50fff968707c356ef191dfa643924f", func := "kalends/kalendslaw36.EditConflictsAreRefused", spec := "editConflictsAreRefused", unfollowed := true, recurses := true, plainKeys := false, apart := false, narrowed := true }
def EditConflictsAreRefusedUptoSaid : Prop := editConflictsAreRefusedUptoRow.holds Try.pinned (OpenSpec.upto editConflictsAreRefusedSpec)

/-- 'kalendslaw36.EditPurity', WHERE WHAT IT READS IS OF BULK AT MOST 1048576: true; the input reads as it did. -/
def editPurityUptoRow : OpenClaim := { program := "ytpnhiknfcpkfbaa", sum := "c669459f9488156320c24300c97075a62c50fff968707c356ef191dfa643924f", func := "kalends/kalendslaw36.EditPurity", spec := "editPurity", unfollowed := true, recurses := true, plainKeys := false, apart := false, narrowed := true }
def EditPurityUptoSaid : Prop := editPurityUptoRow.holds Try.pinned (OpenSpec.upto editPuritySpec)

end Rows
end Go.Proofs.Ytpnhiknfcpkfbaa
