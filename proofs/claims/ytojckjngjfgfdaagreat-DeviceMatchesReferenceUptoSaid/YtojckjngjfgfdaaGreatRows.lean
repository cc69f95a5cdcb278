/-
  No cell of these rows narrows 'for every input' (looked for: loops, veiled, ifaces, maps, wideKeys, modest, calm, conditions, laid).
  DERIVED. THE GIVEN ROWS OF THIS SEAT. 10 by the template 'for every input the law returns true; each argument reads behind the call as it read before'; 0 by the template 'total and deterministic' (their statements: YtojckjngjfgfdaaGreatTotals.lean).
  GIVEN WITH THE SEED: the statements are not yours to turn. If you find one false, say at which input.
  Laid BY PROGRAM, IN A SANDBOX (cutbox-rows.mjs): the forced cells as the released guide's own fill.sh prints them over the translation d17425a8082858f6… (all of the seat's roots in one cut). By AI agents, Wed Nov 11 2026. No macro, syntax, notation, axiom, sorry.
-/
import Derived.Test.YtojckjngjfgfdaaGreatChecked
import GoSem.Claim
import GoSem.ClaimJoined
import GoSem.ClaimMapViews
import Derived.JoinedTies
import Derived.KernelRfl
namespace Go.Proofs.YtojckjngjfgfdaaGreat
/- THE CELL 'sum', in the pinned program and in every row, IS THE sha256 OF THE DUMP (.gsa) THAT YtojckjngjfgfdaaGreatProg.lean LOADS. Nothing in Lean hashes anything: it is a label: what it is worth is what the hold of that sum in a sandbox is worth. -/
noncomputable def Tryz.pinned : Pinned := { name := "ytojckjngjfgfdaagreat", sum := "d17425a8082858f6d298da2e0620a79498521344d0329e7ec7a35537e8ce999d", checked := Tryz.checked }
namespace Rows
def none {H : Type} : Left H := { results := [], args := [] }

/-- 'kalendslaw37.DeviceMatchesReference': WHATEVER THE INPUT: true; the input reads as it did. -/
def deviceMatchesReferenceSpec : ChangeSpec := { name := "deviceMatchesReference", fn := fun _ => fun
  | [d1, d2, d3] => { results := [.lit (.bool true)], args := [d1, d2, d3] }
  | _ => none }
def deviceMatchesReferenceRow : OpenClaim := { program := "ytojckjngjfgfdaagreat", sum := "d17425a8082858f6d298da2e0620a79498521344d0329e7ec7a35537e8ce999d", func := "kalends/kalendslaw37.DeviceMatchesReference", spec := "deviceMatchesReference", unfollowed := true, recurses := true, plainKeys := false, apart := false }
def DeviceMatchesReferenceSaid : Prop := deviceMatchesReferenceRow.holds Tryz.pinned (OpenSpec.ofChange deviceMatchesReferenceSpec)

/-- ITS FALSE NEIGHBOUR: 'it returns false'. Refute it at one input. -/
def deviceMatchesReferenceWrong : ChangeSpec := { name := "deviceMatchesReference", fn := fun _ => fun
  | [d1, d2, d3] => { results := [.lit (.bool false)], args := [d1, d2, d3] }
  | _ => none }
def DeviceMatchesReferenceWrongFalsely : Prop := deviceMatchesReferenceRow.holds Tryz.pinned (OpenSpec.ofChange deviceMatchesReferenceWrong)

/-- 'kalendslaw37.DevicePlaysMatchReference': WHATEVER THE INPUT: true; the input reads as it did. -/
def devicePlaysMatchReferenceSpec : ChangeSpec := { name := "devicePlaysMatchReference", fn := fun _ => fun
  | [d1, d2, d3] => { results := [.lit (.bool true)], args := [d1, d2, d3] }
  | _ => none }
def devicePlaysMatchReferenceRow : OpenClaim := { program := "ytojckjngjfgfdaagreat", sum := "d17425a8082858f6d298da2e0620a79498521344d0329e7ec7a35537e8ce999d", func := "kalends/kalendslaw37.DevicePlaysMatchReference", spec := "devicePlaysMatchReference", unfollowed := true, recurses := true, plainKeys := false, apart := false }
def DevicePlaysMatchReferenceSaid : Prop := devicePlaysMatchReferenceRow.holds Tryz.pinned (OpenSpec.ofChange devicePlaysMatchReferenceSpec)

/-- ITS FALSE NEIGHBOUR: 'it returns false'. Refute it at one input. -/
def devicePlaysMatchReferenceWrong : ChangeSpec := { name := "devicePlaysMatchReference", fn := fun _ => fun
  | [d1, d2, d3] => { results := [.lit (.bool false)], args := [d1, d2, d3] }
  | _ => none }
def DevicePlaysMatchReferenceWrongFalsely : Prop := devicePlaysMatchReferenceRow.holds Tryz.pinned (OpenSpec.ofChange devicePlaysMatchReferenceWrong)

/-- 'kalendslaw37.DeviceNumbers': WHATEVER THE INPUT: true; the input reads as it did. -/
def deviceNumbersSpec : ChangeSpec := { name := "deviceNumbers", fn := fun _ => fun
  | [d] => { results := [.lit (.bool true)], args := [d] }
  | _ => none }
def deviceNumbersRow : OpenClaim := { program := "ytojckjngjfgfdaagreat", sum := "d17425a8082858f6d298da2e0620a79498521344d0329e7ec7a35537e8ce999d", func := "kalends/kalendslaw37.DeviceNumbers", spec := "deviceNumbers", unfollowed := true, recurses := true, plainKeys := false, apart := false }
def DeviceNumbersSaid : Prop := deviceNumbersRow.holds Tryz.pinned (OpenSpec.ofChange deviceNumbersSpec)

/-- ITS FALSE NEIGHBOUR: 'it returns false'. Refute it at one input. -/
def deviceNumbersWrong : ChangeSpec := { name := "deviceNumbers", fn := fun _ => fun
  | [d] => { results := [.lit (.bool false)], args := [d] }
  | _ => none }
def DeviceNumbersWrongFalsely : Prop := deviceNumbersRow.holds Tryz.pinned (OpenSpec.ofChange deviceNumbersWrong)

/-- 'kalendslaw37.DeviceConverges': WHATEVER THE INPUT: true; the input reads as it did. -/
def deviceConvergesSpec : ChangeSpec := { name := "deviceConverges", fn := fun _ => fun
  | [d1, d2, d3] => { results := [.lit (.bool true)], args := [d1, d2, d3] }
  | _ => none }
def deviceConvergesRow : OpenClaim := { program := "ytojckjngjfgfdaagreat", sum := "d17425a8082858f6d298da2e0620a79498521344d0329e7ec7a35537e8ce999d", func := "kalends/kalendslaw37.DeviceConverges", spec := "deviceConverges", unfollowed := true, recurses := true, plainKeys := false, apart := false }
def DeviceConvergesSaid : Prop := deviceConvergesRow.holds Tryz.pinned (OpenSpec.ofChange deviceConvergesSpec)

/-- ITS FALSE NEIGHBOUR: 'it returns false'. Refute it at one input. -/
def deviceConvergesWrong : ChangeSpec := { name := "deviceConverges", fn := fun _ => fun
  | [d1, d2, d3] => { results := [.lit (.bool false)], args := [d1, d2, d3] }
  | _ => none }
def DeviceConvergesWrongFalsely : Prop := deviceConvergesRow.holds Tryz.pinned (OpenSpec.ofChange deviceConvergesWrong)

/-- 'kalendslaw37.DeviceKeeps': WHATEVER THE INPUT: true; the input reads as it did. -/
def deviceKeepsSpec : ChangeSpec := { name := "deviceKeeps", fn := fun _ => fun
  | [d1, d2] => { results := [.lit (.bool true)], args := [d1, d2] }
  | _ => none }
def deviceKeepsRow : OpenClaim := { program := "ytojckjngjfgfdaagreat", sum := "d17425a8082858f6d298da2e0620a79498521344d0329e7ec7a35537e8ce999d", func := "kalends/kalendslaw37.DeviceKeeps", spec := "deviceKeeps", unfollowed := true, recurses := true, plainKeys := false, apart := false }
def DeviceKeepsSaid : Prop := deviceKeepsRow.holds Tryz.pinned (OpenSpec.ofChange deviceKeepsSpec)

/-- ITS FALSE NEIGHBOUR: 'it returns false'. Refute it at one input. -/
def deviceKeepsWrong : ChangeSpec := { name := "deviceKeeps", fn := fun _ => fun
  | [d1, d2] => { results := [.lit (.bool false)], args := [d1, d2] }
  | _ => none }
def DeviceKeepsWrongFalsely : Prop := deviceKeepsRow.holds Tryz.pinned (OpenSpec.ofChange deviceKeepsWrong)

/-- 'kalendslaw37.DeviceExchanges': WHATEVER THE INPUT: true; the input reads as it did. -/
def deviceExchangesSpec : ChangeSpec := { name := "deviceExchanges", fn := fun _ => fun
  | [d] => { results := [.lit (.bool true)], args := [d] }
  | _ => none }
def deviceExchangesRow : OpenClaim := { program := "ytojckjngjfgfdaagreat", sum := "d17425a8082858f6d298da2e0620a79498521344d0329e7ec7a35537e8ce999d", func := "kalends/kalendslaw37.DeviceExchanges", spec := "deviceExchanges", unfollowed := true, recurses := true, plainKeys := false, apart := false }
def DeviceExchangesSaid : Prop := deviceExchangesRow.holds Tryz.pinned (OpenSpec.ofChange deviceExchangesSpec)

/-- ITS FALSE NEIGHBOUR: 'it returns false'. Refute it at one input. -/
def deviceExchangesWrong : ChangeSpec := { name := "deviceExchanges", fn := fun _ => fun
  | [d] => { results := [.lit (.bool false)], args := [d] }
  | _ => none }
def DeviceExchangesWrongFalsely : Prop := deviceExchangesRow.holds Tryz.pinned (OpenSpec.ofChange deviceExchangesWrong)

/-- 'kalendslaw37.DeviceRestores': WHATEVER THE INPUT: true; the input reads as it did. -/
def deviceRestoresSpec : ChangeSpec := { name := "deviceRestores", fn := fun _ => fun
  | [d1, d2, d3] => { results := [.lit (.bool true)], args := [d1, d2, d3] }
  | _ => none }
def deviceRestoresRow : OpenClaim := { program := "ytojckjngjfgfdaagreat", sum := "d17425a8082858f6d298da2e0620a79498521344d0329e7ec7a35537e8ce999d", func := "kalends/kalendslaw37.DeviceRestores", spec := "deviceRestores", unfollowed := true, recurses := true, plainKeys := false, apart := false }
def DeviceRestoresSaid : Prop := deviceRestoresRow.holds Tryz.pinned (OpenSpec.ofChange deviceRestoresSpec)

/-- ITS FALSE NEIGHBOUR: 'it returns false'. Refute it at one input. -/
def deviceRestoresWrong : ChangeSpec := { name := "deviceRestores", fn := fun _ => fun
  | [d1, d2, d3] => { results := [.lit (.bool false)], args := [d1, d2, d3] }
  | _ => none }
def DeviceRestoresWrongFalsely : Prop := deviceRestoresRow.holds Tryz.pinned (OpenSpec.ofChange deviceRestoresWrong)

/-- 'kalendslaw37.DeviceCauses': WHATEVER THE INPUT: true; the input reads as it did. -/
def deviceCausesSpec : ChangeSpec := { name := "deviceCauses", fn := fun _ => fun
  | [d1, d2, d3] => { results := [.lit (.bool true)], args := [d1, d2, d3] }
  | _ => none }
def deviceCausesRow : OpenClaim := { program := "ytojckjngjfgfdaagreat", sum := "d17425a8082858f6d298da2e0620a79498521344d0329e7ec7a35537e8ce999d", func := "kalends/kalendslaw37.DeviceCauses", spec := "deviceCauses", unfollowed := true, recurses := true, plainKeys := false, apart := false }
def DeviceCausesSaid : Prop := deviceCausesRow.holds Tryz.pinned (OpenSpec.ofChange deviceCausesSpec)

/-- ITS FALSE NEIGHBOUR: 'it returns false'. Refute it at one input. -/
def deviceCausesWrong : ChangeSpec := { name := "deviceCauses", fn := fun _ => fun
  | [d1, d2, d3] => { results := [.lit (.bool false)], args := [d1, d2, d3] }
  | _ => none }
def DeviceCausesWrongFalsely : Prop := deviceCausesRow.holds Tryz.pinned (OpenSpec.ofChange deviceCausesWrong)

/-- 'kalendslaw37.DeviceParts': WHATEVER THE INPUT: true; the input reads as it did. -/
def devicePartsSpec : ChangeSpec := { name := "deviceParts", fn := fun _ => fun
  | [d1, d2, d3] => { results := [.lit (.bool true)], args := [d1, d2, d3] }
  | _ => none }
def devicePartsRow : OpenClaim := { program := "ytojckjngjfgfdaagreat", sum := "d17425a8082858f6d298da2e0620a79498521344d0329e7ec7a35537e8ce999d", func := "kalends/kalendslaw37.DeviceParts", spec := "deviceParts", unfollowed := true, recurses := true, plainKeys := false, apart := false }
def DevicePartsSaid : Prop := devicePartsRow.holds Tryz.pinned (OpenSpec.ofChange devicePartsSpec)

/-- ITS FALSE NEIGHBOUR: 'it returns false'. Refute it at one input. -/
def devicePartsWrong : ChangeSpec := { name := "deviceParts", fn := fun _ => fun
  | [d1, d2, d3] => { results := [.lit (.bool false)], args := [d1, d2, d3] }
  | _ => none }
def DevicePartsWrongFalsely : Prop := devicePartsRow.holds Tryz.pinned (OpenSpec.ofChange devicePartsWrong)

/-- 'kalendstop.TopDevicesShowOneCalendar': WHATEVER THE INPUT: true; the input reads as it did. -/
def topDevicesShowOneCalendarSpec : ChangeSpec := { name := "topDevicesShowOneCalendar", fn := fun _ => fun
  | [d1, d2, d3] => { results := [.lit (.bool true)], args := [d1, d2, d3] }
  | _ => none }
def topDevicesShowOneCalendarRow : OpenClaim := { program := "ytojckjngjfgfdaagreat", sum := "d17425a8082858f6d298da2e0620a79498521344d0329e7ec7a35537e8ce999d", func := "kalends/kalendstop.TopDevicesShowOneCalendar", spec := "topDevicesShowOneCalendar", unfollowed := true, recurses := true, plainKeys := false, apart := false }
def TopDevicesShowOneCalendarSaid : Prop := topDevicesShowOneCalendarRow.holds Tryz.pinned (OpenSpec.ofChange topDevicesShowOneCalendarSpec)

/-- ITS FALSE NEIGHBOUR: 'it returns false'. Refute it at one input. -/
def topDevicesShowOneCalendarWrong : ChangeSpec := { name := "topDevicesShowOneCalendar", fn := fun _ => fun
  | [d1, d2, d3] => { results := [.lit (.bool false)], args := [d1, d2, d3] }
  | _ => none }
def TopDevicesShowOneCalendarWrongFalsely : Prop := topDevicesShowOneCalendarRow.holds Tryz.pinned (OpenSpec.ofChange topDevicesShowOneCalendarWrong)

/- THE SECOND FORM. 'bulk': how many values and letters a reading holds, each counted each time it is reached (what is shared counts as often as it is met; a slice's spare places count too). A statement '..UptoSaid' is the law's where the arguments, and the package variables that the reading takes, are together of bulk at most 1048576: NARROWER than '..Said'. Prove '..Said' where nothing that the law and all that it calls make is longer than what came in: it says more and counts as full. Else prove '..UptoSaid'. A law counts once. -/
mutual
def uptoBulk {H : Type} : DataW H → Nat
  | .lit (.string bytes) => bytes.length + 1
  | .lit _ => 1
  | .nil => 1
  | .ptr d => uptoBulk d + 1
  | .slice elems spare => uptoBulkAll elems + uptoBulkAll spare + 1
  | .agg parts => uptoBulkAll parts + 1
  | .iface _ d => uptoBulk d + 1
  | .map entries => uptoBulkEntries entries + 1
  | .held _ => 1
def uptoBulkAll {H : Type} : List (DataW H) → Nat
  | [] => 0
  | d :: r => uptoBulk d + uptoBulkAll r
def uptoBulkEntries {H : Type} : List (Lit × DataW H) → Nat
  | [] => 0
  | x :: r => uptoBulkEntry x + uptoBulkEntries r
def uptoBulkEntry {H : Type} : Lit × DataW H → Nat
  | (.string bytes, d) => bytes.length + uptoBulk d + 1
  | (_, d) => uptoBulk d + 1
 end
def uptoSmall : (H : Type) → List (DataW H) → Bool := fun _ ds => decide (uptoBulkAll ds ≤ 1048576)
def OpenSpec.upto (s : _root_.Go.ChangeSpec) : _root_.Go.OpenSpec := { _root_.Go.OpenSpec.ofChange s with cond := some uptoSmall }

/-- 'kalendslaw37.DeviceMatchesReference', WHERE WHAT IT READS IS OF BULK AT MOST 1048576: true; the input reads as it did. -/
def deviceMatchesReferenceUptoRow : OpenClaim := { program := "ytojckjngjfgfdaagreat", sum := "d17425a8082858f6d298da2e0620a79498521344d0329e7ec7a35537e8ce999d", func := "kalends/kalendslaw37.DeviceMatchesReference", spec := "deviceMatchesReference", unfollowed := true, recurses := true, plainKeys := false, apart := false, narrowed := true }
def DeviceMatchesReferenceUptoSaid : Prop := deviceMatchesReferenceUptoRow.holds Tryz.pinned (OpenSpec.upto deviceMatchesReferenceSpec)

/-- 'kalendslaw37.DevicePlaysMatchReference', WHERE WHAT IT READS IS OF BULK AT MOST 1048576: true; the input reads as it did. -/
def devicePlaysMatchReferenceUptoRow : OpenClaim := { program := "ytojckjngjfgfdaagreat", sum := "d17425a8082858f6d298da2e0620a79498521344d0329e7ec7a35537e8ce999d", func := "kalends/kalendslaw37.DevicePlaysMatchReference", spec := "devicePlaysMatchReference", unfollowed := true, recurses := true, plainKeys := false, apart := false, narrowed := true }
def DevicePlaysMatchReferenceUptoSaid : Prop := devicePlaysMatchReferenceUptoRow.holds Tryz.pinned (OpenSpec.upto devicePlaysMatchReferenceSpec)

/-- 'kalendslaw37.DeviceNumbers', WHERE WHAT IT READS IS OF BULK AT MOST 1048576: true; the input reads as it did. -/
def deviceNumbersUptoRow : OpenClaim := { program := "ytojckjngjfgfdaagreat", sum := "d17425a8082858f6d298da2e0620a79498521344d0329e7ec7a35537e8ce999d", func := "kalends/kalendslaw37.DeviceNumbers", spec := "deviceNumbers", unfollowed := true, recurses := true, plainKeys := false, apart := false, narrowed := true }
def DeviceNumbersUptoSaid : Prop := deviceNumbersUptoRow.holds Tryz.pinned (OpenSpec.upto deviceNumbersSpec)

/-- 'kalendslaw37.DeviceConverges', WHERE WHAT IT READS IS OF BULK AT MOST 1048576: true; the input reads as it did. -/
def deviceConvergesUptoRow : OpenClaim := { program := "ytojckjngjfgfdaagreat", sum := "d17425a8082858f6d298da2e0620a79498521344d0329e7ec7a35537e8ce999d", func := "kalends/kalendslaw37.DeviceConverges", spec := "deviceConverges", unfollowed := true, recurses := true, plainKeys := false, apart := false, narrowed := true }
def DeviceConvergesUptoSaid : Prop := deviceConvergesUptoRow.holds Tryz.pinned (OpenSpec.upto deviceConvergesSpec)

/-- 'kalendslaw37.DeviceKeeps', WHERE WHAT IT READS IS OF BULK AT MOST 1048576: true; the input reads as it did. -/
def deviceKeepsUptoRow : OpenClaim := { program := "ytojckjngjfgfdaagreat", sum := "d17425a8082858f6d298da2e0620a79498521344d0329e7ec7a35537e8ce999d", func := "kalends/kalendslaw37.DeviceKeeps", spec := "deviceKeeps", unfollowed := true, recurses := true, plainKeys := false, apart := false, narrowed := true }
def DeviceKeepsUptoSaid : Prop := deviceKeepsUptoRow.holds Tryz.pinned (OpenSpec.upto deviceKeepsSpec)

/-- 'kalendslaw37.DeviceExchanges', WHERE WHAT IT READS IS OF BULK AT MOST 1048576: true; the input reads as it did. -/
def deviceExchangesUptoRow : OpenClaim := { program := "ytojckjngjfgfdaagreat", sum := "d17425a8082858f6d298da2e0620a79498521344d0329e7ec7a35537e8ce999d", func := "kalends/kalendslaw37.DeviceExchanges", spec := "deviceExchanges", unfollowed := true, recurses := true, plainKeys := false, apart := false, narrowed := true }
def DeviceExchangesUptoSaid : Prop := deviceExchangesUptoRow.holds Tryz.pinned (OpenSpec.upto deviceExchangesSpec)

/-- 'kalendslaw37.DeviceRestores', WHERE WHAT IT READS IS OF BULK AT MOST 1048576: true; the input reads as it did. -/
def deviceRestoresUptoRow : OpenClaim := { program := "ytojckjngjfgfdaagreat", sum := "d17425a8082858f6d298da2e0620a79498521344d0329e7ec7a35537e8ce999d", func := "kalends/kalendslaw37.DeviceRestores", spec := "deviceRestores", unfollowed := true, recurses := true, plainKeys := false, apart := false, narrowed := true }
def DeviceRestoresUptoSaid : Prop := deviceRestoresUptoRow.holds Tryz.pinned (OpenSpec.upto deviceRestoresSpec)

/-- 'kalendslaw37.DeviceCauses', WHERE WHAT IT READS IS OF BULK AT MOST 1048576: true; the input reads as it did. -/
def deviceCausesUptoRow : OpenClaim := { program := "ytojckjngjfgfdaagreat", sum := "d17425a8082858f6d298da2e0620a79498521344d0329e7ec7a35537e8ce999d", func := "kalends/kalendslaw37.DeviceCauses", spec := "deviceCauses", unfollowed := true, recurses := true, plainKeys := false, apart := false, narrowed := true }
def DeviceCausesUptoSaid : Prop := deviceCausesUptoRow.holds Tryz.pinned (OpenSpec.upto deviceCausesSpec)

/-- 'kalendslaw37.DeviceParts', WHERE WHAT IT READS IS OF BULK AT MOST 1048576: true; the input reads as it did. -/
def devicePartsUptoRow : OpenClaim := { program := "ytojckjngjfgfdaagreat", sum := "d17425a8082858f6d298da2e0620a79498521344d0329e7ec7a35537e8ce999d", func := "kalends/kalendslaw37.DeviceParts", spec := "deviceParts", unfollowed := true, recurses := true, plainKeys := false, apart := false, narrowed := true }
def DevicePartsUptoSaid : Prop := devicePartsUptoRow.holds Tryz.pinned (OpenSpec.upto devicePartsSpec)

/-- 'kalendstop.TopDevicesShowOneCalendar', WHERE WHAT IT READS IS OF BULK AT MOST 1048576: true; the input reads as it did. -/
def topDevicesShowOneCalendarUptoRow : OpenClaim := { program := "ytojckjngjfgfdaagreat", sum := "d17425a8082858f6d298da2e0620a79498521344d0329e7ec7a35537e8ce999d", func := "kalends/kalendstop.TopDevicesShowOneCalendar", spec := "topDevicesShowOneCalendar", unfollowed := true, recurses := true, plainKeys := false, apart := false, narrowed := true }
def TopDevicesShowOneCalendarUptoSaid : Prop := topDevicesShowOneCalendarUptoRow.holds Tryz.pinned (OpenSpec.upto topDevicesShowOneCalendarSpec)

end Rows
end Go.Proofs.YtojckjngjfgfdaaGreat
