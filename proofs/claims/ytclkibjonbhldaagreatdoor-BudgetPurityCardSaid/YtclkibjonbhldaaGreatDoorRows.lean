/-
  NARROWER THAN 'FOR EVERY INPUT', by the rows' own cells (each row's printed sentence says how): BudgetMadeMatchesReference: laid · BudgetLimitHolds: laid · BudgetSplits: laid · BudgetMatchesReference: laid · BudgetAccounting: laid · BudgetAliasesShare: laid · BudgetCoarserIsFree: laid · BudgetJoinedGroups: laid · BudgetPurity: laid.
  DERIVED. THE GIVEN ROWS OF THIS SEAT. 9 by the template 'for every input the law returns true; each argument reads behind the call as it read before'; 0 by the template 'total and deterministic' (their statements: YtclkibjonbhldaaGreatDoorTotals.lean).
  GIVEN WITH THE SEED: the statements are not yours to turn. If you find one false, say at which input.
  Laid BY PROGRAM, IN A SANDBOX (cutbox-rows.mjs): the forced cells as the released guide's own fill.sh prints them over the translation 9f9fc895ae0e08b3… (all of the seat's roots in one cut). By AI agents, Wed Nov 11 2026. No macro, syntax, notation, axiom, sorry.
-/
import Derived.Test.YtclkibjonbhldaaGreatDoorChecked
import GoSem.Claim
import GoSem.ClaimJoined
import GoSem.ClaimMapViews
import Derived.JoinedTies
import Derived.KernelRfl
namespace Go.Proofs.YtclkibjonbhldaaGreatDoor
/- THE CELL 'sum', in the pinned program and in every row, IS THE sha256 OF THE DUMP (.gsa) THAT YtclkibjonbhldaaGreatDoorProg.lean LOADS. Nothing in Lean hashes anything: it is a label: what it is worth is what the hold of that sum in a sandbox is worth. -/
noncomputable def Tryz.pinned : Pinned := { name := "ytclkibjonbhldaagreatdoor", sum := "9f9fc895ae0e08b37bc1257cc3f6faaa6e9e8576b7331ecd8f6034444b9b2ac2", checked := Tryz.checked }
namespace Rows
def none {H : Type} : Left H := { results := [], args := [] }

/- WHAT THE LISTED PACKAGE-LEVEL VARIABLES READ AS WHEN THE CALL BEGINS. Each datum BY PROGRAM (the guide's laid-datum.mjs) off the statement by which the dump's own 'gosem.cut.vars' lays the variable. In a bare row this is a premise. The card (YtclkibjonbhldaaGreatDoorCards.lean) ties it to the program's text. -/
def laid_kalends_budget_sizes {H : Type} : DataW H := .agg [.lit (.int .i64 0), .lit (.int .i64 1440), .lit (.int .i64 30), .lit (.int .i64 30), .lit (.int .i64 1)]

/-- 'kalendslaw27.BudgetMadeMatchesReference': WHATEVER THE INPUT: true; the input reads as it did. -/
def budgetMadeMatchesReferenceSpec : ChangeSpec := { name := "budgetMadeMatchesReference", fn := fun _ => fun
  | [d1, d2] => { results := [.lit (.bool true)], args := [d1, d2] }
  | _ => none }
def budgetMadeMatchesReferenceRow : OpenClaim := { program := "ytclkibjonbhldaagreatdoor", sum := "9f9fc895ae0e08b37bc1257cc3f6faaa6e9e8576b7331ecd8f6034444b9b2ac2", func := "kalends/kalendslaw27.BudgetMadeMatchesReference", spec := "budgetMadeMatchesReference", unfollowed := true, recurses := true, named := ["kalends/budget.sizes"], plainKeys := false, apart := false, laid := [("kalends/budget.sizes", laid_kalends_budget_sizes)] }
def BudgetMadeMatchesReferenceSaid : Prop := budgetMadeMatchesReferenceRow.holds Tryz.pinned (OpenSpec.ofChange budgetMadeMatchesReferenceSpec)

/-- ITS FALSE NEIGHBOUR: 'it returns false'. Refute it at one input. -/
def budgetMadeMatchesReferenceWrong : ChangeSpec := { name := "budgetMadeMatchesReference", fn := fun _ => fun
  | [d1, d2] => { results := [.lit (.bool false)], args := [d1, d2] }
  | _ => none }
def BudgetMadeMatchesReferenceWrongFalsely : Prop := budgetMadeMatchesReferenceRow.holds Tryz.pinned (OpenSpec.ofChange budgetMadeMatchesReferenceWrong)

/-- 'kalendslaw27.BudgetLimitHolds': WHATEVER THE INPUT: true; the input reads as it did. -/
def budgetLimitHoldsSpec : ChangeSpec := { name := "budgetLimitHolds", fn := fun _ => fun
  | [d1, d2, d3] => { results := [.lit (.bool true)], args := [d1, d2, d3] }
  | _ => none }
def budgetLimitHoldsRow : OpenClaim := { program := "ytclkibjonbhldaagreatdoor", sum := "9f9fc895ae0e08b37bc1257cc3f6faaa6e9e8576b7331ecd8f6034444b9b2ac2", func := "kalends/kalendslaw27.BudgetLimitHolds", spec := "budgetLimitHolds", unfollowed := true, recurses := true, named := ["kalends/budget.sizes"], plainKeys := false, apart := false, laid := [("kalends/budget.sizes", laid_kalends_budget_sizes)] }
def BudgetLimitHoldsSaid : Prop := budgetLimitHoldsRow.holds Tryz.pinned (OpenSpec.ofChange budgetLimitHoldsSpec)

/-- ITS FALSE NEIGHBOUR: 'it returns false'. Refute it at one input. -/
def budgetLimitHoldsWrong : ChangeSpec := { name := "budgetLimitHolds", fn := fun _ => fun
  | [d1, d2, d3] => { results := [.lit (.bool false)], args := [d1, d2, d3] }
  | _ => none }
def BudgetLimitHoldsWrongFalsely : Prop := budgetLimitHoldsRow.holds Tryz.pinned (OpenSpec.ofChange budgetLimitHoldsWrong)

/-- 'kalendslaw27.BudgetSplits': WHATEVER THE INPUT: true; the input reads as it did. -/
def budgetSplitsSpec : ChangeSpec := { name := "budgetSplits", fn := fun _ => fun
  | [d1, d2, d3] => { results := [.lit (.bool true)], args := [d1, d2, d3] }
  | _ => none }
def budgetSplitsRow : OpenClaim := { program := "ytclkibjonbhldaagreatdoor", sum := "9f9fc895ae0e08b37bc1257cc3f6faaa6e9e8576b7331ecd8f6034444b9b2ac2", func := "kalends/kalendslaw27.BudgetSplits", spec := "budgetSplits", unfollowed := true, recurses := true, named := ["kalends/budget.sizes"], plainKeys := false, apart := false, laid := [("kalends/budget.sizes", laid_kalends_budget_sizes)] }
def BudgetSplitsSaid : Prop := budgetSplitsRow.holds Tryz.pinned (OpenSpec.ofChange budgetSplitsSpec)

/-- ITS FALSE NEIGHBOUR: 'it returns false'. Refute it at one input. -/
def budgetSplitsWrong : ChangeSpec := { name := "budgetSplits", fn := fun _ => fun
  | [d1, d2, d3] => { results := [.lit (.bool false)], args := [d1, d2, d3] }
  | _ => none }
def BudgetSplitsWrongFalsely : Prop := budgetSplitsRow.holds Tryz.pinned (OpenSpec.ofChange budgetSplitsWrong)

/-- 'kalendslaw27.BudgetMatchesReference': WHATEVER THE INPUT: true; the input reads as it did. -/
def budgetMatchesReferenceSpec : ChangeSpec := { name := "budgetMatchesReference", fn := fun _ => fun
  | [d1, d2, d3] => { results := [.lit (.bool true)], args := [d1, d2, d3] }
  | _ => none }
def budgetMatchesReferenceRow : OpenClaim := { program := "ytclkibjonbhldaagreatdoor", sum := "9f9fc895ae0e08b37bc1257cc3f6faaa6e9e8576b7331ecd8f6034444b9b2ac2", func := "kalends/kalendslaw27.BudgetMatchesReference", spec := "budgetMatchesReference", unfollowed := true, recurses := true, named := ["kalends/budget.sizes"], plainKeys := false, apart := false, laid := [("kalends/budget.sizes", laid_kalends_budget_sizes)] }
def BudgetMatchesReferenceSaid : Prop := budgetMatchesReferenceRow.holds Tryz.pinned (OpenSpec.ofChange budgetMatchesReferenceSpec)

/-- ITS FALSE NEIGHBOUR: 'it returns false'. Refute it at one input. -/
def budgetMatchesReferenceWrong : ChangeSpec := { name := "budgetMatchesReference", fn := fun _ => fun
  | [d1, d2, d3] => { results := [.lit (.bool false)], args := [d1, d2, d3] }
  | _ => none }
def BudgetMatchesReferenceWrongFalsely : Prop := budgetMatchesReferenceRow.holds Tryz.pinned (OpenSpec.ofChange budgetMatchesReferenceWrong)

/-- 'kalendslaw27.BudgetAccounting': WHATEVER THE INPUT: true; the input reads as it did. -/
def budgetAccountingSpec : ChangeSpec := { name := "budgetAccounting", fn := fun _ => fun
  | [d1, d2, d3] => { results := [.lit (.bool true)], args := [d1, d2, d3] }
  | _ => none }
def budgetAccountingRow : OpenClaim := { program := "ytclkibjonbhldaagreatdoor", sum := "9f9fc895ae0e08b37bc1257cc3f6faaa6e9e8576b7331ecd8f6034444b9b2ac2", func := "kalends/kalendslaw27.BudgetAccounting", spec := "budgetAccounting", unfollowed := true, recurses := true, named := ["kalends/budget.sizes"], plainKeys := false, apart := false, laid := [("kalends/budget.sizes", laid_kalends_budget_sizes)] }
def BudgetAccountingSaid : Prop := budgetAccountingRow.holds Tryz.pinned (OpenSpec.ofChange budgetAccountingSpec)

/-- ITS FALSE NEIGHBOUR: 'it returns false'. Refute it at one input. -/
def budgetAccountingWrong : ChangeSpec := { name := "budgetAccounting", fn := fun _ => fun
  | [d1, d2, d3] => { results := [.lit (.bool false)], args := [d1, d2, d3] }
  | _ => none }
def BudgetAccountingWrongFalsely : Prop := budgetAccountingRow.holds Tryz.pinned (OpenSpec.ofChange budgetAccountingWrong)

/-- 'kalendslaw27.BudgetAliasesShare': WHATEVER THE INPUT: true; the input reads as it did. -/
def budgetAliasesShareSpec : ChangeSpec := { name := "budgetAliasesShare", fn := fun _ => fun
  | [d1, d2, d3] => { results := [.lit (.bool true)], args := [d1, d2, d3] }
  | _ => none }
def budgetAliasesShareRow : OpenClaim := { program := "ytclkibjonbhldaagreatdoor", sum := "9f9fc895ae0e08b37bc1257cc3f6faaa6e9e8576b7331ecd8f6034444b9b2ac2", func := "kalends/kalendslaw27.BudgetAliasesShare", spec := "budgetAliasesShare", unfollowed := true, recurses := true, named := ["kalends/budget.sizes"], plainKeys := false, apart := false, laid := [("kalends/budget.sizes", laid_kalends_budget_sizes)] }
def BudgetAliasesShareSaid : Prop := budgetAliasesShareRow.holds Tryz.pinned (OpenSpec.ofChange budgetAliasesShareSpec)

/-- ITS FALSE NEIGHBOUR: 'it returns false'. Refute it at one input. -/
def budgetAliasesShareWrong : ChangeSpec := { name := "budgetAliasesShare", fn := fun _ => fun
  | [d1, d2, d3] => { results := [.lit (.bool false)], args := [d1, d2, d3] }
  | _ => none }
def BudgetAliasesShareWrongFalsely : Prop := budgetAliasesShareRow.holds Tryz.pinned (OpenSpec.ofChange budgetAliasesShareWrong)

/-- 'kalendslaw27.BudgetCoarserIsFree': WHATEVER THE INPUT: true; the input reads as it did. -/
def budgetCoarserIsFreeSpec : ChangeSpec := { name := "budgetCoarserIsFree", fn := fun _ => fun
  | [d1, d2, d3] => { results := [.lit (.bool true)], args := [d1, d2, d3] }
  | _ => none }
def budgetCoarserIsFreeRow : OpenClaim := { program := "ytclkibjonbhldaagreatdoor", sum := "9f9fc895ae0e08b37bc1257cc3f6faaa6e9e8576b7331ecd8f6034444b9b2ac2", func := "kalends/kalendslaw27.BudgetCoarserIsFree", spec := "budgetCoarserIsFree", unfollowed := true, recurses := true, named := ["kalends/budget.sizes"], plainKeys := false, apart := false, laid := [("kalends/budget.sizes", laid_kalends_budget_sizes)] }
def BudgetCoarserIsFreeSaid : Prop := budgetCoarserIsFreeRow.holds Tryz.pinned (OpenSpec.ofChange budgetCoarserIsFreeSpec)

/-- ITS FALSE NEIGHBOUR: 'it returns false'. Refute it at one input. -/
def budgetCoarserIsFreeWrong : ChangeSpec := { name := "budgetCoarserIsFree", fn := fun _ => fun
  | [d1, d2, d3] => { results := [.lit (.bool false)], args := [d1, d2, d3] }
  | _ => none }
def BudgetCoarserIsFreeWrongFalsely : Prop := budgetCoarserIsFreeRow.holds Tryz.pinned (OpenSpec.ofChange budgetCoarserIsFreeWrong)

/-- 'kalendslaw27.BudgetJoinedGroups': WHATEVER THE INPUT: true; the input reads as it did. -/
def budgetJoinedGroupsSpec : ChangeSpec := { name := "budgetJoinedGroups", fn := fun _ => fun
  | [d1, d2, d3] => { results := [.lit (.bool true)], args := [d1, d2, d3] }
  | _ => none }
def budgetJoinedGroupsRow : OpenClaim := { program := "ytclkibjonbhldaagreatdoor", sum := "9f9fc895ae0e08b37bc1257cc3f6faaa6e9e8576b7331ecd8f6034444b9b2ac2", func := "kalends/kalendslaw27.BudgetJoinedGroups", spec := "budgetJoinedGroups", unfollowed := true, recurses := true, named := ["kalends/budget.sizes"], plainKeys := false, apart := false, laid := [("kalends/budget.sizes", laid_kalends_budget_sizes)] }
def BudgetJoinedGroupsSaid : Prop := budgetJoinedGroupsRow.holds Tryz.pinned (OpenSpec.ofChange budgetJoinedGroupsSpec)

/-- ITS FALSE NEIGHBOUR: 'it returns false'. Refute it at one input. -/
def budgetJoinedGroupsWrong : ChangeSpec := { name := "budgetJoinedGroups", fn := fun _ => fun
  | [d1, d2, d3] => { results := [.lit (.bool false)], args := [d1, d2, d3] }
  | _ => none }
def BudgetJoinedGroupsWrongFalsely : Prop := budgetJoinedGroupsRow.holds Tryz.pinned (OpenSpec.ofChange budgetJoinedGroupsWrong)

/-- 'kalendslaw27.BudgetPurity': WHATEVER THE INPUT: true; the input reads as it did. -/
def budgetPuritySpec : ChangeSpec := { name := "budgetPurity", fn := fun _ => fun
  | [d1, d2, d3] => { results := [.lit (.bool true)], args := [d1, d2, d3] }
  | _ => none }
def budgetPurityRow : OpenClaim := { program := "ytclkibjonbhldaagreatdoor", sum := "9f9fc895ae0e08b37bc1257cc3f6faaa6e9e8576b7331ecd8f6034444b9b2ac2", func := "kalends/kalendslaw27.BudgetPurity", spec := "budgetPurity", unfollowed := true, recurses := true, named := ["kalends/budget.sizes"], plainKeys := false, apart := false, laid := [("kalends/budget.sizes", laid_kalends_budget_sizes)] }
def BudgetPuritySaid : Prop := budgetPurityRow.holds Tryz.pinned (OpenSpec.ofChange budgetPuritySpec)

/-- ITS FALSE NEIGHBOUR: 'it returns false'. Refute it at one input. -/
def budgetPurityWrong : ChangeSpec := { name := "budgetPurity", fn := fun _ => fun
  | [d1, d2, d3] => { results := [.lit (.bool false)], args := [d1, d2, d3] }
  | _ => none }
def BudgetPurityWrongFalsely : Prop := budgetPurityRow.holds Tryz.pinned (OpenSpec.ofChange budgetPurityWrong)

/- THE SECOND FORM. 'bulk': how many values and letters a reading holds, each counted each time it is reached (what is shared counts as often as it is met; a slice's spare places count too). A statement '..UptoSaid' is the law's where the arguments, and the package variables that the reading takes, are together of bulk at most 1048576: NARROWER than '..Said'. Prove '..Said' where nothing that the law and all that it calls make is longer than what came in: it says more and counts as full. Else prove '..UptoSaid'. A law counts once. -/
mutual
def uptoBulk {H : Type} : DataW H → Nat
  | .lit (.string bytes) => bytes.length + 1
  | .lit _ => 1
  | .nil => 1
  | .ptr d => uptoBulk d + 1
  | .slice elems spare => uptoBulkAll elems + uptoBulkAll spare + 1
  | .agg parts => uptoBulkAll parts + 1
  | .iface _ d => uptoBulk d + 1
  | .map entries => uptoBulkEntries entries + 1
  | .held _ => 1
def uptoBulkAll {H : Type} : List (DataW H) → Nat
  | [] => 0
  | d :: r => uptoBulk d + uptoBulkAll r
def uptoBulkEntries {H : Type} : List (Lit × DataW H) → Nat
  | [] => 0
  | x :: r => uptoBulkEntry x + uptoBulkEntries r
def uptoBulkEntry {H : Type} : Lit × DataW H → Nat
  | (.string bytes, d) => bytes.length + uptoBulk d + 1
  | (_, d) => uptoBulk d + 1
 end
def uptoSmall : (H : Type) → List (DataW H) → Bool := fun _ ds => decide (uptoBulkAll ds ≤ 1048576)
def OpenSpec.upto (s : _root_.Go.ChangeSpec) : _root_.Go.OpenSpec := { _root_.Go.OpenSpec.ofChange s with cond := some uptoSmall }

/-- 'kalendslaw27.BudgetMadeMatchesReference', WHERE WHAT IT READS IS OF BULK AT MOST 1048576: true; the input reads as it did. -/
def budgetMadeMatchesReferenceUptoRow : OpenClaim := { program := "ytclkibjonbhldaagreatdoor", sum := "9f9fc895ae0e08b37bc1257cc3f6faaa6e9e8576b7331ecd8f6034444b9b2ac2", func := "kalends/kalendslaw27.BudgetMadeMatchesReference", spec := "budgetMadeMatchesReference", unfollowed := true, recurses := true, named := ["kalends/budget.sizes"], plainKeys := false, apart := false, laid := [("kalends/budget.sizes", laid_kalends_budget_sizes)], narrowed := true }
def BudgetMadeMatchesReferenceUptoSaid : Prop := budgetMadeMatchesReferenceUptoRow.holds Tryz.pinned (OpenSpec.upto budgetMadeMatchesReferenceSpec)

/-- 'kalendslaw27.BudgetLimitHolds', WHERE WHAT IT READS IS OF BULK AT MOST 1048576: true; the input reads as it did. -/
def budgetLimitHoldsUptoRow : OpenClaim := { program := "ytclkibjonbhldaagreatdoor", sum := "9f9fc895ae0e08b37bc1257cc3f6faaa6e9e8576b7331ecd8f6034444b9b2ac2", func := "kalends/kalendslaw27.BudgetLimitHolds", spec := "budgetLimitHolds", unfollowed := true, recurses := true, named := ["kalends/budget.sizes"], plainKeys := false, apart := false, laid := [("kalends/budget.sizes", laid_kalends_budget_sizes)], narrowed := true }
def BudgetLimitHoldsUptoSaid : Prop := budgetLimitHoldsUptoRow.holds Tryz.pinned (OpenSpec.upto budgetLimitHoldsSpec)

/-- 'kalendslaw27.BudgetSplits', WHERE WHAT IT READS IS OF BULK AT MOST 1048576: true; the input reads as it did. -/
def budgetSplitsUptoRow : OpenClaim := { program := "ytclkibjonbhldaagreatdoor", sum := "9f9fc895ae0e08b37bc1257cc3f6faaa6e9e8576b7331ecd8f6034444b9b2ac2", func := "kalends/kalendslaw27.BudgetSplits", spec := "budgetSplits", unfollowed := true, recurses := true, named := ["kalends/budget.sizes"], plainKeys := false, apart := false, laid := [("kalends/budget.sizes", laid_kalends_budget_sizes)], narrowed := true }
def BudgetSplitsUptoSaid : Prop := budgetSplitsUptoRow.holds Tryz.pinned (OpenSpec.upto budgetSplitsSpec)

/-- 'kalendslaw27.BudgetMatchesReference', WHERE WHAT IT READS IS OF BULK AT MOST 1048576: true; the input reads as it did. -/
def budgetMatchesReferenceUptoRow : OpenClaim := { program := "ytclkibjonbhldaagreatdoor", sum := "9f9fc895ae0e08b37bc1257cc3f6faaa6e9e8576b7331ecd8f6034444b9b2ac2", func := "kalends/kalendslaw27.BudgetMatchesReference", spec := "budgetMatchesReference", unfollowed := true, recurses := true, named := ["kalends/budget.sizes"], plainKeys := false, apart := false, laid := [("kalends/budget.sizes", laid_kalends_budget_sizes)], narrowed := true }
def BudgetMatchesReferenceUptoSaid : Prop := budgetMatchesReferenceUptoRow.holds Tryz.pinned (OpenSpec.upto budgetMatchesReferenceSpec)

/-- 'kalendslaw27.BudgetAccounting', WHERE WHAT IT READS IS OF BULK AT MOST 1048576: true; the input reads as it did. -/
def budgetAccountingUptoRow : OpenClaim := { program := "ytclkibjonbhldaagreatdoor", sum := "9f9fc895ae0e08b37bc1257cc3f6faaa6e9e8576b7331ecd8f6034444b9b2ac2", func := "kalends/kalendslaw27.BudgetAccounting", spec := "budgetAccounting", unfollowed := true, recurses := true, named := ["kalends/budget.sizes"], plainKeys := false, apart := false, laid := [("kalends/budget.sizes", laid_kalends_budget_sizes)], narrowed := true }
def BudgetAccountingUptoSaid : Prop := budgetAccountingUptoRow.holds Tryz.pinned (OpenSpec.upto budgetAccountingSpec)

/-- 'kalendslaw27.BudgetAliasesShare', WHERE WHAT IT READS IS OF BULK AT MOST 1048576: true; the input reads as it did. -/
def budgetAliasesShareUptoRow : OpenClaim := { program := "ytclkibjonbhldaagreatdoor", sum := "9f9fc895ae0e08b37bc1257cc3f6faaa6e9e8576b7331ecd8f6034444b9b2ac2", func := "kalends/kalendslaw27.BudgetAliasesShare", spec := "budgetAliasesShare", unfollowed := true, recurses := true, named := ["kalends/budget.sizes"], plainKeys := false, apart := false, laid := [("kalends/budget.sizes", laid_kalends_budget_sizes)], narrowed := true }
def BudgetAliasesShareUptoSaid : Prop := budgetAliasesShareUptoRow.holds Tryz.pinned (OpenSpec.upto budgetAliasesShareSpec)

/-- 'kalendslaw27.BudgetCoarserIsFree', WHERE WHAT IT READS IS OF BULK AT MOST 1048576: true; the input reads as it did. -/
def budgetCoarserIsFreeUptoRow : OpenClaim := { program := "ytclkibjonbhldaagreatdoor", sum := "9f9fc895ae0e08b37bc1257cc3f6faaa6e9e8576b7331ecd8f6034444b9b2ac2", func := "kalends/kalendslaw27.BudgetCoarserIsFree", spec := "budgetCoarserIsFree", unfollowed := true, recurses := true, named := ["kalends/budget.sizes"], plainKeys := false, apart := false, laid := [("kalends/budget.sizes", laid_kalends_budget_sizes)], narrowed := true }
def BudgetCoarserIsFreeUptoSaid : Prop := budgetCoarserIsFreeUptoRow.holds Tryz.pinned (OpenSpec.upto budgetCoarserIsFreeSpec)

/-- 'kalendslaw27.BudgetJoinedGroups', WHERE WHAT IT READS IS OF BULK AT MOST 1048576: true; the input reads as it did. -/
def budgetJoinedGroupsUptoRow : OpenClaim := { program := "ytclkibjonbhldaagreatdoor", sum := "9f9fc895ae0e08b37bc1257cc3f6faaa6e9e8576b7331ecd8f6034444b9b2ac2", func := "kalends/kalendslaw27.BudgetJoinedGroups", spec := "budgetJoinedGroups", unfollowed := true, recurses := true, named := ["kalends/budget.sizes"], plainKeys := false, apart := false, laid := [("kalends/budget.sizes", laid_kalends_budget_sizes)], narrowed := true }
def BudgetJoinedGroupsUptoSaid : Prop := budgetJoinedGroupsUptoRow.holds Tryz.pinned (OpenSpec.upto budgetJoinedGroupsSpec)

/-- 'kalendslaw27.BudgetPurity', WHERE WHAT IT READS IS OF BULK AT MOST 1048576: true; the input reads as it did. -/
def budgetPurityUptoRow : OpenClaim := { program := "ytclkibjonbhldaagreatdoor", sum := "9f9fc895ae0e08b37bc1257cc3f6faaa6e9e8576b7331ecd8f6034444b9b2ac2", func := "kalends/kalendslaw27.BudgetPurity", spec := "budgetPurity", unfollowed := true, recurses := true, named := ["kalends/budget.sizes"], plainKeys := false, apart := false, laid := [("kalends/budget.sizes", laid_kalends_budget_sizes)], narrowed := true }
def BudgetPurityUptoSaid : Prop := budgetPurityUptoRow.holds Tryz.pinned (OpenSpec.upto budgetPuritySpec)

end Rows
end Go.Proofs.YtclkibjonbhldaaGreatDoor
