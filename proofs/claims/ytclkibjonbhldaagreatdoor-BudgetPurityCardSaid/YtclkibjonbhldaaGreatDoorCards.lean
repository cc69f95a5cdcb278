/-
  DERIVED. GIVEN WITH THE SEED: THE CARDS: each row of YtclkibjonbhldaaGreatDoorRows.lean that lists a variable, with what it lists TIED to the program's text (the seventh form; the later family's looks); each row that meets fmt, with fmt's text TOLD by the authors' own Lean function (tested against real Go, not proved from fmt's source: count such statements apart). THE CARD IS WHAT COUNTS. Prove the row's statement (the work); the ties are given (YtclkibjonbhldaaGreatDoorTie.lean); close each card by the builder's one call (the guide's Derived/Test/ToyasCard.lean, 'card_holds'). Laid BY PROGRAM, IN A SANDBOX (cutbox-door.mjs). By AI agents, Wed Nov 11 2026. No macro, syntax, notation, axiom, sorry.
-/
import Derived.Test.YtclkibjonbhldaaGreatDoorRows
import GoSem.ClaimSeven
namespace Go.Proofs.YtclkibjonbhldaaGreatDoor
namespace Rows

/-- THE TIED CARD OF 'kalendslaw27.BudgetMadeMatchesReference'. -/
def budgetMadeMatchesReferenceCard : Claim7 := { stood := { row := budgetMadeMatchesReferenceRow, standIns := [], harness := (true, "4d0bc511735fc1c048e063fbbdbe58941715929d131a5a6372d76744d96128d9"), looks := false }, kinds := [], alts := [], laidByText := true, laidKinds := [.data], laidTests := true, laidLooks := .later }
def BudgetMadeMatchesReferenceCardSaid : Prop := Claim7.holds Tryz.pinned (.plain (OpenSpec.ofChange budgetMadeMatchesReferenceSpec)) budgetMadeMatchesReferenceCard

/-- THE TIED CARD OF 'kalendslaw27.BudgetLimitHolds'. -/
def budgetLimitHoldsCard : Claim7 := { stood := { row := budgetLimitHoldsRow, standIns := [], harness := (true, "4d0bc511735fc1c048e063fbbdbe58941715929d131a5a6372d76744d96128d9"), looks := false }, kinds := [], alts := [], laidByText := true, laidKinds := [.data], laidTests := true, laidLooks := .later }
def BudgetLimitHoldsCardSaid : Prop := Claim7.holds Tryz.pinned (.plain (OpenSpec.ofChange budgetLimitHoldsSpec)) budgetLimitHoldsCard

/-- THE TIED CARD OF 'kalendslaw27.BudgetSplits'. -/
def budgetSplitsCard : Claim7 := { stood := { row := budgetSplitsRow, standIns := [], harness := (true, "4d0bc511735fc1c048e063fbbdbe58941715929d131a5a6372d76744d96128d9"), looks := false }, kinds := [], alts := [], laidByText := true, laidKinds := [.data], laidTests := true, laidLooks := .later }
def BudgetSplitsCardSaid : Prop := Claim7.holds Tryz.pinned (.plain (OpenSpec.ofChange budgetSplitsSpec)) budgetSplitsCard

/-- THE TIED CARD OF 'kalendslaw27.BudgetMatchesReference'. -/
def budgetMatchesReferenceCard : Claim7 := { stood := { row := budgetMatchesReferenceRow, standIns := [], harness := (true, "4d0bc511735fc1c048e063fbbdbe58941715929d131a5a6372d76744d96128d9"), looks := false }, kinds := [], alts := [], laidByText := true, laidKinds := [.data], laidTests := true, laidLooks := .later }
def BudgetMatchesReferenceCardSaid : Prop := Claim7.holds Tryz.pinned (.plain (OpenSpec.ofChange budgetMatchesReferenceSpec)) budgetMatchesReferenceCard

/-- THE TIED CARD OF 'kalendslaw27.BudgetAccounting'. -/
def budgetAccountingCard : Claim7 := { stood := { row := budgetAccountingRow, standIns := [], harness := (true, "4d0bc511735fc1c048e063fbbdbe58941715929d131a5a6372d76744d96128d9"), looks := false }, kinds := [], alts := [], laidByText := true, laidKinds := [.data], laidTests := true, laidLooks := .later }
def BudgetAccountingCardSaid : Prop := Claim7.holds Tryz.pinned (.plain (OpenSpec.ofChange budgetAccountingSpec)) budgetAccountingCard

/-- THE TIED CARD OF 'kalendslaw27.BudgetAliasesShare'. -/
def budgetAliasesShareCard : Claim7 := { stood := { row := budgetAliasesShareRow, standIns := [], harness := (true, "4d0bc511735fc1c048e063fbbdbe58941715929d131a5a6372d76744d96128d9"), looks := false }, kinds := [], alts := [], laidByText := true, laidKinds := [.data], laidTests := true, laidLooks := .later }
def BudgetAliasesShareCardSaid : Prop := Claim7.holds Tryz.pinned (.plain (OpenSpec.ofChange budgetAliasesShareSpec)) budgetAliasesShareCard

/-- THE TIED CARD OF 'kalendslaw27.BudgetCoarserIsFree'. -/
def budgetCoarserIsFreeCard : Claim7 := { stood := { row := budgetCoarserIsFreeRow, standIns := [], harness := (true, "4d0bc511735fc1c048e063fbbdbe58941715929d131a5a6372d76744d96128d9"), looks := false }, kinds := [], alts := [], laidByText := true, laidKinds := [.data], laidTests := true, laidLooks := .later }
def BudgetCoarserIsFreeCardSaid : Prop := Claim7.holds Tryz.pinned (.plain (OpenSpec.ofChange budgetCoarserIsFreeSpec)) budgetCoarserIsFreeCard

/-- THE TIED CARD OF 'kalendslaw27.BudgetJoinedGroups'. -/
def budgetJoinedGroupsCard : Claim7 := { stood := { row := budgetJoinedGroupsRow, standIns := [], harness := (true, "4d0bc511735fc1c048e063fbbdbe58941715929d131a5a6372d76744d96128d9"), looks := false }, kinds := [], alts := [], laidByText := true, laidKinds := [.data], laidTests := true, laidLooks := .later }
def BudgetJoinedGroupsCardSaid : Prop := Claim7.holds Tryz.pinned (.plain (OpenSpec.ofChange budgetJoinedGroupsSpec)) budgetJoinedGroupsCard

/-- THE TIED CARD OF 'kalendslaw27.BudgetPurity'. -/
def budgetPurityCard : Claim7 := { stood := { row := budgetPurityRow, standIns := [], harness := (true, "4d0bc511735fc1c048e063fbbdbe58941715929d131a5a6372d76744d96128d9"), looks := false }, kinds := [], alts := [], laidByText := true, laidKinds := [.data], laidTests := true, laidLooks := .later }
def BudgetPurityCardSaid : Prop := Claim7.holds Tryz.pinned (.plain (OpenSpec.ofChange budgetPuritySpec)) budgetPurityCard

/-- THE SECOND FORM's CARD OF 'kalendslaw27.BudgetMadeMatchesReference'. -/
def budgetMadeMatchesReferenceUptoCard : Claim7 := { stood := { row := budgetMadeMatchesReferenceUptoRow, standIns := [], harness := (true, "4d0bc511735fc1c048e063fbbdbe58941715929d131a5a6372d76744d96128d9"), looks := false }, kinds := [], alts := [], laidByText := true, laidKinds := [.data], laidTests := true, laidLooks := .later }
def BudgetMadeMatchesReferenceUptoCardSaid : Prop := Claim7.holds Tryz.pinned (.plain (OpenSpec.upto budgetMadeMatchesReferenceSpec)) budgetMadeMatchesReferenceUptoCard

/-- THE SECOND FORM's CARD OF 'kalendslaw27.BudgetLimitHolds'. -/
def budgetLimitHoldsUptoCard : Claim7 := { stood := { row := budgetLimitHoldsUptoRow, standIns := [], harness := (true, "4d0bc511735fc1c048e063fbbdbe58941715929d131a5a6372d76744d96128d9"), looks := false }, kinds := [], alts := [], laidByText := true, laidKinds := [.data], laidTests := true, laidLooks := .later }
def BudgetLimitHoldsUptoCardSaid : Prop := Claim7.holds Tryz.pinned (.plain (OpenSpec.upto budgetLimitHoldsSpec)) budgetLimitHoldsUptoCard

/-- THE SECOND FORM's CARD OF 'kalendslaw27.BudgetSplits'. -/
def budgetSplitsUptoCard : Claim7 := { stood := { row := budgetSplitsUptoRow, standIns := [], harness := (true, "4d0bc511735fc1c048e063fbbdbe58941715929d131a5a6372d76744d96128d9"), looks := false }, kinds := [], alts := [], laidByText := true, laidKinds := [.data], laidTests := true, laidLooks := .later }
def BudgetSplitsUptoCardSaid : Prop := Claim7.holds Tryz.pinned (.plain (OpenSpec.upto budgetSplitsSpec)) budgetSplitsUptoCard

/-- THE SECOND FORM's CARD OF 'kalendslaw27.BudgetMatchesReference'. -/
def budgetMatchesReferenceUptoCard : Claim7 := { stood := { row := budgetMatchesReferenceUptoRow, standIns := [], harness := (true, "4d0bc511735fc1c048e063fbbdbe58941715929d131a5a6372d76744d96128d9"), looks := false }, kinds := [], alts := [], laidByText := true, laidKinds := [.data], laidTests := true, laidLooks := .later }
def BudgetMatchesReferenceUptoCardSaid : Prop := Claim7.holds Tryz.pinned (.plain (OpenSpec.upto budgetMatchesReferenceSpec)) budgetMatchesReferenceUptoCard

/-- THE SECOND FORM's CARD OF 'kalendslaw27.BudgetAccounting'. -/
def budgetAccountingUptoCard : Claim7 := { stood := { row := budgetAccountingUptoRow, standIns := [], harness := (true, "4d0bc511735fc1c048e063fbbdbe58941715929d131a5a6372d76744d96128d9"), looks := false }, kinds := [], alts := [], laidByText := true, laidKinds := [.data], laidTests := true, laidLooks := .later }
def BudgetAccountingUptoCardSaid : Prop := Claim7.holds Tryz.pinned (.plain (OpenSpec.upto budgetAccountingSpec)) budgetAccountingUptoCard

/-- THE SECOND FORM's CARD OF 'kalendslaw27.BudgetAliasesShare'. -/
def budgetAliasesShareUptoCard : Claim7 := { stood := { row := budgetAliasesShareUptoRow, standIns := [], harness := (true, "4d0bc511735fc1c048e063fbbdbe58941715929d131a5a6372d76744d96128d9"), looks := false }, kinds := [], alts := [], laidByText := true, laidKinds := [.data], laidTests := true, laidLooks := .later }
def BudgetAliasesShareUptoCardSaid : Prop := Claim7.holds Tryz.pinned (.plain (OpenSpec.upto budgetAliasesShareSpec)) budgetAliasesShareUptoCard

/-- THE SECOND FORM's CARD OF 'kalendslaw27.BudgetCoarserIsFree'. -/
def budgetCoarserIsFreeUptoCard : Claim7 := { stood := { row := budgetCoarserIsFreeUptoRow, standIns := [], harness := (true, "4d0bc511735fc1c048e063fbbdbe58941715929d131a5a6372d76744d96128d9"), looks := false }, kinds := [], alts := [], laidByText := true, laidKinds := [.data], laidTests := true, laidLooks := .later }
def BudgetCoarserIsFreeUptoCardSaid : Prop := Claim7.holds Tryz.pinned (.plain (OpenSpec.upto budgetCoarserIsFreeSpec)) budgetCoarserIsFreeUptoCard

/-- THE SECOND FORM's CARD OF 'kalendslaw27.BudgetJoinedGroups'. -/
def budgetJoinedGroupsUptoCard : Claim7 := { stood := { row := budgetJoinedGroupsUptoRow, standIns := [], harness := (true, "4d0bc511735fc1c048e063fbbdbe58941715929d131a5a6372d76744d96128d9"), looks := false }, kinds := [], alts := [], laidByText := true, laidKinds := [.data], laidTests := true, laidLooks := .later }
def BudgetJoinedGroupsUptoCardSaid : Prop := Claim7.holds Tryz.pinned (.plain (OpenSpec.upto budgetJoinedGroupsSpec)) budgetJoinedGroupsUptoCard

/-- THE SECOND FORM's CARD OF 'kalendslaw27.BudgetPurity'. -/
def budgetPurityUptoCard : Claim7 := { stood := { row := budgetPurityUptoRow, standIns := [], harness := (true, "4d0bc511735fc1c048e063fbbdbe58941715929d131a5a6372d76744d96128d9"), looks := false }, kinds := [], alts := [], laidByText := true, laidKinds := [.data], laidTests := true, laidLooks := .later }
def BudgetPurityUptoCardSaid : Prop := Claim7.holds Tryz.pinned (.plain (OpenSpec.upto budgetPuritySpec)) budgetPurityUptoCard
end Rows
end Go.Proofs.YtclkibjonbhldaaGreatDoor
