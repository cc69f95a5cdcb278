/-
  DERIVED. GIVEN WITH THE SEED: THE CARDS: each row of YtdglpgepgmdbdaaGreatDoorRows.lean that lists a variable, with what it lists TIED to the program's text (the seventh form; the later family's looks); each row that meets fmt, with fmt's text TOLD by the authors' own Lean function (tested against real Go, not proved from fmt's source: count such statements apart). THE CARD IS WHAT COUNTS. Prove the row's statement (the work); the ties are given (YtdglpgepgmdbdaaGreatDoorTie.lean); close each card by the builder's one call (the guide's Derived/Test/ToyasCard.lean, 'card_holds'). Laid BY PROGRAM, IN A SANDBOX (cutbox-door.mjs). By AI agents, Wed Nov 11 2026. No macro, syntax, notation, axiom, sorry.
-/
import Derived.Test.YtdglpgepgmdbdaaGreatDoorRows
import GoSem.ClaimSeven
namespace Go.Proofs.YtdglpgepgmdbdaaGreatDoor
namespace Rows

/-- THE TIED CARD OF 'kalendstop.TopAliasesLearnWhatTheyPaidFor'. -/
def topAliasesLearnWhatTheyPaidForCard : Claim7 := { stood := { row := topAliasesLearnWhatTheyPaidForRow, standIns := [], harness := (true, "1b824bf781629238f21995ed822d6f07367fcccc599341330e4ae88bd59bc4cf"), looks := false }, kinds := [], alts := [], laidByText := true, laidKinds := [.data, .data], laidTests := true, laidLooks := .later }
def TopAliasesLearnWhatTheyPaidForCardSaid : Prop := Claim7.holds Tryz.pinned (.plain (OpenSpec.ofChange topAliasesLearnWhatTheyPaidForSpec)) topAliasesLearnWhatTheyPaidForCard

/-- THE SECOND FORM's CARD OF 'kalendstop.TopAliasesLearnWhatTheyPaidFor'. -/
def topAliasesLearnWhatTheyPaidForUptoCard : Claim7 := { stood := { row := topAliasesLearnWhatTheyPaidForUptoRow, standIns := [], harness := (true, "1b824bf781629238f21995ed822d6f07367fcccc599341330e4ae88bd59bc4cf"), looks := false }, kinds := [], alts := [], laidByText := true, laidKinds := [.data, .data], laidTests := true, laidLooks := .later }
def TopAliasesLearnWhatTheyPaidForUptoCardSaid : Prop := Claim7.holds Tryz.pinned (.plain (OpenSpec.upto topAliasesLearnWhatTheyPaidForSpec)) topAliasesLearnWhatTheyPaidForUptoCard
end Rows
end Go.Proofs.YtdglpgepgmdbdaaGreatDoor
