/-
  DERIVED. GIVEN WITH THE SEED: THE CARDS: each row of YtddiecdoaggaaaaGreatDoorRows.lean that lists a variable, with what it lists TIED to the program's text (the seventh form; the later family's looks); each row that meets fmt, with fmt's text TOLD by the authors' own Lean function (tested against real Go, not proved from fmt's source: count such statements apart). THE CARD IS WHAT COUNTS. Prove the row's statement (the work); the ties are given (YtddiecdoaggaaaaGreatDoorTie.lean); close each card by the builder's one call (the guide's Derived/Test/ToyasCard.lean, 'card_holds'). Laid BY PROGRAM, IN A SANDBOX (cutbox-door.mjs). By AI agents, Wed Nov 11 2026. No macro, syntax, notation, axiom, sorry.
-/
import Derived.Test.YtddiecdoaggaaaaGreatDoorRows
import GoSem.ClaimSeven
namespace Go.Proofs.YtddiecdoaggaaaaGreatDoor
namespace Rows

/-- THE TIED CARD OF 'bulletinlaw37.FeedruleSelects'. -/
def feedruleSelectsCard : Claim7 := { stood := { row := feedruleSelectsRow, standIns := [], harness := (true, "0b7b385932bf28b78049bc226849dfda6272701c6a7974a7c547a7849bb12a7b"), looks := false }, kinds := [], alts := [], laidByText := true, laidKinds := [.data, .pinned], laidTests := true, laidLooks := .later }
def FeedruleSelectsCardSaid : Prop := Claim7.holds Tryz.pinned (.plain (OpenSpec.ofChange feedruleSelectsSpec)) feedruleSelectsCard

/-- THE SECOND FORM's CARD OF 'bulletinlaw37.FeedruleSelects'. -/
def feedruleSelectsUptoCard : Claim7 := { stood := { row := feedruleSelectsUptoRow, standIns := [], harness := (true, "0b7b385932bf28b78049bc226849dfda6272701c6a7974a7c547a7849bb12a7b"), looks := false }, kinds := [], alts := [], laidByText := true, laidKinds := [.data, .pinned], laidTests := true, laidLooks := .later }
def FeedruleSelectsUptoCardSaid : Prop := Claim7.holds Tryz.pinned (.plain (OpenSpec.upto feedruleSelectsSpec)) feedruleSelectsUptoCard
end Rows
end Go.Proofs.YtddiecdoaggaaaaGreatDoor
