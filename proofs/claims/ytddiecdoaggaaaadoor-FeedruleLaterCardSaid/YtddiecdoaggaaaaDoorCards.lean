/-
  DERIVED. GIVEN WITH THE SEED: THE CARDS: each row of YtddiecdoaggaaaaDoorRows.lean that lists a variable, with what it lists TIED to the program's text (the seventh form; the later family's looks); each row that meets fmt, with fmt's text TOLD by the authors' own Lean function (tested against real Go, not proved from fmt's source: count such statements apart). THE CARD IS WHAT COUNTS. Prove the row's statement (the work); the ties are given (YtddiecdoaggaaaaDoorTie.lean); close each card by the builder's one call (the guide's Derived/Test/ToyasCard.lean, 'card_holds'). Laid BY PROGRAM, IN A SANDBOX (cutbox-door.mjs). By AI agents, Wed Nov 11 2026. No macro, syntax, notation, axiom, sorry.
-/
import Derived.Test.YtddiecdoaggaaaaDoorRows
import GoSem.ClaimSeven
namespace Go.Proofs.YtddiecdoaggaaaaDoor
namespace Rows

/-- THE TIED CARD OF 'bulletinlaw37.FeedruleReasons'. -/
def feedruleReasonsCard : Claim7 := { stood := { row := feedruleReasonsRow, standIns := [], harness := (true, "28ce18b1e0fbd8677b61b0df9466b8d31125d2bf3b481793148e218eb5fa46d5"), looks := false }, kinds := [], alts := [], laidByText := true, laidKinds := [.data, .pinned], laidTests := true, laidLooks := .later }
def FeedruleReasonsCardSaid : Prop := Claim7.holds Tryd.pinned (.plain (OpenSpec.ofChange feedruleReasonsSpec)) feedruleReasonsCard

/-- THE TIED CARD OF 'bulletinlaw37.FeedruleControls'. -/
def feedruleControlsCard : Claim7 := { stood := { row := feedruleControlsRow, standIns := [], harness := (true, "28ce18b1e0fbd8677b61b0df9466b8d31125d2bf3b481793148e218eb5fa46d5"), looks := false }, kinds := [], alts := [], laidByText := true, laidKinds := [.data, .pinned], laidTests := true, laidLooks := .later }
def FeedruleControlsCardSaid : Prop := Claim7.holds Tryd.pinned (.plain (OpenSpec.ofChange feedruleControlsSpec)) feedruleControlsCard

/-- THE TIED CARD OF 'bulletinlaw37.FeedruleBounds'. -/
def feedruleBoundsCard : Claim7 := { stood := { row := feedruleBoundsRow, standIns := [], harness := (true, "28ce18b1e0fbd8677b61b0df9466b8d31125d2bf3b481793148e218eb5fa46d5"), looks := false }, kinds := [], alts := [], laidByText := true, laidKinds := [.data, .pinned], laidTests := true, laidLooks := .later }
def FeedruleBoundsCardSaid : Prop := Claim7.holds Tryd.pinned (.plain (OpenSpec.ofChange feedruleBoundsSpec)) feedruleBoundsCard

/-- THE TIED CARD OF 'bulletinlaw37.FeedruleChecks'. -/
def feedruleChecksCard : Claim7 := { stood := { row := feedruleChecksRow, standIns := [], harness := (true, "28ce18b1e0fbd8677b61b0df9466b8d31125d2bf3b481793148e218eb5fa46d5"), looks := false }, kinds := [], alts := [], laidByText := true, laidKinds := [.data, .pinned], laidTests := true, laidLooks := .later }
def FeedruleChecksCardSaid : Prop := Claim7.holds Tryd.pinned (.plain (OpenSpec.ofChange feedruleChecksSpec)) feedruleChecksCard

/-- THE TIED CARD OF 'bulletinlaw37.FeedruleLater'. -/
def feedruleLaterCard : Claim7 := { stood := { row := feedruleLaterRow, standIns := [], harness := (true, "28ce18b1e0fbd8677b61b0df9466b8d31125d2bf3b481793148e218eb5fa46d5"), looks := false }, kinds := [], alts := [], laidByText := true, laidKinds := [.data, .pinned], laidTests := true, laidLooks := .later }
def FeedruleLaterCardSaid : Prop := Claim7.holds Tryd.pinned (.plain (OpenSpec.ofChange feedruleLaterSpec)) feedruleLaterCard

/-- THE SECOND FORM's CARD OF 'bulletinlaw37.FeedruleReasons'. -/
def feedruleReasonsUptoCard : Claim7 := { stood := { row := feedruleReasonsUptoRow, standIns := [], harness := (true, "28ce18b1e0fbd8677b61b0df9466b8d31125d2bf3b481793148e218eb5fa46d5"), looks := false }, kinds := [], alts := [], laidByText := true, laidKinds := [.data, .pinned], laidTests := true, laidLooks := .later }
def FeedruleReasonsUptoCardSaid : Prop := Claim7.holds Tryd.pinned (.plain (OpenSpec.upto feedruleReasonsSpec)) feedruleReasonsUptoCard

/-- THE SECOND FORM's CARD OF 'bulletinlaw37.FeedruleControls'. -/
def feedruleControlsUptoCard : Claim7 := { stood := { row := feedruleControlsUptoRow, standIns := [], harness := (true, "28ce18b1e0fbd8677b61b0df9466b8d31125d2bf3b481793148e218eb5fa46d5"), looks := false }, kinds := [], alts := [], laidByText := true, laidKinds := [.data, .pinned], laidTests := true, laidLooks := .later }
def FeedruleControlsUptoCardSaid : Prop := Claim7.holds Tryd.pinned (.plain (OpenSpec.upto feedruleControlsSpec)) feedruleControlsUptoCard

/-- THE SECOND FORM's CARD OF 'bulletinlaw37.FeedruleBounds'. -/
def feedruleBoundsUptoCard : Claim7 := { stood := { row := feedruleBoundsUptoRow, standIns := [], harness := (true, "28ce18b1e0fbd8677b61b0df9466b8d31125d2bf3b481793148e218eb5fa46d5"), looks := false }, kinds := [], alts := [], laidByText := true, laidKinds := [.data, .pinned], laidTests := true, laidLooks := .later }
def FeedruleBoundsUptoCardSaid : Prop := Claim7.holds Tryd.pinned (.plain (OpenSpec.upto feedruleBoundsSpec)) feedruleBoundsUptoCard

/-- THE SECOND FORM's CARD OF 'bulletinlaw37.FeedruleChecks'. -/
def feedruleChecksUptoCard : Claim7 := { stood := { row := feedruleChecksUptoRow, standIns := [], harness := (true, "28ce18b1e0fbd8677b61b0df9466b8d31125d2bf3b481793148e218eb5fa46d5"), looks := false }, kinds := [], alts := [], laidByText := true, laidKinds := [.data, .pinned], laidTests := true, laidLooks := .later }
def FeedruleChecksUptoCardSaid : Prop := Claim7.holds Tryd.pinned (.plain (OpenSpec.upto feedruleChecksSpec)) feedruleChecksUptoCard

/-- THE SECOND FORM's CARD OF 'bulletinlaw37.FeedruleLater'. -/
def feedruleLaterUptoCard : Claim7 := { stood := { row := feedruleLaterUptoRow, standIns := [], harness := (true, "28ce18b1e0fbd8677b61b0df9466b8d31125d2bf3b481793148e218eb5fa46d5"), looks := false }, kinds := [], alts := [], laidByText := true, laidKinds := [.data, .pinned], laidTests := true, laidLooks := .later }
def FeedruleLaterUptoCardSaid : Prop := Claim7.holds Tryd.pinned (.plain (OpenSpec.upto feedruleLaterSpec)) feedruleLaterUptoCard
end Rows
end Go.Proofs.YtddiecdoaggaaaaDoor
