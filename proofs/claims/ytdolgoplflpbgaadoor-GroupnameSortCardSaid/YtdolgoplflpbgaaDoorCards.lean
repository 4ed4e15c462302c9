/-
  DERIVED. GIVEN WITH THE SEED: THE CARDS: each row of YtdolgoplflpbgaaDoorRows.lean that lists a variable, with what it lists TIED to the program's text (the seventh form; the later family's looks); each row that meets fmt, with fmt's text TOLD by the authors' own Lean function (tested against real Go, not proved from fmt's source: count such statements apart). THE CARD IS WHAT COUNTS. Prove the row's statement (the work); the ties are given (YtdolgoplflpbgaaDoorTie.lean); close each card by the builder's one call (the guide's Derived/Test/ToyasCard.lean, 'card_holds'). Laid BY PROGRAM, IN A SANDBOX (cutbox-door.mjs). By AI agents, Wed Nov 11 2026. No macro, syntax, notation, axiom, sorry.
-/
import Derived.Test.YtdolgoplflpbgaaDoorRows
import GoSem.ClaimSeven
namespace Go.Proofs.YtdolgoplflpbgaaDoor
namespace Rows

/-- THE TIED CARD OF 'bulletinlaw12.GroupnameCompare'. -/
def groupnameCompareCard : Claim7 := { stood := { row := groupnameCompareRow, standIns := [], harness := (true, "e19e37c6889bce438dc96a9311f8965c68da6f5c584f69ae84f486fa8b06f5c4"), looks := false }, kinds := [], alts := [], laidByText := true, laidKinds := [.data, .pinned], laidTests := true, laidLooks := .later }
def GroupnameCompareCardSaid : Prop := Claim7.holds Tryd.pinned (.plain (OpenSpec.ofChange groupnameCompareSpec)) groupnameCompareCard

/-- THE TIED CARD OF 'bulletinlaw12.GroupnameSort'. -/
def groupnameSortCard : Claim7 := { stood := { row := groupnameSortRow, standIns := [], harness := (true, "e19e37c6889bce438dc96a9311f8965c68da6f5c584f69ae84f486fa8b06f5c4"), looks := false }, kinds := [], alts := [], laidByText := true, laidKinds := [.data, .pinned], laidTests := true, laidLooks := .later }
def GroupnameSortCardSaid : Prop := Claim7.holds Tryd.pinned (.plain (OpenSpec.ofChange groupnameSortSpec)) groupnameSortCard

/-- THE TIED CARD OF 'bulletinlaw12.GroupnameChildren'. -/
def groupnameChildrenCard : Claim7 := { stood := { row := groupnameChildrenRow, standIns := [], harness := (true, "e19e37c6889bce438dc96a9311f8965c68da6f5c584f69ae84f486fa8b06f5c4"), looks := false }, kinds := [], alts := [], laidByText := true, laidKinds := [.data, .pinned], laidTests := true, laidLooks := .later }
def GroupnameChildrenCardSaid : Prop := Claim7.holds Tryd.pinned (.plain (OpenSpec.ofChange groupnameChildrenSpec)) groupnameChildrenCard

/-- THE TIED CARD OF 'bulletinlaw12.GroupnameAdjacent'. -/
def groupnameAdjacentCard : Claim7 := { stood := { row := groupnameAdjacentRow, standIns := [], harness := (true, "e19e37c6889bce438dc96a9311f8965c68da6f5c584f69ae84f486fa8b06f5c4"), looks := false }, kinds := [], alts := [], laidByText := true, laidKinds := [.data, .pinned], laidTests := true, laidLooks := .later }
def GroupnameAdjacentCardSaid : Prop := Claim7.holds Tryd.pinned (.plain (OpenSpec.ofChange groupnameAdjacentSpec)) groupnameAdjacentCard

/-- THE SECOND FORM's CARD OF 'bulletinlaw12.GroupnameCompare'. -/
def groupnameCompareUptoCard : Claim7 := { stood := { row := groupnameCompareUptoRow, standIns := [], harness := (true, "e19e37c6889bce438dc96a9311f8965c68da6f5c584f69ae84f486fa8b06f5c4"), looks := false }, kinds := [], alts := [], laidByText := true, laidKinds := [.data, .pinned], laidTests := true, laidLooks := .later }
def GroupnameCompareUptoCardSaid : Prop := Claim7.holds Tryd.pinned (.plain (OpenSpec.upto groupnameCompareSpec)) groupnameCompareUptoCard

/-- THE SECOND FORM's CARD OF 'bulletinlaw12.GroupnameSort'. -/
def groupnameSortUptoCard : Claim7 := { stood := { row := groupnameSortUptoRow, standIns := [], harness := (true, "e19e37c6889bce438dc96a9311f8965c68da6f5c584f69ae84f486fa8b06f5c4"), looks := false }, kinds := [], alts := [], laidByText := true, laidKinds := [.data, .pinned], laidTests := true, laidLooks := .later }
def GroupnameSortUptoCardSaid : Prop := Claim7.holds Tryd.pinned (.plain (OpenSpec.upto groupnameSortSpec)) groupnameSortUptoCard

/-- THE SECOND FORM's CARD OF 'bulletinlaw12.GroupnameChildren'. -/
def groupnameChildrenUptoCard : Claim7 := { stood := { row := groupnameChildrenUptoRow, standIns := [], harness := (true, "e19e37c6889bce438dc96a9311f8965c68da6f5c584f69ae84f486fa8b06f5c4"), looks := false }, kinds := [], alts := [], laidByText := true, laidKinds := [.data, .pinned], laidTests := true, laidLooks := .later }
def GroupnameChildrenUptoCardSaid : Prop := Claim7.holds Tryd.pinned (.plain (OpenSpec.upto groupnameChildrenSpec)) groupnameChildrenUptoCard

/-- THE SECOND FORM's CARD OF 'bulletinlaw12.GroupnameAdjacent'. -/
def groupnameAdjacentUptoCard : Claim7 := { stood := { row := groupnameAdjacentUptoRow, standIns := [], harness := (true, "e19e37c6889bce438dc96a9311f8965c68da6f5c584f69ae84f486fa8b06f5c4"), looks := false }, kinds := [], alts := [], laidByText := true, laidKinds := [.data, .pinned], laidTests := true, laidLooks := .later }
def GroupnameAdjacentUptoCardSaid : Prop := Claim7.holds Tryd.pinned (.plain (OpenSpec.upto groupnameAdjacentSpec)) groupnameAdjacentUptoCard
end Rows
end Go.Proofs.YtdolgoplflpbgaaDoor
