/-
  DERIVED. GIVEN WITH THE SEED: THE CARDS: each row of YtcbgiabippcpaaaGreatDoorRows.lean that lists a variable, with what it lists TIED to the program's text (the seventh form; the later family's looks); each row that meets fmt, with fmt's text TOLD by the authors' own Lean function (tested against real Go, not proved from fmt's source: count such statements apart). THE CARD IS WHAT COUNTS. Prove the row's statement (the work); the ties are given (YtcbgiabippcpaaaGreatDoorTie.lean); close each card by the builder's one call (the guide's Derived/Test/ToyasCard.lean, 'card_holds'). Laid BY PROGRAM, IN A SANDBOX (cutbox-door.mjs). By AI agents, Wed Nov 11 2026. No macro, syntax, notation, axiom, sorry.
-/
import Derived.Test.YtcbgiabippcpaaaGreatDoorRows
import GoSem.ClaimSeven
namespace Go.Proofs.YtcbgiabippcpaaaGreatDoor
namespace Rows

/-- THE TIED CARD OF 'moidorelaw16.ParserSpace'. -/
def parserSpaceCard : Claim7 := { stood := { row := parserSpaceRow, standIns := [], harness := (true, "fe8a842ef96d7946394e7f7ea67b18e2d2d1842e3475c9e349d858617a27f086"), looks := true }, kinds := [], alts := [], laidByText := true, laidKinds := [.data, .data, .data, .sentinel, .sentinel, .data], laidTests := true, laidLooks := .later }
def ParserSpaceCardSaid : Prop := Claim7.holds Tryz.pinned (.plain (OpenSpec.ofChange parserSpaceSpec)) parserSpaceCard

/-- THE TIED CARD OF 'moidorelaw16.ParserOffsets'. -/
def parserOffsetsCard : Claim7 := { stood := { row := parserOffsetsRow, standIns := [], harness := (true, "fe8a842ef96d7946394e7f7ea67b18e2d2d1842e3475c9e349d858617a27f086"), looks := true }, kinds := [], alts := [], laidByText := true, laidKinds := [.data, .data, .data, .sentinel, .sentinel, .data], laidTests := true, laidLooks := .later }
def ParserOffsetsCardSaid : Prop := Claim7.holds Tryz.pinned (.plain (OpenSpec.ofChange parserOffsetsSpec)) parserOffsetsCard

/-- THE TIED CARD OF 'moidorelaw16.ParserExpressionTwice'. -/
def parserExpressionTwiceCard : Claim7 := { stood := { row := parserExpressionTwiceRow, standIns := [], harness := (true, "fe8a842ef96d7946394e7f7ea67b18e2d2d1842e3475c9e349d858617a27f086"), looks := true }, kinds := [], alts := [], laidByText := true, laidKinds := [.data, .data, .data, .sentinel, .sentinel, .data], laidTests := true, laidLooks := .later }
def ParserExpressionTwiceCardSaid : Prop := Claim7.holds Tryz.pinned (.plain (OpenSpec.ofChange parserExpressionTwiceSpec)) parserExpressionTwiceCard

/-- THE TIED CARD OF 'moidorelaw16.ParserRoundTrip'. -/
def parserRoundTripCard : Claim7 := { stood := { row := parserRoundTripRow, standIns := [], harness := (true, "fe8a842ef96d7946394e7f7ea67b18e2d2d1842e3475c9e349d858617a27f086"), looks := true }, kinds := [], alts := [], laidByText := true, laidKinds := [.data, .data, .data, .sentinel, .sentinel, .data], laidTests := true, laidLooks := .later }
def ParserRoundTripCardSaid : Prop := Claim7.holds Tryz.pinned (.plain (OpenSpec.ofChange parserRoundTripSpec)) parserRoundTripCard

/-- THE TIED CARD OF 'moidorelaw16.ParserReturnsValid'. -/
def parserReturnsValidCard : Claim7 := { stood := { row := parserReturnsValidRow, standIns := [], harness := (true, "fe8a842ef96d7946394e7f7ea67b18e2d2d1842e3475c9e349d858617a27f086"), looks := true }, kinds := [], alts := [], laidByText := true, laidKinds := [.data, .data, .data, .sentinel, .sentinel, .data], laidTests := true, laidLooks := .later }
def ParserReturnsValidCardSaid : Prop := Claim7.holds Tryz.pinned (.plain (OpenSpec.ofChange parserReturnsValidSpec)) parserReturnsValidCard

/-- THE SECOND FORM's CARD OF 'moidorelaw16.ParserSpace'. -/
def parserSpaceUptoCard : Claim7 := { stood := { row := parserSpaceUptoRow, standIns := [], harness := (true, "fe8a842ef96d7946394e7f7ea67b18e2d2d1842e3475c9e349d858617a27f086"), looks := true }, kinds := [], alts := [], laidByText := true, laidKinds := [.data, .data, .data, .sentinel, .sentinel, .data], laidTests := true, laidLooks := .later }
def ParserSpaceUptoCardSaid : Prop := Claim7.holds Tryz.pinned (.plain (OpenSpec.upto parserSpaceSpec)) parserSpaceUptoCard

/-- THE SECOND FORM's CARD OF 'moidorelaw16.ParserOffsets'. -/
def parserOffsetsUptoCard : Claim7 := { stood := { row := parserOffsetsUptoRow, standIns := [], harness := (true, "fe8a842ef96d7946394e7f7ea67b18e2d2d1842e3475c9e349d858617a27f086"), looks := true }, kinds := [], alts := [], laidByText := true, laidKinds := [.data, .data, .data, .sentinel, .sentinel, .data], laidTests := true, laidLooks := .later }
def ParserOffsetsUptoCardSaid : Prop := Claim7.holds Tryz.pinned (.plain (OpenSpec.upto parserOffsetsSpec)) parserOffsetsUptoCard

/-- THE SECOND FORM's CARD OF 'moidorelaw16.ParserExpressionTwice'. -/
def parserExpressionTwiceUptoCard : Claim7 := { stood := { row := parserExpressionTwiceUptoRow, standIns := [], harness := (true, "fe8a842ef96d7946394e7f7ea67b18e2d2d1842e3475c9e349d858617a27f086"), looks := true }, kinds := [], alts := [], laidByText := true, laidKinds := [.data, .data, .data, .sentinel, .sentinel, .data], laidTests := true, laidLooks := .later }
def ParserExpressionTwiceUptoCardSaid : Prop := Claim7.holds Tryz.pinned (.plain (OpenSpec.upto parserExpressionTwiceSpec)) parserExpressionTwiceUptoCard

/-- THE SECOND FORM's CARD OF 'moidorelaw16.ParserRoundTrip'. -/
def parserRoundTripUptoCard : Claim7 := { stood := { row := parserRoundTripUptoRow, standIns := [], harness := (true, "fe8a842ef96d7946394e7f7ea67b18e2d2d1842e3475c9e349d858617a27f086"), looks := true }, kinds := [], alts := [], laidByText := true, laidKinds := [.data, .data, .data, .sentinel, .sentinel, .data], laidTests := true, laidLooks := .later }
def ParserRoundTripUptoCardSaid : Prop := Claim7.holds Tryz.pinned (.plain (OpenSpec.upto parserRoundTripSpec)) parserRoundTripUptoCard

/-- THE SECOND FORM's CARD OF 'moidorelaw16.ParserReturnsValid'. -/
def parserReturnsValidUptoCard : Claim7 := { stood := { row := parserReturnsValidUptoRow, standIns := [], harness := (true, "fe8a842ef96d7946394e7f7ea67b18e2d2d1842e3475c9e349d858617a27f086"), looks := true }, kinds := [], alts := [], laidByText := true, laidKinds := [.data, .data, .data, .sentinel, .sentinel, .data], laidTests := true, laidLooks := .later }
def ParserReturnsValidUptoCardSaid : Prop := Claim7.holds Tryz.pinned (.plain (OpenSpec.upto parserReturnsValidSpec)) parserReturnsValidUptoCard
end Rows
end Go.Proofs.YtcbgiabippcpaaaGreatDoor
