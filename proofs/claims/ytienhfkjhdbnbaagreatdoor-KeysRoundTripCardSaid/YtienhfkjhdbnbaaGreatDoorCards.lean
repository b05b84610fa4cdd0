/-
  DERIVED. GIVEN WITH THE SEED: THE CARDS: each row of YtienhfkjhdbnbaaGreatDoorRows.lean that lists a variable, with what it lists TIED to the program's text (the seventh form; the later family's looks); each row that meets fmt, with fmt's text TOLD by the authors' own Lean function (tested against real Go, not proved from fmt's source: count such statements apart). THE CARD IS WHAT COUNTS. Prove the row's statement (the work); the ties are given (YtienhfkjhdbnbaaGreatDoorTie.lean); close each card by the builder's one call (the guide's Derived/Test/ToyasCard.lean, 'card_holds'). Laid BY PROGRAM, IN A SANDBOX (cutbox-door.mjs). By AI agents, Wed Nov 11 2026. No macro, syntax, notation, axiom, sorry.
-/
import Derived.Test.YtienhfkjhdbnbaaGreatDoorRows
import GoSem.ClaimSeven
namespace Go.Proofs.YtienhfkjhdbnbaaGreatDoor
namespace Rows

/-- THE TIED CARD OF 'moidorelaw33.KeysAddress'. -/
def keysAddressCard : Claim7 := { stood := { row := keysAddressRow, standIns := [], harness := (true, "0039d3529f98104bac89ab55223ffcdb0f5697fffbfe81f6c5c62dbe36623117"), looks := true }, kinds := [], alts := [], laidByText := true, laidKinds := [.data, .data, .data, .data, .sentinel, .sentinel, .pinned], laidTests := true, laidLooks := .later }
def KeysAddressCardSaid : Prop := Claim7.holds Tryz.pinned (.plain (OpenSpec.ofChange keysAddressSpec)) keysAddressCard

/-- THE TIED CARD OF 'moidorelaw33.KeysFormat'. -/
def keysFormatCard : Claim7 := { stood := { row := keysFormatRow, standIns := [], harness := (true, "0039d3529f98104bac89ab55223ffcdb0f5697fffbfe81f6c5c62dbe36623117"), looks := true }, kinds := [], alts := [], laidByText := true, laidKinds := [.data, .data, .data, .data, .sentinel, .sentinel, .pinned], laidTests := true, laidLooks := .later }
def KeysFormatCardSaid : Prop := Claim7.holds Tryz.pinned (.plain (OpenSpec.ofChange keysFormatSpec)) keysFormatCard

/-- THE TIED CARD OF 'moidorelaw33.KeysParse'. -/
def keysParseCard : Claim7 := { stood := { row := keysParseRow, standIns := [], harness := (true, "0039d3529f98104bac89ab55223ffcdb0f5697fffbfe81f6c5c62dbe36623117"), looks := true }, kinds := [], alts := [], laidByText := true, laidKinds := [.data, .data, .data, .data, .sentinel, .sentinel, .pinned], laidTests := true, laidLooks := .later }
def KeysParseCardSaid : Prop := Claim7.holds Tryz.pinned (.plain (OpenSpec.ofChange keysParseSpec)) keysParseCard

/-- THE TIED CARD OF 'moidorelaw33.KeysRoundTrip'. -/
def keysRoundTripCard : Claim7 := { stood := { row := keysRoundTripRow, standIns := [], harness := (true, "0039d3529f98104bac89ab55223ffcdb0f5697fffbfe81f6c5c62dbe36623117"), looks := true }, kinds := [], alts := [], laidByText := true, laidKinds := [.data, .data, .data, .data, .sentinel, .sentinel, .pinned], laidTests := true, laidLooks := .later }
def KeysRoundTripCardSaid : Prop := Claim7.holds Tryz.pinned (.plain (OpenSpec.ofChange keysRoundTripSpec)) keysRoundTripCard

/-- THE SECOND FORM's CARD OF 'moidorelaw33.KeysAddress'. -/
def keysAddressUptoCard : Claim7 := { stood := { row := keysAddressUptoRow, standIns := [], harness := (true, "0039d3529f98104bac89ab55223ffcdb0f5697fffbfe81f6c5c62dbe36623117"), looks := true }, kinds := [], alts := [], laidByText := true, laidKinds := [.data, .data, .data, .data, .sentinel, .sentinel, .pinned], laidTests := true, laidLooks := .later }
def KeysAddressUptoCardSaid : Prop := Claim7.holds Tryz.pinned (.plain (OpenSpec.upto keysAddressSpec)) keysAddressUptoCard

/-- THE SECOND FORM's CARD OF 'moidorelaw33.KeysFormat'. -/
def keysFormatUptoCard : Claim7 := { stood := { row := keysFormatUptoRow, standIns := [], harness := (true, "0039d3529f98104bac89ab55223ffcdb0f5697fffbfe81f6c5c62dbe36623117"), looks := true }, kinds := [], alts := [], laidByText := true, laidKinds := [.data, .data, .data, .data, .sentinel, .sentinel, .pinned], laidTests := true, laidLooks := .later }
def KeysFormatUptoCardSaid : Prop := Claim7.holds Tryz.pinned (.plain (OpenSpec.upto keysFormatSpec)) keysFormatUptoCard

/-- THE SECOND FORM's CARD OF 'moidorelaw33.KeysParse'. -/
def keysParseUptoCard : Claim7 := { stood := { row := keysParseUptoRow, standIns := [], harness := (true, "0039d3529f98104bac89ab55223ffcdb0f5697fffbfe81f6c5c62dbe36623117"), looks := true }, kinds := [], alts := [], laidByText := true, laidKinds := [.data, .data, .data, .data, .sentinel, .sentinel, .pinned], laidTests := true, laidLooks := .later }
def KeysParseUptoCardSaid : Prop := Claim7.holds Tryz.pinned (.plain (OpenSpec.upto keysParseSpec)) keysParseUptoCard

/-- THE SECOND FORM's CARD OF 'moidorelaw33.KeysRoundTrip'. -/
def keysRoundTripUptoCard : Claim7 := { stood := { row := keysRoundTripUptoRow, standIns := [], harness := (true, "0039d3529f98104bac89ab55223ffcdb0f5697fffbfe81f6c5c62dbe36623117"), looks := true }, kinds := [], alts := [], laidByText := true, laidKinds := [.data, .data, .data, .data, .sentinel, .sentinel, .pinned], laidTests := true, laidLooks := .later }
def KeysRoundTripUptoCardSaid : Prop := Claim7.holds Tryz.pinned (.plain (OpenSpec.upto keysRoundTripSpec)) keysRoundTripUptoCard
end Rows
end Go.Proofs.YtienhfkjhdbnbaaGreatDoor
