/-
  DERIVED. GIVEN WITH THE SEED: THE CARDS: each row of YtamkdkieffgpiaaDoorRows.lean that lists a variable, with what it lists TIED to the program's text (the seventh form; the later family's looks); each row that meets fmt, with fmt's text TOLD by the authors' own Lean function (tested against real Go, not proved from fmt's source: count such statements apart). THE CARD IS WHAT COUNTS. Prove the row's statement (the work); the ties are given (YtamkdkieffgpiaaDoorTie.lean); close each card by the builder's one call (the guide's Derived/Test/ToyasCard.lean, 'card_holds'). Laid BY PROGRAM, IN A SANDBOX (cutbox-door.mjs). By AI agents, Wed Nov 11 2026. No macro, syntax, notation, axiom, sorry.
-/
import Derived.Test.YtamkdkieffgpiaaDoorRows
import GoSem.ClaimSeven
namespace Go.Proofs.YtamkdkieffgpiaaDoor
namespace Rows

/-- THE TIED CARD OF 'moidorelaw14.LexerTokens'. -/
def lexerTokensCard : Claim7 := { stood := { row := lexerTokensRow, standIns := [], harness := (true, "4e00cb4a07072f5c308b8bb9eab586c12e1d751571a3a2d69678833bee320391"), looks := true }, kinds := [], alts := [], laidByText := true, laidKinds := [.data, .data, .data, .sentinel, .sentinel], laidTests := true, laidLooks := .later }
def LexerTokensCardSaid : Prop := Claim7.holds Tryd.pinned (.plain (OpenSpec.ofChange lexerTokensSpec)) lexerTokensCard

/-- THE TIED CARD OF 'moidorelaw14.LexerPlaces'. -/
def lexerPlacesCard : Claim7 := { stood := { row := lexerPlacesRow, standIns := [], harness := (true, "4e00cb4a07072f5c308b8bb9eab586c12e1d751571a3a2d69678833bee320391"), looks := true }, kinds := [], alts := [], laidByText := true, laidKinds := [.data, .data, .data, .sentinel, .sentinel], laidTests := true, laidLooks := .later }
def LexerPlacesCardSaid : Prop := Claim7.holds Tryd.pinned (.plain (OpenSpec.ofChange lexerPlacesSpec)) lexerPlacesCard

/-- THE TIED CARD OF 'moidorelaw14.LexerJoins'. -/
def lexerJoinsCard : Claim7 := { stood := { row := lexerJoinsRow, standIns := [], harness := (true, "4e00cb4a07072f5c308b8bb9eab586c12e1d751571a3a2d69678833bee320391"), looks := true }, kinds := [], alts := [], laidByText := true, laidKinds := [.data, .data, .data, .sentinel, .sentinel], laidTests := true, laidLooks := .later }
def LexerJoinsCardSaid : Prop := Claim7.holds Tryd.pinned (.plain (OpenSpec.ofChange lexerJoinsSpec)) lexerJoinsCard

/-- THE TIED CARD OF 'moidorelaw14.LexerAppends'. -/
def lexerAppendsCard : Claim7 := { stood := { row := lexerAppendsRow, standIns := [], harness := (true, "4e00cb4a07072f5c308b8bb9eab586c12e1d751571a3a2d69678833bee320391"), looks := true }, kinds := [], alts := [], laidByText := true, laidKinds := [.data, .data, .data, .sentinel, .sentinel], laidTests := true, laidLooks := .later }
def LexerAppendsCardSaid : Prop := Claim7.holds Tryd.pinned (.plain (OpenSpec.ofChange lexerAppendsSpec)) lexerAppendsCard

/-- THE TIED CARD OF 'moidorelaw14.LexerComments'. -/
def lexerCommentsCard : Claim7 := { stood := { row := lexerCommentsRow, standIns := [], harness := (true, "4e00cb4a07072f5c308b8bb9eab586c12e1d751571a3a2d69678833bee320391"), looks := true }, kinds := [], alts := [], laidByText := true, laidKinds := [.data, .data, .data, .sentinel, .sentinel], laidTests := true, laidLooks := .later }
def LexerCommentsCardSaid : Prop := Claim7.holds Tryd.pinned (.plain (OpenSpec.ofChange lexerCommentsSpec)) lexerCommentsCard

/-- THE TIED CARD OF 'moidorelaw14.LexerNumbers'. -/
def lexerNumbersCard : Claim7 := { stood := { row := lexerNumbersRow, standIns := [], harness := (true, "4e00cb4a07072f5c308b8bb9eab586c12e1d751571a3a2d69678833bee320391"), looks := true }, kinds := [], alts := [], laidByText := true, laidKinds := [.data, .data, .data, .sentinel, .sentinel], laidTests := true, laidLooks := .later }
def LexerNumbersCardSaid : Prop := Claim7.holds Tryd.pinned (.plain (OpenSpec.ofChange lexerNumbersSpec)) lexerNumbersCard

/-- THE TIED CARD OF 'moidorelaw14.LexerNames'. -/
def lexerNamesCard : Claim7 := { stood := { row := lexerNamesRow, standIns := [], harness := (true, "4e00cb4a07072f5c308b8bb9eab586c12e1d751571a3a2d69678833bee320391"), looks := true }, kinds := [], alts := [], laidByText := true, laidKinds := [.data, .data, .data, .sentinel, .sentinel], laidTests := true, laidLooks := .later }
def LexerNamesCardSaid : Prop := Claim7.holds Tryd.pinned (.plain (OpenSpec.ofChange lexerNamesSpec)) lexerNamesCard

/-- THE SECOND FORM's CARD OF 'moidorelaw14.LexerTokens'. -/
def lexerTokensUptoCard : Claim7 := { stood := { row := lexerTokensUptoRow, standIns := [], harness := (true, "4e00cb4a07072f5c308b8bb9eab586c12e1d751571a3a2d69678833bee320391"), looks := true }, kinds := [], alts := [], laidByText := true, laidKinds := [.data, .data, .data, .sentinel, .sentinel], laidTests := true, laidLooks := .later }
def LexerTokensUptoCardSaid : Prop := Claim7.holds Tryd.pinned (.plain (OpenSpec.upto lexerTokensSpec)) lexerTokensUptoCard

/-- THE SECOND FORM's CARD OF 'moidorelaw14.LexerPlaces'. -/
def lexerPlacesUptoCard : Claim7 := { stood := { row := lexerPlacesUptoRow, standIns := [], harness := (true, "4e00cb4a07072f5c308b8bb9eab586c12e1d751571a3a2d69678833bee320391"), looks := true }, kinds := [], alts := [], laidByText := true, laidKinds := [.data, .data, .data, .sentinel, .sentinel], laidTests := true, laidLooks := .later }
def LexerPlacesUptoCardSaid : Prop := Claim7.holds Tryd.pinned (.plain (OpenSpec.upto lexerPlacesSpec)) lexerPlacesUptoCard

/-- THE SECOND FORM's CARD OF 'moidorelaw14.LexerJoins'. -/
def lexerJoinsUptoCard : Claim7 := { stood := { row := lexerJoinsUptoRow, standIns := [], harness := (true, "4e00cb4a07072f5c308b8bb9eab586c12e1d751571a3a2d69678833bee320391"), looks := true }, kinds := [], alts := [], laidByText := true, laidKinds := [.data, .data, .data, .sentinel, .sentinel], laidTests := true, laidLooks := .later }
def LexerJoinsUptoCardSaid : Prop := Claim7.holds Tryd.pinned (.plain (OpenSpec.upto lexerJoinsSpec)) lexerJoinsUptoCard

/-- THE SECOND FORM's CARD OF 'moidorelaw14.LexerAppends'. -/
def lexerAppendsUptoCard : Claim7 := { stood := { row := lexerAppendsUptoRow, standIns := [], harness := (true, "4e00cb4a07072f5c308b8bb9eab586c12e1d751571a3a2d69678833bee320391"), looks := true }, kinds := [], alts := [], laidByText := true, laidKinds := [.data, .data, .data, .sentinel, .sentinel], laidTests := true, laidLooks := .later }
def LexerAppendsUptoCardSaid : Prop := Claim7.holds Tryd.pinned (.plain (OpenSpec.upto lexerAppendsSpec)) lexerAppendsUptoCard

/-- THE SECOND FORM's CARD OF 'moidorelaw14.LexerComments'. -/
def lexerCommentsUptoCard : Claim7 := { stood := { row := lexerCommentsUptoRow, standIns := [], harness := (true, "4e00cb4a07072f5c308b8bb9eab586c12e1d751571a3a2d69678833bee320391"), looks := true }, kinds := [], alts := [], laidByText := true, laidKinds := [.data, .data, .data, .sentinel, .sentinel], laidTests := true, laidLooks := .later }
def LexerCommentsUptoCardSaid : Prop := Claim7.holds Tryd.pinned (.plain (OpenSpec.upto lexerCommentsSpec)) lexerCommentsUptoCard

/-- THE SECOND FORM's CARD OF 'moidorelaw14.LexerNumbers'. -/
def lexerNumbersUptoCard : Claim7 := { stood := { row := lexerNumbersUptoRow, standIns := [], harness := (true, "4e00cb4a07072f5c308b8bb9eab586c12e1d751571a3a2d69678833bee320391"), looks := true }, kinds := [], alts := [], laidByText := true, laidKinds := [.data, .data, .data, .sentinel, .sentinel], laidTests := true, laidLooks := .later }
def LexerNumbersUptoCardSaid : Prop := Claim7.holds Tryd.pinned (.plain (OpenSpec.upto lexerNumbersSpec)) lexerNumbersUptoCard

/-- THE SECOND FORM's CARD OF 'moidorelaw14.LexerNames'. -/
def lexerNamesUptoCard : Claim7 := { stood := { row := lexerNamesUptoRow, standIns := [], harness := (true, "4e00cb4a07072f5c308b8bb9eab586c12e1d751571a3a2d69678833bee320391"), looks := true }, kinds := [], alts := [], laidByText := true, laidKinds := [.data, .data, .data, .sentinel, .sentinel], laidTests := true, laidLooks := .later }
def LexerNamesUptoCardSaid : Prop := Claim7.holds Tryd.pinned (.plain (OpenSpec.upto lexerNamesSpec)) lexerNamesUptoCard
end Rows
end Go.Proofs.YtamkdkieffgpiaaDoor
