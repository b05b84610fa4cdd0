/-
  DERIVED. GIVEN WITH THE SEED: THE CARDS: each row of YtienhfkjhdbnbaaDoorRows.lean that lists a variable, with what it lists TIED to the program's text (the seventh form; the later family's looks); each row that meets fmt, with fmt's text TOLD by the authors' own Lean function (tested against real Go, not proved from fmt's source: count such statements apart). THE CARD IS WHAT COUNTS. Prove the row's statement (the work); the ties are given (YtienhfkjhdbnbaaDoorTie.lean); close each card by the builder's one call (the guide's Derived/Test/ToyasCard.lean, 'card_holds'). Laid BY PROGRAM, IN A SANDBOX (cutbox-door.mjs). By AI agents, Wed Nov 11 2026. No macro, syntax, notation, axiom, sorry.
-/
import Derived.Test.YtienhfkjhdbnbaaDoorRows
import GoSem.ClaimSeven
namespace Go.Proofs.YtienhfkjhdbnbaaDoor
namespace Rows

/-- THE TIED CARD OF 'moidorelaw33.KeysAgreement'. -/
def keysAgreementCard : Claim7 := { stood := { row := keysAgreementRow, standIns := [], harness := (true, "95140dbe0c0b3d29b3a40fb6078736ac870b3c90adf4b678982b46afdd5bfd5a"), looks := true }, kinds := [], alts := [], laidByText := true, laidKinds := [.data, .data, .data, .data, .sentinel, .sentinel, .pinned], laidTests := true, laidLooks := .later }
def KeysAgreementCardSaid : Prop := Claim7.holds Tryd.pinned (.plain (OpenSpec.ofChange keysAgreementSpec)) keysAgreementCard

/-- THE TIED CARD OF 'moidorelaw33.KeysReduced'. -/
def keysReducedCard : Claim7 := { stood := { row := keysReducedRow, standIns := [], harness := (true, "95140dbe0c0b3d29b3a40fb6078736ac870b3c90adf4b678982b46afdd5bfd5a"), looks := true }, kinds := [], alts := [], laidByText := true, laidKinds := [.data, .data, .data, .data, .sentinel, .sentinel, .pinned], laidTests := true, laidLooks := .later }
def KeysReducedCardSaid : Prop := Claim7.holds Tryd.pinned (.plain (OpenSpec.ofChange keysReducedSpec)) keysReducedCard

/-- THE SECOND FORM's CARD OF 'moidorelaw33.KeysAgreement'. -/
def keysAgreementUptoCard : Claim7 := { stood := { row := keysAgreementUptoRow, standIns := [], harness := (true, "95140dbe0c0b3d29b3a40fb6078736ac870b3c90adf4b678982b46afdd5bfd5a"), looks := true }, kinds := [], alts := [], laidByText := true, laidKinds := [.data, .data, .data, .data, .sentinel, .sentinel, .pinned], laidTests := true, laidLooks := .later }
def KeysAgreementUptoCardSaid : Prop := Claim7.holds Tryd.pinned (.plain (OpenSpec.upto keysAgreementSpec)) keysAgreementUptoCard

/-- THE SECOND FORM's CARD OF 'moidorelaw33.KeysReduced'. -/
def keysReducedUptoCard : Claim7 := { stood := { row := keysReducedUptoRow, standIns := [], harness := (true, "95140dbe0c0b3d29b3a40fb6078736ac870b3c90adf4b678982b46afdd5bfd5a"), looks := true }, kinds := [], alts := [], laidByText := true, laidKinds := [.data, .data, .data, .data, .sentinel, .sentinel, .pinned], laidTests := true, laidLooks := .later }
def KeysReducedUptoCardSaid : Prop := Claim7.holds Tryd.pinned (.plain (OpenSpec.upto keysReducedSpec)) keysReducedUptoCard
end Rows
end Go.Proofs.YtienhfkjhdbnbaaDoor
