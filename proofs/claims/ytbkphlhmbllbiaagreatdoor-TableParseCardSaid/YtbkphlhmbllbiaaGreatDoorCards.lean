/-
  DERIVED. GIVEN WITH THE SEED: THE CARDS: each row of YtbkphlhmbllbiaaGreatDoorRows.lean that lists a variable, with what it lists TIED to the program's text (the seventh form; the later family's looks); each row that meets fmt, with fmt's text TOLD by the authors' own Lean function (tested against real Go, not proved from fmt's source: count such statements apart). THE CARD IS WHAT COUNTS. Prove the row's statement (the work); the ties are given (YtbkphlhmbllbiaaGreatDoorTie.lean); close each card by the builder's one call (the guide's Derived/Test/ToyasCard.lean, 'card_holds'). Laid BY PROGRAM, IN A SANDBOX (cutbox-door.mjs). By AI agents, Wed Nov 11 2026. No macro, syntax, notation, axiom, sorry.
-/
import Derived.Test.YtbkphlhmbllbiaaGreatDoorRows
import GoSem.ClaimSeven
namespace Go.Proofs.YtbkphlhmbllbiaaGreatDoor
namespace Rows

/-- THE TIED CARD OF 'moidorelaw19.TableParse'. -/
def tableParseCard : Claim7 := { stood := { row := tableParseRow, standIns := [], harness := (true, "a71f44a1a0691920f967ae5835b651984d178ccfe5594e1fa5198f6519da5a9d"), looks := true }, kinds := [], alts := [], laidByText := true, laidKinds := [.data, .data, .data, .data, .sentinel, .sentinel, .pinned], laidTests := true, laidLooks := .later }
def TableParseCardSaid : Prop := Claim7.holds Tryz.pinned (.plain (OpenSpec.ofChange tableParseSpec)) tableParseCard

/-- THE SECOND FORM's CARD OF 'moidorelaw19.TableParse'. -/
def tableParseUptoCard : Claim7 := { stood := { row := tableParseUptoRow, standIns := [], harness := (true, "a71f44a1a0691920f967ae5835b651984d178ccfe5594e1fa5198f6519da5a9d"), looks := true }, kinds := [], alts := [], laidByText := true, laidKinds := [.data, .data, .data, .data, .sentinel, .sentinel, .pinned], laidTests := true, laidLooks := .later }
def TableParseUptoCardSaid : Prop := Claim7.holds Tryz.pinned (.plain (OpenSpec.upto tableParseSpec)) tableParseUptoCard
end Rows
end Go.Proofs.YtbkphlhmbllbiaaGreatDoor
