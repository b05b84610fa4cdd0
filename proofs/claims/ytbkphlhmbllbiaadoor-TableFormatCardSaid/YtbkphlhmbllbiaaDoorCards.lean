/-
  DERIVED. GIVEN WITH THE SEED: THE CARDS: each row of YtbkphlhmbllbiaaDoorRows.lean that lists a variable, with what it lists TIED to the program's text (the seventh form; the later family's looks); each row that meets fmt, with fmt's text TOLD by the authors' own Lean function (tested against real Go, not proved from fmt's source: count such statements apart). THE CARD IS WHAT COUNTS. Prove the row's statement (the work); the ties are given (YtbkphlhmbllbiaaDoorTie.lean); close each card by the builder's one call (the guide's Derived/Test/ToyasCard.lean, 'card_holds'). Laid BY PROGRAM, IN A SANDBOX (cutbox-door.mjs). By AI agents, Wed Nov 11 2026. No macro, syntax, notation, axiom, sorry.
-/
import Derived.Test.YtbkphlhmbllbiaaDoorRows
import GoSem.ClaimSeven
namespace Go.Proofs.YtbkphlhmbllbiaaDoor
namespace Rows

/-- THE TIED CARD OF 'moidorelaw19.TableValid'. -/
def tableValidCard : Claim7 := { stood := { row := tableValidRow, standIns := [], harness := (true, "eea47e60a0d629a9fdf46303097cbfe888fbfb9d205af7dbf947904e3c69c2fd"), looks := true }, kinds := [], alts := [], laidByText := true, laidKinds := [.data, .data, .data], laidTests := true, laidLooks := .later }
def TableValidCardSaid : Prop := Claim7.holds Tryd.pinned (.plain (OpenSpec.ofChange tableValidSpec)) tableValidCard

/-- THE TIED CARD OF 'moidorelaw19.TableValue'. -/
def tableValueCard : Claim7 := { stood := { row := tableValueRow, standIns := [], harness := (true, "eea47e60a0d629a9fdf46303097cbfe888fbfb9d205af7dbf947904e3c69c2fd"), looks := true }, kinds := [], alts := [], laidByText := true, laidKinds := [.data, .data, .data], laidTests := true, laidLooks := .later }
def TableValueCardSaid : Prop := Claim7.holds Tryd.pinned (.plain (OpenSpec.ofChange tableValueSpec)) tableValueCard

/-- THE TIED CARD OF 'moidorelaw19.TableSatisfied'. -/
def tableSatisfiedCard : Claim7 := { stood := { row := tableSatisfiedRow, standIns := [], harness := (true, "eea47e60a0d629a9fdf46303097cbfe888fbfb9d205af7dbf947904e3c69c2fd"), looks := true }, kinds := [], alts := [], laidByText := true, laidKinds := [.data, .data, .data], laidTests := true, laidLooks := .later }
def TableSatisfiedCardSaid : Prop := Claim7.holds Tryd.pinned (.plain (OpenSpec.ofChange tableSatisfiedSpec)) tableSatisfiedCard

/-- THE TIED CARD OF 'moidorelaw19.TablePrefix'. -/
def tablePrefixCard : Claim7 := { stood := { row := tablePrefixRow, standIns := [], harness := (true, "eea47e60a0d629a9fdf46303097cbfe888fbfb9d205af7dbf947904e3c69c2fd"), looks := true }, kinds := [], alts := [], laidByText := true, laidKinds := [.data, .data, .data], laidTests := true, laidLooks := .later }
def TablePrefixCardSaid : Prop := Claim7.holds Tryd.pinned (.plain (OpenSpec.ofChange tablePrefixSpec)) tablePrefixCard

/-- THE TIED CARD OF 'moidorelaw19.TableEqual'. -/
def tableEqualCard : Claim7 := { stood := { row := tableEqualRow, standIns := [], harness := (true, "eea47e60a0d629a9fdf46303097cbfe888fbfb9d205af7dbf947904e3c69c2fd"), looks := true }, kinds := [], alts := [], laidByText := true, laidKinds := [.data, .data, .data], laidTests := true, laidLooks := .later }
def TableEqualCardSaid : Prop := Claim7.holds Tryd.pinned (.plain (OpenSpec.ofChange tableEqualSpec)) tableEqualCard

/-- THE TIED CARD OF 'moidorelaw19.TableDigest'. -/
def tableDigestCard : Claim7 := { stood := { row := tableDigestRow, standIns := [], harness := (true, "eea47e60a0d629a9fdf46303097cbfe888fbfb9d205af7dbf947904e3c69c2fd"), looks := true }, kinds := [], alts := [], laidByText := true, laidKinds := [.data, .data, .data], laidTests := true, laidLooks := .later }
def TableDigestCardSaid : Prop := Claim7.holds Tryd.pinned (.plain (OpenSpec.ofChange tableDigestSpec)) tableDigestCard

/-- THE TIED CARD OF 'moidorelaw19.TableFormat'. -/
def tableFormatCard : Claim7 := { stood := { row := tableFormatRow, standIns := [], harness := (true, "eea47e60a0d629a9fdf46303097cbfe888fbfb9d205af7dbf947904e3c69c2fd"), looks := true }, kinds := [], alts := [], laidByText := true, laidKinds := [.data, .data, .data, .data, .sentinel, .sentinel, .pinned], laidTests := true, laidLooks := .later }
def TableFormatCardSaid : Prop := Claim7.holds Tryd.pinned (.plain (OpenSpec.ofChange tableFormatSpec)) tableFormatCard

/-- THE SECOND FORM's CARD OF 'moidorelaw19.TableValid'. -/
def tableValidUptoCard : Claim7 := { stood := { row := tableValidUptoRow, standIns := [], harness := (true, "eea47e60a0d629a9fdf46303097cbfe888fbfb9d205af7dbf947904e3c69c2fd"), looks := true }, kinds := [], alts := [], laidByText := true, laidKinds := [.data, .data, .data], laidTests := true, laidLooks := .later }
def TableValidUptoCardSaid : Prop := Claim7.holds Tryd.pinned (.plain (OpenSpec.upto tableValidSpec)) tableValidUptoCard

/-- THE SECOND FORM's CARD OF 'moidorelaw19.TableValue'. -/
def tableValueUptoCard : Claim7 := { stood := { row := tableValueUptoRow, standIns := [], harness := (true, "eea47e60a0d629a9fdf46303097cbfe888fbfb9d205af7dbf947904e3c69c2fd"), looks := true }, kinds := [], alts := [], laidByText := true, laidKinds := [.data, .data, .data], laidTests := true, laidLooks := .later }
def TableValueUptoCardSaid : Prop := Claim7.holds Tryd.pinned (.plain (OpenSpec.upto tableValueSpec)) tableValueUptoCard

/-- THE SECOND FORM's CARD OF 'moidorelaw19.TableSatisfied'. -/
def tableSatisfiedUptoCard : Claim7 := { stood := { row := tableSatisfiedUptoRow, standIns := [], harness := (true, "eea47e60a0d629a9fdf46303097cbfe888fbfb9d205af7dbf947904e3c69c2fd"), looks := true }, kinds := [], alts := [], laidByText := true, laidKinds := [.data, .data, .data], laidTests := true, laidLooks := .later }
def TableSatisfiedUptoCardSaid : Prop := Claim7.holds Tryd.pinned (.plain (OpenSpec.upto tableSatisfiedSpec)) tableSatisfiedUptoCard

/-- THE SECOND FORM's CARD OF 'moidorelaw19.TablePrefix'. -/
def tablePrefixUptoCard : Claim7 := { stood := { row := tablePrefixUptoRow, standIns := [], harness := (true, "eea47e60a0d629a9fdf46303097cbfe888fbfb9d205af7dbf947904e3c69c2fd"), looks := true }, kinds := [], alts := [], laidByText := true, laidKinds := [.data, .data, .data], laidTests := true, laidLooks := .later }
def TablePrefixUptoCardSaid : Prop := Claim7.holds Tryd.pinned (.plain (OpenSpec.upto tablePrefixSpec)) tablePrefixUptoCard

/-- THE SECOND FORM's CARD OF 'moidorelaw19.TableEqual'. -/
def tableEqualUptoCard : Claim7 := { stood := { row := tableEqualUptoRow, standIns := [], harness := (true, "eea47e60a0d629a9fdf46303097cbfe888fbfb9d205af7dbf947904e3c69c2fd"), looks := true }, kinds := [], alts := [], laidByText := true, laidKinds := [.data, .data, .data], laidTests := true, laidLooks := .later }
def TableEqualUptoCardSaid : Prop := Claim7.holds Tryd.pinned (.plain (OpenSpec.upto tableEqualSpec)) tableEqualUptoCard

/-- THE SECOND FORM's CARD OF 'moidorelaw19.TableDigest'. -/
def tableDigestUptoCard : Claim7 := { stood := { row := tableDigestUptoRow, standIns := [], harness := (true, "eea47e60a0d629a9fdf46303097cbfe888fbfb9d205af7dbf947904e3c69c2fd"), looks := true }, kinds := [], alts := [], laidByText := true, laidKinds := [.data, .data, .data], laidTests := true, laidLooks := .later }
def TableDigestUptoCardSaid : Prop := Claim7.holds Tryd.pinned (.plain (OpenSpec.upto tableDigestSpec)) tableDigestUptoCard

/-- THE SECOND FORM's CARD OF 'moidorelaw19.TableFormat'. -/
def tableFormatUptoCard : Claim7 := { stood := { row := tableFormatUptoRow, standIns := [], harness := (true, "eea47e60a0d629a9fdf46303097cbfe888fbfb9d205af7dbf947904e3c69c2fd"), looks := true }, kinds := [], alts := [], laidByText := true, laidKinds := [.data, .data, .data, .data, .sentinel, .sentinel, .pinned], laidTests := true, laidLooks := .later }
def TableFormatUptoCardSaid : Prop := Claim7.holds Tryd.pinned (.plain (OpenSpec.upto tableFormatSpec)) tableFormatUptoCard
end Rows
end Go.Proofs.YtbkphlhmbllbiaaDoor
