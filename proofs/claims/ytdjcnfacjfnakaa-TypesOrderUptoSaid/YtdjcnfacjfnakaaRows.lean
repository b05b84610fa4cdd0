/-
  NARROWER THAN 'FOR EVERY INPUT', by the rows' own cells (each row's printed sentence says how): TypesPrefix: loops · TypesFurtherStatement: loops · TypesOrder: loops.
  DERIVED. THE GIVEN ROWS OF THIS SEAT. 3 by the template 'for every input the law returns true; each argument reads behind the call as it read before'; 0 by the template 'total and deterministic' (their statements: YtdjcnfacjfnakaaTotals.lean).
  GIVEN WITH THE SEED: the statements are not yours to turn. If you find one false, say at which input.
  Laid BY PROGRAM, IN A SANDBOX (cutbox-rows.mjs): the forced cells as the released guide's own fill.sh prints them over the translation dc258f6d4b134505… (all of the seat's roots in one cut). By AI agents, Wed Nov 11 2026. No macro, syntax, notation, axiom, sorry.
-/
import Derived.Test.YtdjcnfacjfnakaaChecked
import GoSem.Claim
import GoSem.ClaimJoined
import GoSem.ClaimMapViews
import Derived.JoinedTies
import Derived.KernelRfl
namespace Go.Proofs.Ytdjcnfacjfnakaa
/- THE CELL 'sum', in the pinned program and in every row, IS THE sha256 OF THE DUMP (.gsa) THAT YtdjcnfacjfnakaaProg.lean LOADS. Nothing in Lean hashes anything: it is a label: what it is worth is what the hold of that sum in a sandbox is worth. -/
noncomputable def Try.pinned : Pinned := { name := "ytdjcnfacjfnakaa", sum := "dc258f6d4b1345053e969ab2ab69f345254245f4b7e9fcf2f409bd9e3cd5c507", checked := Try.checked }
namespace Rows
def none {H : Type} : Left H := { results := [], args := [] }

/-- 'moidorelaw17.TypesPrefix': WHATEVER THE INPUT: true; the input reads as it did. -/
def typesPrefixSpec : ChangeSpec := { name := "typesPrefix", fn := fun _ => fun
  | [d] => { results := [.lit (.bool true)], args := [d] }
  | _ => none }
def typesPrefixRow : OpenClaim := { program := "ytdjcnfacjfnakaa", sum := "dc258f6d4b1345053e969ab2ab69f345254245f4b7e9fcf2f409bd9e3cd5c507", func := "moidore/moidorelaw17.TypesPrefix", spec := "typesPrefix", unfollowed := true, recurses := true, loops := true, apart := false }
def TypesPrefixSaid : Prop := typesPrefixRow.holds Try.pinned (OpenSpec.ofChange typesPrefixSpec)

/-- ITS FALSE NEIGHBOUR: 'it returns false'. Refute it at one input. -/
def typesPrefixWrong : ChangeSpec := { name := "typesPrefix", fn := fun _ => fun
  | [d] => { results := [.lit (.bool false)], args := [d] }
  | _ => none }
def TypesPrefixWrongFalsely : Prop := typesPrefixRow.holds Try.pinned (OpenSpec.ofChange typesPrefixWrong)

/-- 'moidorelaw17.TypesFurtherStatement': WHATEVER THE INPUT: true; the input reads as it did. -/
def typesFurtherStatementSpec : ChangeSpec := { name := "typesFurtherStatement", fn := fun _ => fun
  | [d] => { results := [.lit (.bool true)], args := [d] }
  | _ => none }
def typesFurtherStatementRow : OpenClaim := { program := "ytdjcnfacjfnakaa", sum := "dc258f6d4b1345053e969ab2ab69f345254245f4b7e9fcf2f409bd9e3cd5c507", func := "moidore/moidorelaw17.TypesFurtherStatement", spec := "typesFurtherStatement", unfollowed := true, recurses := true, loops := true, apart := false }
def TypesFurtherStatementSaid : Prop := typesFurtherStatementRow.holds Try.pinned (OpenSpec.ofChange typesFurtherStatementSpec)

/-- ITS FALSE NEIGHBOUR: 'it returns false'. Refute it at one input. -/
def typesFurtherStatementWrong : ChangeSpec := { name := "typesFurtherStatement", fn := fun _ => fun
  | [d] => { results := [.lit (.bool false)], args := [d] }
  | _ => none }
def TypesFurtherStatementWrongFalsely : Prop := typesFurtherStatementRow.holds Try.pinned (OpenSpec.ofChange typesFurtherStatementWrong)

/-- 'moidorelaw17.TypesOrder': WHATEVER THE INPUT: true; the input reads as it did. -/
def typesOrderSpec : ChangeSpec := { name := "typesOrder", fn := fun _ => fun
  | [d1, d2] => { results := [.lit (.bool true)], args := [d1, d2] }
  | _ => none }
def typesOrderRow : OpenClaim := { program := "ytdjcnfacjfnakaa", sum := "dc258f6d4b1345053e969ab2ab69f345254245f4b7e9fcf2f409bd9e3cd5c507", func := "moidore/moidorelaw17.TypesOrder", spec := "typesOrder", unfollowed := true, recurses := true, loops := true, apart := false }
def TypesOrderSaid : Prop := typesOrderRow.holds Try.pinned (OpenSpec.ofChange typesOrderSpec)

/-- ITS FALSE NEIGHBOUR: 'it returns false'. Refute it at one input. -/
def typesOrderWrong : ChangeSpec := { name := "typesOrder", fn := fun _ => fun
  | [d1, d2] => { results := [.lit (.bool false)], args := [d1, d2] }
  | _ => none }
def TypesOrderWrongFalsely : Prop := typesOrderRow.holds Try.pinned (OpenSpec.ofChange typesOrderWrong)

/- THE SECOND FORM. 'bulk': how many values and letters a reading holds, each counted each time it is reached (what is shared counts as often as it is met; a slice's spare places count too). A statement '..UptoSaid' is the law's where the arguments, and the package variables that the reading takes, are together of bulk at most 1048576: NARROWER than '..Said'. Prove '..Said' where nothing that the law and all that it calls make is longer than what came in: it says more and counts as full. Else prove '..UptoSaid'. A law counts once. -/
mutual
def uptoBulk {H : Type} : DataW H → Nat
  | .lit (.string bytes) => bytes.length + 1
  | .lit _ => 1
  | .nil => 1
  | .ptr d => uptoBulk d + 1
  | .slice elems spare => uptoBulkAll elems + uptoBulkAll spare + 1
  | .agg parts => uptoBulkAll parts + 1
  | .iface _ d => uptoBulk d + 1
  | .map entries => uptoBulkEntries entries + 1
  | .held _ => 1
def uptoBulkAll {H : Type} : List (DataW H) → Nat
  | [] => 0
  | d :: r => uptoBulk d + uptoBulkAll r
def uptoBulkEntries {H : Type} : List (Lit × DataW H) → Nat
  | [] => 0
  | x :: r => uptoBulkEntry x + uptoBulkEntries r
def uptoBulkEntry {H : Type} : Lit × DataW H → Nat
  | (.string bytes, d) => bytes.length + uptoBulk d + 1
  | (_, d) => uptoBulk d + 1
 end
def uptoSmall : (H : Type) → List (DataW H) → Bool := fun _ ds => decide (uptoBulkAll ds ≤ 1048576)
def OpenSpec.upto (s : _root_.Go.ChangeSpec) : _root_.Go.OpenSpec := { _root_.Go.OpenSpec.ofChange s with cond := some uptoSmall }

/-- 'moidorelaw17.TypesPrefix', WHERE WHAT IT READS IS OF BULK AT MOST 1048576: true; the input reads as it did. -/
def typesPrefixUptoRow : OpenClaim := { program := "ytdjcnfacjfnakaa", sum := "dc258f6d4b1345053e969ab2ab69f345254245f4b7e9fcf2f409bd9e3cd5c507", func := "moidore/moidorelaw17.TypesPrefix", spec := "typesPrefix", unfollowed := true, recurses := true, loops := true, apart := false, narrowed := true }
def TypesPrefixUptoSaid : Prop := typesPrefixUptoRow.holds Try.pinned (OpenSpec.upto typesPrefixSpec)

/-- 'moidorelaw17.TypesFurtherStatement', WHERE WHAT IT READS IS OF BULK AT MOST 1048576: true; the input reads as it did. -/
def typesFurtherStatementUptoRow : OpenClaim := { program := "ytdjcnfacjfnakaa", sum := "dc258f6d4b1345053e969ab2ab69f345254245f4b7e9fcf2f409bd9e3cd5c507", func := "moidore/moidorelaw17.TypesFurtherStatement", spec := "typesFurtherStatement", unfollowed := true, recurses := true, loops := true, apart := false, narrowed := true }
def TypesFurtherStatementUptoSaid : Prop := typesFurtherStatementUptoRow.holds Try.pinned (OpenSpec.upto typesFurtherStatementSpec)

/-- 'moidorelaw17.TypesOrder', WHERE WHAT IT READS IS OF BULK AT MOST 1048576: true; the input reads as it did. -/
def typesOrderUptoRow : OpenClaim := { program := "ytdjcnfacjfnakaa", sum := "dc258f6d4b1345053e969ab2ab69f345254245f4b7e9fcf2f409bd9e3cd5c507", func := "moidore/moidorelaw17.TypesOrder", spec := "typesOrder", unfollowed := true, recurses := true, loops := true, apart := false, narrowed := true }
def TypesOrderUptoSaid : Prop := typesOrderUptoRow.holds Try.pinned (OpenSpec.upto typesOrderSpec)

end Rows
end Go.Proofs.Ytdjcnfacjfnakaa
