/-
  NARROWER THAN 'FOR EVERY INPUT', by the rows' own cells (each row's printed sentence says how): TypesBits: loops · TypesInputs: loops · TypesFits: loops · SemanticsSwap: loops · CompilerErrors: loops.
  DERIVED. THE GIVEN ROWS OF THIS SEAT. 6 by the template 'for every input the law returns true; each argument reads behind the call as it read before'; 0 by the template 'total and deterministic' (their statements: YtdjcnfacjfnakaaGreatTotals.lean).
  GIVEN WITH THE SEED: the statements are not yours to turn. If you find one false, say at which input.
  Laid BY PROGRAM, IN A SANDBOX (cutbox-rows.mjs): the forced cells as the released guide's own fill.sh prints them over the translation 4a00cc5c58304b09… (all of the seat's roots in one cut). By AI agents, Wed Nov 11 2026. No macro, syntax, notation, axiom, sorry.
-/
import Derived.Test.YtdjcnfacjfnakaaGreatChecked
import GoSem.Claim
import GoSem.ClaimJoined
import GoSem.ClaimMapViews
import Derived.JoinedTies
import Derived.KernelRfl
namespace Go.Proofs.YtdjcnfacjfnakaaGreat
/- THE CELL 'sum', in the pinned program and in every row, IS THE sha256 OF THE DUMP (.gsa) THAT YtdjcnfacjfnakaaGreatProg.lean LOADS. Nothing in Lean hashes anything: it is a label: what it is worth is what the hold of that sum in a sandbox is worth. -/
noncomputable def Tryz.pinned : Pinned := { name := "ytdjcnfacjfnakaagreat", sum := "4a00cc5c58304b091fff34fe2de38f9f77efde45df0752f8c5e78a5c6d3e107d", checked := Tryz.checked }
namespace Rows
def none {H : Type} : Left H := { results := [], args := [] }

/-- 'moidorelaw17.TypesBits': WHATEVER THE INPUT: true; the input reads as it did. -/
def typesBitsSpec : ChangeSpec := { name := "typesBits", fn := fun _ => fun
  | [d] => { results := [.lit (.bool true)], args := [d] }
  | _ => none }
def typesBitsRow : OpenClaim := { program := "ytdjcnfacjfnakaagreat", sum := "4a00cc5c58304b091fff34fe2de38f9f77efde45df0752f8c5e78a5c6d3e107d", func := "moidore/moidorelaw17.TypesBits", spec := "typesBits", unfollowed := true, recurses := true, loops := true, apart := false }
def TypesBitsSaid : Prop := typesBitsRow.holds Tryz.pinned (OpenSpec.ofChange typesBitsSpec)

/-- ITS FALSE NEIGHBOUR: 'it returns false'. Refute it at one input. -/
def typesBitsWrong : ChangeSpec := { name := "typesBits", fn := fun _ => fun
  | [d] => { results := [.lit (.bool false)], args := [d] }
  | _ => none }
def TypesBitsWrongFalsely : Prop := typesBitsRow.holds Tryz.pinned (OpenSpec.ofChange typesBitsWrong)

/-- 'moidorelaw17.TypesInputs': WHATEVER THE INPUT: true; the input reads as it did. -/
def typesInputsSpec : ChangeSpec := { name := "typesInputs", fn := fun _ => fun
  | [d] => { results := [.lit (.bool true)], args := [d] }
  | _ => none }
def typesInputsRow : OpenClaim := { program := "ytdjcnfacjfnakaagreat", sum := "4a00cc5c58304b091fff34fe2de38f9f77efde45df0752f8c5e78a5c6d3e107d", func := "moidore/moidorelaw17.TypesInputs", spec := "typesInputs", unfollowed := true, recurses := true, loops := true, apart := false }
def TypesInputsSaid : Prop := typesInputsRow.holds Tryz.pinned (OpenSpec.ofChange typesInputsSpec)

/-- ITS FALSE NEIGHBOUR: 'it returns false'. Refute it at one input. -/
def typesInputsWrong : ChangeSpec := { name := "typesInputs", fn := fun _ => fun
  | [d] => { results := [.lit (.bool false)], args := [d] }
  | _ => none }
def TypesInputsWrongFalsely : Prop := typesInputsRow.holds Tryz.pinned (OpenSpec.ofChange typesInputsWrong)

/-- 'moidorelaw17.TypesFits': WHATEVER THE INPUT: true; the input reads as it did. -/
def typesFitsSpec : ChangeSpec := { name := "typesFits", fn := fun _ => fun
  | [d1, d2] => { results := [.lit (.bool true)], args := [d1, d2] }
  | _ => none }
def typesFitsRow : OpenClaim := { program := "ytdjcnfacjfnakaagreat", sum := "4a00cc5c58304b091fff34fe2de38f9f77efde45df0752f8c5e78a5c6d3e107d", func := "moidore/moidorelaw17.TypesFits", spec := "typesFits", unfollowed := true, recurses := true, loops := true, apart := false }
def TypesFitsSaid : Prop := typesFitsRow.holds Tryz.pinned (OpenSpec.ofChange typesFitsSpec)

/-- ITS FALSE NEIGHBOUR: 'it returns false'. Refute it at one input. -/
def typesFitsWrong : ChangeSpec := { name := "typesFits", fn := fun _ => fun
  | [d1, d2] => { results := [.lit (.bool false)], args := [d1, d2] }
  | _ => none }
def TypesFitsWrongFalsely : Prop := typesFitsRow.holds Tryz.pinned (OpenSpec.ofChange typesFitsWrong)

/-- 'moidorelaw18.SemanticsSwap': WHATEVER THE INPUT: true; the input reads as it did. -/
def semanticsSwapSpec : ChangeSpec := { name := "semanticsSwap", fn := fun _ => fun
  | [d1, d2, d3] => { results := [.lit (.bool true)], args := [d1, d2, d3] }
  | _ => none }
def semanticsSwapRow : OpenClaim := { program := "ytdjcnfacjfnakaagreat", sum := "4a00cc5c58304b091fff34fe2de38f9f77efde45df0752f8c5e78a5c6d3e107d", func := "moidore/moidorelaw18.SemanticsSwap", spec := "semanticsSwap", inPlace := ["math/bits.Add64"], unfollowed := true, recurses := true, named := ["math/bits.divideError", "math/bits.overflowError"], loops := true, apart := false }
def SemanticsSwapSaid : Prop := semanticsSwapRow.holds Tryz.pinned (OpenSpec.ofChange semanticsSwapSpec)

/-- ITS FALSE NEIGHBOUR: 'it returns false'. Refute it at one input. -/
def semanticsSwapWrong : ChangeSpec := { name := "semanticsSwap", fn := fun _ => fun
  | [d1, d2, d3] => { results := [.lit (.bool false)], args := [d1, d2, d3] }
  | _ => none }
def SemanticsSwapWrongFalsely : Prop := semanticsSwapRow.holds Tryz.pinned (OpenSpec.ofChange semanticsSwapWrong)

/-- 'moidorelaw21.CompilerErrors': WHATEVER THE INPUT: true; the input reads as it did. -/
def compilerErrorsSpec : ChangeSpec := { name := "compilerErrors", fn := fun _ => fun
  | [d1, d2] => { results := [.lit (.bool true)], args := [d1, d2] }
  | _ => none }
def compilerErrorsRow : OpenClaim := { program := "ytdjcnfacjfnakaagreat", sum := "4a00cc5c58304b091fff34fe2de38f9f77efde45df0752f8c5e78a5c6d3e107d", func := "moidore/moidorelaw21.CompilerErrors", spec := "compilerErrors", inPlace := ["math/bits.Add64"], unfollowed := true, recurses := true, named := ["math/bits.divideError", "math/bits.overflowError"], loops := true, apart := false }
def CompilerErrorsSaid : Prop := compilerErrorsRow.holds Tryz.pinned (OpenSpec.ofChange compilerErrorsSpec)

/-- ITS FALSE NEIGHBOUR: 'it returns false'. Refute it at one input. -/
def compilerErrorsWrong : ChangeSpec := { name := "compilerErrors", fn := fun _ => fun
  | [d1, d2] => { results := [.lit (.bool false)], args := [d1, d2] }
  | _ => none }
def CompilerErrorsWrongFalsely : Prop := compilerErrorsRow.holds Tryz.pinned (OpenSpec.ofChange compilerErrorsWrong)

/-- 'moidorelaw21.CompilerLimit': WHATEVER THE INPUT: true; the input reads as it did. -/
def compilerLimitSpec : ChangeSpec := { name := "compilerLimit", fn := fun _ => fun
  | [d1, d2, d3] => { results := [.lit (.bool true)], args := [d1, d2, d3] }
  | _ => none }
def compilerLimitRow : OpenClaim := { program := "ytdjcnfacjfnakaagreat", sum := "4a00cc5c58304b091fff34fe2de38f9f77efde45df0752f8c5e78a5c6d3e107d", func := "moidore/moidorelaw21.CompilerLimit", spec := "compilerLimit", inPlace := ["math/bits.Add64"], unfollowed := true, recurses := true, named := ["math/bits.divideError", "math/bits.overflowError"], apart := false }
def CompilerLimitSaid : Prop := compilerLimitRow.holds Tryz.pinned (OpenSpec.ofChange compilerLimitSpec)

/-- ITS FALSE NEIGHBOUR: 'it returns false'. Refute it at one input. -/
def compilerLimitWrong : ChangeSpec := { name := "compilerLimit", fn := fun _ => fun
  | [d1, d2, d3] => { results := [.lit (.bool false)], args := [d1, d2, d3] }
  | _ => none }
def CompilerLimitWrongFalsely : Prop := compilerLimitRow.holds Tryz.pinned (OpenSpec.ofChange compilerLimitWrong)

/- THE SECOND FORM. 'bulk': how many values and letters a reading holds, each counted each time it is reached (what is shared counts as often as it is met; a slice's spare places count too). A statement '..UptoSaid' is the law's where the arguments, and the package variables that the reading takes, are together of bulk at most 1048576: NARROWER than '..Said'. Prove '..Said' where nothing that the law and all that it calls make is longer than what came in: it says more and counts as full. Else prove '..UptoSaid'. A law counts once. -/
mutual
def uptoBulk {H : Type} : DataW H → Nat
  | .lit (.string bytes) => bytes.length + 1
  | .lit _ => 1
  | .nil => 1
  | .ptr d => uptoBulk d + 1
  | .slice elems spare => uptoBulkAll elems + uptoBulkAll spare + 1
  | .agg parts => uptoBulkAll parts + 1
  | .iface _ d => uptoBulk d + 1
  | .map entries => uptoBulkEntries entries + 1
  | .held _ => 1
def uptoBulkAll {H : Type} : List (DataW H) → Nat
  | [] => 0
  | d :: r => uptoBulk d + uptoBulkAll r
def uptoBulkEntries {H : Type} : List (Lit × DataW H) → Nat
  | [] => 0
  | x :: r => uptoBulkEntry x + uptoBulkEntries r
def uptoBulkEntry {H : Type} : Lit × DataW H → Nat
  | (.string bytes, d) => bytes.length + uptoBulk d + 1
  | (_, d) => uptoBulk d + 1
 end
def uptoSmall : (H : Type) → List (DataW H) → Bool := fun _ ds => decide (uptoBulkAll ds ≤ 1048576)
def OpenSpec.upto (s : _root_.Go.ChangeSpec) : _root_.Go.OpenSpec := { _root_.Go.OpenSpec.ofChange s with cond := some uptoSmall }

/-- 'moidorelaw17.TypesBits', WHERE WHAT IT READS IS OF BULK AT MOST 1048576: true; the input reads as it did. -/
def typesBitsUptoRow : OpenClaim := { program := "ytdjcnfacjfnakaagreat", sum := "4a00cc5c58304b091fff34fe2de38f9f77efde45df0752f8c5e78a5c6d3e107d", func := "moidore/moidorelaw17.TypesBits", spec := "typesBits", unfollowed := true, recurses := true, loops := true, apart := false, narrowed := true }
def TypesBitsUptoSaid : Prop := typesBitsUptoRow.holds Tryz.pinned (OpenSpec.upto typesBitsSpec)

/-- 'moidorelaw17.TypesInputs', WHERE WHAT IT READS IS OF BULK AT MOST 1048576: true; the input reads as it did. -/
def typesInputsUptoRow : OpenClaim := { program := "ytdjcnfacjfnakaagreat", sum := "4a00cc5c58304b091fff34fe2de38f9f77efde45df0752f8c5e78a5c6d3e107d", func := "moidore/moidorelaw17.TypesInputs", spec := "typesInputs", unfollowed := true, recurses := true, loops := true, apart := false, narrowed := true }
def TypesInputsUptoSaid : Prop := typesInputsUptoRow.holds Tryz.pinned (OpenSpec.upto typesInputsSpec)

/-- 'moidorelaw17.TypesFits', WHERE WHAT IT READS IS OF BULK AT MOST 1048576: true; the input reads as it did. -/
def typesFitsUptoRow : OpenClaim := { program := "ytdjcnfacjfnakaagreat", sum := "4a00cc5c58304b091fff34fe2de38f9f77efde45df0752f8c5e78a5c6d3e107d", func := "moidore/moidorelaw17.TypesFits", spec := "typesFits", unfollowed := true, recurses := true, loops := true, apart := false, narrowed := true }
def TypesFitsUptoSaid : Prop := typesFitsUptoRow.holds Tryz.pinned (OpenSpec.upto typesFitsSpec)

/-- 'moidorelaw18.SemanticsSwap', WHERE WHAT IT READS IS OF BULK AT MOST 1048576: true; the input reads as it did. -/
def semanticsSwapUptoRow : OpenClaim := { program := "ytdjcnfacjfnakaagreat", sum := "4a00cc5c58304b091fff34fe2de38f9f77efde45df0752f8c5e78a5c6d3e107d", func := "moidore/moidorelaw18.SemanticsSwap", spec := "semanticsSwap", inPlace := ["math/bits.Add64"], unfollowed := true, recurses := true, named := ["math/bits.divideError", "math/bits.overflowError"], loops := true, apart := false, narrowed := true }
def SemanticsSwapUptoSaid : Prop := semanticsSwapUptoRow.holds Tryz.pinned (OpenSpec.upto semanticsSwapSpec)

/-- 'moidorelaw21.CompilerErrors', WHERE WHAT IT READS IS OF BULK AT MOST 1048576: true; the input reads as it did. -/
def compilerErrorsUptoRow : OpenClaim := { program := "ytdjcnfacjfnakaagreat", sum := "4a00cc5c58304b091fff34fe2de38f9f77efde45df0752f8c5e78a5c6d3e107d", func := "moidore/moidorelaw21.CompilerErrors", spec := "compilerErrors", inPlace := ["math/bits.Add64"], unfollowed := true, recurses := true, named := ["math/bits.divideError", "math/bits.overflowError"], loops := true, apart := false, narrowed := true }
def CompilerErrorsUptoSaid : Prop := compilerErrorsUptoRow.holds Tryz.pinned (OpenSpec.upto compilerErrorsSpec)

/-- 'moidorelaw21.CompilerLimit', WHERE WHAT IT READS IS OF BULK AT MOST 1048576: true; the input reads as it did. -/
def compilerLimitUptoRow : OpenClaim := { program := "ytdjcnfacjfnakaagreat", sum := "4a00cc5c58304b091fff34fe2de38f9f77efde45df0752f8c5e78a5c6d3e107d", func := "moidore/moidorelaw21.CompilerLimit", spec := "compilerLimit", inPlace := ["math/bits.Add64"], unfollowed := true, recurses := true, named := ["math/bits.divideError", "math/bits.overflowError"], apart := false, narrowed := true }
def CompilerLimitUptoSaid : Prop := compilerLimitUptoRow.holds Tryz.pinned (OpenSpec.upto compilerLimitSpec)

end Rows
end Go.Proofs.YtdjcnfacjfnakaaGreat
