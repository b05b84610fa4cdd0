/- The table of functions and the listed tables are the program's. -/
import Derived.Test.YtbkphlhmbllbiaaDoorV5
import Derived.Test.YtbkphlhmbllbiaaDoorFnA
import Derived.Test.YtbkphlhmbllbiaaDoorTie
import Derived.Test.YtbkphlhmbllbiaaDoorCards
import Derived.WalkKit
import Derived.ProofKit
import Derived.OpenShut
import Derived.Deep.DeepHandedRow
import Derived.Lib.LaidTab
import Derived.LaidSub
set_option maxRecDepth 100000
namespace Go.Proofs.YtbkphlhmbllbiaaDoor
open Go.Pi Go.ChangeShapes Go.WideShapes Go.ChangeAt Go.RowKit

theorem own : ownKnob Tryd.prog.godebug = none := by kernel_rfl
theorem fxs : fxB Tryd.prog tb.fx = true := by kernel_rfl
theorem add64 : Extern.find Tryd.f77 = (Extern.MathBitsCarry.rows.head?).map (·.2) := by kernel_rfl
theorem add64n : Extern.findNext Tryd.f77 = none := by kernel_rfl
theorem tbOk : TbOk Tryd.prog tb where
  fx k g h := (fxB_ok fxs k g h).2
  xx k g h := by
    have hm : (k, g) ∈ [(0, 77)] := h
    simp only [List.mem_cons, List.not_mem_nil, or_false, Prod.mk.injEq] at hm
    obtain ⟨rfl, rfl⟩ := hm
    exact add64_ok Tryd.func77 (by kernel_rfl) (by kernel_rfl) add64n add64
theorem fnOk : FnOk Tryd.prog tb F := fnOk_of tbOk (fun k g h => (fxB_ok fxs k g h).1) comps

theorem g2 : Tryd.prog.globalNamed "internal/strconv.uint64pow10" = some 2 := by kernel_rfl
theorem g4 : Tryd.prog.globalNamed "math/bits.deBruijn32tab" = some 4 := by kernel_rfl
theorem g5 : Tryd.prog.globalNamed "math/bits.deBruijn64tab" = some 5 := by kernel_rfl
theorem g2t : (Tryd.prog.globals[2]?).map (·.type) = some 111 := by kernel_rfl
theorem g4t : (Tryd.prog.globals[4]?).map (·.type) = some 133 := by kernel_rfl
theorem g5t : (Tryd.prog.globals[5]?).map (·.type) = some 134 := by kernel_rfl
abbrev laid3 : List (String × DataW Unit) := [("math/bits.deBruijn32tab", Rows.laid_math_bits_deBruijn32tab), ("math/bits.deBruijn64tab", Rows.laid_math_bits_deBruijn64tab), ("internal/strconv.uint64pow10", Rows.laid_internal_strconv_uint64pow10)]
theorem tab2 {W : World} (h : laidMetH Tryd.prog laid3 W) : Lib.TabIs Tryd.prog W "internal/strconv.uint64pow10" .u64 pow10 := by
  have h1 := h.filter fun x => x.1 == "internal/strconv.uint64pow10"
  have e : laid3.filter (fun x => x.1 == "internal/strconv.uint64pow10") = [("internal/strconv.uint64pow10", Rows.laid_internal_strconv_uint64pow10)] := by kernel_rfl
  rw [e] at h1
  exact Lib.tabIs_of_head (rest := []) g2 g2t Tryd.underlying111 Tryd.underlying22 (by kernel_rfl) (by kernel_rfl) h1
theorem tab4 {W : World} (h : laidMetH Tryd.prog laid3 W) : Lib.TabIs Tryd.prog W "math/bits.deBruijn32tab" .u8 bru32 := by
  have h1 := h.filter fun x => x.1 == "math/bits.deBruijn32tab"
  have e : laid3.filter (fun x => x.1 == "math/bits.deBruijn32tab") = [("math/bits.deBruijn32tab", Rows.laid_math_bits_deBruijn32tab)] := by kernel_rfl
  rw [e] at h1
  exact Lib.tabIs_of_head (rest := []) g4 g4t Tryd.underlying133 Tryd.underlying5 (by kernel_rfl) (by kernel_rfl) h1
theorem tab5 {W : World} (h : laidMetH Tryd.prog laid3 W) : Lib.TabIs Tryd.prog W "math/bits.deBruijn64tab" .u8 bru64 := by
  have h1 := h.filter fun x => x.1 == "math/bits.deBruijn64tab"
  have e : laid3.filter (fun x => x.1 == "math/bits.deBruijn64tab") = [("math/bits.deBruijn64tab", Rows.laid_math_bits_deBruijn64tab)] := by kernel_rfl
  rw [e] at h1
  exact Lib.tabIs_of_head (rest := []) g5 g5t Tryd.underlying134 Tryd.underlying5 (by kernel_rfl) (by kernel_rfl) h1
theorem glob {W : World} (h : laidMetH Tryd.prog laid3 W) : GlobOk gl W := by
  refine glOf_ok fun g k zs hm i hi => ?_
  simp only [tabs, List.mem_cons, List.not_mem_nil, or_false, Prod.mk.injEq] at hm
  rcases hm with ⟨rfl, rfl, rfl⟩ | ⟨rfl, rfl, rfl⟩ | ⟨rfl, rfl, rfl⟩
  · exact (tab2 h).cell g2 i hi
  · exact (tab4 h).cell g4 i hi
  · exact (tab5 h).cell g5 i hi
theorem laidOut : laidOutB Tryd.prog = true := by kernel_rfl
def layCells (cs : Array Value) : Obj → Obj
  | .cells _ t z => .cells cs t z
  | o => o
/-- A world for the witnesses: the settled one, the three tables holding what their initialisers lay. -/
noncomputable def laidWorld (os : Os) : World :=
  { World.holding Tryd.prog os ⟨#[], #[], []⟩ with heap := (((World.holding Tryd.prog os ⟨#[], #[], []⟩).heap.modify 2 (layCells (pow10.map fun z => Value.int .u64 z).toArray)).modify 4 (layCells (bru32.map fun z => Value.int .u8 z).toArray)).modify 5 (layCells (bru64.map fun z => Value.int .u8 z).toArray) }
end Go.Proofs.YtbkphlhmbllbiaaDoor
