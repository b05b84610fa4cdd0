/- The table of functions and the variables are the program's. -/
import Derived.Test.YtbkphlhmbllbiaaDoorL3
import Derived.Test.YtbkphlhmbllbiaaDoorFnB
import Derived.Test.YtbkphlhmbllbiaaDoorSh
import Derived.Test.YtbkphlhmbllbiaaDoorPi31
import Derived.Test.YtbkphlhmbllbiaaDoorTie
import Derived.Test.YtbkphlhmbllbiaaDoorCards
import Derived.WalkKit
import Derived.ProofKit
import Derived.OpenShut
import Derived.Deep.DeepHandedRow
import Derived.Lib.LaidTab
import Derived.LaidSub
import Derived.Stop.LaidErr
import Derived.Stop.ErrReads
import Derived.Shelf.Vars
set_option maxRecDepth 100000
namespace Go.Proofs.YtbkphlhmbllbiaaDoor
open Go.Pi Go.ChangeShapes Go.WideShapes Go.ChangeAt Go.RowKit
theorem own : ownKnob Tryd.prog.godebug = none := by kernel_rfl
theorem fxs : fxB Tryd.prog tb.fx = true := by kernel_rfl
theorem add64 : Extern.find Tryd.f77 = (Extern.MathBitsCarry.rows.head?).map (·.2) := by kernel_rfl
theorem add64n : Extern.findNext Tryd.f77 = none := by kernel_rfl
theorem enPu : ∀ args w, (callFunc 107 args).run Tryd.prog w = .ok (.enter 107 args) w := enters_of Tryd.func107 (by kernel_rfl) rfl
theorem enCu : ∀ args w, (callFunc 50 args).run Tryd.prog w = .ok (.enter 50 args) w := enters_of Tryd.func50 (by kernel_rfl) rfl
theorem enSp : ∀ args w, (callFunc 73 args).run Tryd.prog w = .ok (.enter 73 args) w := enters_of Tryd.func73 (by kernel_rfl) rfl
theorem below_bytes {w w' : World} {s : ByteArray} (h : w' = w ∨ w' = Lib.bytesWorld w 5 s) : Below w.heap.size w w' := by
  rcases h with rfl | rfl
  · exact Below.refl _ _
  · exact Lib.bytesWorld_below w 5 s
theorem hi9 : (Tryd.prog.info? 9).map (fun i => (i.zero, i.size, i.bytes)) = some (some (.string ByteArray.empty), 1, 16) := by kernel_rfl
theorem tbOk : TbOk Tryd.prog tb where
  fx k g h := (fxB_ok fxs k g h).2
  xx k g h := by
    have hm : (k, g) ∈ [(0, 77), (54, 50), (56, 73), (28773, 107)] := h
    simp only [List.mem_cons, List.not_mem_nil, or_false, Prod.mk.injEq] at hm
    rcases hm with ⟨rfl, rfl⟩ | ⟨rfl, rfl⟩ | ⟨rfl, rfl⟩ | ⟨rfl, rfl⟩
    · exact add64_ok Tryd.func77 (by kernel_rfl) (by kernel_rfl) add64n add64
    · exact cut_ok (m := 3) enCu fun s sep n w h1 h2 => (Any.strings_Cut lays145 s sep n w h1 h2).mono fun e w' ⟨he, k, hw⟩ => ⟨he, hw ▸ ⟨rfl, rfl, rfl, Nat.le_refl _, fun _ _ => rfl⟩⟩
    · exact split_ok (m := 3) (t := 9) enSp fun s sep q w h1 h2 h3 => Any.strings_Split lays146 hi9 s sep q w h1 h2 h3
    · refine parseUint_ok (gs := 6) (gr := 7) (tN := 138) (by decide) enPu ?_ ?_ ?_
      · intro s hs u hu w
        exact (Any.strconv_ParseUint_10_at64_ok laysPu14 s hs u hu w).mono fun e w' h => ⟨h.1, below_bytes h.2⟩
      · intro s hs h1 h2 ev w hv hev
        exact (Any.strconv_ParseUint_10_at64_syntax laysPu14 s hs (by
          cases hq : Lib.parseUintB 64 s.data.toList with
          | ok u => exact absurd hq (h1 u)
          | range => exact absurd hq h2
          | _ => rfl) ev w hv hev).mono fun e w' ⟨N, he, _, _, hb⟩ => ⟨_, he, hb⟩
      · intro s hs hr ev w hv hev
        exact (Any.strconv_ParseUint_10_at64_range laysPu14 s hs hr ev w hv hev).mono fun e w' ⟨N, he, _, _, hb⟩ => ⟨_, he, hb⟩
theorem fnOk : FnOk Tryd.prog tb F := fnOk_of tbOk (fun k g h => (fxB_ok fxs k g h).1) comps

theorem gs0 : Tryd.prog.globalNamed "strconv.ErrSyntax" = some 6 := by kernel_rfl
theorem gr0 : Tryd.prog.globalNamed "strconv.ErrRange" = some 7 := by kernel_rfl
theorem gp0 : Tryd.prog.globalNamed "internal/strconv.uint64pow10" = some 2 := by kernel_rfl
theorem gst : (Tryd.prog.globals[6]?).map (·.type) = some 97 := by kernel_rfl
theorem grt : (Tryd.prog.globals[7]?).map (·.type) = some 97 := by kernel_rfl
theorem gpt : (Tryd.prog.globals[2]?).map (·.type) = some 111 := by kernel_rfl
theorem cellsE : Tryd.prog.cellsOf 152 = 1 := by kernel_rfl
theorem cells9 : Tryd.prog.cellsOf 9 = 1 := by kernel_rfl
theorem star : "*" ++ "errors.errorString" = "*errors.errorString" := by decide
theorem rowE (u : TypeId) (h : Tryd.prog.typeName? 3 u = some "*errors.errorString") : u = 150 :=
  typeName_ptr_named (nm := "errors.errorString") (by rw [star]; kernel_rfl) (by kernel_rfl) (by decide) u (by rw [star]; exact h)
abbrev laid7 : List (String × DataW Unit) := [("math/bits.deBruijn32tab", Rows.laid_math_bits_deBruijn32tab), ("math/bits.deBruijn64tab", Rows.laid_math_bits_deBruijn64tab), ("internal/strconv.uint64pow10", Rows.laid_internal_strconv_uint64pow10), ("unicode/utf8.acceptRanges", Rows.laid_unicode_utf8_acceptRanges), ("strconv.ErrRange", Rows.laid_strconv_ErrRange), ("strconv.ErrSyntax", Rows.laid_strconv_ErrSyntax), ("unicode/utf8.first", Rows.laid_unicode_utf8_first)]
theorem var0 {W : World} (h : laidMetH Tryd.prog laid7 W) : ∃ t v, W.cell? ⟨6, 0, none⟩ = some (.iface t v) := by
  have h1 := h.filter fun x => x.1 == "strconv.ErrSyntax"
  have e : laid7.filter (fun x => x.1 == "strconv.ErrSyntax") = [("strconv.ErrSyntax", Rows.laid_strconv_ErrSyntax)] := by kernel_rfl
  rw [e] at h1
  obtain ⟨a, s, hv, _, _, _⟩ := laid_sentinel (r := []) h1 gs0 gst Tryd.underlying97 rowE Tryd.underlying150 Tryd.underlying152 rfl rfl Tryd.underlying9 cellsE cells9
  exact ⟨_, _, by have := World.var?_cell gs0 hv 0; simpa using this⟩
theorem var1 {W : World} (h : laidMetH Tryd.prog laid7 W) : ∃ t v, W.cell? ⟨7, 0, none⟩ = some (.iface t v) := by
  have h1 := h.filter fun x => x.1 == "strconv.ErrRange"
  have e : laid7.filter (fun x => x.1 == "strconv.ErrRange") = [("strconv.ErrRange", Rows.laid_strconv_ErrRange)] := by kernel_rfl
  rw [e] at h1
  obtain ⟨a, s, hv, _, _, _⟩ := laid_sentinel (r := []) h1 gr0 grt Tryd.underlying97 rowE Tryd.underlying150 Tryd.underlying152 rfl rfl Tryd.underlying9 cellsE cells9
  exact ⟨_, _, by have := World.var?_cell gr0 hv 0; simpa using this⟩
theorem var2 {W : World} (h : W.ShapedOpen Tryd.prog) : ∃ m, W.cell? ⟨3, 0, none⟩ = some (.int .i64 m) :=
  Go.Proofs.cell_of_shapedOpen_int (t := 3) (zero := #[.int .i64 0]) h (by decide +kernel) (by kernel_rfl) rfl (by kernel_rfl) (by kernel_rfl) Tryd.underlying3
theorem tabP {W : World} (h : laidMetH Tryd.prog laid7 W) : Lib.TabIs Tryd.prog W "internal/strconv.uint64pow10" .u64 p10 := by
  have h1 := h.filter fun x => x.1 == "internal/strconv.uint64pow10"
  have e : laid7.filter (fun x => x.1 == "internal/strconv.uint64pow10") = [("internal/strconv.uint64pow10", Rows.laid_internal_strconv_uint64pow10)] := by kernel_rfl
  rw [e] at h1
  exact Lib.tabIs_of_head (rest := []) gp0 gpt Tryd.underlying111 Tryd.underlying22 (by kernel_rfl) (by kernel_rfl) h1
theorem glob {W : World} {m : Int} (h : laidMetH Tryd.prog laid7 W) (hm : W.cell? ⟨3, 0, none⟩ = some (.int .i64 m)) : GlobOk (glW m) W := by
  intro g ts j x hg hx
  obtain ⟨t0, v0, h0⟩ := var0 h
  obtain ⟨t1, v1, h1⟩ := var1 h
  unfold glW at hg
  split at hg
  · injection hg with hg
    subst hg
    match j, hx with
    | 0, hx => simp at hx; subst hx; exact ⟨_, h0, .ifx _ _, cell_lt h0⟩
    | j + 1, hx => simp at hx
  · injection hg with hg
    subst hg
    match j, hx with
    | 0, hx => simp at hx; subst hx; exact ⟨_, h1, .ifx _ _, cell_lt h1⟩
    | j + 1, hx => simp at hx
  · injection hg with hg
    subst hg
    match j, hx with
    | 0, hx => simp at hx; subst hx; exact ⟨_, hm, .int _ _, cell_lt hm⟩
    | j + 1, hx => simp at hx
  · exact glOf_ok (l := [(2, .u64, p10)]) (fun g k zs hm i hi => by
      simp only [List.mem_singleton, Prod.mk.injEq] at hm
      obtain ⟨rfl, rfl, rfl⟩ := hm
      exact (tabP h).cell gp0 i hi) 2 ts j x hg hx
  · cases hg
theorem laidOut : laidOutB Tryd.prog = true := by kernel_rfl
def bru32 : List Int := [0, 1, 28, 2, 29, 14, 24, 3, 30, 22, 20, 15, 25, 17, 4, 8, 31, 27, 13, 23, 21, 19, 16, 7, 26, 12, 18, 6, 11, 5, 10, 9]
def bru64 : List Int := [0, 1, 56, 2, 57, 49, 28, 3, 61, 58, 42, 50, 38, 29, 17, 4, 62, 47, 59, 36, 45, 43, 51, 22, 53, 39, 33, 30, 24, 18, 12, 5, 63, 55, 48, 27, 60, 41, 37, 16, 46, 35, 44, 21, 52, 32, 23, 11, 54, 26, 40, 15, 34, 20, 31, 10, 25, 14, 19, 9, 13, 8, 7, 6]
def accR : List Int := [128, 191, 160, 191, 128, 159, 144, 191, 128, 143, 0, 0, 0, 0, 0, 0, 0, 0, 0, 0, 0, 0, 0, 0, 0, 0, 0, 0, 0, 0, 0, 0]
abbrev synS : ByteArray := { data := #[105, 110, 118, 97, 108, 105, 100, 32, 115, 121, 110, 116, 97, 120] }
abbrev rngS : ByteArray := { data := #[118, 97, 108, 117, 101, 32, 111, 117, 116, 32, 111, 102, 32, 114, 97, 110, 103, 101] }
noncomputable def low : Nat := (World.holding Tryd.prog default ⟨#[], #[], []⟩).heap.size
def layCells (cs : Array Value) : Obj → Obj
  | .cells _ t z => .cells cs t z
  | o => o
noncomputable def holds2 (os : Os) : World := World.holding Tryd.prog os ⟨#[.cells #[.string synS] 152, .cells #[.string rngS] 152], #[], []⟩
/-- A world for the witnesses: the settled one, the variables holding what their initialisers lay. -/
noncomputable def laidWorld (os : Os) : World :=
  { holds2 os with heap := ((((((((holds2 os).heap.modify 6 (layCells #[.iface 150 (.pointer (some ⟨low, 0, none⟩))])).modify 7 (layCells #[.iface 150 (.pointer (some ⟨low + 1, 0, none⟩))])).modify 2 (layCells (p10.map fun z => Value.int .u64 z).toArray)).modify 4 (layCells (bru32.map fun z => Value.int .u8 z).toArray)).modify 5 (layCells (bru64.map fun z => Value.int .u8 z).toArray)).modify 9 (layCells (accR.map fun z => Value.int .u8 z).toArray)).modify 8 (layCells (Go.Pinned.utf8FirstZ.map fun z : Nat => Value.int .u8 (z : Int)).toArray)) }
end Go.Proofs.YtbkphlhmbllbiaaDoor
