/- The table of functions is the program's; what the bound gives. -/
import Derived.Test.YtdjcnfacjfnakaaGreatQ22
import Derived.Test.YtdjcnfacjfnakaaGreatFnA
import Derived.Test.YtdjcnfacjfnakaaGreatRows
import Derived.Test.YtdjcnfacjfnakaaGreatPi25
import Derived.Test.YtdjcnfacjfnakaaGreatPi30
import Derived.WalkKit
import Derived.ProofKit
import Derived.OpenShut
import Derived.JoinedCond
set_option maxRecDepth 100000
namespace Go.Proofs.YtdjcnfacjfnakaaGreat
open Go.Pi Go.Ky Go.ChangeShapes Go.WideShapes Go.ChangeAt Go.RowKit
theorem own : ownKnob Tryz.prog.godebug = none := by kernel_rfl
theorem fxs : fxB Tryz.prog tb.fx = true := by kernel_rfl
theorem add64 : Extern.find Tryz.f215 = (Extern.MathBitsCarry.rows.head?).map (·.2) := by kernel_rfl
theorem add64n : Extern.findNext Tryz.f215 = none := by kernel_rfl
theorem tbOk : TbOk Tryz.prog tb where
  fx k g h := (fxB_ok fxs k g h).2
  xx k g h := by
    have hm : (k, g) ∈ [(0, 215)] := h
    simp only [List.mem_cons, List.not_mem_nil, or_false, Prod.mk.injEq] at hm
    obtain ⟨rfl, rfl⟩ := hm
    exact add64_ok Tryz.func215 (by kernel_rfl) (by kernel_rfl) add64n add64
theorem fnOk : FnOk Tryz.prog tb F := fnOk_of tbOk (fun k g h => (fxB_ok fxs k g h).1) comps
theorem laidOut : laidOutB Tryz.prog = true := by kernel_rfl
theorem glob0 (W : World) : GlobOk (fun _ => none) W := by
  intro g ts j x hg hx
  cases hg
theorem bulk_one {H : Type} (d : DataW H) : 1 ≤ Rows.uptoBulk d := by
  cases d with
  | lit l => cases l <;> simp [Rows.uptoBulk]
  | _ => simp [Rows.uptoBulk]
theorem bulk_part {H : Type} {d : DataW H} {l : List (DataW H)} (h : d ∈ l) : Rows.uptoBulk d ≤ Rows.uptoBulkAll l := by
  induction l with
  | nil => cases h
  | cons x r ih =>
    simp only [Rows.uptoBulkAll]
    cases List.mem_cons.1 h with
    | inl e => subst e; omega
    | inr e => have := ih e; omega
theorem bulk_len {H : Type} (l : List (DataW H)) : l.length ≤ Rows.uptoBulkAll l := by
  induction l with
  | nil => simp [Rows.uptoBulkAll]
  | cons x r ih => have := bulk_one x; simp only [Rows.uptoBulkAll, List.length_cons]; omega
theorem bkOk {H : Type} : BkOk (H := H) Rows.uptoBulk Rows.uptoBulkAll where
  one := bulk_one
  str l := by simp [Rows.uptoBulk]
  sl a b := by simp only [Rows.uptoBulk]; omega
  agg ds := by simp only [Rows.uptoBulk]; omega
  nil := by simp [Rows.uptoBulkAll]
  cons d r := by simp [Rows.uptoBulkAll]
def Bd {H : Type} (_ : TypeId) (d : DataW H) : Prop := Rows.uptoBulk d ≤ 1048576
theorem bdOk {H : Type} : BdOk Tryz.prog 1048576 (Bd (H := H)) where
  str t l h := by unfold Bd at h; simp [Rows.uptoBulk] at h; omega
  sl t e a b _ _ h := by
    unfold Bd at h ⊢
    simp only [Rows.uptoBulk] at h
    have h1 := bulk_len a
    exact ⟨by omega, fun d hd => by have := bulk_part hd; omega⟩
  agg t fs ds _ h i f d _ hd := by
    unfold Bd at h ⊢
    simp only [Rows.uptoBulk] at h
    have := bulk_part (List.mem_of_getElem? hd)
    omega
  arr t n e ds _ h d hd := by
    unfold Bd at h ⊢
    simp only [Rows.uptoBulk] at h
    have := bulk_part hd
    omega
theorem envOk : EnvOk Tryz.prog [44, 49] (envPg 44 49) := by
  intro e he
  have h1 : ctOf Tryz.prog [44, 49] 20 44 = some (ctEx 44) := by kernel_rfl
  have h2 : ctOf Tryz.prog [44, 49] 20 49 = some (ctSt 44 49) := by kernel_rfl
  rcases List.mem_cons.1 he with rfl | he
  · exact ⟨h1, by kernel_rfl, by decide, of_decide_eq_true (by kernel_rfl)⟩
  · rcases List.mem_cons.1 he with rfl | he
    · exact ⟨h2, by kernel_rfl, by decide, of_decide_eq_true (by kernel_rfl)⟩
    · cases he
end Go.Proofs.YtdjcnfacjfnakaaGreat
