/- TypesFits: where what it reads is of bulk at most 1048576 the law returns true, and each argument reads afterwards as it read before. -/
import Derived.Test.YtdjcnfacjfnakaaGreatQG
set_option maxRecDepth 100000
namespace Go.Proofs.YtdjcnfacjfnakaaGreat.typesFits
open Go.Pi Go.Ky Go.ChangeShapes Go.WideShapes Go.ChangeAt Go.RowKit

theorem kinds : Tryz.f5.params.toList.map (argCt Tryz.prog [44, 49]) = ([(true, ctPg 44 49), (false, [.int .u64])] : List (Bool × List CT)).map some := by kernel_rfl
theorem readable : (Tryz.f5.params.toList.all fun t => Tryz.prog.readableRec t && decide (t < Tryz.prog.types.size)) = true := by kernel_rfl
theorem resT : Tryz.f5.resultTypes = #[4] := by kernel_rfl
theorem mem : ((5, 5) : Nat × Nat) ∈ tb.fx := by decide
theorem contract (H : Type) (enc : TypeId × Value → H) (W : World) (base : Nat) (args : Array Value) (ds gs : List (DataW H)) (before : List MemPlace)
    (hval : ∀ (j : Nat) t v, Tryz.f5.params[j]? = some t → args[j]? = some v → Value.okWide Tryz.prog W .any base t v)
    (hW : DataW.Whole enc Tryz.prog Tryz.f5.params.toList Rows.typesFitsSpec.vars false W args.toList ds gs before) (hk : Rows.uptoSmall H (ds ++ gs) = true) :
    Calls Tryz.prog 5 args W fun e W' => ∃ v, e = .returned v ∧ Rows.typesFitsSpec.post enc Tryz.prog Tryz.f5 false true false false W args v W' := by
  have h : Rows.uptoBulkAll (ds ++ gs) ≤ 1048576 := of_decide_eq_true hk
  rw [bkOk.append] at h
  refine Pi.contract envOk bdOk bkOk 1048576 (gl := fun _ => none) fnOk mem kinds laidOut (fun t ht => ?_) rfl (fun ds hd => ?_) resT Tryz.underlying4 args5 (glob0 W) hval hW (fun j t d _ hd => ?_) (by omega)
  · have := List.all_eq_true.1 readable t ht
    simpa using this
  · match ds, hd with
    | [d0, d1], _ => rfl
  · have := bulk_part (List.mem_of_getElem? hd)
    show Rows.uptoBulk d ≤ 1048576
    omega
theorem lifted (os : Os) (started : os.Started) (H : Type) (enc : TypeId × Value → H) (F : Stop.Interp) :
    ReturnsInHanded {} Tryz.checked os 5 .any ((Rows.OpenSpec.upto Rows.typesFitsSpec).pre6 enc Tryz.prog Tryz.f5 Rows.typesFitsUptoRow.domain false) (((Rows.OpenSpec.upto Rows.typesFitsSpec).at F).post enc Tryz.prog Tryz.f5 false true false false) := by
  refine returnsInHanded_of_cond (C := Tryz.checked) (s := Rows.OpenSpec.upto Rows.typesFitsSpec) (k := Rows.uptoSmall) rfl own started (by kernel_rfl) Tryz.func5
    (OpenSpec.witness (enc := enc) (C := Tryz.checked) (s := Rows.OpenSpec.upto Rows.typesFitsSpec) (k := Rows.uptoSmall) rfl false ⟨#[], #[.agg #[.slice none 0 0, .slice none 0 0, .slice none 0 0], .int .u64 0], []⟩ 8 (by kernel_rfl) (by kernel_rfl) (by kernel_rfl)
      (x := ([.agg [.nil, .nil, .nil], .lit (.int .u64 0)], [], [])) (by kernel_rfl) rfl (by kernel_rfl)) ?_
  intro W base args ds gs before hval hW _ hk _
  exact contract H enc W base args ds gs before hval hW hk
theorem proved : Rows.TypesFitsUptoSaid :=
  OpenClaim.holds_of_cond 5 Tryz.f5 rfl rfl rfl rfl rfl rfl rfl ⟨rfl, rfl, rfl, rfl, rfl⟩ rfl rfl rfl rfl rfl (by kernel_rfl) Tryz.func5 (by kernel_rfl)
    (of_decide_eq_true (by kernel_rfl)) (by unfold Func.isWrapper; first | (rw [if_pos (by decide +kernel)]; kernel_rfl) | (rw [if_neg (by decide +kernel)]; exact ⟨rfl, rfl⟩))
    (fun os started H enc _ F => lifted os started H enc F)
end Go.Proofs.YtdjcnfacjfnakaaGreat.typesFits

