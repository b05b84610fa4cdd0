/- ParserExpressionTwice: for every input the law returns true, and each argument reads afterwards as it read before; the listed variables of Go's library are tied to the program's text. No condition. -/
import Derived.Test.YtcbgiabippcpaaaGreatDoorGP
import Derived.Test.YtcbgiabippcpaaaGreatDoorZC
set_option maxRecDepth 100000
namespace Go.Proofs.YtcbgiabippcpaaaGreatDoor.parserExpressionTwice
open Go.Pi Go.ChangeShapes Go.WideShapes Go.ChangeAt Go.RowKit
theorem kinds : Tryz.f5.params.toList.map (argCt Tryz.prog []) = ([(false, [.str])] : List (Bool × List CT)).map some := by kernel_rfl
theorem readable : (Tryz.f5.params.toList.all fun t => Tryz.prog.readableRec t && decide (t < Tryz.prog.types.size)) = true := by kernel_rfl
theorem resT : Tryz.f5.resultTypes = #[4] := by kernel_rfl
theorem mem : ((5, 5) : Nat × Nat) ∈ tb.fx := by decide
theorem contract (H : Type) (enc : TypeId × Value → H) (W : World) (base : Nat) (args : Array Value) (ds gs : List (DataW H)) (before : List MemPlace)
    (hval : ∀ (j : Nat) t v, Tryz.f5.params[j]? = some t → args[j]? = some v → Value.okWide Tryz.prog W .any base t v)
    (hW : DataW.Whole enc Tryz.prog Tryz.f5.params.toList Rows.parserExpressionTwiceSpec.vars false W args.toList ds gs before)
    (hw : (DataW.weightsEach Tryz.prog (Tryz.f5.params.toList ++ (OpenSpec.ofChange Rows.parserExpressionTwiceSpec).bare.plain.varTypes Tryz.prog) (ds ++ gs)).all (· ≤ reachBytes) = true) (hL : laidMetH Tryz.prog Rows.parserExpressionTwiceRow.laid W) (hsh : W.ShapedOpen Tryz.prog) :
    Calls Tryz.prog 5 args W fun e W' => ∃ v, e = .returned v ∧ Rows.parserExpressionTwiceSpec.post enc Tryz.prog Tryz.f5 false true false false W args v W' := by
  obtain ⟨m, hm⟩ := var2 hsh
  refine Pi.contract envOk (rch_ok (P := Tryz.prog)) bkOk (Rows.uptoBulkAll ds) (gl := glW m) fnOk mem kinds laidOut (fun t ht => ?_) rfl (fun ds hd => ?_) resT Tryz.underlying4 (fun xs h _ => args5 (glW_ok m) xs h) (glob hL hm) hval hW (rch_args hw) (Nat.le_refl _)
  · have := List.all_eq_true.1 readable t ht
    simpa using this
  · match ds, hd with
    | [d0], _ => rfl
theorem laid_met (os : Os) : laidMet Tryz.prog Rows.parserExpressionTwiceRow.laid ((laidWorld os).forCall (fun _ _ => 0) ⟨#[], #[.string ⟨#[]⟩], []⟩).memory :=
  laidMet_of_run' 8 (by kernel_rfl) (by kernel_rfl)
theorem reads (os : Os) {H : Type} (enc : TypeId × Value → H) : ∃ places, DataW.whole enc Tryz.prog ((laidWorld os).forCall (fun _ _ => 0) ⟨#[], #[.string ⟨#[]⟩], []⟩).memory Tryz.f5.params.toList Rows.parserExpressionTwiceSpec.vars false (#[.string ⟨#[]⟩] : Array Value).toList 8 = some ([.lit (.string [])], [], places) :=
  ⟨[], by kernel_rfl⟩
theorem lifted (os : Os) (started : os.Started) (H : Type) (enc : TypeId × Value → H) (F : Stop.Interp) :
    ReturnsInHanded {} Tryz.checked os 5 .any ((OpenSpec.ofChange Rows.parserExpressionTwiceSpec).preRow enc Tryz.prog Tryz.f5 Rows.parserExpressionTwiceRow.domain false Rows.parserExpressionTwiceRow.laid) (((OpenSpec.ofChange Rows.parserExpressionTwiceSpec).at F).post enc Tryz.prog Tryz.f5 false true false false) := by
  obtain ⟨places, hx⟩ := reads os enc
  refine returnsInHanded_of_row (C := Tryz.checked) (s := OpenSpec.ofChange Rows.parserExpressionTwiceSpec) own started (by kernel_rfl) Tryz.func5
    (witness_row_at (enc := enc) (C := Tryz.checked) false (laidWorld os) #[.string ⟨#[]⟩] rfl (by kernel_rfl) (by kernel_rfl) (by kernel_rfl)
      (OpenSpec.preRow_of_cond 8 hx (by kernel_rfl) (fun k hk => by cases hk) (by kernel_rfl) (laid_met os))) ?_
  intro W base args ds gs before hval hW _ _ hw hL hsh _
  exact contract H enc W base args ds gs before hval hW hw hL hsh
theorem said : Rows.ParserExpressionTwiceSaid :=
  OpenClaim.holds_of_cond 5 Tryz.f5 rfl rfl rfl rfl rfl rfl rfl ⟨rfl, rfl, rfl, rfl, rfl⟩ rfl rfl rfl rfl rfl (by kernel_rfl) Tryz.func5 (by kernel_rfl)
    (of_decide_eq_true (by kernel_rfl)) (by unfold Func.isWrapper; first | (rw [if_pos (by decide +kernel)]; kernel_rfl) | (rw [if_neg (by decide +kernel)]; exact ⟨rfl, rfl⟩))
    (fun os started H enc _ F => by rw [OpenClaim.pre_eq_preRow]; exact lifted os started H enc F)
theorem plain (f : FuncId) (fn : Func) (hf : Tryz.pinned.checked.prog.funcNamed Rows.parserExpressionTwiceRow.func = some f) (hfn : Tryz.pinned.checked.prog.funcs[f]? = some fn) :
    true = Tryz.pinned.checked.prog.looks [] ∧ ∀ (j : Nat) t, fn.params[j]? = some t → Tryz.pinned.checked.prog.wantsStandIn t = false := by
  obtain rfl : f = 5 := Option.some.inj ((show Tryz.prog.funcNamed Rows.parserExpressionTwiceRow.func = some 5 by kernel_rfl).symm.trans hf) |>.symm
  obtain rfl : fn = Tryz.f5 := (Option.some.inj (Tryz.func5.symm.trans hfn)).symm
  refine ⟨by kernel_rfl, fun j t ht => ?_⟩
  have hall : (Tryz.f5.params.toList.all fun t => !Tryz.prog.wantsStandIn t) = true := by kernel_rfl
  have hm : t ∈ Tryz.f5.params.toList := by
    have := Array.mem_of_getElem? ht
    simpa using this
  have hq := List.all_eq_true.1 hall t hm
  simp only [Bool.not_eq_true'] at hq
  exact hq
theorem card : Rows.ParserExpressionTwiceCardSaid :=
  Claim7.holds_tied_plain_at .later [] _ _ _ _ said (fun _ h => by cases h) (by kernel_rfl) (fun _ h => by cases h) parserExpressionTwice_row_tie rfl ⟨rfl, rfl⟩ (by kernel_rfl) rfl plain (by kernel_rfl)
end Go.Proofs.YtcbgiabippcpaaaGreatDoor.parserExpressionTwice
