/- TableFormat: for every input the law returns true, and each argument reads afterwards as it read before; the listed variables of Go's library are tied to the program's text. No condition. -/
import Derived.Test.YtbkphlhmbllbiaaDoorGT
set_option maxRecDepth 100000
namespace Go.Proofs.YtbkphlhmbllbiaaDoor.tableFormat
open Go.Pi Go.ChangeShapes Go.WideShapes Go.ChangeAt Go.RowKit

theorem kinds : Tryd.f9.params.toList.map (argCt Tryd.prog) = ([(true, ctTab)] : List (Bool × List CT)).map some := by kernel_rfl
theorem readable : (Tryd.f9.params.toList.all fun t => Tryd.prog.readableRec t && decide (t < Tryd.prog.types.size)) = true := by kernel_rfl
theorem resT : Tryd.f9.resultTypes = #[4] := by kernel_rfl
theorem mem : ((9, 9) : Nat × Nat) ∈ tb.fx := by decide
theorem contract (H : Type) (enc : TypeId × Value → H) (W : World) (base : Nat) (args : Array Value) (ds gs : List (DataW H)) (before : List MemPlace)
    (hval : ∀ (j : Nat) t v, Tryd.f9.params[j]? = some t → args[j]? = some v → Value.okWide Tryd.prog W .any base t v)
    (hW : DataW.Whole enc Tryd.prog Tryd.f9.params.toList Rows.tableFormatSpec.vars false W args.toList ds gs before)
    (hw : (DataW.weightsEach Tryd.prog (Tryd.f9.params.toList ++ (OpenSpec.ofChange Rows.tableFormatSpec).bare.plain.varTypes Tryd.prog) (ds ++ gs)).all (· ≤ reachBytes) = true) (hL : laidMetH Tryd.prog Rows.tableFormatRow.laid W) (hsh : W.ShapedOpen Tryd.prog) :
    Calls Tryd.prog 9 args W fun e W' => ∃ v, e = .returned v ∧ Rows.tableFormatSpec.post enc Tryd.prog Tryd.f9 false true false false W args v W' := by
  obtain ⟨m, hm⟩ := var2 hsh
  refine Pi.contract (gl := glW m) (rch_ok (P := Tryd.prog)) fnOk mem kinds laidOut (fun t ht => ?_) rfl (fun ds hd => ?_) resT Tryd.underlying4 (args9 (glW_ok m)) (glob hL hm) hval hW (rch_args hw)
  · have := List.all_eq_true.1 readable t ht
    simpa using this
  · match ds, hd with
    | [d0], _ => rfl
theorem laid_met (os : Os) : laidMet Tryd.prog Rows.tableFormatRow.laid ((laidWorld os).forCall (fun _ _ => 0) ⟨#[], #[.agg #[.int .u64 0, .int .i64 0, .int .i64 0, .slice none 0 0]], []⟩).memory :=
  laidMet_of_run' 8 (by kernel_rfl) (by kernel_rfl)
theorem reads (os : Os) {H : Type} (enc : TypeId × Value → H) : ∃ places, DataW.whole enc Tryd.prog ((laidWorld os).forCall (fun _ _ => 0) ⟨#[], #[.agg #[.int .u64 0, .int .i64 0, .int .i64 0, .slice none 0 0]], []⟩).memory Tryd.f9.params.toList Rows.tableFormatSpec.vars false (#[.agg #[.int .u64 0, .int .i64 0, .int .i64 0, .slice none 0 0]] : Array Value).toList 8 = some ([.agg [.lit (.int .u64 0), .lit (.int .i64 0), .lit (.int .i64 0), .nil]], [], places) :=
  ⟨[], by kernel_rfl⟩
theorem lifted (os : Os) (started : os.Started) (H : Type) (enc : TypeId × Value → H) (F : Stop.Interp) :
    ReturnsInHanded {} Tryd.checked os 9 .any ((OpenSpec.ofChange Rows.tableFormatSpec).preRow enc Tryd.prog Tryd.f9 Rows.tableFormatRow.domain false Rows.tableFormatRow.laid) (((OpenSpec.ofChange Rows.tableFormatSpec).at F).post enc Tryd.prog Tryd.f9 false true false false) := by
  obtain ⟨places, hx⟩ := reads os enc
  refine returnsInHanded_of_row (C := Tryd.checked) (s := OpenSpec.ofChange Rows.tableFormatSpec) own started (by kernel_rfl) Tryd.func9
    (witness_row_at (enc := enc) (C := Tryd.checked) false (laidWorld os) #[.agg #[.int .u64 0, .int .i64 0, .int .i64 0, .slice none 0 0]] rfl (by kernel_rfl) (by kernel_rfl) (by kernel_rfl)
      (OpenSpec.preRow_of_cond 8 hx (by kernel_rfl) (fun k hk => by cases hk) (by kernel_rfl) (laid_met os))) ?_
  intro W base args ds gs before hval hW _ _ hw hL hsh _
  exact contract H enc W base args ds gs before hval hW hw hL hsh
theorem said : Rows.TableFormatSaid :=
  OpenClaim.holds_of_cond 9 Tryd.f9 rfl rfl rfl rfl rfl rfl rfl ⟨rfl, rfl, rfl, rfl, rfl⟩ rfl rfl rfl rfl rfl (by kernel_rfl) Tryd.func9 (by kernel_rfl)
    (of_decide_eq_true (by kernel_rfl)) (by unfold Func.isWrapper; first | (rw [if_pos (by decide +kernel)]; kernel_rfl) | (rw [if_neg (by decide +kernel)]; exact ⟨rfl, rfl⟩))
    (fun os started H enc _ F => by rw [OpenClaim.pre_eq_preRow]; exact lifted os started H enc F)
theorem plain (f : FuncId) (fn : Func) (hf : Tryd.pinned.checked.prog.funcNamed Rows.tableFormatRow.func = some f) (hfn : Tryd.pinned.checked.prog.funcs[f]? = some fn) :
    true = Tryd.pinned.checked.prog.looks [] ∧ ∀ (j : Nat) t, fn.params[j]? = some t → Tryd.pinned.checked.prog.wantsStandIn t = false := by
  obtain rfl : f = 9 := Option.some.inj ((show Tryd.prog.funcNamed Rows.tableFormatRow.func = some 9 by kernel_rfl).symm.trans hf) |>.symm
  obtain rfl : fn = Tryd.f9 := (Option.some.inj (Tryd.func9.symm.trans hfn)).symm
  refine ⟨by kernel_rfl, fun j t ht => ?_⟩
  have hall : (Tryd.f9.params.toList.all fun t => !Tryd.prog.wantsStandIn t) = true := by kernel_rfl
  have hm : t ∈ Tryd.f9.params.toList := by
    have := Array.mem_of_getElem? ht
    simpa using this
  have hq := List.all_eq_true.1 hall t hm
  simp only [Bool.not_eq_true'] at hq
  exact hq
theorem card : Rows.TableFormatCardSaid :=
  Claim7.holds_tied_plain_at .later [] _ _ _ _ said (fun _ h => by cases h) (by kernel_rfl) (fun _ h => by cases h) tableFormat_row_tie rfl ⟨rfl, rfl⟩ (by kernel_rfl) rfl plain (by kernel_rfl)
end Go.Proofs.YtbkphlhmbllbiaaDoor.tableFormat

