/- SemanticsSwap: where what it reads is of bulk at most 1048576 the law returns true, and each argument reads afterwards as it read before. -/
import Derived.Test.YtdjcnfacjfnakaaGreatSG
set_option linter.unusedSimpArgs false
set_option linter.unusedVariables false
set_option maxRecDepth 100000
namespace Go.Proofs.YtdjcnfacjfnakaaGreat.semanticsSwap
open Go.Pi Go.Ky Go.ChangeShapes Go.WideShapes Go.ChangeAt Go.RowKit
theorem kinds:Tryz.f6.params.toList.map (b5I Tryz.prog [44,49])=([(true,[.sl (d3Q 44 49),.sl d3R,.slr 49,.int .u8,.int .u64,.sl [.int .u64],.sl [.int .u64]]),(true,d3O 44),(true,d3O 44)]:List (Bool×List CT)).map some:=by kernel_rfl
theorem g2S:(Tryz.f6.params.toList.all fun t=>Tryz.prog.readableRec t&&decide (t < Tryz.prog.types.size))=true:=by kernel_rfl
theorem resT:Tryz.f6.resultTypes=#[4]:=by kernel_rfl
theorem mem:((6,6):Nat×Nat)∈tb.fx:=by decide
theorem contract (H:Type) (enc:TypeId×Value→H) (W:World) (base:Nat) (args:Array Value) (ds gs:List (DataW H)) (a3L:List MemPlace)
  (hval:∀ (j:Nat) t v,Tryz.f6.params[j]?=some t→args[j]?=some v→Value.okWide Tryz.prog W .any base t v)
  (hW:DataW.Whole enc Tryz.prog Tryz.f6.params.toList Rows.semanticsSwapSpec.vars false W args.toList ds gs a3L) (hk:Rows.uptoSmall H (ds++gs)=true) :
  Calls Tryz.prog 6 args W fun e W'=>∃ v,e=.returned v∧Rows.semanticsSwapSpec.post enc Tryz.prog Tryz.f6 false true false false W args v W':=by
 have h:Rows.uptoBulkAll (ds++gs)≤1048576:=g6F hk
 rw[bkOk.append] at h
 refine Pi.contract g2R bdOk bkOk 1048576 (gl:=fun _=>none) fnOk mem kinds g2M (fun t ht=>?_) rfl (fun ds hd=>?_) resT Tryz.underlying4 g2B (g2N W) hval hW (fun j t d _ hd=>?_) (by omega)
 ·have:=g3L.1 g2S t ht
  simpa using this
 ·match ds,hd with
  |[d0,d1,d2],_=>rfl
 ·have:=g2P (g4Y hd)
  show Rows.uptoBulk d≤1048576
  omega
theorem g2T (os:Os) (started:os.Started) (H:Type) (enc:TypeId×Value→H) (F:Stop.Interp) :
  ReturnsInHanded {} Tryz.checked os 6 .any ((Rows.OpenSpec.upto Rows.semanticsSwapSpec).pre6 enc Tryz.prog Tryz.f6 Rows.semanticsSwapUptoRow.domain false) (((Rows.OpenSpec.upto Rows.semanticsSwapSpec).at F).post enc Tryz.prog Tryz.f6 false true false false):=by
 refine returnsInHanded_of_cond (C:=Tryz.checked) (s:=Rows.OpenSpec.upto Rows.semanticsSwapSpec) (k:=Rows.uptoSmall) rfl own started (by kernel_rfl) Tryz.func6
  (OpenSpec.witness (enc:=enc) (C:=Tryz.checked) (s:=Rows.OpenSpec.upto Rows.semanticsSwapSpec) (k:=Rows.uptoSmall) rfl false ⟨#[],#[.agg #[.slice none 0 0,.slice none 0 0,.slice none 0 0,.int .u8 0,.int .u64 0,.slice none 0 0,.slice none 0 0],.agg #[.int .i64 0,.int .u64 0,.string ⟨#[]⟩,.slice none 0 0],.agg #[.int .i64 0,.int .u64 0,.string ⟨#[]⟩,.slice none 0 0]],[]⟩ 8 (by kernel_rfl) (by kernel_rfl) (by kernel_rfl)
   (x:=([.agg [.agg [.nil,.nil,.nil],.lit (.int .u8 0),.lit (.int .u64 0),.nil,.nil],.agg [.lit (.int .i64 0),.lit (.int .u64 0),.lit (.string []),.nil],.agg [.lit (.int .i64 0),.lit (.int .u64 0),.lit (.string []),.nil]],[],[])) (by kernel_rfl) rfl (by kernel_rfl)) ?_
 intro W base args ds gs a3L hval hW _ hk _
 exact contract H enc W base args ds gs a3L hval hW hk
theorem proved:Rows.SemanticsSwapUptoSaid :=
 OpenClaim.holds_of_cond 6 Tryz.f6 rfl rfl rfl rfl rfl rfl rfl ⟨rfl,rfl,rfl,rfl,rfl⟩ rfl rfl rfl rfl rfl (by kernel_rfl) Tryz.func6 (by kernel_rfl)
  (g6F (by kernel_rfl)) (by unfold Func.isWrapper;first|(rw[if_pos (by decide +kernel)];kernel_rfl)|(rw[if_neg (by decide +kernel)];exact⟨rfl,rfl⟩))
  (fun os started H enc _ F=>g2T os started H enc F)
end Go.Proofs.YtdjcnfacjfnakaaGreat.semanticsSwap
