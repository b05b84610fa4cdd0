/- CompilerErrors: where what it reads is of bulk at most 1048576 the law returns true, and each argument reads afterwards as it read before. -/
import Derived.Test.YtdjcnfacjfnakaaGreatEG
set_option linter.unusedSimpArgs false
set_option linter.unusedVariables false
set_option maxRecDepth 100000
namespace Go.Proofs.YtdjcnfacjfnakaaGreat.compilerErrors
open Go.Pi Go.Ky Go.ChangeShapes Go.WideShapes Go.ChangeAt Go.RowKit
theorem kinds:Tryz.f7.params.toList.map (b3C Tryz.prog [44,49])=([(true,d1W 44 49),(false,[.int .u64])]:List (Bool×List CT)).map some:=by kernel_rfl
theorem g4M:(Tryz.f7.params.toList.all λt=>Tryz.prog.readableRec t&&decide (t < Tryz.prog.types.size))=true:=by kernel_rfl
theorem resT:Tryz.f7.resultTypes=#[4]:=by kernel_rfl
theorem mem:((7,7):Nat×Nat)∈tb.fx:=by decide
theorem contract (H:Type) (enc:TypeId×Value->H) (W:World) (base:Nat) (args:Array Value) (ds gs:List (DataW H)) (a3E:List MemPlace)
  (hval:∀ (j:Nat) t v,Tryz.f7.params[j]?=some t->args[j]?=some v->Value.okWide Tryz.prog W .any base t v)
  (hW:DataW.Whole enc Tryz.prog Tryz.f7.params.toList Rows.compilerErrorsSpec.vars false W args.toList ds gs a3E) (hk:Rows.uptoSmall H (ds++gs)=true) :
  Calls Tryz.prog 7 args W λe W'=>∃ v,e=.returned v/\Rows.compilerErrorsSpec.post enc Tryz.prog Tryz.f7 false true false false W args v W':=by
 have h:Rows.uptoBulkAll (ds++gs)<=1048576:=g7P hk
 rw[bkOk.append] at h
 refine Pi.contract g4L bdOk bkOk 1048576 (gl:=λ_=>none) fnOk mem kinds g4G (λt ht=>?_) rfl (λds hd=>?_) resT Tryz.underlying4 g4B (g4H W) hval hW (λj t d _ hd=>?_) (by omega)
 ·have:=g5A.1 g4M t ht
  simpa using this
 ·match ds,hd with
  |[d0,d1],_=>rfl
 ·have:=g4J (g6K hd)
  show Rows.uptoBulk d<=1048576
  omega
theorem g4N (os:Os) (started:os.Started) (H:Type) (enc:TypeId×Value->H) (F:Stop.Interp) :
  ReturnsInHanded {} Tryz.checked os 7 .any ((Rows.OpenSpec.upto Rows.compilerErrorsSpec).pre6 enc Tryz.prog Tryz.f7 Rows.compilerErrorsUptoRow.domain false) (((Rows.OpenSpec.upto Rows.compilerErrorsSpec).at F).post enc Tryz.prog Tryz.f7 false true false false):=by
 refine returnsInHanded_of_cond (C:=Tryz.checked) (s:=Rows.OpenSpec.upto Rows.compilerErrorsSpec) (k:=Rows.uptoSmall) rfl own started (by kernel_rfl) Tryz.func7
  (OpenSpec.witness (enc:=enc) (C:=Tryz.checked) (s:=Rows.OpenSpec.upto Rows.compilerErrorsSpec) (k:=Rows.uptoSmall) rfl false ⟨#[],#[.agg #[.slice none 0 0,.slice none 0 0,.slice none 0 0],.int .u64 0],[]⟩ 8 (by kernel_rfl) (by kernel_rfl) (by kernel_rfl)
   (x:=([.agg [.nil,.nil,.nil],.lit (.int .u64 0)],[],[])) (by kernel_rfl) rfl (by kernel_rfl)) ?_
 intro W base args ds gs a3E hval hW _ hk _
 exact contract H enc W base args ds gs a3E hval hW hk
theorem proved:Rows.CompilerErrorsUptoSaid :=
 OpenClaim.holds_of_cond 7 Tryz.f7 rfl rfl rfl rfl rfl rfl rfl ⟨rfl,rfl,rfl,rfl,rfl⟩ rfl rfl rfl rfl rfl (by kernel_rfl) Tryz.func7 (by kernel_rfl)
  (g7P (by kernel_rfl)) (by unfold Func.isWrapper;first|(rw[if_pos (by decide +kernel)];kernel_rfl)|(rw[if_neg (by decide +kernel)];exact⟨rfl,rfl⟩))
  (λos started H enc _ F=>g4N os started H enc F)
end Go.Proofs.YtdjcnfacjfnakaaGreat.compilerErrors
