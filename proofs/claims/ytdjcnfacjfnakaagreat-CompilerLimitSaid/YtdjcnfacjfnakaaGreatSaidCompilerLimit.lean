/- CompilerLimit: for every input the law returns true, and each argument reads afterwards as it read before. No condition. -/
import Derived.Test.YtdjcnfacjfnakaaGreatLG
set_option linter.unusedSimpArgs false
set_option linter.unusedVariables false
set_option maxRecDepth 100000
namespace Go.Proofs.YtdjcnfacjfnakaaGreat.compilerLimit
open Go.Pi Go.Ky Go.ChangeShapes Go.WideShapes Go.ChangeAt Go.RowKit
theorem kinds:Tryz.f8.params.toList.map (b5N Tryz.prog [44,49])=([(false,[.int .u8]),(false,[.int .u16]),(false,[.int .u8])]:List (Bool×List CT)).map some:=by kernel_rfl
theorem g2H:(Tryz.f8.params.toList.all fun t=>Tryz.prog.readableRec t&&decide (t < Tryz.prog.types.size))=true:=by kernel_rfl
theorem resT:Tryz.f8.resultTypes=#[4]:=by kernel_rfl
theorem mem:((8,8):Nat×Nat)∈tb.fx:=by decide
theorem contract (H:Type) (enc:TypeId×Value→H) (W:World) (base:Nat) (args:Array Value) (ds gs:List (DataW H)) (a3M:List MemPlace)
  (hval:∀ (j:Nat) t v,Tryz.f8.params[j]?=some t→args[j]?=some v→Value.okWide Tryz.prog W .any base t v)
  (hW:DataW.Whole enc Tryz.prog Tryz.f8.params.toList Rows.compilerLimitSpec.vars false W args.toList ds gs a3M) :
  Calls Tryz.prog 8 args W fun e W'=>∃ v,e=.returned v∧Rows.compilerLimitSpec.post enc Tryz.prog Tryz.f8 false true false false W args v W':=by
 refine Pi.contract g2G (bdOk (Rows.uptoBulkAll ds)) bkOk (Rows.uptoBulkAll ds) (gl:=fun _=>none) fnOk mem kinds g2B (fun t ht=>?_) rfl (fun ds hd=>?_) resT Tryz.underlying4 (g1W _) (g2C W) hval hW (fun j t d _ hd=>?_) (g4U _)
 ·have:=g2Y.1 g2H t ht
  simpa using this
 ·match ds,hd with
  |[d0,d1,d2],_=>rfl
 ·exact g2E (g4K hd)
theorem g2I (os:Os) (started:os.Started) (H:Type) (enc:TypeId×Value→H) :
  ReturnsInHanded {} Tryz.checked os 8 .any (Rows.compilerLimitSpec.pre6 enc Tryz.prog Tryz.f8 Rows.compilerLimitRow.domain false) (Rows.compilerLimitSpec.post enc Tryz.prog Tryz.f8 false true false false):=by
 refine returnsInHanded_of_change (C:=Tryz.checked) own started (by kernel_rfl) Tryz.func8
  (ChangeSpec.witness6 (enc:=enc) (C:=Tryz.checked) false ⟨#[],#[.int .u8 0,.int .u16 0,.int .u8 0],[]⟩ 8 (by kernel_rfl) (by kernel_rfl) (by kernel_rfl) (by kernel_rfl)) ?_
 intro W base args ds gs a3M hval hW _ _
 exact contract H enc W base args ds gs a3M hval hW
theorem proved:Rows.CompilerLimitSaid :=
 OpenClaim.holds_of_wide 8 Tryz.f8 rfl rfl rfl rfl rfl rfl rfl ⟨rfl,rfl,rfl,rfl,rfl⟩ rfl rfl rfl rfl rfl (by kernel_rfl) Tryz.func8 (by kernel_rfl)
  (g5N (by kernel_rfl)) (by unfold Func.isWrapper;first|(rw[if_pos (by decide +kernel)];kernel_rfl)|(rw[if_neg (by decide +kernel)];exact⟨rfl,rfl⟩))
  (fun os started H enc _=>g2I os started H enc)
end Go.Proofs.YtdjcnfacjfnakaaGreat.compilerLimit
