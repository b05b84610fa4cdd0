/- ParserReturnsValid: for every input the law returns true, and each argument reads afterwards as it read before; the listed variables of Go's library are tied to the program's text. No condition. -/
import Derived.Test.YtcbgiabippcpaaaGreatDoorGP
import Derived.Test.YtcbgiabippcpaaaGreatDoorVC
set_option linter.unusedSimpArgs false
set_option linter.unusedVariables false
set_option maxRecDepth 100000
namespace Go.Proofs.YtcbgiabippcpaaaGreatDoor.parserReturnsValid
open Go.Pi Go.ChangeShapes Go.WideShapes Go.ChangeAt Go.RowKit
theorem kinds:Tryz.f7.params.toList.map (b4X Tryz.prog [])=([(false,[.str])]:List (Bool×List CT)).map some:=by kernel_rfl
theorem h0G:(Tryz.f7.params.toList.all fun t=>Tryz.prog.readableRec t&&decide (t < Tryz.prog.types.size))=true:=by kernel_rfl
theorem resT:Tryz.f7.resultTypes=#[4]:=by kernel_rfl
theorem mem:((7,7):Nat×Nat)∈tb.fx:=by decide
theorem contract (H:Type) (enc:TypeId×Value→H) (W:World) (base:Nat) (args:Array Value) (ds gs:List (DataW H)) (a3J:List MemPlace)
  (hval:∀ (j:Nat) t v,Tryz.f7.params[j]?=some t→args[j]?=some v→Value.okWide Tryz.prog W .any base t v)
  (hW:DataW.Whole enc Tryz.prog Tryz.f7.params.toList Rows.parserReturnsValidSpec.vars false W args.toList ds gs a3J)
  (hw:(DataW.weightsEach Tryz.prog (Tryz.f7.params.toList++(OpenSpec.ofChange Rows.parserReturnsValidSpec).bare.plain.varTypes Tryz.prog) (ds++gs)).all (·≤reachBytes)=true) (hL:laidMetH Tryz.prog Rows.parserReturnsValidRow.laid W) (hsh:W.ShapedOpen Tryz.prog) :
  Calls Tryz.prog 7 args W fun e W'=>∃ v,e=.returned v∧Rows.parserReturnsValidSpec.post enc Tryz.prog Tryz.f7 false true false false W args v W':=by
 obtain⟨m,hm⟩:=var2 hsh
 refine Pi.contract f5M (b5H (P:=Tryz.prog)) bkOk (Rows.uptoBulkAll ds) (gl:=glW m) fnOk mem kinds f5K (fun t ht=>?_) rfl (fun ds hd=>?_) resT Tryz.underlying4 (fun xs h _=>h0F (f5J m) xs h) (glob hL hm) hval hW (b5I hw) (h3V _)
 ·have:=h1F.1 h0G t ht
  simpa using this
 ·match ds,hd with
  |[d0],_=>rfl
theorem h0H (os:Os):laidMet Tryz.prog Rows.parserReturnsValidRow.laid ((f5Q os).forCall (fun _ _=>0) ⟨#[],#[.string ⟨#[]⟩],[]⟩).memory :=
 laidMet_of_run' 8 (by kernel_rfl) (by kernel_rfl)
theorem reads (os:Os) {H:Type} (enc:TypeId×Value→H):∃ places,DataW.whole enc Tryz.prog ((f5Q os).forCall (fun _ _=>0) ⟨#[],#[.string ⟨#[]⟩],[]⟩).memory Tryz.f7.params.toList Rows.parserReturnsValidSpec.vars false (#[.string ⟨#[]⟩]:Array Value).toList 8=some ([.lit (.string [])],[],places) :=
 ⟨[],by kernel_rfl⟩
theorem h0I (os:Os) (started:os.Started) (H:Type) (enc:TypeId×Value→H) (F:Stop.Interp) :
  ReturnsInHanded {} Tryz.checked os 7 .any ((OpenSpec.ofChange Rows.parserReturnsValidSpec).preRow enc Tryz.prog Tryz.f7 Rows.parserReturnsValidRow.domain false Rows.parserReturnsValidRow.laid) (((OpenSpec.ofChange Rows.parserReturnsValidSpec).at F).post enc Tryz.prog Tryz.f7 false true false false):=by
 obtain⟨places,hx⟩:=reads os enc
 refine returnsInHanded_of_row (C:=Tryz.checked) (s:=OpenSpec.ofChange Rows.parserReturnsValidSpec) own started (by kernel_rfl) Tryz.func7
  (witness_row_at (enc:=enc) (C:=Tryz.checked) false (f5Q os) #[.string ⟨#[]⟩] rfl (by kernel_rfl) (by kernel_rfl) (by kernel_rfl)
   (OpenSpec.preRow_of_cond 8 hx (by kernel_rfl) (fun k hk=>by cases hk) (by kernel_rfl) (h0H os))) ?_
 intro W base args ds gs a3J hval hW _ _ hw hL hsh _
 exact contract H enc W base args ds gs a3J hval hW hw hL hsh
theorem said:Rows.ParserReturnsValidSaid :=
 OpenClaim.holds_of_cond 7 Tryz.f7 rfl rfl rfl rfl rfl rfl rfl ⟨rfl,rfl,rfl,rfl,rfl⟩ rfl rfl rfl rfl rfl (by kernel_rfl) Tryz.func7 (by kernel_rfl)
  (h4Z (by kernel_rfl)) (by unfold Func.isWrapper;first|(rw[if_pos (by decide +kernel)];kernel_rfl)|(rw[if_neg (by decide +kernel)];exact⟨rfl,rfl⟩))
  (fun os started H enc _ F=>by rw[OpenClaim.pre_eq_preRow];exact h0I os started H enc F)
theorem plain (f:FuncId) (fn:Func) (hf:Tryz.pinned.checked.prog.funcNamed Rows.parserReturnsValidRow.func=some f) (hfn:Tryz.pinned.checked.prog.funcs[f]?=some fn) :
  true=Tryz.pinned.checked.prog.looks []∧∀ (j:Nat) t,fn.params[j]?=some t→Tryz.pinned.checked.prog.wantsStandIn t=false:=by
 obtain rfl:f=7:=Option.some.inj ((show Tryz.prog.funcNamed Rows.parserReturnsValidRow.func=some 7 by kernel_rfl).symm.trans hf) |>.symm
 obtain rfl:fn=Tryz.f7:=(Option.some.inj (Tryz.func7.symm.trans hfn)).symm
 refine⟨by kernel_rfl,fun j t ht=>?_⟩
 have hall:(Tryz.f7.params.toList.all fun t=>!Tryz.prog.wantsStandIn t)=true:=by kernel_rfl
 have hm:t∈Tryz.f7.params.toList:=by
  have:=Array.mem_of_getElem? ht
  simpa using this
 have hq:=h1F.1 hall t hm
 simp only[h0U] at hq
 exact hq
theorem card:Rows.ParserReturnsValidCardSaid :=
 Claim7.holds_tied_plain_at .later [] _ _ _ _ said (fun _ h=>by cases h) (by kernel_rfl) (fun _ h=>by cases h) parserReturnsValid_row_tie rfl ⟨rfl,rfl⟩ (by kernel_rfl) rfl plain (by kernel_rfl)
end Go.Proofs.YtcbgiabippcpaaaGreatDoor.parserReturnsValid
