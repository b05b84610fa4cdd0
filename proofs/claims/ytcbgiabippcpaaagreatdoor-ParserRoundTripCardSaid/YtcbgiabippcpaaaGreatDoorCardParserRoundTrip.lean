/- ParserRoundTrip: for every input the law returns true, and each argument reads afterwards as it read before; the listed variables of Go's library are tied to the program's text. No condition. -/
import Derived.Test.YtcbgiabippcpaaaGreatDoorGP
import Derived.Test.YtcbgiabippcpaaaGreatDoorYC
set_option linter.unusedSimpArgs false
set_option linter.unusedVariables false
set_option maxRecDepth 100000
namespace Go.Proofs.YtcbgiabippcpaaaGreatDoor.parserRoundTrip
open Go.Pi Go.ChangeShapes Go.WideShapes Go.ChangeAt Go.RowKit
theorem kinds:Tryz.f6.params.toList.map (b4X Tryz.prog [44,97])=([(true,Go.Ky.ctPg 44 97)]:List (Bool×List CT)).map some:=by kernel_rfl
theorem g5I:(Tryz.f6.params.toList.all fun t=>Tryz.prog.readableRec t&&decide (t < Tryz.prog.types.size))=true:=by kernel_rfl
theorem resT:Tryz.f6.resultTypes=#[4]:=by kernel_rfl
theorem mem:((6,6):Nat×Nat)∈tb.fx:=by decide
theorem contract (H:Type) (enc:TypeId×Value→H) (W:World) (base:Nat) (args:Array Value) (ds gs:List (DataW H)) (a3J:List MemPlace)
  (hval:∀ (j:Nat) t v,Tryz.f6.params[j]?=some t→args[j]?=some v→Value.okWide Tryz.prog W .any base t v)
  (hW:DataW.Whole enc Tryz.prog Tryz.f6.params.toList Rows.parserRoundTripSpec.vars false W args.toList ds gs a3J)
  (hw:(DataW.weightsEach Tryz.prog (Tryz.f6.params.toList++(OpenSpec.ofChange Rows.parserRoundTripSpec).bare.plain.varTypes Tryz.prog) (ds++gs)).all (·≤reachBytes)=true) (hL:laidMetH Tryz.prog Rows.parserRoundTripRow.laid W) (hsh:W.ShapedOpen Tryz.prog) :
  Calls Tryz.prog 6 args W fun e W'=>∃ v,e=.returned v∧Rows.parserRoundTripSpec.post enc Tryz.prog Tryz.f6 false true false false W args v W':=by
 obtain⟨m,hm⟩:=var2 hsh
 refine Pi.contract g5G (b5H (P:=Tryz.prog)) bkOk (Rows.uptoBulkAll ds) (gl:=glW m) fnOk mem kinds f2X (fun t ht=>?_) rfl (fun ds hd=>?_) resT Tryz.underlying4 (fun xs h _=>g5H (f2W m) xs h) (glob hL hm) hval hW (b5I hw) (g8S _)
 ·have:=g6F.1 g5I t ht
  simpa using this
 ·match ds,hd with
  |[d0],_=>rfl
theorem g5J (os:Os):laidMet Tryz.prog Rows.parserRoundTripRow.laid ((f3C os).forCall (fun _ _=>0) ⟨#[],#[.agg #[.slice none 0 0,.slice none 0 0,.slice none 0 0]],[]⟩).memory :=
 laidMet_of_run' 8 (by kernel_rfl) (by kernel_rfl)
theorem reads (os:Os) {H:Type} (enc:TypeId×Value→H):∃ places,DataW.whole enc Tryz.prog ((f3C os).forCall (fun _ _=>0) ⟨#[],#[.agg #[.slice none 0 0,.slice none 0 0,.slice none 0 0]],[]⟩).memory Tryz.f6.params.toList Rows.parserRoundTripSpec.vars false (#[.agg #[.slice none 0 0,.slice none 0 0,.slice none 0 0]]:Array Value).toList 8=some ([.agg [.nil,.nil,.nil]],[],places) :=
 ⟨[],by kernel_rfl⟩
theorem g5K (os:Os) (started:os.Started) (H:Type) (enc:TypeId×Value→H) (F:Stop.Interp) :
  ReturnsInHanded {} Tryz.checked os 6 .any ((OpenSpec.ofChange Rows.parserRoundTripSpec).preRow enc Tryz.prog Tryz.f6 Rows.parserRoundTripRow.domain false Rows.parserRoundTripRow.laid) (((OpenSpec.ofChange Rows.parserRoundTripSpec).at F).post enc Tryz.prog Tryz.f6 false true false false):=by
 obtain⟨places,hx⟩:=reads os enc
 refine returnsInHanded_of_row (C:=Tryz.checked) (s:=OpenSpec.ofChange Rows.parserRoundTripSpec) own started (by kernel_rfl) Tryz.func6
  (witness_row_at (enc:=enc) (C:=Tryz.checked) false (f3C os) #[.agg #[.slice none 0 0,.slice none 0 0,.slice none 0 0]] rfl (by kernel_rfl) (by kernel_rfl) (by kernel_rfl)
   (OpenSpec.preRow_of_cond 8 hx (by kernel_rfl) (fun k hk=>by cases hk) (by kernel_rfl) (g5J os))) ?_
 intro W base args ds gs a3J hval hW _ _ hw hL hsh _
 exact contract H enc W base args ds gs a3J hval hW hw hL hsh
theorem said:Rows.ParserRoundTripSaid :=
 OpenClaim.holds_of_cond 6 Tryz.f6 rfl rfl rfl rfl rfl rfl rfl ⟨rfl,rfl,rfl,rfl,rfl⟩ rfl rfl rfl rfl rfl (by kernel_rfl) Tryz.func6 (by kernel_rfl)
  (g9T (by kernel_rfl)) (by unfold Func.isWrapper;first|(rw[if_pos (by decide +kernel)];kernel_rfl)|(rw[if_neg (by decide +kernel)];exact⟨rfl,rfl⟩))
  (fun os started H enc _ F=>by rw[OpenClaim.pre_eq_preRow];exact g5K os started H enc F)
theorem plain (f:FuncId) (fn:Func) (hf:Tryz.pinned.checked.prog.funcNamed Rows.parserRoundTripRow.func=some f) (hfn:Tryz.pinned.checked.prog.funcs[f]?=some fn) :
  true=Tryz.pinned.checked.prog.looks []∧∀ (j:Nat) t,fn.params[j]?=some t→Tryz.pinned.checked.prog.wantsStandIn t=false:=by
 obtain rfl:f=6:=Option.some.inj ((show Tryz.prog.funcNamed Rows.parserRoundTripRow.func=some 6 by kernel_rfl).symm.trans hf) |>.symm
 obtain rfl:fn=Tryz.f6:=(Option.some.inj (Tryz.func6.symm.trans hfn)).symm
 refine⟨by kernel_rfl,fun j t ht=>?_⟩
 have hall:(Tryz.f6.params.toList.all fun t=>!Tryz.prog.wantsStandIn t)=true:=by kernel_rfl
 have hm:t∈Tryz.f6.params.toList:=by
  have:=Array.mem_of_getElem? ht
  simpa using this
 have hq:=g6F.1 hall t hm
 simp only[g5W] at hq
 exact hq
theorem card:Rows.ParserRoundTripCardSaid :=
 Claim7.holds_tied_plain_at .later [] _ _ _ _ said (fun _ h=>by cases h) (by kernel_rfl) (fun _ h=>by cases h) parserRoundTrip_row_tie rfl ⟨rfl,rfl⟩ (by kernel_rfl) rfl plain (by kernel_rfl)
end Go.Proofs.YtcbgiabippcpaaaGreatDoor.parserRoundTrip
