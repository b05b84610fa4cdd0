/- The reference's Same: functions and programs. -/
import Derived.Test.YtcbgiabippcpaaaGreatDoorM33
import Derived.Test.YtcbgiabippcpaaaGreatDoorM30
set_option maxRecDepth 10000
set_option linter.unusedVariables false
set_option linter.unusedSimpArgs false
namespace Go.Proofs.YtcbgiabippcpaaaGreatDoor
open Go.Pi Go.Lx Go.Ky
variable {gl:Nat→Option (List T)}
set_option maxHeartbeats 1000000 in
theorem h0B {f:Fu} (hl:f.params.length≤20000) {ow:Ow} (Q:Ex→S→Prop):∀ (r:List Pa) (i:Nat) (fr:List PV),f.params.drop i=r →
  b8Y fr [(2,.lp 0 0),(3,.lp 1 0),(5,.t (.int .i64 i))]→(∀ fr',Q (.exit 0) ⟨fr',[(false,(tFu f).map .t),(false,(tFu f).map .t)],ow⟩) →
  Xl F gl c4T ⟨fr,[(false,(tFu f).map .t),(false,(tFu f).map .t)],ow⟩ Q ⟨⟩:=by
 intro r
 induction r with
 |nil =>
  intro i fr hd hf h1
  have hd:=b8T hd
  simp only[b9A,b8Z] at hf
  obtain⟨f2,f3,f5,-⟩:=hf
  refine Xl.step ?_
  simp only[c4T]
  have c1:((i:Int) < (f.params.length:Int))=False:=h4U (by omega)
  simp only[wA,seval,reduceCtorEq,reduceIte,f2,f3,f5,h2O,c1,h2U,h2V]
  exact h1 _
 |cons x r ih2 =>
  intro i fr hd hf h1
  obtain⟨hx,hr,hi⟩:=b8S hd
  simp only[b9A,b8Z] at hf
  obtain⟨f2,f3,f5,-⟩:=hf
  refine Xl.step ?_
  simp only[c4T]
  have c1:((i:Int) < (f.params.length:Int))=True:=h4V (by omega)
  have hw1:IntKind.wrap .i64 ((i:Int)+1)=((i+1:Nat):Int):=by rw[IntWalk.i64_in _ (by omega)];omega
  have c0:(0≤(i:Int))=True:=h4V (by omega)
  simp only[wA,seval,reduceCtorEq,reduceIte,f2,f3,f5,h2O,h2D,hx,h4I,hw1,c0,c1,h1D,h2U,h2V,BEq.rfl,bne_self_eq_false,h0W,ne_eq,h4X,h4T]
  exact ih2 (i+1) _ hr (by simp only[wQ,Nat.reduceEqDiff,reduceIte,f2,f3]) h1
set_option maxHeartbeats 1000000 in
theorem ok31 {f:Fu} (hf:FuB f) (K:PV→Prop):XcP F gl 31 [.agg (tFu f),.agg (tFu f)] K ⟨⟩↔K (.t (.bool true)):=by
 refine Ret.iff (Ret.of F31 rfl ?_)
 simp only[c4U]
 have hS:=ok30 (gl:=gl) hf.bd f.bnl f.bnl
 have hE:=ok13 (gl:=gl) f.ret hf.rt
 simp only[wA,seval,reduceCtorEq,reduceIte,h2O,hS,hE,BEq.rfl,bne_self_eq_false,h0W,ne_eq,h4X,h4T]
 refine h0B (f:=f) hf.ps _ f.params 0 _ rfl (by simp only[wQ,Nat.reduceEqDiff,reduceIte]) ?_
 intro fr'
 simp only[wA,seval,reduceCtorEq,reduceIte]
set_option maxHeartbeats 1000000 in
theorem h0C {p:Pg} (hp:PgR p) {ow:Ow} (Q:Ex→S→Prop):∀ (r:List Fu) (i:Nat) (fr:List PV),p.funcs.drop i=r →
  b8Y fr [(2,.lp 0 0),(3,.lp 1 0),(5,.t (.int .i64 i))]→(∀ fr',b8Y fr' [(2,.lp 0 0),(3,.lp 1 0)]→Q (.exit 0) ⟨fr',[(false,(tPg p).map .t),(false,(tPg p).map .t)],ow⟩) →
  Xl F gl c3S ⟨fr,[(false,(tPg p).map .t),(false,(tPg p).map .t)],ow⟩ Q ⟨⟩:=by
 intro r
 have hl:=hp.fl
 induction r with
 |nil =>
  intro i fr hd hf h1
  have hd:=b8T hd
  simp only[b9A,b8Z] at hf
  obtain⟨f2,f3,f5,-⟩:=hf
  refine Xl.step ?_
  simp only[c3S]
  have c1:((i:Int) < (p.funcs.length:Int))=False:=h4U (by omega)
  simp only[wA,seval,reduceCtorEq,reduceIte,f2,f3,f5,h2O,c1,h2U,h2V]
  exact h1 _ (by simp only[wQ,Nat.reduceEqDiff,reduceIte,f2,f3])
 |cons x r ih2 =>
  intro i fr hd hf h1
  obtain⟨hx,hr,hi⟩:=b8S hd
  simp only[b9A,b8Z] at hf
  obtain⟨f2,f3,f5,-⟩:=hf
  refine Xl.step ?_
  simp only[c3S]
  have c1:((i:Int) < (p.funcs.length:Int))=True:=h4V (by omega)
  have hw1:IntKind.wrap .i64 ((i:Int)+1)=((i+1:Nat):Int):=by rw[IntWalk.i64_in _ (by omega)];omega
  have hc:=ok31 (gl:=gl) (hp.fs x (h3C hx))
  have c0:(0≤(i:Int))=True:=h4V (by omega)
  simp only[wA,seval,reduceCtorEq,reduceIte,f2,f3,f5,h2O,h2D,hx,h4I,hc,hw1,c0,c1,h1D,h2U,h2V]
  exact ih2 (i+1) _ hr (by simp only[wQ,Nat.reduceEqDiff,reduceIte,f2,f3]) h1
set_option maxHeartbeats 1000000 in
theorem h0D {p:Pg} (hp:PgR p) {ow:Ow} (Q:Ex→S→Prop):∀ (r:List De) (i:Nat) (fr:List PV),p.decls.drop i=r →
  b8Y fr [(2,.lp 0 0),(3,.lp 1 0),(6,.t (.int .i64 i))]→(∀ fr',Q (.exit 2) ⟨fr',[(false,(tPg p).map .t),(false,(tPg p).map .t)],ow⟩) →
  Xl F gl c3R ⟨fr,[(false,(tPg p).map .t),(false,(tPg p).map .t)],ow⟩ Q ⟨⟩:=by
 intro r
 have hl:=hp.dl
 induction r with
 |nil =>
  intro i fr hd hf h1
  have hd:=b8T hd
  simp only[b9A,b8Z] at hf
  obtain⟨f2,f3,f5,-⟩:=hf
  refine Xl.step ?_
  simp only[c3R]
  have c1:((i:Int) < (p.decls.length:Int))=False:=h4U (by omega)
  simp only[wA,seval,reduceCtorEq,reduceIte,f2,f3,f5,h2O,c1,h2U,h2V]
  exact h1 _
 |cons x r ih2 =>
  intro i fr hd hf h1
  obtain⟨hx,hr,hi⟩:=b8S hd
  simp only[b9A,b8Z] at hf
  obtain⟨f2,f3,f5,-⟩:=hf
  refine Xl.step ?_
  simp only[c3R]
  have c1:((i:Int) < (p.decls.length:Int))=True:=h4V (by omega)
  have hw1:IntKind.wrap .i64 ((i:Int)+1)=((i+1:Nat):Int):=by rw[IntWalk.i64_in _ (by omega)];omega
  have c0:(0≤(i:Int))=True:=h4V (by omega)
  simp only[wA,seval,reduceCtorEq,reduceIte,f2,f3,f5,h2O,h2D,hx,h4I,hw1,c0,c1,h1D,h2U,h2V,BEq.rfl,bne_self_eq_false,h0W,ne_eq,h4X,h4T]
  exact ih2 (i+1) _ hr (by simp only[wQ,Nat.reduceEqDiff,reduceIte,f2,f3]) h1
set_option maxHeartbeats 1000000 in
theorem ok11 {p:Pg} (hp:PgR p) (K:PV→Prop):XcP F gl 11 [.agg (tPg p),.agg (tPg p)] K ⟨⟩↔K (.t (.bool true)):=by
 refine Ret.iff (Ret.of F11 rfl ?_)
 simp only[c3T]
 have hS:=ok30 (gl:=gl) hp.bd p.bnl p.bnl
 simp only[wA,seval,reduceCtorEq,reduceIte,h2O,hS,BEq.rfl,bne_self_eq_false,h0W,ne_eq,h4X,h4T]
 refine h0C (p:=p) hp _ p.funcs 0 _ rfl (by simp only[wQ,Nat.reduceEqDiff,reduceIte]) ?_
 intro fr' hf
 simp only[b9A,b8Z] at hf
 obtain⟨f2,f3,-⟩:=hf
 simp only[wA,seval,reduceCtorEq,reduceIte,f2,f3]
 refine h0D (p:=p) hp _ p.decls 0 _ rfl (by simp only[wQ,Nat.reduceEqDiff,reduceIte,f2,f3]) ?_
 intro fr'
 simp only[wA,seval,reduceCtorEq,reduceIte]
end Go.Proofs.YtcbgiabippcpaaaGreatDoor
