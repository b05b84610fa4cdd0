/- The reference's measure: Weight, weights, Small. -/
import Derived.Test.YtcbgiabippcpaaaGreatDoorM36
import Derived.Test.YtcbgiabippcpaaaGreatDoorM36
import Derived.Test.YtcbgiabippcpaaaGreatDoorKx68
import Derived.Test.YtcbgiabippcpaaaGreatDoorKx43
import Derived.Test.YtcbgiabippcpaaaGreatDoorKx68
import Derived.Test.YtcbgiabippcpaaaGreatDoorKx43
import Derived.Test.YtcbgiabippcpaaaGreatDoorY4
import Derived.Test.YtcbgiabippcpaaaGreatDoorM30
set_option maxRecDepth 10000
set_option linter.unusedVariables false
set_option linter.unusedSimpArgs false
namespace Go.Proofs.YtcbgiabippcpaaaGreatDoor
open Go.Pi Go.Lx Go.Ky
variable {gl:Nat→Option (List T)}
theorem g4O {e:Exp} (hl:e.args.length≤B47) {lim:Int} (ih:∀ a,a∈e.args→∀ lim K,XcP F gl 41 [.agg (eL a),.int .i64 lim] K ⟨⟩↔K (.t (.int .i64 (wM a lim)))) {ow:Ow} (Q:Ex→S→Prop):∀ (r:List Exp) (i:Nat) (n:Int) (fr:List PV),e.args.drop i=r →
  b8Y fr [(1,.t (.int .i64 lim)),(2,.lp 0 0),(5,.t (.int .i64 n)),(6,.t (.int .i64 i))]→(∀ fr',a0A fr' 5=.t (.int .i64 (wMs r lim n))→Q (.exit 0) ⟨fr',[(false,(eL e).map .t)],ow⟩) →
  Xl F gl c5F ⟨fr,[(false,(eL e).map .t)],ow⟩ Q ⟨⟩:=by
 intro r
 have hb:B47=140737488355328:=rfl
 induction r with
 |nil =>
  intro i n fr hd hf h1
  have hd:=b8T hd
  simp only[b9A,b8Z] at hf
  obtain⟨f1,f2,f5,f6,-⟩:=hf
  refine Xl.step ?_
  simp only[c5F]
  have c1:((i:Int) < (e.args.length:Int))=False:=g9O (by omega)
  simp only[wA,seval,reduceCtorEq,reduceIte,f1,f2,f5,f6,d2N,c1,g7T,g7U]
  refine h1 _ ?_
  simp only[wQ,Nat.reduceEqDiff,reduceIte,f5,wMs]
 |cons x r ih2 =>
  intro i n fr hd hf h1
  obtain⟨hx,hr,hi⟩:=b8S hd
  simp only[b9A,b8Z] at hf
  obtain⟨f1,f2,f5,f6,-⟩:=hf
  refine Xl.step ?_
  simp only[c5F]
  have c1:((i:Int) < (e.args.length:Int))=True:=g9P (by omega)
  have hw1:IntKind.wrap .i64 ((i:Int)+1)=((i+1:Nat):Int):=by rw[IntWalk.i64_in _ (by omega)];omega
  have hc:=ih x (g8B hx)
  have c0:(0≤(i:Int))=True:=g9P (by omega)
  rw[wMs] at h1
  by_cases c:n≤lim
  ·have c':(n≤lim)=True:=g9P c
   rw[if_pos c] at h1
   simp only[wA,seval,reduceCtorEq,reduceIte,f1,f2,f5,f6,d2N,d2O,hx,g9F,d2M,hc,hw1,c0,c1,c',g6D,g7T,g7U]
   exact ih2 (i+1) _ _ hr (by simp only[wQ,Nat.reduceEqDiff,reduceIte,f1,f2]) h1
  ·have c':(n≤lim)=False:=g9O c
   rw[if_neg c] at h1
   simp only[wA,seval,reduceCtorEq,reduceIte,f1,f2,f5,f6,d2N,c1,c',g7T,g7U]
   refine h1 _ ?_
   simp only[wQ,Nat.reduceEqDiff,reduceIte,f5]
theorem ok41:∀ e:Exp,ExpOk e→∀ (lim:Int) (K:PV→Prop),XcP F gl 41 [.agg (eL e),.int .i64 lim] K ⟨⟩↔K (.t (.int .i64 (wM e lim))):=by
 refine Exp.ind fun e ih ho lim K=>?_
 cases ho with|mk _ q1 q2 q3 q4 q5 q =>
 refine Ret.iff (Ret.of F41 rfl ?_)
 simp only[c5G]
 simp only[wA,seval,reduceCtorEq,reduceIte]
 refine g4O (e:=e) q4 (fun a ha=>ih a ha (q a ha)) _ e.args 0 _ _ rfl (by simp only[wQ,Nat.reduceEqDiff,reduceIte];first|done|exact⟨rfl,rfl⟩|exact rfl) ?_
 intro fr' h
 simp only[wA,seval,reduceCtorEq,reduceIte,h,g1M]
set_option maxHeartbeats 1000000 in
theorem g4P {nl:Bool} {l:List St} (hl:l.length≤B47) {lim:Int} (hx:∀ a,a∈l→ExpOk a.ex) (ih:∀ a,a∈l→∀ lim K,XcP F gl 40 [.sl a.nl (d2P a.body),.int .i64 lim] K ⟨⟩↔K (.t (.int .i64 (g1N a.body lim (a.body.length:Int))))) {sg:Sg} {ow:Ow} (Q:Ex→S→Prop):∀ (r:List St) (i:Nat) (n:Int) (fr:List PV),l.drop i=r →
  b8Y fr [(0,.t (.sl nl (d2P l))),(1,.t (.int .i64 lim)),(5,.t (.int .i64 n)),(6,.t (.int .i64 i))]→(∀ fr',a0A fr' 5=.t (.int .i64 (g1N r lim n))→Q (.exit 0) ⟨fr',sg,ow⟩) →
  Xl F gl c5D ⟨fr,sg,ow⟩ Q ⟨⟩:=by
 intro r
 have hb:B47=140737488355328:=rfl
 induction r with
 |nil =>
  intro i n fr hd hf h1
  have hd:=b8T hd
  simp only[b9A,b8Z] at hf
  obtain⟨f0,f1,f5,f6,-⟩:=hf
  refine Xl.step ?_
  simp only[c5D]
  have c1:((i:Int) < (l.length:Int))=False:=g9O (by omega)
  simp only[wA,seval,reduceCtorEq,reduceIte,f0,f1,f5,f6,d2S,c1]
  refine h1 _ ?_
  simp only[wQ,Nat.reduceEqDiff,reduceIte,f5,g1N]
 |cons x r ih2 =>
  intro i n fr hd hf h1
  obtain⟨hxx,hr,hi⟩:=b8S hd
  simp only[b9A,b8Z] at hf
  obtain⟨f0,f1,f5,f6,-⟩:=hf
  refine Xl.step ?_
  simp only[c5D]
  have c1:((i:Int) < (l.length:Int))=True:=g9P (by omega)
  have hw1:IntKind.wrap .i64 ((i:Int)+1)=((i+1:Nat):Int):=by rw[IntWalk.i64_in _ (by omega)];omega
  have hm:=g8B hxx
  have hW:=ok41 (gl:=gl) x.ex (hx x hm)
  have hc:=ih x hm
  have c0:(0≤(i:Int))=True:=g9P (by omega)
  rw[g1N] at h1
  by_cases c:n≤lim
  ·have c':(n≤lim)=True:=g9P c
   rw[if_pos c,g1O] at h1
   by_cases d:IntKind.i64.wrap (IntKind.i64.wrap (n+(x.name.length:Int))+wM x.ex lim)≤lim
   ·have d':=g9P d
    rw[if_pos d] at h1
    simp only[wA,seval,reduceCtorEq,reduceIte,f0,f1,f5,f6,d2S,d2T,hxx,g9F,d2R,hW,hc,hw1,c0,c1,c',d',g6D]
    exact ih2 (i+1) _ _ hr (by simp only[wQ,Nat.reduceEqDiff,reduceIte,f0,f1]) h1
   ·have d':=g9O d
    rw[if_neg d] at h1
    simp only[wA,seval,reduceCtorEq,reduceIte,f0,f1,f5,f6,d2S,d2T,hxx,g9F,d2R,hW,hw1,c0,c1,c',d',g6D]
    exact ih2 (i+1) _ _ hr (by simp only[wQ,Nat.reduceEqDiff,reduceIte,f0,f1]) h1
  ·have c':(n≤lim)=False:=g9O c
   rw[if_neg c] at h1
   simp only[wA,seval,reduceCtorEq,reduceIte,f0,f1,f5,f6,d2S,c1,c']
   refine h1 _ ?_
   simp only[wQ,Nat.reduceEqDiff,reduceIte,f5]
theorem of40 {nl:Bool} {l:List St} (hl:l.length≤B47) (hx:∀ a,a∈l→ExpOk a.ex) (ih:∀ a,a∈l→∀ lim K,XcP F gl 40 [.sl a.nl (d2P a.body),.int .i64 lim] K ⟨⟩↔K (.t (.int .i64 (g1N a.body lim (a.body.length:Int))))) (lim:Int) (K:PV→Prop):XcP F gl 40 [.sl nl (d2P l),.int .i64 lim] K ⟨⟩↔K (.t (.int .i64 (g1N l lim (l.length:Int)))):=by
 refine Ret.iff (Ret.of F40 rfl ?_)
 simp only[c5E]
 simp only[wA,seval,reduceCtorEq,reduceIte,d2S]
 refine g4P (nl:=nl) (l:=l) hl hx ih _ l 0 _ _ rfl (by simp only[wQ,Nat.reduceEqDiff,reduceIte];first|done|exact⟨rfl,rfl⟩|exact rfl) ?_
 intro fr' h
 simp only[wA,seval,reduceCtorEq,reduceIte,h]
theorem st40:∀ s:St,StOk s→∀ lim K,XcP F gl 40 [.sl s.nl (d2P s.body),.int .i64 lim] K ⟨⟩↔K (.t (.int .i64 (g1N s.body lim (s.body.length:Int)))):=by
 refine St.ind fun s ih ho=>?_
 cases ho with|mk _ h1 h2 h3 h4 h5 h6 h7 h8 h =>
 refine of40 h7 (fun a ha=>?_) fun a ha=>ih a ha (h a ha)
 have:=h a ha
 cases this with|mk _ h1 h2 h3 h4 h5 h6 h7 h8 h=>exact h4
theorem ok40 {nl:Bool} {l:List St} (hl:l.length≤B47) (h:∀ a,a∈l→StOk a) (lim:Int) (K:PV→Prop):XcP F gl 40 [.sl nl (d2P l),.int .i64 lim] K ⟨⟩↔K (.t (.int .i64 (g1N l lim (l.length:Int)))):=by
 refine of40 hl (fun a ha=>?_) (fun a ha=>st40 a (h a ha)) lim K
 have:=h a ha
 cases this with|mk _ h1 h2 h3 h4 h5 h6 h7 h8 h=>exact h4
theorem g4Q {f:Fu} (hl:f.params.length≤B47) {j:Nat} {sg:Sg} (hj:sg[j]?=some (false,(tFu f).map .t)) {ow:Ow} {w1 w4:PV} (Q:Ex→S→Prop):∀ (r:List Pa) (i:Nat) (n:Int) (fr:List PV),f.params.drop i=r →
  b8Y fr [(1,w1),(3,.t (.int .i64 n)),(4,w4),(5,.lp j 0),(6,.t (.int .i64 i))]→(∀ fr',b8Y fr' [(1,w1),(3,.t (.int .i64 (paW r n))),(4,w4)]→Q (.exit 2) ⟨fr',sg,ow⟩) →
  Xl F gl c3Y ⟨fr,sg,ow⟩ Q ⟨⟩:=by
 intro r
 have hb:B47=140737488355328:=rfl
 induction r with
 |nil =>
  intro i n fr hd hf h1
  have hd:=b8T hd
  simp only[b9A,b8Z] at hf
  obtain⟨f1,f3,f4,f5,f6,-⟩:=hf
  refine Xl.step ?_
  simp only[c3Y]
  have c1:((i:Int) < (f.params.length:Int))=False:=g9O (by omega)
  simp only[wA,seval,reduceCtorEq,reduceIte,f1,f3,f4,f5,f6,hj,g7N,c1,g7T,g7U]
  refine h1 _ ?_
  simp only[wQ,Nat.reduceEqDiff,reduceIte,f1,f3,f4,paW]
 |cons x r ih2 =>
  intro i n fr hd hf h1
  obtain⟨hx,hr,hi⟩:=b8S hd
  simp only[b9A,b8Z] at hf
  obtain⟨f1,f3,f4,f5,f6,-⟩:=hf
  refine Xl.step ?_
  simp only[c3Y]
  have c1:((i:Int) < (f.params.length:Int))=True:=g9P (by omega)
  have hw1:IntKind.wrap .i64 ((i:Int)+1)=((i+1:Nat):Int):=by rw[IntWalk.i64_in _ (by omega)];omega
  have c0:(0≤(i:Int))=True:=g9P (by omega)
  rw[paW] at h1
  by_cases c:n≤600
  ·have c':(n≤600)=True:=g9P c
   rw[if_pos c] at h1
   simp only[wA,seval,reduceCtorEq,reduceIte,f1,f3,f4,f5,f6,hj,g7N,g7C,hx,g9F,hw1,c0,c1,c',g6D,g7T,g7U]
   exact ih2 (i+1) _ _ hr (by simp only[wQ,Nat.reduceEqDiff,reduceIte,f1,f4,f5]) h1
  ·have c':(n≤600)=False:=g9O c
   rw[if_neg c] at h1
   simp only[wA,seval,reduceCtorEq,reduceIte,f1,f3,f4,f5,f6,hj,g7N,c1,c',g7T,g7U]
   refine h1 _ ?_
   simp only[wQ,Nat.reduceEqDiff,reduceIte,f1,f3,f4]
set_option maxHeartbeats 1000000 in
theorem g4R {p:Pg} (ho:PgOk p) {ow:Ow} (Q:Ex→S→Prop):∀ (r:List Fu) (i:Nat) (n:Int) (fr:List PV) (sg:Sg),p.funcs.drop i=r→sg[0]?=some (false,(tPg p).map .t) →
  b8Y fr [(1,.lp 0 0),(3,.t (.int .i64 n)),(4,.t (.int .i64 i))]→(∀ fr' sg',sg'[0]?=some (false,(tPg p).map .t)→b8Y fr' [(1,.lp 0 0),(3,.t (.int .i64 (g1P r n)))]→Q (.exit 0) ⟨fr',sg',ow⟩) →
  Xl F gl c3Z ⟨fr,sg,ow⟩ Q ⟨⟩:=by
 intro r
 have hb:B47=140737488355328:=rfl
 have hl:=ho.fl
 induction r with
 |nil =>
  intro i n fr sg hd hy hf h1
  have hd:=b8T hd
  simp only[b9A,b8Z] at hf
  obtain⟨f1,f3,f4,-⟩:=hf
  refine Xl.step ?_
  simp only[c3Z]
  have c1:((i:Int) < (p.funcs.length:Int))=False:=g9O (by omega)
  simp only[wA,seval,reduceCtorEq,reduceIte,f1,f3,f4,hy,g7N,c1,g7T,g7U]
  refine h1 _ _ hy ?_
  simp only[wQ,Nat.reduceEqDiff,reduceIte,f1,f3,g1P]
 |cons x r ih2 =>
  intro i n fr sg hd hy hf h1
  obtain⟨hx,hr,hi⟩:=b8S hd
  simp only[b9A,b8Z] at hf
  obtain⟨f1,f3,f4,-⟩:=hf
  refine Xl.step ?_
  simp only[c3Z]
  have c1:((i:Int) < (p.funcs.length:Int))=True:=g9P (by omega)
  have hw1:IntKind.wrap .i64 ((i:Int)+1)=((i+1:Nat):Int):=by rw[IntWalk.i64_in _ (by omega)];omega
  have c0:(0≤(i:Int))=True:=g9P (by omega)
  have hF:=ho.fo x (g8B hx)
  have hS:=ok40 (gl:=gl) (nl:=x.bnl) hF.bl hF.bo 600
  have hW:=ok41 (gl:=gl) x.ret hF.ret 600
  have hlt:=d5A hy
  rw[g1P] at h1
  by_cases c:n≤600
  ·have c':(n≤600)=True:=g9P c
   rw[if_pos c] at h1
   have hay:=fun z=>(d5F hlt z).trans hy
   have hly:∀ z,(sg++[z])[sg.length]?=some z:=fun z=>g6X
   simp only[wA,seval,reduceCtorEq,reduceIte,f1,f3,f4,hy,g7N,g7C,hx,g9F,hS,hW,c0,c1,c',g6D,g7T,g7U]
   refine g4Q (f:=x) hF.pl (j:=sg.length) (hly _) (w1:=.lp 0 0) (w4:=.t (.int .i64 i)) _ x.params 0 _ _ rfl (by simp only[wQ,Nat.reduceEqDiff,reduceIte,f1,f4];first|done|exact⟨rfl,rfl⟩|exact rfl) ?_
   intro fr' hf'
   simp only[b9A,b8Z] at hf'
   obtain⟨q1,q3,q4,-⟩:=hf'
   simp only[wA,seval,reduceCtorEq,reduceIte,q1,q3,q4,hw1]
   exact ih2 (i+1) _ _ _ hr (hay _) (by simp only[wQ,Nat.reduceEqDiff,reduceIte,q1,q3];first|done|exact rfl|exact⟨rfl,rfl⟩) h1
  ·have c':(n≤600)=False:=g9O c
   rw[if_neg c] at h1
   simp only[wA,seval,reduceCtorEq,reduceIte,f1,f3,f4,hy,g7N,c1,c',g7T,g7U]
   refine h1 _ _ hy ?_
   simp only[wQ,Nat.reduceEqDiff,reduceIte,f1,f3]
theorem g4S {p:Pg} (ho:PgOk p) {sg:Sg} (hy:sg[0]?=some (false,(tPg p).map .t)) {ow:Ow} (Q:Ex→S→Prop):∀ (r:List De) (i:Nat) (n:Int) (fr:List PV),p.decls.drop i=r →
  b8Y fr [(1,.lp 0 0),(3,.t (.int .i64 n)),(7,.t (.int .i64 i))]→(∀ fr',a0A fr' 3=.t (.int .i64 (deW r n))→Q (.exit 4) ⟨fr',sg,ow⟩) →
  Xl F gl c3X ⟨fr,sg,ow⟩ Q ⟨⟩:=by
 intro r
 have hb:B47=140737488355328:=rfl
 have hl:=ho.dl
 induction r with
 |nil =>
  intro i n fr hd hf h1
  have hd:=b8T hd
  simp only[b9A,b8Z] at hf
  obtain⟨f1,f3,f7,-⟩:=hf
  refine Xl.step ?_
  simp only[c3X]
  have c1:((i:Int) < (p.decls.length:Int))=False:=g9O (by omega)
  simp only[wA,seval,reduceCtorEq,reduceIte,f1,f3,f7,hy,g7N,c1,g7T,g7U]
  refine h1 _ ?_
  simp only[wQ,Nat.reduceEqDiff,reduceIte,f3,deW]
 |cons x r ih2 =>
  intro i n fr hd hf h1
  obtain⟨hx,hr,hi⟩:=b8S hd
  simp only[b9A,b8Z] at hf
  obtain⟨f1,f3,f7,-⟩:=hf
  refine Xl.step ?_
  simp only[c3X]
  have c1:((i:Int) < (p.decls.length:Int))=True:=g9P (by omega)
  have hw1:IntKind.wrap .i64 ((i:Int)+1)=((i+1:Nat):Int):=by rw[IntWalk.i64_in _ (by omega)];omega
  have c0:(0≤(i:Int))=True:=g9P (by omega)
  rw[deW] at h1
  by_cases c:n≤600
  ·have c':(n≤600)=True:=g9P c
   rw[if_pos c] at h1
   simp only[wA,seval,reduceCtorEq,reduceIte,f1,f3,f7,hy,g7N,g7C,hx,g9F,hw1,c0,c1,c',g6D,g7T,g7U]
   exact ih2 (i+1) _ _ hr (by simp only[wQ,Nat.reduceEqDiff,reduceIte,f1]) h1
  ·have c':(n≤600)=False:=g9O c
   rw[if_neg c] at h1
   simp only[wA,seval,reduceCtorEq,reduceIte,f1,f3,f7,hy,g7N,c1,c',g7T,g7U]
   refine h1 _ ?_
   simp only[wQ,Nat.reduceEqDiff,reduceIte,f3]
theorem ok15 {p:Pg} (ho:PgOk p) (K:PV→Prop):XcP F gl 15 [.agg (tPg p)] K ⟨⟩↔K (.t (.bool (decide (smW p≤600)))):=by
 have hS:=ok40 (gl:=gl) (nl:=p.bnl) ho.bl ho.bo 600
 refine Ret.iff (Ret.of F15 rfl ?_)
 simp only[c4A]
 simp only[wA,seval,reduceCtorEq,reduceIte,hS,g7N]
 refine g4R ho _ p.funcs 0 _ _ _ rfl rfl (by simp only[wQ,Nat.reduceEqDiff,reduceIte];first|done|exact⟨rfl,rfl⟩|exact rfl) ?_
 intro fr1 sg1 hy1 hf
 simp only[b9A,b8Z] at hf
 obtain⟨q1,q3,-⟩:=hf
 simp only[wA,seval,reduceCtorEq,reduceIte,q1,q3]
 refine g4S ho hy1 _ p.decls 0 _ _ rfl (by simp only[wQ,Nat.reduceEqDiff,reduceIte,q1,q3];first|done|exact⟨rfl,rfl⟩|exact rfl) ?_
 intro fr2 h
 have hdef:deW p.decls (g1P p.funcs (IntKind.i64.wrap (IntKind.i64.wrap (g1N p.body 600 (p.body.length:Int)+(p.decls.length:Int))+(p.funcs.length:Int))))=smW p:=rfl
 rw[hdef] at h
 by_cases c:smW p≤600
 ·have c':(smW p≤600)=True:=g9P c
  simp only[wA,seval,reduceCtorEq,reduceIte,h,c']
 ·have c':(smW p≤600)=False:=g9O c
  simp only[wA,seval,reduceCtorEq,reduceIte,h,c']
end Go.Proofs.YtcbgiabippcpaaaGreatDoor

/- The reference's Same: a program is the same as it is with the parser's nil bits. -/
namespace Go.Proofs.YtcbgiabippcpaaaGreatDoor
open Go.Pi Go.Lx Go.Ky
variable {gl:Nat→Option (List T)}
abbrev cL (e:Exp):List T:=[.int .i64 e.op,.int .u64 e.val,.str e.name,.sl e.args.isEmpty (d2K (e.args.map f3P))]
theorem g4T (e:Exp):tEx (f3P e)=cL e:=by rw[f3S,tEx]
abbrev cS (s:St):List T:=[.int .i64 s.kind,.str s.name,.bool s.typed,.int .i64 s.ty.kind,.int .i64 s.ty.bits,.int .i64 s.ty.len,.int .i64 s.ex.op,.int .u64 s.ex.val,.str s.ex.name,.sl s.ex.args.isEmpty (d2K (s.ex.args.map f3P)),.int .i64 s.lo,.int .i64 s.hi,.sl s.body.isEmpty (d2P (s.body.map f7U))]
theorem g4U (s:St):tSt (f7U s)=cS s:=by rw[f7X,tSt,f3S];rfl
abbrev cF (f:Fu):List T:=[.str f.name,.sl f.params.isEmpty (f.params.map tPa),.int .i64 f.res.kind,.int .i64 f.res.bits,.int .i64 f.res.len,.sl f.body.isEmpty (d2P (f.body.map f7U)),.int .i64 f.ret.op,.int .u64 f.ret.val,.str f.ret.name,.sl f.ret.args.isEmpty (d2K (f.ret.args.map f3P))]
theorem g4V (f:Fu):tFu (f8V f)=cF f:=by
 unfold f8V tFu
 simp only[f3S f.ret]
 rfl
abbrev cP (p:Pg):List T:=[.sl p.funcs.isEmpty ((p.funcs.map f8V).map tFu),.sl p.decls.isEmpty (p.decls.map tDe),.sl p.body.isEmpty (d2P (p.body.map f7U))]
set_option maxHeartbeats 1000000 in
theorem g4W {e:Exp} (hl:e.args.length≤B20) (ih:∀ a,a∈e.args→∀ K,XcP F gl 13 [.agg (eL a),.agg (cL a)] K ⟨⟩↔K (.t (.bool true))) {ow:Ow} (Q:Ex→S→Prop):∀ (r:List Exp) (i:Nat) (fr:List PV),e.args.drop i=r →
  b8Y fr [(2,.lp 0 0),(3,.lp 1 0),(5,.t (.int .i64 i))]→(∀ fr',Q (.exit 0) ⟨fr',[(false,(eL e).map .t),(false,(cL e).map .t)],ow⟩) →
  Xl F gl c3V ⟨fr,[(false,(eL e).map .t),(false,(cL e).map .t)],ow⟩ Q ⟨⟩:=by
 intro r
 have hb:B20=1100000:=rfl
 induction r with
 |nil =>
  intro i fr hd hf h1
  have hd:=b8T hd
  simp only[b9A,b8Z] at hf
  obtain⟨f2,f3,f5,-⟩:=hf
  refine Xl.step ?_
  simp only[c3V]
  have c1:((i:Int) < (e.args.length:Int))=False:=g9O (by omega)
  simp only[wA,seval,reduceCtorEq,reduceIte,f2,f3,f5,d2N,g7N,c1,g7T,g7U]
  exact h1 _
 |cons x r ih2 =>
  intro i fr hd hf h1
  obtain⟨hx,hr,hi⟩:=b8S hd
  simp only[b9A,b8Z] at hf
  obtain⟨f2,f3,f5,-⟩:=hf
  refine Xl.step ?_
  simp only[c3V]
  have c1:((i:Int) < (e.args.length:Int))=True:=g9P (by omega)
  have hw1:IntKind.wrap .i64 ((i:Int)+1)=((i+1:Nat):Int):=by rw[IntWalk.i64_in _ (by omega)];omega
  have hc:=ih x (g8B hx)
  have c0:(0≤(i:Int))=True:=g9P (by omega)
  have g1:(d2K e.args)[i]?=some (eL x):=by rw[d2O,hx,g9F,d2M]
  have g2:(d2K (e.args.map f3P))[i]?=some (cL x):=by rw[d2O,g7C,hx,g9F,g9F,g4T]
  simp only[wA,seval,reduceCtorEq,reduceIte,f2,f3,f5,d2N,g1,g2,hc,hw1,c0,c1,g6D,g7N,g7T,g7U]
  exact ih2 (i+1) _ hr (by simp only[wQ,Nat.reduceEqDiff,reduceIte,f2,f3]) h1
set_option maxHeartbeats 1000000 in
theorem g4X:∀ e:Exp,szE e≤B20→∀ K,XcP F gl 13 [.agg (eL e),.agg (cL e)] K ⟨⟩↔K (.t (.bool true)):=by
 refine Exp.ind fun e ih hs K=>?_
 have hz:=d3J e
 have hl:=d3P e.args
 refine Ret.iff (Ret.of F13 rfl ?_)
 simp only[c3W]
 simp only[wA,seval,reduceCtorEq,reduceIte,d2N,g7N,BEq.rfl,bne_self_eq_false,g5Y,ne_eq,g9R,decide_false]
 refine g4W (e:=e) (by omega) (fun a ha=>ih a ha (by have:=d3N ha;omega)) _ e.args 0 _ rfl (by simp only[wQ,Nat.reduceEqDiff,reduceIte]) ?_
 intro fr'
 simp only[wA,seval,reduceCtorEq,reduceIte]
set_option maxHeartbeats 2000000 in
theorem g4Y {n1 n2:Bool} {l:List St} (hl:l.length≤B20) (hx:∀ a,a∈l→szE a.ex≤B20) (ih:∀ a,a∈l→∀ n1 n2 K,XcP F gl 30 [.sl n1 (d2P a.body),.sl n2 (d2P (a.body.map f7U))] K ⟨⟩↔K (.t (.bool true))) {ow:Ow} (Q:Ex→S→Prop):∀ (r:List St) (i:Nat) (fr:List PV) (sg:Sg),l.drop i=r →
  b8Y fr [(0,.t (.sl n1 (d2P l))),(1,.t (.sl n2 (d2P (l.map f7U)))),(5,.t (.int .i64 i))]→(∀ fr' sg',Q (.exit 0) ⟨fr',sg',ow⟩) →
  Xl F gl c4R ⟨fr,sg,ow⟩ Q ⟨⟩:=by
 intro r
 have hb:B20=1100000:=rfl
 induction r with
 |nil =>
  intro i fr sg hd hf h1
  have hd:=b8T hd
  simp only[b9A,b8Z] at hf
  obtain⟨f0,f1,f5,-⟩:=hf
  refine Xl.step ?_
  simp only[c4R]
  have c1:((i:Int) < (l.length:Int))=False:=g9O (by omega)
  simp only[wA,seval,reduceCtorEq,reduceIte,f0,f1,f5,d2S,g7N,c1]
  exact h1 _ _
 |cons x r ih2 =>
  intro i fr sg hd hf h1
  obtain⟨hxx,hr,hi⟩:=b8S hd
  simp only[b9A,b8Z] at hf
  obtain⟨f0,f1,f5,-⟩:=hf
  refine Xl.step ?_
  simp only[c4R]
  have hm:=g8B hxx
  have c1:((i:Int) < (l.length:Int))=True:=g9P (by omega)
  have hw1:IntKind.wrap .i64 ((i:Int)+1)=((i+1:Nat):Int):=by rw[IntWalk.i64_in _ (by omega)];omega
  have hc:=ih x hm
  have hE:=g4X (gl:=gl) x.ex (hx x hm)
  have c0:(0≤(i:Int))=True:=g9P (by omega)
  have g1:(d2P l)[i]?=some [.int .i64 x.kind,.str x.name,.bool x.typed,.int .i64 x.ty.kind,.int .i64 x.ty.bits,.int .i64 x.ty.len,.int .i64 x.ex.op,.int .u64 x.ex.val,.str x.ex.name,.sl x.ex.nl (d2K x.ex.args),.int .i64 x.lo,.int .i64 x.hi,.sl x.nl (d2P x.body)]:=by rw[d2T,hxx,g9F,d2R]
  have g2:(d2P (l.map f7U))[i]?=some (cS x):=by rw[d2T,g7C,hxx,g9F,g9F,g4U]
  simp only[wA,seval,reduceCtorEq,reduceIte,f0,f1,f5,d2S,g7N,g1,g2,hc,hE,hw1,c0,c1,g6D,d5K,b3I,b3J,b3K,b3L,BEq.rfl,bne_self_eq_false,g5Y,ne_eq,g9R,decide_false]
  exact ih2 (i+1) _ _ hr (by simp only[wQ,Nat.reduceEqDiff,reduceIte,f0,f1]) h1
theorem g4Z:∀ (n:Nat) (l:List St),d3I l≤n→n≤B20→∀ n1 n2 K,XcP F gl 30 [.sl n1 (d2P l),.sl n2 (d2P (l.map f7U))] K ⟨⟩↔K (.t (.bool true)):=by
 intro n
 induction n using Nat.strongRecOn with
 |_ n ih =>
  intro l hs hn n1 n2 K
  have hl:=d3Q l
  refine Ret.iff (Ret.of F30 rfl ?_)
  simp only[c4S]
  simp only[wA,seval,reduceCtorEq,reduceIte,d2S,g7N,BEq.rfl,bne_self_eq_false,g5Y,ne_eq,g9R,decide_false]
  refine g4Y (n1:=n1) (n2:=n2) (l:=l) (by omega) (fun a ha=>?_) (fun a ha=>?_) _ l 0 _ _ rfl (by simp only[wQ,Nat.reduceEqDiff,reduceIte]) ?_
  ·have h1:=d3O ha
   rw[d3L] at h1
   rw[d3J]
   omega
  ·have h1:=d3O ha
   rw[d3L] at h1
   exact ih (d3I a.body) (by omega) a.body (g8S _) (by omega)
  ·intro fr' sg'
   simp only[wA,seval,reduceCtorEq,reduceIte]
theorem g5A {l:List St} (hs:d3I l≤B20) (n1 n2:Bool) (K:PV→Prop):XcP F gl 30 [.sl n1 (d2P l),.sl n2 (d2P (l.map f7U))] K ⟨⟩↔K (.t (.bool true)):=g4Z _ l (g8S _) hs n1 n2 K
set_option maxHeartbeats 1000000 in
theorem g5B {f:Fu} (hl:f.params.length≤20000) {ow:Ow} (Q:Ex→S→Prop):∀ (r:List Pa) (i:Nat) (fr:List PV),f.params.drop i=r →
  b8Y fr [(2,.lp 0 0),(3,.lp 1 0),(5,.t (.int .i64 i))]→(∀ fr',Q (.exit 0) ⟨fr',[(false,(tFu f).map .t),(false,(cF f).map .t)],ow⟩) →
  Xl F gl c4T ⟨fr,[(false,(tFu f).map .t),(false,(cF f).map .t)],ow⟩ Q ⟨⟩:=by
 intro r
 induction r with
 |nil =>
  intro i fr hd hf h1
  have hd:=b8T hd
  simp only[b9A,b8Z] at hf
  obtain⟨f2,f3,f5,-⟩:=hf
  refine Xl.step ?_
  simp only[c4T]
  have c1:((i:Int) < (f.params.length:Int))=False:=g9O (by omega)
  simp only[wA,seval,reduceCtorEq,reduceIte,f2,f3,f5,g7N,c1,g7T,g7U]
  exact h1 _
 |cons x r ih2 =>
  intro i fr hd hf h1
  obtain⟨hx,hr,hi⟩:=b8S hd
  simp only[b9A,b8Z] at hf
  obtain⟨f2,f3,f5,-⟩:=hf
  refine Xl.step ?_
  simp only[c4T]
  have c1:((i:Int) < (f.params.length:Int))=True:=g9P (by omega)
  have hw1:IntKind.wrap .i64 ((i:Int)+1)=((i+1:Nat):Int):=by rw[IntWalk.i64_in _ (by omega)];omega
  have c0:(0≤(i:Int))=True:=g9P (by omega)
  simp only[wA,seval,reduceCtorEq,reduceIte,f2,f3,f5,g7N,g7C,hx,g9F,hw1,c0,c1,g6D,g7T,g7U,BEq.rfl,bne_self_eq_false,g5Y,ne_eq,g9R,decide_false]
  exact ih2 (i+1) _ hr (by simp only[wQ,Nat.reduceEqDiff,reduceIte,f2,f3]) h1
set_option maxHeartbeats 1000000 in
theorem g5C {f:Fu} (hf:FuB f) (K:PV→Prop):XcP F gl 31 [.agg (tFu f),.agg (cF f)] K ⟨⟩↔K (.t (.bool true)):=by
 refine Ret.iff (Ret.of F31 rfl ?_)
 simp only[c4U]
 have hS:=g5A (gl:=gl) hf.bd f.bnl f.body.isEmpty
 have hE:=g4X (gl:=gl) f.ret hf.rt
 simp only[wA,seval,reduceCtorEq,reduceIte,g7N,hS,hE,BEq.rfl,bne_self_eq_false,g5Y,ne_eq,g9R,decide_false]
 refine g5B (f:=f) hf.ps _ f.params 0 _ rfl (by simp only[wQ,Nat.reduceEqDiff,reduceIte]) ?_
 intro fr'
 simp only[wA,seval,reduceCtorEq,reduceIte]
set_option maxHeartbeats 1000000 in
theorem g5D {p:Pg} (hp:PgR p) {ow:Ow} (Q:Ex→S→Prop):∀ (r:List Fu) (i:Nat) (fr:List PV),p.funcs.drop i=r →
  b8Y fr [(2,.lp 0 0),(3,.lp 1 0),(5,.t (.int .i64 i))]→(∀ fr',b8Y fr' [(2,.lp 0 0),(3,.lp 1 0)]→Q (.exit 0) ⟨fr',[(false,(tPg p).map .t),(false,(cP p).map .t)],ow⟩) →
  Xl F gl c3S ⟨fr,[(false,(tPg p).map .t),(false,(cP p).map .t)],ow⟩ Q ⟨⟩:=by
 intro r
 have hl:=hp.fl
 induction r with
 |nil =>
  intro i fr hd hf h1
  have hd:=b8T hd
  simp only[b9A,b8Z] at hf
  obtain⟨f2,f3,f5,-⟩:=hf
  refine Xl.step ?_
  simp only[c3S]
  have c1:((i:Int) < (p.funcs.length:Int))=False:=g9O (by omega)
  simp only[wA,seval,reduceCtorEq,reduceIte,f2,f3,f5,g7N,c1,g7T,g7U]
  exact h1 _ (by simp only[wQ,Nat.reduceEqDiff,reduceIte,f2,f3])
 |cons x r ih2 =>
  intro i fr hd hf h1
  obtain⟨hx,hr,hi⟩:=b8S hd
  simp only[b9A,b8Z] at hf
  obtain⟨f2,f3,f5,-⟩:=hf
  refine Xl.step ?_
  simp only[c3S]
  have c1:((i:Int) < (p.funcs.length:Int))=True:=g9P (by omega)
  have hw1:IntKind.wrap .i64 ((i:Int)+1)=((i+1:Nat):Int):=by rw[IntWalk.i64_in _ (by omega)];omega
  have hc:=g5C (gl:=gl) (hp.fs x (g8B hx))
  have c0:(0≤(i:Int))=True:=g9P (by omega)
  have g1:(p.funcs.map tFu)[i]?=some (tFu x):=by rw[g7C,hx,g9F]
  have g2:((p.funcs.map f8V).map tFu)[i]?=some (cF x):=by rw[g7C,g7C,hx,g9F,g9F,g4V]
  simp only[wA,seval,reduceCtorEq,reduceIte,f2,f3,f5,g7N,g1,g2,hc,hw1,c0,c1,g6D,g7T,g7U]
  exact ih2 (i+1) _ hr (by simp only[wQ,Nat.reduceEqDiff,reduceIte,f2,f3]) h1
set_option maxHeartbeats 1000000 in
theorem g5E {p:Pg} (hp:PgR p) {ow:Ow} (Q:Ex→S→Prop):∀ (r:List De) (i:Nat) (fr:List PV),p.decls.drop i=r →
  b8Y fr [(2,.lp 0 0),(3,.lp 1 0),(6,.t (.int .i64 i))]→(∀ fr',Q (.exit 2) ⟨fr',[(false,(tPg p).map .t),(false,(cP p).map .t)],ow⟩) →
  Xl F gl c3R ⟨fr,[(false,(tPg p).map .t),(false,(cP p).map .t)],ow⟩ Q ⟨⟩:=by
 intro r
 have hl:=hp.dl
 induction r with
 |nil =>
  intro i fr hd hf h1
  have hd:=b8T hd
  simp only[b9A,b8Z] at hf
  obtain⟨f2,f3,f5,-⟩:=hf
  refine Xl.step ?_
  simp only[c3R]
  have c1:((i:Int) < (p.decls.length:Int))=False:=g9O (by omega)
  simp only[wA,seval,reduceCtorEq,reduceIte,f2,f3,f5,g7N,c1,g7T,g7U]
  exact h1 _
 |cons x r ih2 =>
  intro i fr hd hf h1
  obtain⟨hx,hr,hi⟩:=b8S hd
  simp only[b9A,b8Z] at hf
  obtain⟨f2,f3,f5,-⟩:=hf
  refine Xl.step ?_
  simp only[c3R]
  have c1:((i:Int) < (p.decls.length:Int))=True:=g9P (by omega)
  have hw1:IntKind.wrap .i64 ((i:Int)+1)=((i+1:Nat):Int):=by rw[IntWalk.i64_in _ (by omega)];omega
  have c0:(0≤(i:Int))=True:=g9P (by omega)
  simp only[wA,seval,reduceCtorEq,reduceIte,f2,f3,f5,g7N,g7C,hx,g9F,hw1,c0,c1,g6D,g7T,g7U,BEq.rfl,bne_self_eq_false,g5Y,ne_eq,g9R,decide_false]
  exact ih2 (i+1) _ hr (by simp only[wQ,Nat.reduceEqDiff,reduceIte,f2,f3]) h1
set_option maxHeartbeats 1000000 in
theorem g5F {p:Pg} (hp:PgR p) (K:PV→Prop):XcP F gl 11 [.agg (tPg p),.agg (cP p)] K ⟨⟩↔K (.t (.bool true)):=by
 refine Ret.iff (Ret.of F11 rfl ?_)
 simp only[c3T]
 have hS:=g5A (gl:=gl) hp.bd p.bnl p.body.isEmpty
 simp only[wA,seval,reduceCtorEq,reduceIte,g7N,hS,BEq.rfl,bne_self_eq_false,g5Y,ne_eq,g9R,decide_false]
 refine g5D (p:=p) hp _ p.funcs 0 _ rfl (by simp only[wQ,Nat.reduceEqDiff,reduceIte]) ?_
 intro fr' hf
 simp only[b9A,b8Z] at hf
 obtain⟨f2,f3,-⟩:=hf
 simp only[wA,seval,reduceCtorEq,reduceIte,f2,f3]
 refine g5E (p:=p) hp _ p.decls 0 _ rfl (by simp only[wQ,Nat.reduceEqDiff,reduceIte,f2,f3]) ?_
 intro fr'
 simp only[wA,seval,reduceCtorEq,reduceIte]
end Go.Proofs.YtcbgiabippcpaaaGreatDoor

/- The law of a program that is formatted and parsed. -/
namespace Go.Proofs.YtcbgiabippcpaaaGreatDoor
open Go.Pi Go.Lx Go.Ky
variable {gl:Nat→Option (List T)}
set_option maxHeartbeats 4000000 in
theorem law6 (hg:GlOk gl) (h2:gl 1=some (p10.map (T.int .u64))) (p:Pg) (ho:PgOk p):Ret F gl 6 [.agg (tPg p)] (.t (.bool true)):=by
 refine Ret.of F6 rfl ?_
 simp only[ir6]
 have ha:=fun K=>ok8 (gl:=gl) hg (K:=K)
 have hS:=ok15 (gl:=gl) ho
 by_cases c:smW p≤600
 ·have c':decide (smW p≤600)=true:=g9M c
  rw[c'] at hS
  have hw:=g2A ho c
  obtain⟨s1,s2,s3,s4⟩:=g2B hw
  have e20:B20=1100000:=rfl
  have hz:PgSz p:=⟨fun f h=>⟨by have:=(s1 f h).1;omega,by have:=(s1 f h).2.1;omega⟩,by omega⟩
  have hR:PgR p:=⟨fun f h=>⟨by have:=(s1 f h).1;omega,by have:=(s1 f h).2.1;omega,by have:=(s1 f h).2.2;omega⟩,by omega,by omega,by omega⟩
  have hl:=g1L ho
  have hF:=fun K=>ok16 (gl:=gl) h2 ho hz (fun _=>by omega) (K:=K)
  unfold g4N at hF
  by_cases hv:d4L p=0
  ·simp only[if_neg (fun h:d4L p≠0=>h hv)] at hF
   by_cases h9:16384 < (f9Z p).length
   ·simp only[if_pos h9] at hF
    simp only[wA,seval,reduceCtorEq,reduceIte,ha,hS,hF]
   ·simp only[if_neg h9] at hF
    have hP:∀ K,XcP F gl 9 [.str (f9Z p)] K ⟨⟩↔K (.tup [.t (.agg (cP p)),.t (.int .i64 0),.t (.int .i64 0)]):=by
     intro K
     rw[ok9 (gl:=gl) hg (f9Z p) (n:=fuX+wP p) (g8T (e6O _) (Nat.le_add_right _ _))]
     unfold prV
     rw[g0B hv ho (by omega) (g8P _ _)]
     exact g6B
    have hC:=g5F (gl:=gl) hR
    simp only[wA,seval,reduceCtorEq,reduceIte,ha,hS,hF,hP,hC]
  ·simp only[if_pos hv] at hF
   have hv':(d4L p=0)=False:=g9O hv
   simp only[wA,seval,reduceCtorEq,reduceIte,ha,hS,hF,hv']
 ·have c':decide (smW p≤600)=false:=g9L c
  rw[c'] at hS
  simp only[wA,seval,reduceCtorEq,reduceIte,ha,hS]
end Go.Proofs.YtcbgiabippcpaaaGreatDoor
