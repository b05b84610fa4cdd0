/- The reference's validity: names, types, operators, expressions (of valid ones). -/
import Derived.Test.YtcbgiabippcpaaaGreatDoorM36
import Derived.Test.YtcbgiabippcpaaaGreatDoorKx67
set_option maxRecDepth 10000
set_option linter.unusedVariables false
set_option linter.unusedSimpArgs false
namespace Go.Proofs.YtcbgiabippcpaaaGreatDoor
open Go.Pi Go.Lx Go.Ky
variable {gl:Nat→Option (List T)}
def g6O:List (List UInt8) :=
 [[102,110],[114,101,116,117,114,110],[112,117,98,108,105,99],[115,101,99,114,101,116],[102,105,101,108,100],[98,111,111,108],[117,105,110,116],[108,101,116],[97,115,115,101,114,116],[102,111,114],[105,110],[116,114,117,101],[102,97,108,115,101],[97,110,100],[111,114],[110,111,116],[104,97,115,104]]
theorem g6P:∀ k,k∈g6O→k∈keywords:=by decide
theorem g6Q {s:List UInt8} (h:d3I s=true):∃ c r,s=c::r∧s.length≤24∧97≤(c.toNat:Int)∧(c.toNat:Int)≤122∧(∀ x,x∈s→d0N x=true)∧∀ k,k∈g6O→k≠s:=by
 cases s with
 |nil=>cases h
 |cons c r =>
  rw[d3I] at h
  simp only[h0S,h4S,e3V] at h
  obtain⟨⟨⟨h1,h2,h3⟩,h4⟩,h5⟩:=h
  refine⟨c,r,rfl,h1,h2,h3,fun x hx=>g1C (p:=d0N) (c::r) x (by rw[h4,List.take_length];exact hx),fun k hk e=>?_⟩
  have:=g6P k hk
  rw[e] at this
  have h6:keywords.contains (c::r)=true:=List.contains_iff_mem.2 this
  rw[h6] at h5;simp at h5
theorem g6R {l:List (List UInt8)} (hl:l.length≤20) {s:List UInt8} (hs:∀ k,k∈l→k≠s) {sg:Sg} {ow:Ow} (Q:Ex→S→Prop):∀ (r:List (List UInt8)) (i:Nat) (fr:List PV),l.drop i=r →
  b8Y fr [(0,.t (.str s)),(3,.lit (e4E l)),(4,.t (.int .i64 i))] →
  (∀ fr',Q (.exit 0) ⟨fr',sg,ow⟩) →
  Xl F gl c7E ⟨fr,sg,ow⟩ Q ⟨⟩:=by
 intro r
 induction r with
 |nil =>
  intro i fr hd hf h1
  have hd:=b8T hd
  simp only[b9A,b8Z] at hf
  obtain⟨f0,f3,f4,-⟩:=hf
  refine Xl.step ?_
  simp only[c7E]
  have e:(e4E l).length=l.length:=by simp [e4E]
  have c1:((i:Int) < (l.length:Int))=False:=h4U (by omega)
  simp only[wA,seval,reduceCtorEq,reduceIte,f0,f3,f4,e,c1]
  exact h1 _
 |cons x r ih =>
  intro i fr hd hf h1
  obtain⟨hx,hr,hi⟩:=b8S hd
  simp only[b9A,b8Z] at hf
  obtain⟨f0,f3,f4,-⟩:=hf
  refine Xl.step ?_
  simp only[c7E]
  have c1:((i:Int) < (l.length:Int))=True:=h4V (by omega)
  have c0:(0≤(i:Int))=True:=h4V (by omega)
  have hw1:IntKind.wrap .i64 ((i:Int)+1)=((i+1:Nat):Int):=by rw[IntWalk.i64_in _ (by omega)];omega
  have c:(x=s)=False:=h4U (hs x (h3C hx))
  simp only[wA,seval,reduceCtorEq,reduceIte,f0,f3,f4,e4E,h2O,c1,c0,hw1,h2D,hx,c,h4I,h1D]
  exact ih (i+1) _ hr (by simp only[wQ,Nat.reduceEqDiff,reduceIte,f0,f3,e4E]) h1
theorem ok83 {s:List UInt8} (hs:∀ k,k∈g6O→k≠s) {K:PV→Prop}:XcP F gl 83 [.str s] K ⟨⟩↔K (.t (.bool false)):=by
 refine Ret.iff (Ret.of F83 rfl ?_)
 simp only[c7F]
 simp only[wA,seval,reduceCtorEq,reduceIte,b6J,a0C,a0M,T.isAgg,List.replicate,h1S,h1T,h1J]
 refine g6R (l:=g6O) (by decide) (s:=s) hs _ g6O 0 _ rfl (by simp only[wQ,Nat.reduceEqDiff,reduceIte];rfl) ?_
 intro fr'
 simp only[wA,seval,reduceCtorEq,reduceIte]
theorem g6S {s:List UInt8} (hl:s.length≤24) (hn:∀ x,x∈s→d0N x=true) {sg:Sg} {ow:Ow} (Q:Ex→S→Prop):∀ (r:List UInt8) (i:Nat) (fr:List PV),s.drop i=r →
  b8Y fr [(0,.t (.str s)),(3,.t (.int .i64 i))] →
  (∀ fr',Q (.exit 0) ⟨fr',sg,ow⟩) →
  Xl F gl c5N ⟨fr,sg,ow⟩ Q ⟨⟩:=by
 intro r
 induction r with
 |nil =>
  intro i fr hd hf h1
  have hd:=b8T hd
  simp only[b9A,b8Z] at hf
  obtain⟨f0,f3,-⟩:=hf
  refine Xl.step ?_
  simp only[c5N]
  have c1:((i:Int) < (s.length:Int))=False:=h4U (by omega)
  simp only[wA,seval,reduceCtorEq,reduceIte,f0,f3,c1]
  exact h1 _
 |cons x r ih =>
  intro i fr hd hf h1
  obtain⟨hx,hr,hi⟩:=b8S hd
  simp only[b9A,b8Z] at hf
  obtain⟨f0,f3,-⟩:=hf
  refine Xl.step ?_
  simp only[c5N]
  have c1:((i:Int) < (s.length:Int))=True:=h4V (by omega)
  have c0:(0≤(i:Int))=True:=h4V (by omega)
  have hw1:IntKind.wrap .i64 ((i:Int)+1)=((i+1:Nat):Int):=by rw[IntWalk.i64_in _ (by omega)];omega
  have hq:=hn x (h3C hx)
  rw[e4A,e3V,e3W] at hq
  simp only[h0Y,h0S,h4S] at hq
  rcases hq with(⟨q1,q2⟩|⟨q1,q2⟩)|q
  ·have e1:((x.toNat:Int)=95)=False:=h4U (by omega)
   have e2:((x.toNat:Int) < 97)=False:=h4U (by omega)
   have e3:((x.toNat:Int) > 122)=False:=h4U (by omega)
   simp only[wA,seval,reduceCtorEq,reduceIte,f0,f3,c1,c0,hw1,h1D,hx,e1,e2,e3]
   exact ih (i+1) _ hr (by simp only[wQ,Nat.reduceEqDiff,reduceIte,f0]) h1
  ·have e1:((x.toNat:Int)=95)=False:=h4U (by omega)
   have e2:((x.toNat:Int) < 97)=True:=h4V (by omega)
   have e3:((x.toNat:Int) < 48)=False:=h4U (by omega)
   have e4:((x.toNat:Int) > 57)=False:=h4U (by omega)
   simp only[wA,seval,reduceCtorEq,reduceIte,f0,f3,c1,c0,hw1,h1D,hx,e1,e2,e3,e4]
   exact ih (i+1) _ hr (by simp only[wQ,Nat.reduceEqDiff,reduceIte,f0]) h1
  ·have e1:((x.toNat:Int)=95)=True:=h4V q
   simp only[wA,seval,reduceCtorEq,reduceIte,f0,f3,c1,c0,hw1,h1D,hx,e1]
   exact ih (i+1) _ hr (by simp only[wQ,Nat.reduceEqDiff,reduceIte,f0]) h1
theorem g6T {s:List UInt8} (hv:d3I s=true) {K:PV→Prop}:XcP F gl 48 [.str s] K ⟨⟩↔K (.t (.bool true)):=by
 obtain⟨c,r,hcr,h1,h2,h3,h4,h5⟩:=g6Q hv
 have hx:s[0]?=some c:=by rw[hcr];rfl
 have hk:=fun K=>ok83 (gl:=gl) h5 (K:=K)
 have hpos:1≤s.length:=by rw[hcr];simp
 have e1:((s.length:Int) < 1)=False:=h4U (by omega)
 have e2:((s.length:Int) > 24)=False:=h4U (by omega)
 have e3:((c.toNat:Int) < 97)=False:=h4U (by omega)
 have e4:((c.toNat:Int) > 122)=False:=h4U (by omega)
 clear hcr
 refine Ret.iff (Ret.of F48 rfl ?_)
 simp only[c5O]
 simp only[wA,seval,reduceCtorEq,reduceIte,e1,e2,hx,e3,e4,hk,Int.toNat_zero]
 refine g6S h1 h4 _ s 0 _ rfl (by simp only[wQ,Nat.reduceEqDiff,reduceIte];first|done|exact rfl) ?_
 intro fr'
 simp only[wA,seval,reduceCtorEq,reduceIte]
theorem g6U {t:Ty} (hv:tyB t=true) {K:PV→Prop}:XcP F gl 49 [.agg (tTy t)] K ⟨⟩↔K (.t (.bool true)):=by
 unfold tyB at hv
 split at hv
 ·cases hv
 rename_i hl
 have l1:(t.len < 0)=False:=h4U (by omega)
 have l2:(t.len > 64)=False:=h4U (by omega)
 refine Ret.iff (Ret.of F49 rfl ?_)
 simp only[c5P]
 split at hv
 ·rename_i hk
  rw[h4S] at hv
  rcases hk with hk|hk
  ·simp only[wA,seval,reduceCtorEq,reduceIte,l1,l2,hk,hv]
  ·simp only[wA,seval,reduceCtorEq,reduceIte,l1,l2,hk,hv]
 ·split at hv
  ·rename_i hk
   rw[h0S,h4S,h4S] at hv
   have b1:(t.bits≥1)=True:=h4V hv.1
   have b2:(t.bits≤62)=True:=h4V hv.2
   have b1':(1≤t.bits)=True:=h4V hv.1
   simp only[wA,seval,reduceCtorEq,reduceIte,l1,l2,hk,b1,b1',b2]
  ·cases hv
end Go.Proofs.YtcbgiabippcpaaaGreatDoor

/- The reference's validity: operators, expressions, depths (of valid ones). -/
namespace Go.Proofs.YtcbgiabippcpaaaGreatDoor
open Go.Pi Go.Lx Go.Ky
variable {gl:Nat→Option (List T)}
theorem g6V {op n v:Int} {nm:Nm} (h:opB op n v nm=true) {K:PV→Prop}:XcP F gl 108 [.int .i64 op,.int .i64 n] K ⟨⟩↔K (.t (.bool true)):=by
 refine Ret.iff (Ret.of F108 rfl ?_)
 simp only[c8L]
 rcases f8C h with⟨rfl,rfl,-⟩|⟨rfl,rfl,-⟩|⟨rfl,rfl,-⟩|⟨rfl,rfl,-⟩|⟨rfl,-⟩|⟨rfl,h1,-⟩|⟨rfl,h1,-⟩|⟨rfl,rfl,-⟩|⟨rfl,rfl,-⟩|⟨rfl,rfl,-⟩|⟨rfl,rfl,-⟩|⟨h2,rfl,-⟩
 case inr.inr.inr.inr.inr.inl =>
  have c:(n > 0)=True:=h4V (by omega)
  simp only[wA,seval,reduceCtorEq,reduceIte,c]
 case inr.inr.inr.inr.inr.inr.inl =>
  have c:(n > 0)=True:=h4V (by omega)
  simp only[wA,seval,reduceCtorEq,reduceIte,c]
 case inr.inr.inr.inr.inr.inr.inr.inr.inr.inr.inr =>
  rcases h2 with rfl|rfl|rfl|rfl|rfl|rfl|rfl|rfl|rfl
  all_goals
   simp only[wA,seval,reduceCtorEq,reduceIte]
 all_goals
  simp only[wA,seval,reduceCtorEq,reduceIte]
theorem g6W {op v:Int} {nm:Nm} {nl:Bool} {l:List Exp} (hl:l.length≤B47) (ih:∀ a,a∈l→∀ K,XcP F gl 82 [.agg (eL a)] K ⟨⟩↔K (.t (.bool true))) {ow:Ow} (Q:Ex→S→Prop):∀ (r:List Exp) (i:Nat) (fr:List PV),l.drop i=r →
  b8Y fr [(1,.lp 0 0),(5,.t (.int .i64 i))]→(∀ fr',Q (.exit 0) ⟨fr',[(false,[.t (.int .i64 op),.t (.int .u64 v),.t (.str nm),.t (.sl nl (d2K l))])],ow⟩) →
  Xl F gl c7C ⟨fr,[(false,[.t (.int .i64 op),.t (.int .u64 v),.t (.str nm),.t (.sl nl (d2K l))])],ow⟩ Q ⟨⟩:=by
 intro r
 have hb:B47=140737488355328:=rfl
 induction r with
 |nil =>
  intro i fr hd hf h1
  have hd:=b8T hd
  simp only[b9A,b8Z] at hf
  obtain⟨f1,f5,-⟩:=hf
  refine Xl.step ?_
  simp only[c7C]
  have c1:((i:Int) < (l.length:Int))=False:=h4U (by omega)
  simp only[wA,seval,reduceCtorEq,reduceIte,f1,f5,d2N,c1]
  exact h1 _
 |cons x r ih2 =>
  intro i fr hd hf h1
  obtain⟨hx,hr,hi⟩:=b8S hd
  simp only[b9A,b8Z] at hf
  obtain⟨f1,f5,-⟩:=hf
  refine Xl.step ?_
  simp only[c7C]
  have c1:((i:Int) < (l.length:Int))=True:=h4V (by omega)
  have hw1:IntKind.wrap .i64 ((i:Int)+1)=((i+1:Nat):Int):=by rw[IntWalk.i64_in _ (by omega)];omega
  have hc:=ih x (h3C hx)
  have c0:(0≤(i:Int))=True:=h4V (by omega)
  simp only[wA,seval,reduceCtorEq,reduceIte,f1,f5,d2N,d2O,hx,h4I,d2M,hc,hw1,c0,c1,h1D]
  exact ih2 (i+1) _ hr (by simp only[wQ,Nat.reduceEqDiff,reduceIte,f1]) h1
theorem g6X {e:Exp} (h:opB e.op (e.args.length:Int) e.val e.name=true) :
  (e.op=2∧d3I e.name=true∧e.val=0)∨(e.op=5∧d3I e.name=true∧e.val=0)∨(e.op=1∧e.name=[])∨(e.op=6∧e.name=[])∨(¬e.op=1∧¬e.op=2∧¬e.op=5∧¬e.op=6∧e.name=[]∧e.val=0):=by
 rcases f8C h with⟨o,a,b⟩|⟨o,a,b,c⟩|⟨o,a,b,c⟩|⟨o,a,b,c⟩|⟨o,a,b⟩|⟨o,a,b⟩|⟨o,a,b,c⟩|⟨o,a,b,c⟩|⟨o,a,b,c⟩|⟨o,a,b,c⟩|⟨o,a,b,c⟩|⟨o,a,b,c⟩
 ·exact .inr (.inr (.inl ⟨o,b⟩))
 ·exact .inl ⟨o,c,b⟩
 ·exact .inr (.inr (.inr (.inr ⟨by omega,by omega,by omega,by omega,c,b⟩)))
 ·exact .inr (.inr (.inr (.inr ⟨by omega,by omega,by omega,by omega,c,b⟩)))
 ·exact .inr (.inl ⟨o,b,a⟩)
 ·exact .inr (.inr (.inr (.inl ⟨o,b⟩)))
 all_goals exact .inr (.inr (.inr (.inr ⟨by omega,by omega,by omega,by omega,c,b⟩)))
set_option maxHeartbeats 1000000 in
theorem g6Y:∀ e:Exp,exB e=true→ExpOk e→∀ K,XcP F gl 82 [.agg (eL e)] K ⟨⟩↔K (.t (.bool true)):=by
 refine Exp.ind fun e ih hv ho K=>?_
 cases ho with|mk _ h1 h2 h3 h4 h5 h =>
 rw[d3L,h0S,h1F] at hv
 have hA:=fun K=>g6V (gl:=gl) hv.2 (K:=K)
 have ih':∀ a,a∈e.args→∀ K,XcP F gl 82 [.agg (eL a)] K ⟨⟩↔K (.t (.bool true)):=fun a ha=>ih a ha (hv.1 a ha) (h a ha)
 refine Ret.iff (Ret.of F82 rfl ?_)
 simp only[c7D]
 rcases g6X hv.2 with⟨o,n,z⟩|⟨o,n,z⟩|⟨o,n⟩|⟨o,n⟩|⟨o1,o2,o3,o4,n,z⟩
 ·have hN:=fun K=>g6T (gl:=gl) n (K:=K)
  simp only[o] at hA
  simp only[wA,seval,reduceCtorEq,reduceIte,o,hA,d2N,hN,z]
  refine g6W (l:=e.args) h4 ih' _ e.args 0 _ rfl (by simp only[wQ,Nat.reduceEqDiff,reduceIte]) ?_
  intro fr'
  simp only[wA,seval,reduceCtorEq,reduceIte]
 ·have hN:=fun K=>g6T (gl:=gl) n (K:=K)
  simp only[o] at hA
  simp only[wA,seval,reduceCtorEq,reduceIte,o,hA,d2N,hN,z]
  refine g6W (l:=e.args) h4 ih' _ e.args 0 _ rfl (by simp only[wQ,Nat.reduceEqDiff,reduceIte]) ?_
  intro fr'
  simp only[wA,seval,reduceCtorEq,reduceIte]
 ·simp only[o] at hA
  simp only[wA,seval,reduceCtorEq,reduceIte,o,hA,d2N,n]
  refine g6W (l:=e.args) h4 ih' _ e.args 0 _ rfl (by simp only[wQ,Nat.reduceEqDiff,reduceIte]) ?_
  intro fr'
  simp only[wA,seval,reduceCtorEq,reduceIte]
 ·simp only[o] at hA
  simp only[wA,seval,reduceCtorEq,reduceIte,o,hA,d2N,n]
  refine g6W (l:=e.args) h4 ih' _ e.args 0 _ rfl (by simp only[wQ,Nat.reduceEqDiff,reduceIte]) ?_
  intro fr'
  simp only[wA,seval,reduceCtorEq,reduceIte]
 ·have e1:(e.op=1)=False:=h4U o1
  have e2:(e.op=2)=False:=h4U o2
  have e3:(e.op=5)=False:=h4U o3
  have e4:(e.op=6)=False:=h4U o4
  simp only[wA,seval,reduceCtorEq,reduceIte,e1,e2,e3,e4,hA,d2N,n,z]
  refine g6W (l:=e.args) h4 ih' _ e.args 0 _ rfl (by simp only[wQ,Nat.reduceEqDiff,reduceIte]) ?_
  intro fr'
  simp only[wA,seval,reduceCtorEq,reduceIte]
theorem g6Z {e:Exp} (hs:szE e≤B20) (hd:∀ x,x∈e.args→∀ K,XcP F gl 52 [.agg (eL x)] K ⟨⟩↔K (.t (.int .i64 (dEx x:Nat)))) {ow:Ow} (Q:Ex→S→Prop):∀ (r:List Exp) (i acc:Nat) (fr:List PV),e.args.drop i=r →
  b8Y fr [(1,.lp 0 0),(3,.t (.int .i64 (acc:Nat))),(4,.t (.int .i64 i))] →
  (∀ fr',a0A fr' 3=.t (.int .i64 ((max acc (d3S r):Nat):Int))→Q (.exit 0) ⟨fr',[(false,(eL e).map .t)],ow⟩) →
  Xl F gl c5U ⟨fr,[(false,(eL e).map .t)],ow⟩ Q ⟨⟩:=by
 intro r
 have hse:=d2Z e
 have hll:=d3F e.args
 have hb:B20=1100000:=rfl
 induction r with
 |nil =>
  intro i acc fr hdr hf h1
  have hdr:=b8T hdr
  simp only[b9A,b8Z] at hf
  obtain⟨f1,f3,f4,-⟩:=hf
  refine Xl.step ?_
  simp only[c5U]
  have c1:((i:Int) < (e.args.length:Int))=False:=h4U (by omega)
  simp only[wA,seval,reduceCtorEq,reduceIte,f1,f3,f4,d2N,c1,h2U,h2V]
  refine h1 _ ?_
  simp only[wQ,Nat.reduceEqDiff,reduceIte,f3,d3S,Nat.max_zero]
 |cons x r ih =>
  intro i acc fr hdr hf h1
  obtain⟨hx,hr,hi⟩:=b8S hdr
  simp only[b9A,b8Z] at hf
  obtain⟨f1,f3,f4,-⟩:=hf
  refine Xl.step ?_
  simp only[c5U]
  have c1:((i:Int) < (e.args.length:Int))=True:=h4V (by omega)
  have c0:(0≤(i:Int))=True:=h4V (by omega)
  have hw1:IntKind.wrap .i64 ((i:Int)+1)=((i+1:Nat):Int):=by rw[IntWalk.i64_in _ (by omega)];omega
  have hc:=hd x (h3C hx)
  have fin:∀ fr1,b8Y fr1 [(1,.lp 0 0),(3,.t (.int .i64 ((max acc (dEx x):Nat):Int))),(4,.t (.int .i64 ((i+1:Nat):Int)))]→Xl F gl c5U ⟨fr1,[(false,(eL e).map .t)],ow⟩ Q ⟨⟩:=fun fr1 hf1 =>
   ih (i+1) (max acc (dEx x)) fr1 hr hf1 fun fr' h=>h1 fr' (by rw[h,d3S,Nat.max_assoc])
  by_cases c:acc < dEx x
  ·have c':(((dEx x:Nat):Int) > ((acc:Nat):Int))=True:=h4V (by omega)
   simp only[wA,seval,reduceCtorEq,reduceIte,f1,f3,f4,d2N,d2O,hx,h4I,d2M,hc,hw1,c0,c1,c',h1D,h2U,h2V]
   exact fin _ (by simp only[wQ,Nat.reduceEqDiff,reduceIte,f1];rw[Nat.max_eq_right (by omega)])
  ·have c':(((dEx x:Nat):Int) > ((acc:Nat):Int))=False:=h4U (by omega)
   simp only[wA,seval,reduceCtorEq,reduceIte,f1,f3,f4,d2N,d2O,hx,h4I,d2M,hc,hw1,c0,c1,c',h1D,h2U,h2V]
   exact fin _ (by simp only[wQ,Nat.reduceEqDiff,reduceIte,f1,f3];rw[Nat.max_eq_left (by omega)])
theorem ok52:∀ e:Exp,szE e≤B20→∀ K,XcP F gl 52 [.agg (eL e)] K ⟨⟩↔K (.t (.int .i64 (dEx e:Nat))):=by
 refine Exp.ind fun e ih hs K=>?_
 refine Ret.iff (Ret.of F52 rfl ?_)
 have hse:=d2Z e
 have hdl:=d3W e
 simp only[c5V]
 simp only[wA,seval,reduceCtorEq,reduceIte]
 refine g6Z hs (fun x hx=>ih x hx (by have:=d3D hx;omega)) _ e.args 0 0 _ rfl (by simp only[wQ,Nat.reduceEqDiff,reduceIte];first|done|exact⟨rfl,rfl⟩|exact rfl) fun fr' h=>?_
 have hw:IntKind.wrap .i64 (((max 0 (d3S e.args):Nat):Int)+1)=((dEx e:Nat):Int):=by
  have:=d3U e
  rw[IntWalk.i64_in _ (by have:B20=1100000:=rfl;omega)]
  omega
 simp only[wA,seval,reduceCtorEq,reduceIte,h,hw]
theorem g7A (nl:Bool) {K:PV→Prop}:XcP F gl 13 [.agg [.int .i64 0,.int .u64 0,.str [],.sl nl []],.agg [.int .i64 0,.int .u64 0,.str [],.sl true []]] K ⟨⟩↔K (.t (.bool true)):=by
 refine Ret.iff (Ret.of F13 rfl ?_)
 simp only[c3W]
 simp only[wA,seval,reduceCtorEq,reduceIte,h2P,BEq.rfl,bne_self_eq_false,h0W,ne_eq,h4X,h4T]
 refine Xl.step ?_
 simp only[c3V]
 simp only[wA,seval,reduceCtorEq,reduceIte,h2P]
theorem g7B {e:Exp} (h:d3M e=true) {K:PV→Prop}:XcP F gl 109 [.agg (eL e)] K ⟨⟩↔K (.t (.bool true)):=by
 unfold d3M at h
 simp only[h0S,h4S] at h
 obtain⟨⟨⟨a,b⟩,c⟩,d⟩:=h
 have d':e.args=[]:=h1P (by omega)
 have hS:=fun nl K=>g7A (gl:=gl) nl (K:=K)
 refine Ret.iff (Ret.of F109 rfl ?_)
 simp only[c8M]
 simp only[wA,seval,reduceCtorEq,reduceIte,a,b,c,d',d2K,hS]
theorem g7C {n:Int} (h:d3N n=true) {K:PV→Prop}:XcP F gl 110 [.int .i64 n] K ⟨⟩↔K (.t (.bool true)):=by
 unfold d3N at h
 simp only[h0S,h4S] at h
 have c1:(n≥0)=True:=h4V h.1
 have c1':(0≤n)=True:=h4V h.1
 have c2:(n≤1000000)=True:=h4V h.2
 refine Ret.iff (Ret.of F110 rfl ?_)
 simp only[c8N]
 simp only[wA,seval,reduceCtorEq,reduceIte,c1,c1',c2]
end Go.Proofs.YtcbgiabippcpaaaGreatDoor

/- The reference's validity: statements, how deep they are (of valid ones). -/
namespace Go.Proofs.YtcbgiabippcpaaaGreatDoor
open Go.Pi Go.Lx Go.Ky
variable {gl:Nat→Option (List T)}
abbrev sL (s:St):List T:=[.int .i64 s.kind,.str s.name,.bool s.typed,.int .i64 s.ty.kind,.int .i64 s.ty.bits,.int .i64 s.ty.len,.int .i64 s.ex.op,.int .u64 s.ex.val,.str s.ex.name,.sl s.ex.nl (d2K s.ex.args),.int .i64 s.lo,.int .i64 s.hi,.sl s.nl (d2P s.body)]
theorem g7D {nl:Bool} {l:List St} (hl:l.length≤B47) (ih:∀ a,a∈l→∀ K,XcP F gl 84 [.agg (sL a)] K ⟨⟩↔K (.t (.bool true))) {sg:Sg} {ow:Ow} (Q:Ex→S→Prop):∀ (r:List St) (i:Nat) (fr:List PV),l.drop i=r →
  b8Y fr [(0,.t (.sl nl (d2P l))),(3,.t (.int .i64 i))]→(∀ fr',Q (.exit 0) ⟨fr',sg,ow⟩) →
  Xl F gl c5Q ⟨fr,sg,ow⟩ Q ⟨⟩:=by
 intro r
 have hb:B47=140737488355328:=rfl
 induction r with
 |nil =>
  intro i fr hd hf h1
  have hd:=b8T hd
  simp only[b9A,b8Z] at hf
  obtain⟨f0,f3,-⟩:=hf
  refine Xl.step ?_
  simp only[c5Q]
  have c1:((i:Int) < (l.length:Int))=False:=h4U (by omega)
  simp only[wA,seval,reduceCtorEq,reduceIte,f0,f3,d2S,c1]
  exact h1 _
 |cons x r ih2 =>
  intro i fr hd hf h1
  obtain⟨hx,hr,hi⟩:=b8S hd
  simp only[b9A,b8Z] at hf
  obtain⟨f0,f3,-⟩:=hf
  refine Xl.step ?_
  simp only[c5Q]
  have c1:((i:Int) < (l.length:Int))=True:=h4V (by omega)
  have hw1:IntKind.wrap .i64 ((i:Int)+1)=((i+1:Nat):Int):=by rw[IntWalk.i64_in _ (by omega)];omega
  have hc:=ih x (h3C hx)
  have c0:(0≤(i:Int))=True:=h4V (by omega)
  simp only[wA,seval,reduceCtorEq,reduceIte,f0,f3,d2S,d2T,hx,h4I,d2R,hc,hw1,c0,c1,h1D]
  exact ih2 (i+1) _ hr (by simp only[wQ,Nat.reduceEqDiff,reduceIte,f0]) h1
theorem g7E {nl:Bool} {l:List St} (hl:l.length≤B47) (ih:∀ a,a∈l→∀ K,XcP F gl 84 [.agg (sL a)] K ⟨⟩↔K (.t (.bool true))) (K:PV→Prop):XcP F gl 50 [.sl nl (d2P l)] K ⟨⟩↔K (.t (.bool true)):=by
 refine Ret.iff (Ret.of F50 rfl ?_)
 simp only[c5R]
 simp only[wA,seval,reduceCtorEq,reduceIte]
 refine g7D (nl:=nl) (l:=l) hl ih _ l 0 _ rfl (by simp only[wQ,Nat.reduceEqDiff,reduceIte]) ?_
 intro fr'
 simp only[wA,seval,reduceCtorEq,reduceIte]
set_option maxHeartbeats 1000000 in
theorem ok84:∀ s:St,stB s=true→StOk s→∀ K,XcP F gl 84 [.agg (sL s)] K ⟨⟩↔K (.t (.bool true)):=by
 refine St.ind fun s ih hv ho K=>?_
 cases ho with|mk _ h1 h2 h3 h4 h5 h6 h7 h8 h =>
 rw[d3R] at hv
 refine Ret.iff (Ret.of F84 rfl ?_)
 simp only[c7G]
 by_cases k1:s.kind=1
 ·rw[if_pos k1] at hv
  simp only[h0S,h4S] at hv
  obtain⟨⟨⟨⟨⟨g1,g2⟩,g3⟩,g4⟩,g5⟩,g6⟩:=hv
  have hN:=fun K=>g6T (gl:=gl) g2 (K:=K)
  have hE:=g6Y (gl:=gl) s.ex g3 h4
  have g6':s.body.length=0:=by omega
  cases hb:s.typed with
  |true =>
   have hT:tyB s.ty=true:=by rw[hb] at g1;simpa using g1
   have hTy:=fun K=>g6U (gl:=gl) hT (K:=K)
   simp only[wA,seval,reduceCtorEq,reduceIte,k1,hN,hE,hb,hTy,g4,g5,d2S,g6']
  |false =>
   have hz:s.ty=zTy:=by rw[hb] at g1;simpa using g1
   have z1:s.ty.kind=0:=by rw[hz];rfl
   have z2:s.ty.bits=0:=by rw[hz];rfl
   have z3:s.ty.len=0:=by rw[hz];rfl
   simp only[wA,seval,reduceCtorEq,reduceIte,k1,hN,hE,hb,z1,z2,z3,g4,g5,d2S,g6',BEq.rfl]
 ·rw[if_neg k1] at hv
  by_cases k2:s.kind=2
  ·rw[if_pos k2] at hv
   unfold d3O at hv
   simp only[h0S,h4S,h0U] at hv
   obtain⟨⟨⟨⟨⟨g1,hb,hz⟩,g3⟩,g4⟩,g5⟩,g6⟩:=hv
   have hE:=g6Y (gl:=gl) s.ex g3 h4
   have g6':s.body.length=0:=by omega
   have z1:s.ty.kind=0:=by rw[hz];rfl
   have z2:s.ty.bits=0:=by rw[hz];rfl
   have z3:s.ty.len=0:=by rw[hz];rfl
   simp only[wA,seval,reduceCtorEq,reduceIte,k2,g1,hE,hb,z1,z2,z3,g4,g5,d2S,g6',BEq.rfl]
  ·rw[if_neg k2] at hv
   by_cases k3:s.kind=3
   ·rw[if_pos k3] at hv
    unfold d3O at hv
    simp only[h0S,h4S,h0U,h1F] at hv
    obtain⟨⟨⟨⟨⟨g1,hb,hz⟩,g3⟩,g4⟩,g5⟩,g6⟩:=hv
    have hN:=fun K=>g6T (gl:=gl) g1 (K:=K)
    have hM:=fun K=>g7B (gl:=gl) g3 (K:=K)
    have hL1:=fun K=>g7C (gl:=gl) g4 (K:=K)
    have hL2:=fun K=>g7C (gl:=gl) g5 (K:=K)
    have hB:=g7E (gl:=gl) (nl:=s.nl) h7 (fun a ha=>ih a ha (g6 a ha) (h a ha))
    have z1:s.ty.kind=0:=by rw[hz];rfl
    have z2:s.ty.bits=0:=by rw[hz];rfl
    have z3:s.ty.len=0:=by rw[hz];rfl
    simp only[wA,seval,reduceCtorEq,reduceIte,k3,hN,hM,hb,z1,z2,z3,hL1,hL2,hB,BEq.rfl]
   ·rw[if_neg k3] at hv;cases hv
theorem g7F {nl:Bool} {l:List St} (hl:l.length≤B47) {L:Nat} (ih:∀ a,a∈l→∀ K,XcP F gl 85 [.agg (sL a),.int .i64 (L:Int)] K ⟨⟩↔K (.t (.bool false))) {sg:Sg} {ow:Ow} (Q:Ex→S→Prop):∀ (r:List St) (i:Nat) (fr:List PV),l.drop i=r →
  b8Y fr [(0,.t (.sl nl (d2P l))),(1,.t (.int .i64 (L:Int))),(5,.t (.int .i64 i))]→(∀ fr',Q (.exit 0) ⟨fr',sg,ow⟩) →
  Xl F gl c5S ⟨fr,sg,ow⟩ Q ⟨⟩:=by
 intro r
 have hb:B47=140737488355328:=rfl
 induction r with
 |nil =>
  intro i fr hd hf h1
  have hd:=b8T hd
  simp only[b9A,b8Z] at hf
  obtain⟨f0,f1,f5,-⟩:=hf
  refine Xl.step ?_
  simp only[c5S]
  have c1:((i:Int) < (l.length:Int))=False:=h4U (by omega)
  simp only[wA,seval,reduceCtorEq,reduceIte,f0,f5,d2S,c1]
  exact h1 _
 |cons x r ih2 =>
  intro i fr hd hf h1
  obtain⟨hx,hr,hi⟩:=b8S hd
  simp only[b9A,b8Z] at hf
  obtain⟨f0,f1,f5,-⟩:=hf
  refine Xl.step ?_
  simp only[c5S]
  have c1:((i:Int) < (l.length:Int))=True:=h4V (by omega)
  have hw1:IntKind.wrap .i64 ((i:Int)+1)=((i+1:Nat):Int):=by rw[IntWalk.i64_in _ (by omega)];omega
  have hc:=ih x (h3C hx)
  have c0:(0≤(i:Int))=True:=h4V (by omega)
  simp only[wA,seval,reduceCtorEq,reduceIte,f0,f1,f5,d2S,d2T,hx,h4I,d2R,hc,hw1,c0,c1,h1D]
  exact ih2 (i+1) _ hr (by simp only[wQ,Nat.reduceEqDiff,reduceIte,f0,f1]) h1
theorem ok51 {nl:Bool} {l:List St} (hl:l.length≤B47) {L:Nat} (ih:∀ a,a∈l→∀ K,XcP F gl 85 [.agg (sL a),.int .i64 (L:Int)] K ⟨⟩↔K (.t (.bool false))) (K:PV→Prop):XcP F gl 51 [.sl nl (d2P l),.int .i64 (L:Int)] K ⟨⟩↔K (.t (.bool false)):=by
 refine Ret.iff (Ret.of F51 rfl ?_)
 simp only[c5T]
 simp only[wA,seval,reduceCtorEq,reduceIte]
 refine g7F (nl:=nl) (l:=l) hl ih _ l 0 _ rfl (by simp only[wQ,Nat.reduceEqDiff,reduceIte]) ?_
 intro fr'
 simp only[wA,seval,reduceCtorEq,reduceIte]
theorem g7G:∀ {l:List St} {a:St},a∈l→dSt a≤d3T l
 |x::r,a,h=>by
  rw[d3T]
  rcases h2X.1 h with e|e
  ·subst e;omega
  ·have:=g7G e;omega
theorem ok85:∀ s:St,shS s=true→StOk s→szS s≤B20→∀ L:Nat,dSt s≤L→L≤40→∀ K,XcP F gl 85 [.agg (sL s),.int .i64 (L:Int)] K ⟨⟩↔K (.t (.bool false)):=by
 refine St.ind fun s ih hv ho hz L hL h40 K=>?_
 cases ho with|mk _ h1 h2 h3 h4 h5 h6 h7 h8 h =>
 rw[d4A] at hv
 simp only[h0S,h1F] at hv
 obtain⟨⟨-,he⟩,hb⟩:=hv
 unfold shE at he
 rw[h4S] at he
 have hd:=d3V s
 have hex:=d3H s
 have hsz:=d3B s
 have hD:=ok52 (gl:=gl) s.ex (by omega)
 have c1:((L:Int)=0)=False:=h4U (by omega)
 have c2:(((dEx s.ex:Nat):Int) > 40)=False:=h4U (by omega)
 have hw1:IntKind.wrap .i64 ((L:Int) - 1)=((L - 1:Nat):Int):=by rw[IntWalk.i64_in _ (by omega)];omega
 have hB:=ok51 (gl:=gl) (nl:=s.nl) (L:=L - 1) h7 (fun a ha=>ih a ha (hb a ha) (h a ha) (by have:=d3E ha;omega) (L - 1) (by have:=g7G ha;omega) (by omega))
 refine Ret.iff (Ret.of F85 rfl ?_)
 simp only[c7H]
 by_cases k:s.kind=3
 ·simp only[wA,seval,reduceCtorEq,reduceIte,c1,k,hw1,hB]
 ·have k':(s.kind=3)=False:=h4U k
  simp only[wA,seval,reduceCtorEq,reduceIte,c1,k',hD,c2,hw1,hB]
end Go.Proofs.YtcbgiabippcpaaaGreatDoor

/- The reference's validity: functions, programs (of valid ones). -/
namespace Go.Proofs.YtcbgiabippcpaaaGreatDoor
open Go.Pi Go.Lx Go.Ky
variable {gl:Nat→Option (List T)}
theorem g7H {f:Fu} (hl:f.params.length≤B47) (hv:∀ a,a∈f.params→paB a=true) {ow:Ow} (Q:Ex→S→Prop):∀ (r:List Pa) (i:Nat) (fr:List PV),f.params.drop i=r →
  b8Y fr [(1,.lp 0 0),(3,.t (.int .i64 i))]→(∀ fr',b8Y fr' [(1,.lp 0 0)]→Q (.exit 0) ⟨fr',[(false,(tFu f).map .t)],ow⟩) →
  Xl F gl c5L ⟨fr,[(false,(tFu f).map .t)],ow⟩ Q ⟨⟩:=by
 intro r
 have hb:B47=140737488355328:=rfl
 induction r with
 |nil =>
  intro i fr hd hf h1
  have hd:=b8T hd
  simp only[b9A,b8Z] at hf
  obtain⟨f1,f3,-⟩:=hf
  refine Xl.step ?_
  simp only[c5L]
  have c1:((i:Int) < (f.params.length:Int))=False:=h4U (by omega)
  simp only[wA,seval,reduceCtorEq,reduceIte,f1,f3,h2O,c1,h2U,h2V]
  exact h1 _ (by simp only[wQ,Nat.reduceEqDiff,reduceIte,f1])
 |cons x r ih2 =>
  intro i fr hd hf h1
  obtain⟨hx,hr,hi⟩:=b8S hd
  simp only[b9A,b8Z] at hf
  obtain⟨f1,f3,-⟩:=hf
  refine Xl.step ?_
  simp only[c5L]
  have c1:((i:Int) < (f.params.length:Int))=True:=h4V (by omega)
  have hw1:IntKind.wrap .i64 ((i:Int)+1)=((i+1:Nat):Int):=by rw[IntWalk.i64_in _ (by omega)];omega
  have hp:=hv x (h3C hx)
  unfold paB at hp
  rw[h0S] at hp
  have hN:=fun K=>g6T (gl:=gl) hp.1 (K:=K)
  have hT:=fun K=>g6U (gl:=gl) hp.2 (K:=K)
  have c0:(0≤(i:Int))=True:=h4V (by omega)
  simp only[wA,seval,reduceCtorEq,reduceIte,f1,f3,h2O,h2D,hx,h4I,hN,hT,hw1,c0,c1,h1D,h2U,h2V]
  exact ih2 (i+1) _ hr (by simp only[wQ,Nat.reduceEqDiff,reduceIte,f1]) h1
theorem ok47 {f:Fu} (hv:fuB f=true) (ho:FuOk f) (K:PV→Prop):XcP F gl 47 [.agg (tFu f)] K ⟨⟩↔K (.t (.bool true)):=by
 unfold fuB at hv
 simp only[h0S,h1F] at hv
 obtain⟨⟨⟨⟨g1,g2⟩,g3⟩,g4⟩,g5⟩:=hv
 have hN:=fun K=>g6T (gl:=gl) g1 (K:=K)
 have hT:=fun K=>g6U (gl:=gl) g3 (K:=K)
 have hE:=g6Y (gl:=gl) f.ret g5 ho.ret
 have hB:=g7E (gl:=gl) (nl:=f.bnl) ho.bl (fun a ha=>ok84 a (g4 a ha) (ho.bo a ha))
 refine Ret.iff (Ret.of F47 rfl ?_)
 simp only[c5M]
 simp only[wA,seval,reduceCtorEq,reduceIte]
 refine g7H (f:=f) ho.pl g2 _ f.params 0 _ rfl (by simp only[wQ,Nat.reduceEqDiff,reduceIte]) ?_
 intro fr' hf
 simp only[b9A,b8Z] at hf
 obtain⟨f1,-⟩:=hf
 simp only[wA,seval,reduceCtorEq,reduceIte,f1,hN,hT,hB,hE,h2U,h2V]
theorem g7I {p:Pg} (ho:PgOk p) (hv:∀ a,a∈p.funcs→fuB a=true) {ow:Ow} (Q:Ex→S→Prop):∀ (r:List Fu) (i:Nat) (fr:List PV),p.funcs.drop i=r →
  b8Y fr [(1,.lp 0 0),(3,.t (.int .i64 i))]→(∀ fr',b8Y fr' [(1,.lp 0 0)]→Q (.exit 0) ⟨fr',[(false,(tPg p).map .t)],ow⟩) →
  Xl F gl c4G ⟨fr,[(false,(tPg p).map .t)],ow⟩ Q ⟨⟩:=by
 intro r
 have hb:B47=140737488355328:=rfl
 have hl:=ho.fl
 induction r with
 |nil =>
  intro i fr hd hf h1
  have hd:=b8T hd
  simp only[b9A,b8Z] at hf
  obtain⟨f1,f3,-⟩:=hf
  refine Xl.step ?_
  simp only[c4G]
  have c1:((i:Int) < (p.funcs.length:Int))=False:=h4U (by omega)
  simp only[wA,seval,reduceCtorEq,reduceIte,f1,f3,h2O,c1,h2U,h2V]
  exact h1 _ (by simp only[wQ,Nat.reduceEqDiff,reduceIte,f1])
 |cons x r ih2 =>
  intro i fr hd hf h1
  obtain⟨hx,hr,hi⟩:=b8S hd
  simp only[b9A,b8Z] at hf
  obtain⟨f1,f3,-⟩:=hf
  refine Xl.step ?_
  simp only[c4G]
  have c1:((i:Int) < (p.funcs.length:Int))=True:=h4V (by omega)
  have hw1:IntKind.wrap .i64 ((i:Int)+1)=((i+1:Nat):Int):=by rw[IntWalk.i64_in _ (by omega)];omega
  have hm:=h3C hx
  have hF:=ok47 (gl:=gl) (hv x hm) (ho.fo x hm)
  have c0:(0≤(i:Int))=True:=h4V (by omega)
  simp only[wA,seval,reduceCtorEq,reduceIte,f1,f3,h2O,h2D,hx,h4I,hF,hw1,c0,c1,h1D,h2U,h2V]
  exact ih2 (i+1) _ hr (by simp only[wQ,Nat.reduceEqDiff,reduceIte,f1]) h1
theorem g7J {p:Pg} (ho:PgOk p) (hv:∀ a,a∈p.decls→deB a=true) {ow:Ow} (Q:Ex→S→Prop):∀ (r:List De) (i:Nat) (fr:List PV),p.decls.drop i=r →
  b8Y fr [(1,.lp 0 0),(4,.t (.int .i64 i))]→(∀ fr',b8Y fr' [(1,.lp 0 0)]→Q (.exit 2) ⟨fr',[(false,(tPg p).map .t)],ow⟩) →
  Xl F gl c4F ⟨fr,[(false,(tPg p).map .t)],ow⟩ Q ⟨⟩:=by
 intro r
 have hb:B47=140737488355328:=rfl
 have hl:=ho.dl
 induction r with
 |nil =>
  intro i fr hd hf h1
  have hd:=b8T hd
  simp only[b9A,b8Z] at hf
  obtain⟨f1,f3,-⟩:=hf
  refine Xl.step ?_
  simp only[c4F]
  have c1:((i:Int) < (p.decls.length:Int))=False:=h4U (by omega)
  simp only[wA,seval,reduceCtorEq,reduceIte,f1,f3,h2O,c1,h2U,h2V]
  exact h1 _ (by simp only[wQ,Nat.reduceEqDiff,reduceIte,f1])
 |cons x r ih2 =>
  intro i fr hd hf h1
  obtain⟨hx,hr,hi⟩:=b8S hd
  simp only[b9A,b8Z] at hf
  obtain⟨f1,f3,-⟩:=hf
  refine Xl.step ?_
  simp only[c4F]
  have c1:((i:Int) < (p.decls.length:Int))=True:=h4V (by omega)
  have hw1:IntKind.wrap .i64 ((i:Int)+1)=((i+1:Nat):Int):=by rw[IntWalk.i64_in _ (by omega)];omega
  have hp:=hv x (h3C hx)
  unfold deB at hp
  rw[h0S] at hp
  have hN:=fun K=>g6T (gl:=gl) hp.1 (K:=K)
  have hT:=fun K=>g6U (gl:=gl) hp.2 (K:=K)
  have c0:(0≤(i:Int))=True:=h4V (by omega)
  simp only[wA,seval,reduceCtorEq,reduceIte,f1,f3,h2O,h2D,hx,h4I,hN,hT,hw1,c0,c1,h1D,h2U,h2V]
  exact ih2 (i+1) _ hr (by simp only[wQ,Nat.reduceEqDiff,reduceIte,f1]) h1
theorem g7K {l:List St} (h:∀ a,a∈l→shS a=true):∀ a,a∈l→dSt a≤40:=fun a ha=>by
 have:=h a ha
 rw[d4A] at this
 simp only[h0S,h4S] at this
 have:=this.1.1
 omega
theorem g7L {nl:Bool} {l:List St} (hl:l.length≤B47) (hs:∀ a,a∈l→shS a=true) (ho:∀ a,a∈l→StOk a) (hz:d2Y l≤B20) (K:PV→Prop):XcP F gl 51 [.sl nl (d2P l),.int .i64 40] K ⟨⟩↔K (.t (.bool false)) :=
 ok51 (gl:=gl) (L:=40) hl (fun a ha=>ok85 a (hs a ha) (ho a ha) (by have:=d3E ha;omega) 40 (g7K hs a ha) (h3V _)) K
theorem g7M {p:Pg} (ho:PgOk p) (hz:PgSz p) (hv:∀ a,a∈p.funcs→shF a=true) {ow:Ow} (Q:Ex→S→Prop):∀ (r:List Fu) (i:Nat) (fr:List PV),p.funcs.drop i=r →
  b8Y fr [(1,.lp 0 0),(5,.t (.int .i64 i))]→(∀ fr',b8Y fr' [(1,.lp 0 0)]→Q (.exit 4) ⟨fr',[(false,(tPg p).map .t)],ow⟩) →
  Xl F gl c4E ⟨fr,[(false,(tPg p).map .t)],ow⟩ Q ⟨⟩:=by
 intro r
 have hb:B47=140737488355328:=rfl
 have hl:=ho.fl
 induction r with
 |nil =>
  intro i fr hd hf h1
  have hd:=b8T hd
  simp only[b9A,b8Z] at hf
  obtain⟨f1,f3,-⟩:=hf
  refine Xl.step ?_
  simp only[c4E]
  have c1:((i:Int) < (p.funcs.length:Int))=False:=h4U (by omega)
  simp only[wA,seval,reduceCtorEq,reduceIte,f1,f3,h2O,c1,h2U,h2V]
  exact h1 _ (by simp only[wQ,Nat.reduceEqDiff,reduceIte,f1])
 |cons x r ih2 =>
  intro i fr hd hf h1
  obtain⟨hx,hr,hi⟩:=b8S hd
  simp only[b9A,b8Z] at hf
  obtain⟨f1,f3,-⟩:=hf
  refine Xl.step ?_
  simp only[c4E]
  have c1:((i:Int) < (p.funcs.length:Int))=True:=h4V (by omega)
  have hw1:IntKind.wrap .i64 ((i:Int)+1)=((i+1:Nat):Int):=by rw[IntWalk.i64_in _ (by omega)];omega
  have hm:=h3C hx
  have hs:=hv x hm
  unfold shF shE at hs
  simp only[h0S,h1F,h4S] at hs
  have ho':=ho.fo x hm
  have hB:=g7L (gl:=gl) (nl:=x.bnl) ho'.bl hs.1 ho'.bo (hz.fu x hm).1
  have hD:=ok52 (gl:=gl) x.ret (hz.fu x hm).2
  have c2:(((dEx x.ret:Nat):Int) > 40)=False:=h4U (by omega)
  have c0:(0≤(i:Int))=True:=h4V (by omega)
  simp only[wA,seval,reduceCtorEq,reduceIte,f1,f3,h2O,h2D,hx,h4I,hB,hD,c2,hw1,c0,c1,h1D,h2U,h2V]
  exact ih2 (i+1) _ hr (by simp only[wQ,Nat.reduceEqDiff,reduceIte,f1]) h1
set_option maxHeartbeats 1000000 in
theorem ok17 {p:Pg} (hv:d4B p=0) (ho:PgOk p) (hz:PgSz p) (K:PV→Prop):XcP F gl 17 [.agg (tPg p)] K ⟨⟩↔K (.t (.int .i64 0)):=by
 unfold d4B at hv
 split at hv
 ·cases hv
 rename_i h1
 split at hv
 ·cases hv
 rename_i h2
 rw[Bool.not_eq_false] at h1 h2
 simp only[h0S,h1F] at h1 h2
 obtain⟨⟨a1,a2⟩,a3⟩:=h1
 obtain⟨b1,b2⟩:=h2
 have hB:=g7E (gl:=gl) (nl:=p.bnl) ho.bl (fun a ha=>ok84 a (a3 a ha) (ho.bo a ha))
 have hG:=g7L (gl:=gl) (nl:=p.bnl) ho.bl b2 ho.bo hz.bo
 refine Ret.iff (Ret.of F17 rfl ?_)
 simp only[c4H]
 simp only[wA,seval,reduceCtorEq,reduceIte]
 refine g7I ho a1 _ p.funcs 0 _ rfl (by simp only[wQ,Nat.reduceEqDiff,reduceIte]) ?_
 intro fr1 hf
 simp only[b9A,b8Z] at hf
 obtain⟨f1,-⟩:=hf
 simp only[wA,seval,reduceCtorEq,reduceIte,f1]
 refine g7J ho a2 _ p.decls 0 _ rfl (by simp only[wQ,Nat.reduceEqDiff,reduceIte,f1]) ?_
 intro fr2 hf
 simp only[b9A,b8Z] at hf
 obtain⟨f2,-⟩:=hf
 simp only[wA,seval,reduceCtorEq,reduceIte,f2,hB,h2U,h2V]
 refine g7M ho hz b1 _ p.funcs 0 _ rfl (by simp only[wQ,Nat.reduceEqDiff,reduceIte,f2]) ?_
 intro fr3 hf
 simp only[b9A,b8Z] at hf
 obtain⟨f3,-⟩:=hf
 simp only[wA,seval,reduceCtorEq,reduceIte,f3,hG,h2U,h2V]
end Go.Proofs.YtcbgiabippcpaaaGreatDoor
