/- The reference: what Examine's loops do. -/
import Derived.Test.YtdjcnfacjfnakaaGreatQ18
import Derived.Test.YtdjcnfacjfnakaaGreatKx27
set_option maxRecDepth 10000
set_option linter.unusedVariables false
set_option linter.unusedSimpArgs false
namespace Go.Proofs.YtdjcnfacjfnakaaGreat
open Go.Pi Go.Lx Go.Ky
variable {gl:Nat→Option (List T)}
abbrev z5C:List PV:=[.t (.int .i64 0),.t (.int .i64 0),.t (.int .i64 0),.t (.int .i64 0),.t (.int .i64 0)]
abbrev f9T (r:Inf):List PV:=[.t (.int .i64 r.err),.t (.int .i64 r.bits),.t (.int .i64 r.pub),.t (.int .i64 r.sec),.t (.int .i64 r.steps)]
abbrev fuC (f:Fu):List PV:=[.t (.str f.name),.t (.sl f.pnl (f.params.map fun x=>tPa x)),.t (.int .i64 f.res.kind),.t (.int .i64 f.res.bits),.t (.int .i64 f.res.len),.t (.sl f.bnl (d3G f.body)),.t (.int .i64 f.ret.op),.t (.int .u64 f.ret.val),.t (.str f.ret.name),.t (.sl f.ret.nl (d3B f.ret.args))]
theorem f9U {fz:Fz} {vf v1 v3 v5:PV} {ow:Ow} {f:Fu} {cc:Nat} {z0 z2:Bool×List PV} {sr:Sg} (hlf:fz.length≤B20) (hg:Gl 11 vf ow (fz.map tFz)) (hc:sr[cc]?=some (false,fuC f)) (Q:Ex→S→Prop) :
  ∀ (l:Fz) (i:Nat) (fr:List PV),fz.drop i=l→b9J fr [(1,v1),(2,.lp 1 0),(3,v3),(4,vf),(5,v5),(6,.lp (cc+1+1+1) 0),(7,.t (.int .i64 i))] →
  (e8K f.name l=false→∀ fr',b9J fr' [(1,v1),(2,.lp 1 0),(3,v3),(4,vf),(5,v5),(6,.lp (cc+1+1+1) 0)]→Q (.exit 2) ⟨fr',z0::(false,z5C)::z2::sr,ow⟩) →
  (e8K f.name l=true→∀ fr',b9J fr' [(2,.lp 1 0)]→Q .ret ⟨fr',z0::(false,f9T (e8N 5))::z2::sr,ow⟩) →
  Xl F gl c4H ⟨fr,z0::(false,z5C)::z2::sr,ow⟩ Q ⟨⟩:=by
 intro l
 induction l with
 |nil =>
  intro i fr hd hf k1 k2
  have hd:=b9E hd
  simp only[b9L,b9K] at hf
  obtain⟨f1,f2,f3,f4,f5,f6,f7,-⟩:=hf
  refine Xl.step ?_
  simp only[c4H]
  have c1:¬((i:Int) < (fz.length:Int)):=by omega
  rcases hg with⟨rfl,hn⟩|⟨k,rfl,hk⟩
  ·have hn:fz=[]:=by simpa using hn
   subst hn
   simp only[wA,seval,reduceCtorEq,reduceIte,f1,f2,f3,f4,f5,f6,f7,c1,g4L]
   exact k1 rfl _ (by simp only[wQ,Nat.reduceEqDiff,reduceIte,f1,f2,f3,f4,f5,f6])
  ·simp only[wA,seval,reduceCtorEq,reduceIte,f1,f2,f3,f4,f5,f6,f7,c1,g4L]
   exact k1 rfl _ (by simp only[wQ,Nat.reduceEqDiff,reduceIte,f1,f2,f3,f4,f5,f6])
 |cons p l ih =>
  intro i fr hd hf k1 k2
  obtain⟨hx,hr,hi⟩:=b9D hd
  simp only[b9L,b9K] at hf
  obtain⟨f1,f2,f3,f4,f5,f6,f7,-⟩:=hf
  refine Xl.step ?_
  simp only[c4H]
  have c1:(i:Int) < (fz.length:Int):=by omega
  have hB:B20=1100000:=rfl
  have hw1:=d7A hi (show fz.length≤281474976710656 by omega)
  obtain⟨k,rfl,hk⟩:∃ k,vf=.own k 11 (fz.map tFz)∧ow[k]?=some (fz.map tFz).length:=by
   rcases hg with⟨_,hn⟩|h
   ·have:fz=[]:=by simpa using hn
    subst this;simp at hi
   ·exact h
  have hh:e8K f.name (p::l)=(decide (p.1.name=f.name) || e8K f.name l):=rfl
  rw[hh] at k1 k2
  by_cases hn:p.1.name=f.name
  ·have hb1:(p.1.name == f.name)=true:=by simpa using hn
   have hn':(p.1.name=f.name)=True:=g6D hn
   rw[g6A hn,Bool.true_or] at k1 k2
   simp only[wA,seval,reduceCtorEq,reduceIte,f1,f2,f3,f4,f5,f6,f7,c1,hw1,g4L,g3K,hi,g4B,hx,g5V,hc,hn',hb1]
   exact k2 rfl _ (by simp only[wQ,Nat.reduceEqDiff,reduceIte,f2])
  ·have hb1:(p.1.name == f.name)=false:=by simpa using hn
   have hn':(p.1.name=f.name)=False:=g6C hn
   rw[g5Y hn,Bool.false_or] at k1 k2
   simp only[wA,seval,reduceCtorEq,reduceIte,f1,f2,f3,f4,f5,f6,f7,c1,hw1,g4L,g3K,hi,g4B,hx,g5V,hc,hn',hb1]
   refine ih (i+1) _ hr ?_ k1 k2
   simp only[wQ,Nat.reduceEqDiff,reduceIte,f1,f2,f3,f4,f5,f6]
theorem f9V {vf v1 v3 v5:PV} {ow0:Ow} {k0:Nat} {f:Fu} {cc:Nat} {z0 z2:Bool×List PV} {sr:Sg} (hlp:f.params.length≤B20) (hc:sr[cc]?=some (false,fuC f)) (Q:Ex→S→Prop) :
  ∀ (l:List Pa) (i:Nat) (ns:Ns) (v:PV) (ow:Ow) (fr:List PV),f.params.drop i=l→ns.length=i→Gk k0 7 v ow (ns.map e7P)→Ok0 k0 ow0 ow →
  b9J fr [(1,v1),(2,.lp 1 0),(3,v3),(4,vf),(5,v5),(6,.lp (cc+1+1+1) 0),(8,v),(9,.t (.int .i64 i))] →
  (∀ s,e8J l ns=some s→∀ fr' v' ow',Gk k0 7 v' ow' (s.map e7P)→Ok0 k0 ow0 ow'→b9J fr' [(1,v1),(2,.lp 1 0),(3,v3),(4,vf),(5,v5),(6,.lp (cc+1+1+1) 0),(8,v')]→Q (.exit 4) ⟨fr',z0::(false,z5C)::z2::sr,ow'⟩) →
  (e8J l ns=none→∀ fr' ow',b9J fr' [(2,.lp 1 0)]→Q .ret ⟨fr',z0::(false,f9T (e8N 5))::z2::sr,ow'⟩) →
  Xl F gl c4G ⟨fr,z0::(false,z5C)::z2::sr,ow⟩ Q ⟨⟩:=by
 intro l
 induction l with
 |nil =>
  intro i ns v ow fr hd hln hg hk hf k1 k2
  have hd:=b9E hd
  simp only[b9L,b9K] at hf
  obtain⟨f1,f2,f3,f4,f5,f6,f8,f9,-⟩:=hf
  refine Xl.step ?_
  simp only[c4G]
  have c1:¬((i:Int) < (f.params.length:Int)):=by omega
  simp only[wA,seval,reduceCtorEq,reduceIte,f1,f2,f3,f4,f5,f6,f8,f9,c1,hc,g4L]
  exact k1 ns (by rw[e8J]) _ v _ hg hk (by simp only[wQ,Nat.reduceEqDiff,reduceIte,f1,f2,f3,f4,f5,f6,f8])
 |cons p l ih =>
  intro i ns v ow fr hd hln hg hk hf k1 k2
  obtain⟨hx,hr,hi⟩:=b9D hd
  simp only[b9L,b9K] at hf
  obtain⟨f1,f2,f3,f4,f5,f6,f8,f9,-⟩:=hf
  refine Xl.step ?_
  simp only[c4G]
  have c1:(i:Int) < (f.params.length:Int):=by omega
  have hB:B20=1100000:=rfl
  have hw1:=d7A hi (show f.params.length≤281474976710656 by omega)
  have hlo:ns.length≤4 * B20:=by omega
  have hF:=fun k K=>@f9H gl ns false k hlo K
  have hcl:=hg.gl.cl
  rw[e8J] at k1 k2
  cases hl:Ky.look p.name ns with
  |some s =>
   obtain⟨j,nm',hf,hj⟩:=e7T hl
   have cj:((j:Nat):Int)≥0:=by omega
   rw[hl] at k2
   simp only[wA,seval,reduceCtorEq,reduceIte,f1,f2,f3,f4,f5,f6,f8,f9,c1,hw1,hc,g4L,g3K,hi,g4B,hx,g5V,hcl,hF,hf,cj]
   exact k2 rfl _ _ (by simp only[wQ,Nat.reduceEqDiff,reduceIte,f2])
  |none =>
   rw[hl] at k1 k2
   obtain⟨v',ow',a1,hg',hk'⟩:=hg.app (bytes:=64) (e:=e7P (p.name,⟨p.ty,false,0,0⟩)) hk rfl (by omega) (f0S (by rw[g4L];omega))
   simp only[e7P] at a1
   simp only[wA,seval,reduceCtorEq,reduceIte,f1,f2,f3,f4,f5,f6,f8,f9,c1,hw1,hc,g4L,g3K,hi,g4B,hx,g5V,hcl,hF,e7R hl,b6Q,a0C,a0M,T.isAgg,List.replicate,g3S,g3T,g3O,a1]
   refine ih (i+1) (ns++[(p.name,⟨p.ty,false,0,0⟩)]) v' ow' _ hr (by simp [hln]) (by rw[g4Q];exact hg') hk' ?_ k1 k2
   simp only[wQ,Nat.reduceEqDiff,reduceIte,f1,f2,f3,f4,f5,f6]
theorem f9W {p:Pg} {vf:PV} {ow0:Ow} {k0:Nat} {z1:Bool×List PV} (hld:p.decls.length≤B20) (hz:z1=(false,z5C)) (Q:Ex→S→Prop) :
  ∀ (l:List De) (i:Nat) (ns:Ns) (x:Inf) (v:PV) (ow:Ow) (fr:List PV) (sr:Sg),p.decls.drop i=l→ns.length=i→Gk k0 7 v ow (ns.map e7P)→Ok0 k0 ow0 ow →
  b9J fr [(1,.lp 0 0),(2,.lp 1 0),(3,.lp 2 0),(4,vf),(13,v),(14,.t (.int .i64 i))] →
  (∀ s x',e8P l ns x=some (s,x')→∀ fr' sr' v' ow',Gk k0 7 v' ow' (s.map e7P)→Ok0 k0 ow0 ow'→b9J fr' [(1,.lp 0 0),(2,.lp 1 0),(3,.lp 2 0),(4,vf),(13,v')]→Q (.exit 6) ⟨fr',(false,[.t (.sl p.fnl (p.funcs.map fun f=>tFu f)),.t (.sl p.dnl (p.decls.map fun f=>tDe f)),.t (.sl p.bnl (d3G p.body))])::z1::(false,f9T x')::sr',ow'⟩) →
  (e8P l ns x=none→∀ fr' z2 sr' ow',b9J fr' [(2,.lp 1 0)]→Q .ret ⟨fr',(false,[.t (.sl p.fnl (p.funcs.map fun f=>tFu f)),.t (.sl p.dnl (p.decls.map fun f=>tDe f)),.t (.sl p.bnl (d3G p.body))])::(false,f9T (e8N 5))::z2::sr',ow'⟩) →
  Xl F gl c4F ⟨fr,(false,[.t (.sl p.fnl (p.funcs.map fun f=>tFu f)),.t (.sl p.dnl (p.decls.map fun f=>tDe f)),.t (.sl p.bnl (d3G p.body))])::z1::(false,f9T x)::sr,ow⟩ Q ⟨⟩:=by
 subst hz
 intro l
 induction l with
 |nil =>
  intro i ns x v ow fr sr hd hln hg hk hf k1 k2
  have hd:=b9E hd
  simp only[b9L,b9K] at hf
  obtain⟨f1,f2,f3,f4,f13,f14,-⟩:=hf
  refine Xl.step ?_
  simp only[c4F]
  have c1:¬((i:Int) < (p.decls.length:Int)):=by omega
  simp only[wA,seval,reduceCtorEq,reduceIte,f1,f2,f3,f4,f13,f14,c1,g4L]
  exact k1 ns x (by rw[e8P]) _ _ v _ hg hk (by simp only[wQ,Nat.reduceEqDiff,reduceIte,f1,f2,f3,f4,f13])
 |cons d l ih =>
  intro i ns x v ow fr sr hd hln hg hk hf k1 k2
  obtain⟨hx,hr,hi⟩:=b9D hd
  simp only[b9L,b9K] at hf
  obtain⟨f1,f2,f3,f4,f13,f14,-⟩:=hf
  refine Xl.step ?_
  simp only[c4F]
  have c1:(i:Int) < (p.decls.length:Int):=by omega
  have hB:B20=1100000:=rfl
  have hw1:=d7A hi (show p.decls.length≤281474976710656 by omega)
  have hlo:ns.length≤4 * B20:=by omega
  have hF:=fun k K=>@f9H gl ns false k hlo K
  have hcl:=hg.gl.cl
  rw[e8P] at k1 k2
  cases hl:Ky.look d.name ns with
  |some s =>
   obtain⟨j,nm',hf,hj⟩:=e7T hl
   have cj:((j:Nat):Int)≥0:=by omega
   rw[hl] at k2
   simp only[wA,seval,reduceCtorEq,reduceIte,f1,f2,f3,f4,f13,f14,c1,hw1,g4L,g3K,hi,g4B,hx,g5V,hcl,hF,hf,cj]
   exact k2 rfl _ _ _ _ (by simp only[wQ,Nat.reduceEqDiff,reduceIte,f2])
  |none =>
   rw[hl] at k1 k2
   obtain⟨v',ow',a1,hg',hk'⟩:=hg.app (bytes:=64) (e:=e7P (d.name,⟨d.ty,false,0,0⟩)) hk rfl (by omega) (f0S (by rw[g4L];omega))
   simp only[e7P] at a1
   cases hp:d.pub with
   |true =>
    simp only[wA,seval,reduceCtorEq,reduceIte,f1,f2,f3,f4,f13,f14,c1,hw1,g4L,g3K,hi,g4B,hx,g5V,hcl,hF,e7R hl,b6Q,a0C,a0M,T.isAgg,List.replicate,g3S,g3T,g3O,a1,hp,f9A,f8Z,ok46]
    have hdx:e8O d x=⟨x.err,grM x.bits (e7N d.ty),IntKind.i64.wrap (x.pub+elM d.ty),x.sec,x.steps⟩:=by unfold e8O;rw[hp];rfl
    rw[hdx] at k1 k2
    refine ih (i+1) (ns++[(d.name,⟨d.ty,false,0,0⟩)]) ⟨x.err,grM x.bits (e7N d.ty),IntKind.i64.wrap (x.pub+elM d.ty),x.sec,x.steps⟩ v' ow' _ _ hr ?_ ?_ hk' ?_ ?_ ?_
    ·simp [hln]
    ·rw[g4Q];exact hg'
    ·simp only[wQ,Nat.reduceEqDiff,reduceIte,f1,f2,f3,f4]
    ·exact k1
    ·exact k2
   |false =>
    simp only[wA,seval,reduceCtorEq,reduceIte,f1,f2,f3,f4,f13,f14,c1,hw1,g4L,g3K,hi,g4B,hx,g5V,hcl,hF,e7R hl,b6Q,a0C,a0M,T.isAgg,List.replicate,g3S,g3T,g3O,a1,hp,f9A,f8Z,ok46]
    have hdx:e8O d x=⟨x.err,grM x.bits (e7N d.ty),x.pub,IntKind.i64.wrap (x.sec+elM d.ty),x.steps⟩:=by unfold e8O;rw[hp];rfl
    rw[hdx] at k1 k2
    refine ih (i+1) (ns++[(d.name,⟨d.ty,false,0,0⟩)]) ⟨x.err,grM x.bits (e7N d.ty),x.pub,IntKind.i64.wrap (x.sec+elM d.ty),x.steps⟩ v' ow' _ _ hr ?_ ?_ hk' ?_ ?_ ?_
    ·simp [hln]
    ·rw[g4Q];exact hg'
    ·simp only[wQ,Nat.reduceEqDiff,reduceIte,f1,f2,f3,f4]
    ·exact k1
    ·exact k2
end Go.Proofs.YtdjcnfacjfnakaaGreat

/- The reference: Examine. -/
namespace Go.Proofs.YtdjcnfacjfnakaaGreat
open Go.Pi Go.Lx Go.Ky
variable {gl:Nat→Option (List T)}
abbrev pgC (p:Pg):List PV:=[.t (.sl p.fnl (p.funcs.map fun f=>tFu f)),.t (.sl p.dnl (p.decls.map fun f=>tDe f)),.t (.sl p.bnl (d3G p.body))]
theorem f9X {p:Pg} (hp:PgQ p) {f:Fu} (hf:f∈p.funcs) (hv:fuB f=true):(∀ s,s∈f.body→SG s)∧EG f.ret:=by
 obtain⟨h1,h2,h3⟩:=hp.fs f hf
 have ho:=hp.ok.fo f hf
 unfold fuB at hv
 simp only[g3C] at hv
 exact⟨fun s hs=>⟨g3L.1 hv.1.2 s hs,ho.bo s hs,g5L (d4H hs) h2⟩,hv.2,ho.ret,h3⟩
set_option maxHeartbeats 1000000 in
theorem f9Y {p:Pg} (hp:PgQ p) (hv:p.funcs.all fuB=true) (Q:Ex→S→Prop):∀ (l:List Fu) (i:Nat) (fz:Fz) (b:Int) (vf:PV) (ow:Ow) (fr:List PV) (sr:Sg),p.funcs.drop i=l→Gl 11 vf ow (fz.map tFz)→fz.length≤i→i≤p.funcs.length→(∀ q,q∈fz→q.1.params.length≤B20) →
  b9J fr [(1,.lp 0 0),(2,.lp 1 0),(3,.lp 2 0),(4,vf),(5,.t (.int .i64 i))] →
  ((e8M l fz b).1=0→∀ fr' sr' vf' ow',Gl 11 vf' ow' ((e8M l fz b).2.1.map tFz)→(e8M l fz b).2.1.length≤p.funcs.length→(∀ q,q∈(e8M l fz b).2.1→q.1.params.length≤B20)→b9J fr' [(1,.lp 0 0),(2,.lp 1 0),(3,.lp 2 0),(4,vf')]→Q (.exit 0) ⟨fr',(false,pgC p)::(false,z5C)::(false,f9T ⟨0,(e8M l fz b).2.2,0,0,0⟩)::sr',ow'⟩) →
  ((e8M l fz b).1≠0→∀ fr' z2 sr' ow',b9J fr' [(2,.lp 1 0)]→Q .ret ⟨fr',(false,pgC p)::(false,f9T (e8N (e8M l fz b).1))::z2::sr',ow'⟩) →
  Xl F gl c4I ⟨fr,(false,pgC p)::(false,z5C)::(false,f9T ⟨0,b,0,0,0⟩)::sr,ow⟩ Q ⟨⟩:=by
 intro l
 induction l with
 |nil =>
  intro i fz b vf ow fr sr hd hg hln hil hlp hf k1 k2
  have hd:=b9E hd
  simp only[b9L,b9K] at hf
  obtain⟨f1,f2,f3,f4,f5,-⟩:=hf
  refine Xl.step ?_
  simp only[c4I]
  have c1:¬((i:Int) < (p.funcs.length:Int)):=by omega
  rw[e8M] at k1
  simp only[wA,seval,reduceCtorEq,reduceIte,f1,f2,f3,f4,f5,c1,g4L]
  exact k1 rfl _ _ vf _ hg (by show fz.length≤_;omega) hlp (by simp only[wQ,Nat.reduceEqDiff,reduceIte,f1,f2,f3,f4])
 |cons f l ih =>
  intro i fz b vf ow fr sr hd hg hln hil hlp hf k1 k2
  obtain⟨hx,hr,hi⟩:=b9D hd
  simp only[b9L,b9K] at hf
  obtain⟨f1,f2,f3,f4,f5,-⟩:=hf
  refine Xl.step ?_
  simp only[c4I]
  have c1:(i:Int) < (p.funcs.length:Int):=by omega
  have hB:B20=1100000:=rfl
  have hfl:=hp.fl
  have hw1:=d7A hi (show p.funcs.length≤281474976710656 by omega)
  have hm:=g4Y hx
  obtain⟨q1,q2,q3⟩:=hp.fs f hm
  obtain⟨hSG,hEG⟩:=f9X hp hm (g3L.1 hv f hm)
  have hlf:fz.length≤B20:=by omega
  rw[e8M] at k1 k2
  simp only[wA,seval,reduceCtorEq,reduceIte,f1,f2,f3,f4,f5,c1,hw1,g4L,g3K,hi,g4B,hx,g5V]
  refine f9U (v1:=.lp 0 0) (v3:=.lp 2 0) (v5:=.t (.int .i64 i)) (f:=f) (cc:=sr.length) hlf hg (by simp) _ fz 0 _ rfl (by simp only[wQ,Nat.reduceEqDiff,reduceIte,f1,f2,f3,f4,f5];first|done|exact⟨rfl,rfl⟩|rfl) ?_ ?_
  ·intro h0 fr2 hf2
   simp only[b9L,b9K] at hf2
   obtain⟨f1,f2,f3,f4,f5,f6,-⟩:=hf2
   simp only[wA,seval,reduceCtorEq,reduceIte,f1,f2,f3,f4,f5,f6,b6Q,a0C,a0M,T.isAgg,List.replicate,g3S,g3T,g3O]
   refine f9V (vf:=vf) (v1:=.lp 0 0) (v3:=.lp 2 0) (v5:=.t (.int .i64 i)) (f:=f) (cc:=sr.length) (ow0:=ow) (k0:=ow.length) q1 (by simp) _ f.params 0 [] (.lit []) ow _ rfl rfl (Gk.zero _ _ _) Ok0.refl (by simp only[wQ,Nat.reduceEqDiff,reduceIte,f1,f2,f3,f4,f5,f6];first|done|exact⟨rfl,rfl⟩|rfl) ?_ ?_
   ·intro s hs fr3 v' ow' hg3 hk3 hf3
    simp only[b9L,b9K] at hf3
    obtain⟨f1,f2,f3,f4,f5,f6,f8,-⟩:=hf3
    have hgf:=hg.ok0 hk3
    have hcs:=hg3.gl.cl
    have hcf:=hgf.cl
    have hsl:=f0X hs
    simp only[g4M,g5Q] at hsl
    have hfb:f.body.length≤B20:=g5L (d4J _) q2
    have hfb2:=d4J f.body
    have hBo:=fun nl K=>ok40 (gl:=gl) (fz:=fz) (fl:=false) (bl:=nl) (nl:=false) (sts:=f.body) (ns:=s) hfb hlf hlp hSG (by simp) (by omega) K
    have hfun:e8L fz f b=if (e8H fz f.body zR s).1.err≠0 then ((e8H fz f.body zR s).1.err,fz,b)
      else if (exR fz (e8H fz f.body zR s).2 f.ret).err≠0 then ((exR fz (e8H fz f.body zR s).2 f.ret).err,fz,b)
      else if e7O (exR fz (e8H fz f.body zR s).2 f.ret).t f.res=false then (6,fz,b)
      else (0,fz++[(f,e7L (IntKind.i64.wrap ((e8H fz f.body zR s).1.steps+(exR fz (e8H fz f.body zR s).2 f.ret).steps)))],grM b (grM (e8H fz f.body zR s).1.bits (exR fz (e8H fz f.body zR s).2 f.ret).bits)):=by
     unfold e8L
     rw[h0,if_neg (by simp),hs]
    have hql:=f0W (fz:=fz) f.body zR s
    have hEx:=fun nl K=>ok41 (gl:=gl) (fz:=fz) (ns:=(e8H fz f.body zR s).2) nl false (by omega) hlf hlp f.ret hEG K
    simp only[d3D] at hEx
    by_cases he:(e8H fz f.body zR s).1.err=0
    ·have he':((e8H fz f.body zR s).1.err=0)=True:=g6D he
     rw[if_neg (show ¬((e8H fz f.body zR s).1.err≠0) from fun x=>x he)] at hfun
     by_cases hx2:(exR fz (e8H fz f.body zR s).2 f.ret).err=0
     ·have hx2':((exR fz (e8H fz f.body zR s).2 f.ret).err=0)=True:=g6D hx2
      rw[if_neg (show ¬((exR fz (e8H fz f.body zR s).2 f.ret).err≠0) from fun x=>x hx2)] at hfun
      cases hfit:e7O (exR fz (e8H fz f.body zR s).2 f.ret).t f.res with
      |false =>
       rw[hfit,if_pos rfl] at hfun
       rw[hfun,if_pos (show(6:Int)≠0 by decide)] at k2
       simp only[wA,seval,reduceCtorEq,reduceIte,f1,f2,f3,f4,f5,f6,f8,hcs,hcf,hBo,he',hEx,hx2',f9F,hfit]
       exact k2 (by simp) _ _ _ _ (by simp only[wQ,Nat.reduceEqDiff,reduceIte,f2])
      |true =>
       rw[hfit,if_neg (by simp)] at hfun
       rw[hfun] at k1 k2
       obtain⟨vf',ow2,a1,hg4⟩:=hgf.app (bytes:=152) (e:=tFz (f,e7L (IntKind.i64.wrap ((e8H fz f.body zR s).1.steps+(exR fz (e8H fz f.body zR s).2 f.ret).steps)))) rfl (by omega) (f0L (by simp only[g4L];omega) (by simp only[g4L];omega))
       simp only[tFz] at a1
       simp only[wA,seval,reduceCtorEq,reduceIte,f1,f2,f3,f4,f5,f6,f8,hw1,hcs,hcf,hBo,he',hEx,hx2',f9F,hfit,f8Z,f8Y,b6Q,a0C,a0M,T.isAgg,List.replicate,g3S,g3T,g3O,a1]
       refine ih (i+1) (fz++[(f,e7L (IntKind.i64.wrap ((e8H fz f.body zR s).1.steps+(exR fz (e8H fz f.body zR s).2 f.ret).steps)))]) (grM b (grM (e8H fz f.body zR s).1.bits (exR fz (e8H fz f.body zR s).2 f.ret).bits)) vf' ow2 _ _ hr ?_ ?_ (by omega) ?_ ?_ ?_ ?_
       ·rw[g4Q];exact hg4
       ·simp;omega
       ·intro q hq
        rcases g4T.1 hq with h|h
        ·exact hlp q h
        ·rw[g5B.1 h];exact q1
       ·simp only[wQ,Nat.reduceEqDiff,reduceIte,f1,f2,f3]
       ·exact k1
       ·exact k2
     ·rw[if_pos hx2] at hfun
      rw[hfun,if_pos hx2] at k2
      simp only[wA,seval,reduceCtorEq,reduceIte,f1,f2,f3,f4,f5,f6,f8,hcs,hcf,hBo,he',hEx,hx2]
      exact k2 hx2 _ _ _ _ (by simp only[wQ,Nat.reduceEqDiff,reduceIte,f2])
    ·rw[if_pos he] at hfun
     rw[hfun,if_pos he] at k2
     simp only[wA,seval,reduceCtorEq,reduceIte,f1,f2,f3,f4,f5,f6,f8,hcs,hcf,hBo,he]
     exact k2 he _ _ _ _ (by simp only[wQ,Nat.reduceEqDiff,reduceIte,f2])
   ·intro hs fr3 ow' hf3
    have hfun:e8L fz f b=(5,fz,b):=by
     unfold e8L
     rw[h0,if_neg (by simp),hs]
    rw[hfun,if_pos (show(5:Int)≠0 by decide)] at k2
    exact k2 (by simp) _ _ _ _ hf3
  ·intro h0 fr2 hf2
   have hfun:e8L fz f b=(5,fz,b):=by
    unfold e8L
    rw[h0,if_pos rfl]
   rw[hfun,if_pos (show(5:Int)≠0 by decide)] at k2
   exact k2 (by simp) _ _ _ _ hf2
theorem f9Z:∀ {l:List De} {ns s:Ns} {x y:Inf},e8P l ns x=some (s,y)→y.err=x.err
 |[],ns,s,x,y,h=>by rw[e8P] at h;injection h with h;injection h with _ h;subst h;rfl
 |p::r,ns,s,x,y,h=>by
  rw[e8P] at h
  split at h
  ·cases h
  ·rw[f9Z h];rfl
theorem g0A:∀ {l:List De} {ns s:Ns} {x y:Inf},e8P l ns x=some (s,y)→y.steps=x.steps
 |[],ns,s,x,y,h=>by rw[e8P] at h;injection h with h;injection h with _ h;subst h;rfl
 |p::r,ns,s,x,y,h=>by
  rw[e8P] at h
  split at h
  ·cases h
  ·rw[g0A h];rfl
theorem g0B {p:Pg} (h:rvP p=0):p.funcs.all fuB=true∧p.decls.all deB=true∧p.body.all stB=true:=by
 unfold rvP at h
 have h1:p.funcs.all fmB=true:=by
  cases hh:p.funcs.all fmB with
  |true=>rfl
  |false=>rw[hh,if_pos rfl] at h;exact absurd h (by decide)
 rw[h1,if_neg (by simp)] at h
 have h2:p.decls.all deB=true:=by
  cases hh:p.decls.all deB with
  |true=>rfl
  |false=>rw[hh,if_pos rfl] at h;exact absurd h (by decide)
 rw[h2,if_neg (by simp)] at h
 refine⟨?_,h2,?_⟩
 ·rw[←h1];congr 1;funext f;exact(e1E f).symm
 ·cases hh:p.body.all stB with
  |true=>rfl
  |false=>rw[hh,if_pos rfl] at h;exact absurd h (by decide)
set_option maxHeartbeats 1000000 in
theorem ok12 {p:Pg} (hp:PgQ p) (K:PV→Prop):XcP F gl 12 [.agg (tPg p)] K ⟨⟩↔K (.t (.agg (tInf (e8Q p)))):=by
 refine Ret.iff (Ret.of F12 rfl ?_)
 simp only[c4J]
 have hV:=fun K=>ok38 (gl:=gl) hp K
 by_cases hv:rvP p=0
 ·have hv':(rvP p=0)=True:=g6D hv
  obtain⟨v1,v2,v3⟩:=g0B hv
  have hB:B20=1100000:=rfl
  have hfl:=hp.fl
  have hdl:=hp.dl
  have hM:e8Q p=if (e8M p.funcs [] 0).1≠0 then e8N (e8M p.funcs [] 0).1
    else match e8P p.decls [] ⟨0,(e8M p.funcs [] 0).2.2,0,0,0⟩ with
    |none=>e8N 5
    |some (ns,x) =>
     if (e8H (e8M p.funcs [] 0).2.1 p.body zR ns).1.err≠0 then e8N (e8H (e8M p.funcs [] 0).2.1 p.body zR ns).1.err
     else if (e8H (e8M p.funcs [] 0).2.1 p.body zR ns).1.steps > 20000 then e8N 3
     else ⟨0,grM x.bits (e8H (e8M p.funcs [] 0).2.1 p.body zR ns).1.bits,x.pub,x.sec,(e8H (e8M p.funcs [] 0).2.1 p.body zR ns).1.steps⟩:=by
   unfold e8Q
   rw[if_neg (show ¬(rvP p≠0) from fun x=>x hv)];rfl
  rw[hM]
  simp only[wA,seval,reduceCtorEq,reduceIte,hV,hv',b6Q,a0C,a0M,T.isAgg,List.replicate,g3S,g3T,g3O]
  refine f9Y hp v1 _ p.funcs 0 [] 0 (.lit []) _ _ [] rfl (Gl.zero 11 _) (by simp) (by omega) (by simp) (by simp only[wQ,Nat.reduceEqDiff,reduceIte];first|done|exact⟨rfl,rfl⟩|rfl) ?_ ?_
  ·intro he fr1 sr1 vf ow1 hg1 hl1 hq1 hf1
   simp only[b9L,b9K] at hf1
   obtain⟨f1,f2,f3,f4,-⟩:=hf1
   rw[if_neg (show ¬((e8M p.funcs [] 0).1≠0) from fun x=>x he)]
   generalize (e8M p.funcs [] 0).2.1=fz at *
   generalize (e8M p.funcs [] 0).2.2=b at *
   simp only[wA,seval,reduceCtorEq,reduceIte,f1,f2,f3,f4,b6Q,a0C,a0M,T.isAgg,List.replicate,g3S,g3T,g3O]
   refine f9W (p:=p) (vf:=vf) (ow0:=ow1) (k0:=ow1.length) hdl rfl _ p.decls 0 [] ⟨0,b,0,0,0⟩ (.lit []) ow1 _ _ rfl rfl (Gk.zero _ _ _) Ok0.refl (by simp only[wQ,Nat.reduceEqDiff,reduceIte,f1,f2,f3,f4];first|done|exact⟨rfl,rfl⟩|rfl) ?_ ?_
   ·intro s x hs fr2 sr2 v' ow2 hg2 hk2 hf2
    simp only[b9L,b9K] at hf2
    obtain⟨f1,f2,f3,f4,f13,-⟩:=hf2
    rw[hs]
    simp only
    have hcs:=hg2.gl.cl
    have hcf:=(hg1.ok0 hk2).cl
    have hsl:=f0Y hs
    simp only[g4M,g5Q] at hsl
    have hbs:=hp.bs
    have hBo:=fun nl K=>ok40 (gl:=gl) (fz:=fz) (fl:=false) (bl:=nl) (nl:=false) (sts:=p.body) (ns:=s) (g5L (d4J _) hp.bs) (by omega) hq1 (fun a ha=>⟨g3L.1 v3 a ha,hp.ok.bo a ha,g5L (d4H ha) hp.bs⟩) (by simp) (by omega) K
    have hxe:x.err=0:=f9Z hs
    have hxs:x.steps=0:=g0A hs
    by_cases he2:(e8H fz p.body zR s).1.err=0
    ·have he2':((e8H fz p.body zR s).1.err=0)=True:=g6D he2
     rw[if_neg (show ¬((e8H fz p.body zR s).1.err≠0) from fun x=>x he2)]
     by_cases hst:(e8H fz p.body zR s).1.steps > 20000
     ·rw[if_pos hst]
      simp only[wA,seval,reduceCtorEq,reduceIte,f1,f2,f3,f4,f13,hcs,hcf,hBo,he2',hst]
      try rfl
     ·rw[if_neg hst]
      simp only[wA,seval,reduceCtorEq,reduceIte,f1,f2,f3,f4,f13,hcs,hcf,hBo,he2',hst,f8Z,hxe]
      try rfl
    ·rw[if_pos he2]
     simp only[wA,seval,reduceCtorEq,reduceIte,f1,f2,f3,f4,f13,hcs,hcf,hBo,he2]
     try rfl
   ·intro hs fr2 z2 sr2 ow2 hf2
    simp only[b9L,b9K] at hf2
    obtain⟨f2,-⟩:=hf2
    rw[hs]
    simp only[wA,seval,reduceCtorEq,reduceIte,f2]
    try rfl
  ·intro he fr1 z2 sr1 ow1 hf1
   simp only[b9L,b9K] at hf1
   obtain⟨f2,-⟩:=hf1
   rw[if_pos he]
   simp only[wA,seval,reduceCtorEq,reduceIte,f2]
   try rfl
 ·have hM:e8Q p=e8N 1:=by unfold e8Q;rw[if_pos hv]
  rw[hM]
  simp only[wA,seval,reduceCtorEq,reduceIte,hV,hv]
  try rfl
end Go.Proofs.YtdjcnfacjfnakaaGreat
