/- The reference: what Examine's loops do. -/
import Derived.Test.YtdjcnfacjfnakaaGreatQ18
import Derived.Test.YtdjcnfacjfnakaaGreatKx27
set_option maxRecDepth 10000
set_option linter.unusedVariables false
set_option linter.unusedSimpArgs false
namespace Go.Proofs.YtdjcnfacjfnakaaGreat
open Go.Pi Go.Lx Go.Ky
variable {gl:Nat->Option (List T)}
abbrev z5C:List PV:=[.t (.int .i64 0),.t (.int .i64 0),.t (.int .i64 0),.t (.int .i64 0),.t (.int .i64 0)]
abbrev g2P (r:Inf):List PV:=[.t (.int .i64 r.err),.t (.int .i64 r.bits),.t (.int .i64 r.pub),.t (.int .i64 r.sec),.t (.int .i64 r.steps)]
abbrev fuC (f:Fu):List PV:=[.t (.str f.name),.t (.sl f.pnl (f.params.map λx=>tPa x)),.t (.int .i64 f.res.kind),.t (.int .i64 f.res.bits),.t (.int .i64 f.res.len),.t (.sl f.bnl (d1M f.body)),.t (.int .i64 f.ret.op),.t (.int .u64 f.ret.val),.t (.str f.ret.name),.t (.sl f.ret.nl (d1H f.ret.args))]
theorem g2Q {fz:Fz} {vf v1 v3 v5:PV} {ow:Ow} {f:Fu} {cc:Nat} {z0 z2:Bool×List PV} {sr:Sg} (hlf:fz.length<=B20) (hg:Gl 11 vf ow (fz.map tFz)) (hc:sr[cc]?=some (false,fuC f)) (Q:Ex->S->Prop) :
  ∀ (l:Fz) (i:Nat) (fr:List PV),fz.drop i=l->b6S fr [(1,v1),(2,.lp 1 0),(3,v3),(4,vf),(5,v5),(6,.lp (cc+1+1+1) 0),(7,.t (.int .i64 i))] ->
  (e4Y f.name l=false->∀ fr',b6S fr' [(1,v1),(2,.lp 1 0),(3,v3),(4,vf),(5,v5),(6,.lp (cc+1+1+1) 0)]->Q (.exit 2) ⟨fr',z0::(false,z5C)::z2::sr,ow⟩) ->
  (e4Y f.name l=true->∀ fr',b6S fr' [(2,.lp 1 0)]->Q .ret ⟨fr',z0::(false,g2P (e5B 5))::z2::sr,ow⟩) ->
  Xl F gl c1I ⟨fr,z0::(false,z5C)::z2::sr,ow⟩ Q ⟨⟩:=by
 intro l
 induction l with
 |nil =>
  intro i fr hd hf k1 k2
  have hd:=b6N hd
  simp only[b6U,b6T] at hf
  obtain⟨f1,f2,f3,f4,f5,f6,f7,-⟩:=hf
  refine Xl.step ?_
  simp only[c1I]
  have c1:¬((i:Int) < (fz.length:Int)):=by omega
  rcases hg with⟨rfl,hn⟩|⟨k,rfl,hk⟩
  ·have hn:fz=[]:=by simpa using hn
   subst hn
   simp only[wA,seval,f1,f2,f3,f4,f5,f6,f7,c1,g5Y]
   exact k1 rfl _ (by simp only[wQ,seval,f1,f2,f3,f4,f5,f6])
  ·simp only[wA,seval,f1,f2,f3,f4,f5,f6,f7,c1,g5Y]
   exact k1 rfl _ (by simp only[wQ,seval,f1,f2,f3,f4,f5,f6])
 |cons p l ih =>
  intro i fr hd hf k1 k2
  obtain⟨hx,hr,hi⟩:=b6M hd
  simp only[b6U,b6T] at hf
  obtain⟨f1,f2,f3,f4,f5,f6,f7,-⟩:=hf
  refine Xl.step ?_
  simp only[c1I]
  have c1:(i:Int) < (fz.length:Int):=by omega
  have hB:B20=1100000:=rfl
  have hw1:=d5F hi (show fz.length<=281474976710656 by omega)
  obtain⟨k,rfl,hk⟩:∃ k,vf=.own k 11 (fz.map tFz)/\ow[k]?=some (fz.map tFz).length:=by
   rcases hg with⟨_,hn⟩|h
   ·have:fz=[]:=by simpa using hn
    subst this;simp at hi
   ·exact h
  have hh:e4Y f.name (p::l)=(decide (p.1.name=f.name) || e4Y f.name l):=rfl
  rw[hh] at k1 k2
  by_cases hn:p.1.name=f.name
  ·have hb1:(p.1.name == f.name)=true:=by simpa using hn
   have hn':(p.1.name=f.name)=True:=g7N hn
   rw[g7K hn,Bool.true_or] at k1 k2
   simp only[wA,seval,f1,f2,f3,f4,f5,f6,f7,c1,hw1,g5Y,g4Z,hi,g5P,hx,g7F,hc,hn',hb1]
   exact k2 rfl _ (by simp only[wQ,seval,f2])
  ·have hb1:(p.1.name == f.name)=false:=by simpa using hn
   have hn':(p.1.name=f.name)=False:=g7M hn
   rw[g7I hn,Bool.false_or] at k1 k2
   simp only[wA,seval,f1,f2,f3,f4,f5,f6,f7,c1,hw1,g5Y,g4Z,hi,g5P,hx,g7F,hc,hn',hb1]
   refine ih (i+1) _ hr ?_ k1 k2
   simp only[wQ,seval,f1,f2,f3,f4,f5,f6]
theorem g2R {vf v1 v3 v5:PV} {ow0:Ow} {k0:Nat} {f:Fu} {cc:Nat} {z0 z2:Bool×List PV} {sr:Sg} (hlp:f.params.length<=B20) (hc:sr[cc]?=some (false,fuC f)) (Q:Ex->S->Prop) :
  ∀ (l:List Pa) (i:Nat) (ns:Ns) (v:PV) (ow:Ow) (fr:List PV),f.params.drop i=l->ns.length=i->Gk k0 7 v ow (ns.map e4D)->Ok0 k0 ow0 ow ->
  b6S fr [(1,v1),(2,.lp 1 0),(3,v3),(4,vf),(5,v5),(6,.lp (cc+1+1+1) 0),(8,v),(9,.t (.int .i64 i))] ->
  (∀ s,e4X l ns=some s->∀ fr' v' ow',Gk k0 7 v' ow' (s.map e4D)->Ok0 k0 ow0 ow'->b6S fr' [(1,v1),(2,.lp 1 0),(3,v3),(4,vf),(5,v5),(6,.lp (cc+1+1+1) 0),(8,v')]->Q (.exit 4) ⟨fr',z0::(false,z5C)::z2::sr,ow'⟩) ->
  (e4X l ns=none->∀ fr' ow',b6S fr' [(2,.lp 1 0)]->Q .ret ⟨fr',z0::(false,g2P (e5B 5))::z2::sr,ow'⟩) ->
  Xl F gl c1H ⟨fr,z0::(false,z5C)::z2::sr,ow⟩ Q ⟨⟩:=by
 intro l
 induction l with
 |nil =>
  intro i ns v ow fr hd hln hg hk hf k1 k2
  have hd:=b6N hd
  simp only[b6U,b6T] at hf
  obtain⟨f1,f2,f3,f4,f5,f6,f8,f9,-⟩:=hf
  refine Xl.step ?_
  simp only[c1H]
  have c1:¬((i:Int) < (f.params.length:Int)):=by omega
  simp only[wA,seval,f1,f2,f3,f4,f5,f6,f8,f9,c1,hc,g5Y]
  exact k1 ns (by rw[e4X]) _ v _ hg hk (by simp only[wQ,seval,f1,f2,f3,f4,f5,f6,f8])
 |cons p l ih =>
  intro i ns v ow fr hd hln hg hk hf k1 k2
  obtain⟨hx,hr,hi⟩:=b6M hd
  simp only[b6U,b6T] at hf
  obtain⟨f1,f2,f3,f4,f5,f6,f8,f9,-⟩:=hf
  refine Xl.step ?_
  simp only[c1H]
  have c1:(i:Int) < (f.params.length:Int):=by omega
  have hB:B20=1100000:=rfl
  have hw1:=d5F hi (show f.params.length<=281474976710656 by omega)
  have hlo:ns.length<=4 * B20:=by omega
  have hF:=λk K=>@g2D gl ns false k hlo K
  have hcl:=hg.gl.cl
  rw[e4X] at k1 k2
  cases hl:Ky.look p.name ns with
  |some s =>
   obtain⟨j,nm',hf,hj⟩:=e4H hl
   have cj:((j:Nat):Int)>=0:=by omega
   rw[hl] at k2
   simp only[wA,seval,f1,f2,f3,f4,f5,f6,f8,f9,c1,hw1,hc,g5Y,g4Z,hi,g5P,hx,g7F,hcl,hF,hf,cj]
   exact k2 rfl _ _ (by simp only[wQ,seval,f2])
  |none =>
   rw[hl] at k1 k2
   obtain⟨v',ow',a1,hg',hk'⟩:=hg.app (bytes:=64) (e:=e4D (p.name,⟨p.ty,false,0,0⟩)) hk rfl (by omega) (e7J (by rw[g5Y];omega))
   simp only[e4D] at a1
   simp only[wA,seval,f1,f2,f3,f4,f5,f6,f8,f9,c1,hw1,hc,g5Y,g4Z,hi,g5P,hx,g7F,hcl,hF,e4F hl,b4J,a0C,a0L,T.isAgg,List.replicate,g5H,g5I,g5C,a1]
   refine ih (i+1) (ns++[(p.name,⟨p.ty,false,0,0⟩)]) v' ow' _ hr (by simp [hln]) (by rw[g6D];exact hg') hk' ?_ k1 k2
   simp only[wQ,seval,f1,f2,f3,f4,f5,f6]
theorem g2S {p:Pg} {vf:PV} {ow0:Ow} {k0:Nat} {z1:Bool×List PV} (hld:p.decls.length<=B20) (hz:z1=(false,z5C)) (Q:Ex->S->Prop) :
  ∀ (l:List De) (i:Nat) (ns:Ns) (x:Inf) (v:PV) (ow:Ow) (fr:List PV) (sr:Sg),p.decls.drop i=l->ns.length=i->Gk k0 7 v ow (ns.map e4D)->Ok0 k0 ow0 ow ->
  b6S fr [(1,.lp 0 0),(2,.lp 1 0),(3,.lp 2 0),(4,vf),(13,v),(14,.t (.int .i64 i))] ->
  (∀ s x',e5D l ns x=some (s,x')->∀ fr' sr' v' ow',Gk k0 7 v' ow' (s.map e4D)->Ok0 k0 ow0 ow'->b6S fr' [(1,.lp 0 0),(2,.lp 1 0),(3,.lp 2 0),(4,vf),(13,v')]->Q (.exit 6) ⟨fr',(false,[.t (.sl p.fnl (p.funcs.map λf=>tFu f)),.t (.sl p.dnl (p.decls.map λf=>tDe f)),.t (.sl p.bnl (d1M p.body))])::z1::(false,g2P x')::sr',ow'⟩) ->
  (e5D l ns x=none->∀ fr' z2 sr' ow',b6S fr' [(2,.lp 1 0)]->Q .ret ⟨fr',(false,[.t (.sl p.fnl (p.funcs.map λf=>tFu f)),.t (.sl p.dnl (p.decls.map λf=>tDe f)),.t (.sl p.bnl (d1M p.body))])::(false,g2P (e5B 5))::z2::sr',ow'⟩) ->
  Xl F gl c1G ⟨fr,(false,[.t (.sl p.fnl (p.funcs.map λf=>tFu f)),.t (.sl p.dnl (p.decls.map λf=>tDe f)),.t (.sl p.bnl (d1M p.body))])::z1::(false,g2P x)::sr,ow⟩ Q ⟨⟩:=by
 subst hz
 intro l
 induction l with
 |nil =>
  intro i ns x v ow fr sr hd hln hg hk hf k1 k2
  have hd:=b6N hd
  simp only[b6U,b6T] at hf
  obtain⟨f1,f2,f3,f4,f13,f14,-⟩:=hf
  refine Xl.step ?_
  simp only[c1G]
  have c1:¬((i:Int) < (p.decls.length:Int)):=by omega
  simp only[wA,seval,f1,f2,f3,f4,f13,f14,c1,g5Y]
  exact k1 ns x (by rw[e5D]) _ _ v _ hg hk (by simp only[wQ,seval,f1,f2,f3,f4,f13])
 |cons d l ih =>
  intro i ns x v ow fr sr hd hln hg hk hf k1 k2
  obtain⟨hx,hr,hi⟩:=b6M hd
  simp only[b6U,b6T] at hf
  obtain⟨f1,f2,f3,f4,f13,f14,-⟩:=hf
  refine Xl.step ?_
  simp only[c1G]
  have c1:(i:Int) < (p.decls.length:Int):=by omega
  have hB:B20=1100000:=rfl
  have hw1:=d5F hi (show p.decls.length<=281474976710656 by omega)
  have hlo:ns.length<=4 * B20:=by omega
  have hF:=λk K=>@g2D gl ns false k hlo K
  have hcl:=hg.gl.cl
  rw[e5D] at k1 k2
  cases hl:Ky.look d.name ns with
  |some s =>
   obtain⟨j,nm',hf,hj⟩:=e4H hl
   have cj:((j:Nat):Int)>=0:=by omega
   rw[hl] at k2
   simp only[wA,seval,f1,f2,f3,f4,f13,f14,c1,hw1,g5Y,g4Z,hi,g5P,hx,g7F,hcl,hF,hf,cj]
   exact k2 rfl _ _ _ _ (by simp only[wQ,seval,f2])
  |none =>
   rw[hl] at k1 k2
   obtain⟨v',ow',a1,hg',hk'⟩:=hg.app (bytes:=64) (e:=e4D (d.name,⟨d.ty,false,0,0⟩)) hk rfl (by omega) (e7J (by rw[g5Y];omega))
   simp only[e4D] at a1
   cases hp:d.pub with
   |true =>
    simp only[wA,seval,f1,f2,f3,f4,f13,f14,c1,hw1,g5Y,g4Z,hi,g5P,hx,g7F,hcl,hF,e4F hl,b4J,a0C,a0L,T.isAgg,List.replicate,g5H,g5I,g5C,a1,hp,g1W,g1V,ok46]
    have hdx:e5C d x=⟨x.err,grM x.bits (e4B d.ty),IntKind.i64.wrap (x.pub+elM d.ty),x.sec,x.steps⟩:=by unfold e5C;rw[hp];rfl
    rw[hdx] at k1 k2
    refine ih (i+1) (ns++[(d.name,⟨d.ty,false,0,0⟩)]) ⟨x.err,grM x.bits (e4B d.ty),IntKind.i64.wrap (x.pub+elM d.ty),x.sec,x.steps⟩ v' ow' _ _ hr ?_ ?_ hk' ?_ ?_ ?_
    ·simp [hln]
    ·rw[g6D];exact hg'
    ·simp only[wQ,seval,f1,f2,f3,f4]
    ·exact k1
    ·exact k2
   |false =>
    simp only[wA,seval,f1,f2,f3,f4,f13,f14,c1,hw1,g5Y,g4Z,hi,g5P,hx,g7F,hcl,hF,e4F hl,b4J,a0C,a0L,T.isAgg,List.replicate,g5H,g5I,g5C,a1,hp,g1W,g1V,ok46]
    have hdx:e5C d x=⟨x.err,grM x.bits (e4B d.ty),x.pub,IntKind.i64.wrap (x.sec+elM d.ty),x.steps⟩:=by unfold e5C;rw[hp];rfl
    rw[hdx] at k1 k2
    refine ih (i+1) (ns++[(d.name,⟨d.ty,false,0,0⟩)]) ⟨x.err,grM x.bits (e4B d.ty),x.pub,IntKind.i64.wrap (x.sec+elM d.ty),x.steps⟩ v' ow' _ _ hr ?_ ?_ hk' ?_ ?_ ?_
    ·simp [hln]
    ·rw[g6D];exact hg'
    ·simp only[wQ,seval,f1,f2,f3,f4]
    ·exact k1
    ·exact k2
end Go.Proofs.YtdjcnfacjfnakaaGreat

/- The reference: Examine. -/
namespace Go.Proofs.YtdjcnfacjfnakaaGreat
open Go.Pi Go.Lx Go.Ky
variable {gl:Nat->Option (List T)}
abbrev pgC (p:Pg):List PV:=[.t (.sl p.fnl (p.funcs.map λf=>tFu f)),.t (.sl p.dnl (p.decls.map λf=>tDe f)),.t (.sl p.bnl (d1M p.body))]
theorem g2T {p:Pg} (hp:PgQ p) {f:Fu} (hf:f∈p.funcs) (hv:fuB f=true):(∀ s,s∈f.body->SG s)/\EG f.ret:=by
 obtain⟨h1,h2,h3⟩:=hp.fs f hf
 have ho:=hp.ok.fo f hf
 unfold fuB at hv
 simp only[g4S] at hv
 exact⟨λs hs=>⟨g5A.1 hv.1.2 s hs,ho.bo s hs,g6V (d2M hs) h2⟩,hv.2,ho.ret,h3⟩
set_option maxHeartbeats 1000000 in
theorem g2U {p:Pg} (hp:PgQ p) (hv:p.funcs.all fuB=true) (Q:Ex->S->Prop):∀ (l:List Fu) (i:Nat) (fz:Fz) (b:Int) (vf:PV) (ow:Ow) (fr:List PV) (sr:Sg),p.funcs.drop i=l->Gl 11 vf ow (fz.map tFz)->fz.length<=i->i<=p.funcs.length->(∀ q,q∈fz->q.1.params.length<=B20) ->
  b6S fr [(1,.lp 0 0),(2,.lp 1 0),(3,.lp 2 0),(4,vf),(5,.t (.int .i64 i))] ->
  ((e5A l fz b).1=0->∀ fr' sr' vf' ow',Gl 11 vf' ow' ((e5A l fz b).2.1.map tFz)->(e5A l fz b).2.1.length<=p.funcs.length->(∀ q,q∈(e5A l fz b).2.1->q.1.params.length<=B20)->b6S fr' [(1,.lp 0 0),(2,.lp 1 0),(3,.lp 2 0),(4,vf')]->Q (.exit 0) ⟨fr',(false,pgC p)::(false,z5C)::(false,g2P ⟨0,(e5A l fz b).2.2,0,0,0⟩)::sr',ow'⟩) ->
  ((e5A l fz b).1≠0->∀ fr' z2 sr' ow',b6S fr' [(2,.lp 1 0)]->Q .ret ⟨fr',(false,pgC p)::(false,g2P (e5B (e5A l fz b).1))::z2::sr',ow'⟩) ->
  Xl F gl c1J ⟨fr,(false,pgC p)::(false,z5C)::(false,g2P ⟨0,b,0,0,0⟩)::sr,ow⟩ Q ⟨⟩:=by
 intro l
 induction l with
 |nil =>
  intro i fz b vf ow fr sr hd hg hln hil hlp hf k1 k2
  have hd:=b6N hd
  simp only[b6U,b6T] at hf
  obtain⟨f1,f2,f3,f4,f5,-⟩:=hf
  refine Xl.step ?_
  simp only[c1J]
  have c1:¬((i:Int) < (p.funcs.length:Int)):=by omega
  rw[e5A] at k1
  simp only[wA,seval,f1,f2,f3,f4,f5,c1,g5Y]
  exact k1 rfl _ _ vf _ hg (by show fz.length<=_;omega) hlp (by simp only[wQ,seval,f1,f2,f3,f4])
 |cons f l ih =>
  intro i fz b vf ow fr sr hd hg hln hil hlp hf k1 k2
  obtain⟨hx,hr,hi⟩:=b6M hd
  simp only[b6U,b6T] at hf
  obtain⟨f1,f2,f3,f4,f5,-⟩:=hf
  refine Xl.step ?_
  simp only[c1J]
  have c1:(i:Int) < (p.funcs.length:Int):=by omega
  have hB:B20=1100000:=rfl
  have hfl:=hp.fl
  have hw1:=d5F hi (show p.funcs.length<=281474976710656 by omega)
  have hm:=g6K hx
  obtain⟨q1,q2,q3⟩:=hp.fs f hm
  obtain⟨hSG,hEG⟩:=g2T hp hm (g5A.1 hv f hm)
  have hlf:fz.length<=B20:=by omega
  rw[e5A] at k1 k2
  simp only[wA,seval,f1,f2,f3,f4,f5,c1,hw1,g5Y,g4Z,hi,g5P,hx,g7F]
  refine g2Q (v1:=.lp 0 0) (v3:=.lp 2 0) (v5:=.t (.int .i64 i)) (f:=f) (cc:=sr.length) hlf hg (by simp) _ fz 0 _ rfl (by simp only[wQ,seval,f1,f2,f3,f4,f5];first|done|exact⟨rfl,rfl⟩|rfl) ?_ ?_
  ·intro h0 fr2 hf2
   simp only[b6U,b6T] at hf2
   obtain⟨f1,f2,f3,f4,f5,f6,-⟩:=hf2
   simp only[wA,seval,f1,f2,f3,f4,f5,f6,b4J,a0C,a0L,T.isAgg,List.replicate,g5H,g5I,g5C]
   refine g2R (vf:=vf) (v1:=.lp 0 0) (v3:=.lp 2 0) (v5:=.t (.int .i64 i)) (f:=f) (cc:=sr.length) (ow0:=ow) (k0:=ow.length) q1 (by simp) _ f.params 0 [] (.lit []) ow _ rfl rfl (Gk.zero _ _ _) Ok0.refl (by simp only[wQ,seval,f1,f2,f3,f4,f5,f6];first|done|exact⟨rfl,rfl⟩|rfl) ?_ ?_
   ·intro s hs fr3 v' ow' hg3 hk3 hf3
    simp only[b6U,b6T] at hf3
    obtain⟨f1,f2,f3,f4,f5,f6,f8,-⟩:=hf3
    have hgf:=hg.ok0 hk3
    have hcs:=hg3.gl.cl
    have hcf:=hgf.cl
    have hsl:=e7O hs
    simp only[g5Z,g7A] at hsl
    have hfb:f.body.length<=B20:=g6V (d2O _) q2
    have hfb2:=d2O f.body
    have hBo:=λnl K=>ok40 (gl:=gl) (fz:=fz) (fl:=false) (bl:=nl) (nl:=false) (sts:=f.body) (ns:=s) hfb hlf hlp hSG (by simp) (by omega) K
    have hfun:e4Z fz f b=if (e4V fz f.body zR s).1.err≠0 then ((e4V fz f.body zR s).1.err,fz,b)
      else if (exR fz (e4V fz f.body zR s).2 f.ret).err≠0 then ((exR fz (e4V fz f.body zR s).2 f.ret).err,fz,b)
      else if e4C (exR fz (e4V fz f.body zR s).2 f.ret).t f.res=false then (6,fz,b)
      else (0,fz++[(f,e3Z (IntKind.i64.wrap ((e4V fz f.body zR s).1.steps+(exR fz (e4V fz f.body zR s).2 f.ret).steps)))],grM b (grM (e4V fz f.body zR s).1.bits (exR fz (e4V fz f.body zR s).2 f.ret).bits)):=by
     unfold e4Z
     rw[h0,if_neg (by simp),hs]
    have hql:=e7N (fz:=fz) f.body zR s
    have hEx:=λnl K=>ok41 (gl:=gl) (fz:=fz) (ns:=(e4V fz f.body zR s).2) nl false (by omega) hlf hlp f.ret hEG K
    simp only[d1J] at hEx
    by_cases he:(e4V fz f.body zR s).1.err=0
    ·have he':((e4V fz f.body zR s).1.err=0)=True:=g7N he
     rw[if_neg (show ¬((e4V fz f.body zR s).1.err≠0) from λx=>x he)] at hfun
     by_cases hx2:(exR fz (e4V fz f.body zR s).2 f.ret).err=0
     ·have hx2':((exR fz (e4V fz f.body zR s).2 f.ret).err=0)=True:=g7N hx2
      rw[if_neg (show ¬((exR fz (e4V fz f.body zR s).2 f.ret).err≠0) from λx=>x hx2)] at hfun
      cases hfit:e4C (exR fz (e4V fz f.body zR s).2 f.ret).t f.res with
      |false =>
       rw[hfit,if_pos rfl] at hfun
       rw[hfun,if_pos (show(6:Int)≠0 by decide)] at k2
       simp only[wA,seval,f1,f2,f3,f4,f5,f6,f8,hcs,hcf,hBo,he',hEx,hx2',g2B,hfit]
       exact k2 (by simp) _ _ _ _ (by simp only[wQ,seval,f2])
      |true =>
       rw[hfit,if_neg (by simp)] at hfun
       rw[hfun] at k1 k2
       obtain⟨vf',ow2,a1,hg4⟩:=hgf.app (bytes:=152) (e:=tFz (f,e3Z (IntKind.i64.wrap ((e4V fz f.body zR s).1.steps+(exR fz (e4V fz f.body zR s).2 f.ret).steps)))) rfl (by omega) (e7C (by simp only[g5Y];omega) (by simp only[g5Y];omega))
       simp only[tFz] at a1
       simp only[wA,seval,f1,f2,f3,f4,f5,f6,f8,hw1,hcs,hcf,hBo,he',hEx,hx2',g2B,hfit,g1V,g1U,b4J,a0C,a0L,T.isAgg,List.replicate,g5H,g5I,g5C,a1]
       refine ih (i+1) (fz++[(f,e3Z (IntKind.i64.wrap ((e4V fz f.body zR s).1.steps+(exR fz (e4V fz f.body zR s).2 f.ret).steps)))]) (grM b (grM (e4V fz f.body zR s).1.bits (exR fz (e4V fz f.body zR s).2 f.ret).bits)) vf' ow2 _ _ hr ?_ ?_ (by omega) ?_ ?_ ?_ ?_
       ·rw[g6D];exact hg4
       ·simp;omega
       ·intro q hq
        rcases g6G.1 hq with h|h
        ·exact hlp q h
        ·rw[g6M.1 h];exact q1
       ·simp only[wQ,seval,f1,f2,f3]
       ·exact k1
       ·exact k2
     ·rw[if_pos hx2] at hfun
      rw[hfun,if_pos hx2] at k2
      simp only[wA,seval,f1,f2,f3,f4,f5,f6,f8,hcs,hcf,hBo,he',hEx,hx2]
      exact k2 hx2 _ _ _ _ (by simp only[wQ,seval,f2])
    ·rw[if_pos he] at hfun
     rw[hfun,if_pos he] at k2
     simp only[wA,seval,f1,f2,f3,f4,f5,f6,f8,hcs,hcf,hBo,he]
     exact k2 he _ _ _ _ (by simp only[wQ,seval,f2])
   ·intro hs fr3 ow' hf3
    have hfun:e4Z fz f b=(5,fz,b):=by
     unfold e4Z
     rw[h0,if_neg (by simp),hs]
    rw[hfun,if_pos (show(5:Int)≠0 by decide)] at k2
    exact k2 (by simp) _ _ _ _ hf3
  ·intro h0 fr2 hf2
   have hfun:e4Z fz f b=(5,fz,b):=by
    unfold e4Z
    rw[h0,if_pos rfl]
   rw[hfun,if_pos (show(5:Int)≠0 by decide)] at k2
   exact k2 (by simp) _ _ _ _ hf2
theorem g2V:∀ {l:List De} {ns s:Ns} {x y:Inf},e5D l ns x=some (s,y)->y.err=x.err
 |[],ns,s,x,y,h=>by rw[e5D] at h;injection h with h;injection h with _ h;subst h;rfl
 |p::r,ns,s,x,y,h=>by
  rw[e5D] at h
  split at h
  ·cases h
  ·rw[g2V h];rfl
theorem g2W:∀ {l:List De} {ns s:Ns} {x y:Inf},e5D l ns x=some (s,y)->y.steps=x.steps
 |[],ns,s,x,y,h=>by rw[e5D] at h;injection h with h;injection h with _ h;subst h;rfl
 |p::r,ns,s,x,y,h=>by
  rw[e5D] at h
  split at h
  ·cases h
  ·rw[g2W h];rfl
theorem g2X {p:Pg} (h:rvP p=0):p.funcs.all fuB=true/\p.decls.all deB=true/\p.body.all stB=true:=by
 unfold rvP at h
 have h1:p.funcs.all fmB=true:=by
  cases hh:p.funcs.all fmB with
  |true=>rfl
  |false=>rw[hh,if_pos rfl] at h;exact absurd h (by decide)
 rw[h1,if_neg (by simp)] at h
 have h2:p.decls.all deB=true:=by
  cases hh:p.decls.all deB with
  |true=>rfl
  |false=>rw[hh,if_pos rfl] at h;exact absurd h (by decide)
 rw[h2,if_neg (by simp)] at h
 refine⟨?_,h2,?_⟩
 ·rw[<-h1];congr 1;funext f;exact(d8R f).symm
 ·cases hh:p.body.all stB with
  |true=>rfl
  |false=>rw[hh,if_pos rfl] at h;exact absurd h (by decide)
set_option maxHeartbeats 1000000 in
theorem g2Y {p:Pg} (hp:PgQ p) (K:PV->Prop):XcP F gl 12 [.agg (tPg p)] K ⟨⟩↔K (.t (.agg (tInf (e5E p)))):=by
 refine Ret.iff (Ret.of F12 rfl ?_)
 simp only[c1K]
 have hV:=λK=>ok38 (gl:=gl) hp K
 by_cases hv:rvP p=0
 ·have hv':(rvP p=0)=True:=g7N hv
  obtain⟨v1,v2,v3⟩:=g2X hv
  have hB:B20=1100000:=rfl
  have hfl:=hp.fl
  have hdl:=hp.dl
  have hM:e5E p=if (e5A p.funcs [] 0).1≠0 then e5B (e5A p.funcs [] 0).1
    else match e5D p.decls [] ⟨0,(e5A p.funcs [] 0).2.2,0,0,0⟩ with
    |none=>e5B 5
    |some (ns,x) =>
     if (e4V (e5A p.funcs [] 0).2.1 p.body zR ns).1.err≠0 then e5B (e4V (e5A p.funcs [] 0).2.1 p.body zR ns).1.err
     else if (e4V (e5A p.funcs [] 0).2.1 p.body zR ns).1.steps > 20000 then e5B 3
     else ⟨0,grM x.bits (e4V (e5A p.funcs [] 0).2.1 p.body zR ns).1.bits,x.pub,x.sec,(e4V (e5A p.funcs [] 0).2.1 p.body zR ns).1.steps⟩:=by
   unfold e5E
   rw[if_neg (show ¬(rvP p≠0) from λx=>x hv)];rfl
  rw[hM]
  simp only[wA,seval,hV,hv',b4J,a0C,a0L,T.isAgg,List.replicate,g5H,g5I,g5C]
  refine g2U hp v1 _ p.funcs 0 [] 0 (.lit []) _ _ [] rfl (Gl.zero 11 _) (by simp) (by omega) (by simp) (by simp only[wQ,seval];first|done|exact⟨rfl,rfl⟩|rfl) ?_ ?_
  ·intro he fr1 sr1 vf ow1 hg1 hl1 hq1 hf1
   simp only[b6U,b6T] at hf1
   obtain⟨f1,f2,f3,f4,-⟩:=hf1
   rw[if_neg (show ¬((e5A p.funcs [] 0).1≠0) from λx=>x he)]
   generalize (e5A p.funcs [] 0).2.1=fz at *
   generalize (e5A p.funcs [] 0).2.2=b at *
   simp only[wA,seval,f1,f2,f3,f4,b4J,a0C,a0L,T.isAgg,List.replicate,g5H,g5I,g5C]
   refine g2S (p:=p) (vf:=vf) (ow0:=ow1) (k0:=ow1.length) hdl rfl _ p.decls 0 [] ⟨0,b,0,0,0⟩ (.lit []) ow1 _ _ rfl rfl (Gk.zero _ _ _) Ok0.refl (by simp only[wQ,seval,f1,f2,f3,f4];first|done|exact⟨rfl,rfl⟩|rfl) ?_ ?_
   ·intro s x hs fr2 sr2 v' ow2 hg2 hk2 hf2
    simp only[b6U,b6T] at hf2
    obtain⟨f1,f2,f3,f4,f13,-⟩:=hf2
    rw[hs]
    simp only
    have hcs:=hg2.gl.cl
    have hcf:=(hg1.ok0 hk2).cl
    have hsl:=e7P hs
    simp only[g5Z,g7A] at hsl
    have hbs:=hp.bs
    have hBo:=λnl K=>ok40 (gl:=gl) (fz:=fz) (fl:=false) (bl:=nl) (nl:=false) (sts:=p.body) (ns:=s) (g6V (d2O _) hp.bs) (by omega) hq1 (λa ha=>⟨g5A.1 v3 a ha,hp.ok.bo a ha,g6V (d2M ha) hp.bs⟩) (by simp) (by omega) K
    have hxe:x.err=0:=g2V hs
    have hxs:x.steps=0:=g2W hs
    by_cases he2:(e4V fz p.body zR s).1.err=0
    ·have he2':((e4V fz p.body zR s).1.err=0)=True:=g7N he2
     rw[if_neg (show ¬((e4V fz p.body zR s).1.err≠0) from λx=>x he2)]
     by_cases hst:(e4V fz p.body zR s).1.steps > 20000
     ·rw[if_pos hst]
      simp only[wA,seval,f1,f2,f3,f4,f13,hcs,hcf,hBo,he2',hst]
      try rfl
     ·rw[if_neg hst]
      simp only[wA,seval,f1,f2,f3,f4,f13,hcs,hcf,hBo,he2',hst,g1V,hxe]
      try rfl
    ·rw[if_pos he2]
     simp only[wA,seval,f1,f2,f3,f4,f13,hcs,hcf,hBo,he2]
     try rfl
   ·intro hs fr2 z2 sr2 ow2 hf2
    simp only[b6U,b6T] at hf2
    obtain⟨f2,-⟩:=hf2
    rw[hs]
    simp only[wA,seval,f2]
    try rfl
  ·intro he fr1 z2 sr1 ow1 hf1
   simp only[b6U,b6T] at hf1
   obtain⟨f2,-⟩:=hf1
   rw[if_pos he]
   simp only[wA,seval,f2]
   try rfl
 ·have hM:e5E p=e5B 1:=by unfold e5E;rw[if_pos hv]
  rw[hM]
  simp only[wA,seval,hV,hv]
  try rfl
end Go.Proofs.YtdjcnfacjfnakaaGreat
