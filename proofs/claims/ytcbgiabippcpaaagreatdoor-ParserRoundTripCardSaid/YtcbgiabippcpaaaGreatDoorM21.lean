/- The parser: bodies. -/
import Derived.Test.YtcbgiabippcpaaaGreatDoorM16
import Derived.Test.YtcbgiabippcpaaaGreatDoorM36
import Derived.Test.YtcbgiabippcpaaaGreatDoorKx43
set_option maxRecDepth 10000
set_option linter.unusedVariables false
set_option linter.unusedSimpArgs false
namespace Go.Proofs.YtcbgiabippcpaaaGreatDoor
open Go.Pi Go.Lx Go.Ky
variable {gl:Nat→Option (List T)}
abbrev sK (x:St) (p q:PV):List PV:=[.t (.int .i64 x.kind),.t (.str x.name),.t (.bool x.typed),.t (.int .i64 x.ty.kind),.t (.int .i64 x.ty.bits),.t (.int .i64 x.ty.len),.t (.int .i64 x.ex.op),.t (.int .u64 x.ex.val),.t (.str x.ex.name),p,.t (.int .i64 x.lo),.t (.int .i64 x.hi),q]
def Bk (q:PV) (x:St):Prop:=∃ k,q=.own k 13 (d2P x.body)
theorem Bk.al {q:PV} {x:St} (h:Bk q x):allT [q]=none∧Go.Pi.one q=true:=by
 obtain⟨k,rfl⟩:=h;exact⟨rfl,rfl⟩
theorem Xk.al2 {x:PV} {e:Exp} (h:Xk x e):(∀ r,allT (x::r)=none)∧Go.Pi.one x=true:=by
 rcases h with rfl|⟨k,rfl⟩ <;> exact⟨fun _=>rfl,rfl⟩
theorem Bk.al2 {q:PV} {x:St} (h:Bk q x):(∀ r,allT (q::r)=none)∧Go.Pi.one q=true:=by
 obtain⟨k,rfl⟩:=h;exact⟨fun _=>rfl,rfl⟩
def Sv (v:PV) (x:St):Prop:=v=.t (.agg [.int .i64 x.kind,.str x.name,.bool x.typed,.int .i64 x.ty.kind,.int .i64 x.ty.bits,.int .i64 x.ty.len,.int .i64 x.ex.op,.int .u64 x.ex.val,.str x.ex.name,.sl x.ex.nl (d2K x.ex.args),.int .i64 x.lo,.int .i64 x.hi,.sl x.nl (d2P x.body)]) ∨
 (∃ p,(Xk p x.ex∧x.ex.nl=false)∧v=.agg (sK x p (.t (.sl x.nl (d2P x.body)))))∨(∃ q,(Bk q x∧x.nl=false)∧v=.agg (sK x (.t (.sl x.ex.nl (d2K x.ex.args))) q))
theorem Sv.cells {v:PV} {x:St} (h:Sv v x):∃ p q,cellsP v=sK x p q∧a0M p=some (.sl x.ex.nl (d2K x.ex.args))∧a0M q=some (.sl x.nl (d2P x.body)):=by
 rcases h with rfl|⟨p,⟨hp,hn⟩,rfl⟩|⟨q,⟨⟨k,rfl⟩,hn⟩,rfl⟩
 ·exact⟨_,_,rfl,rfl,rfl⟩
 ·refine⟨p,_,rfl,?_,rfl⟩
  rw[hn];rcases hp with rfl|⟨_,rfl⟩ <;> rfl
 ·refine⟨_,_,rfl,rfl,?_⟩
  rw[hn];rfl
abbrev z13:List T:=[.int .i64 0,.str [],.bool false,.int .i64 0,.int .i64 0,.int .i64 0,.int .i64 0,.int .u64 0,.str [],.sl true [],.int .i64 0,.int .i64 0,.sl true []]
theorem bsS {v:PV} {x:St} (h:Sv v x):b6J 13 1 z13 [(0,13,v)]=some (.lit (d2P [x])):=by
 have:d2P [x]=[[.int .i64 x.kind,.str x.name,.bool x.typed,.int .i64 x.ty.kind,.int .i64 x.ty.bits,.int .i64 x.ty.len,.int .i64 x.ex.op,.int .u64 x.ex.val,.str x.ex.name,.sl x.ex.nl (d2K x.ex.args),.int .i64 x.lo,.int .i64 x.hi,.sl x.nl (d2P x.body)]]:=by rw[d2P,d2R];rfl
 rw[this]
 obtain⟨p,q,hx,cp,cq⟩:=h.cells
 unfold b6J
 rw[fillP,hx,if_pos ⟨rfl,g8S 13⟩,fillP]
 show((sK x p q).mapM a0M).map _=_
 simp only[sK,g7R,List.mapM_nil,cp,cq]
 rfl
structure PreS (c:Nat) (a b:Int) (st:Ps) (sg:Sg):Prop where
 pre:Pre c a b st sg
 wv:Wv st
 l16:st.ts.length≤16400
def Lw (k0:Nat) (v:PV) (ow:Ow) (l:List St):Prop:=(v=.t (.sl true [])∧l=[])∨∃ k,v=.own k 13 (d2P l)∧l≠[]∧ow[k]?=some l.length∧k0≤k
structure CallS (gl:Nat→Option (List T)) (n:Nat):Prop where
 st:∀ c a b st sg ow,PreS c a b st sg→st.hd.kind≠0→12 * st.ts.length+12≤n→CallE F gl 60 [.lp c 0] sg ow fun v sg' ow'=>Sv v (d6K n st).1∧Q c a b sg (d6K n st).2 sg'∧OwK ow ow'
 bd:∀ (o:Bool) c a b st sg ow,PreS c a b st sg→12 * st.ts.length+13≤n→CallE F gl 22 [.lp c 0,.t (.bool o)] sg ow fun v sg' ow'=>Lw ow.length v ow' (d6L n o [] st).1∧Q c a b sg (d6L n o [] st).2 sg'∧OwK ow ow'
theorem Lw.keep {k0:Nat} {v:PV} {ow ow':Ow} {l:List St} (h:Lw k0 v ow l) (ho:OwK ow ow'):Lw k0 v ow' l:=by
 rcases h with h|⟨k,rfl,hl,hk,hl0⟩
 ·exact .inl h
 ·exact .inr ⟨k,rfl,hl,by rw[ho.2 k (g7B.1 hk).1];exact hk,hl0⟩
theorem e5P (l:List St) (e:St):d2P (l++[e])=d2P l++[tSt e]:=by
 rw[d2Q,d2Q,g7S];rfl
theorem e5Q (l:List St):(d2P l).length=l.length:=by rw[d2Q,g7N]
theorem e5R {n:Nat} (h:n≤1000000):a0N n 152=true:=by
 unfold a0N
 exact g9M ⟨by omega,by omega⟩
theorem e5S {k0:Nat} {v:PV} {ow:Ow} {l:List St} (h:Lw k0 v ow l) (hk:k0≤ow.length) (hl:l.length < 1000000) (e:St):∃ x,(∀ sg,a0V false sg ow 13 152 v (.lit (d2P [e]))=some x)∧Lw k0 x.1 x.2 (l++[e])∧ow.length≤x.2.length∧∀ j,j < k0→x.2[j]?=ow[j]?:=by
 have e1:d2P [e]=[tSt e]:=by rw[d2P,d2P]
 have e2:∀ sg,a0L sg 13 (.lit (d2P [e]))=some [tSt e]:=fun sg=>by rw[e1];rfl
 have e3:([tSt e].all (fun x=>x.length == 13))=true:=by rw[d2R];rfl
 rcases h with⟨rfl,rfl⟩|⟨k,rfl,hne,hkk,hl0⟩
 ·refine⟨(.own ow.length 13 [tSt e],ow++[1]),?_,?_,?_,?_⟩
  ·intro sg
   have r:a0N ([tSt e].length) 152=true:=e5R (by simp)
   simp only[a0V,e2,e3,r,g9B,g9J,if_true]
   rfl
  ·refine .inr ⟨ow.length,by rw[g8F,e1],by simp,?_,hk⟩
   exact g6X
  ·simp only[g7K];omega
  ·intro j hj
   exact g6V (by omega)
 ·refine⟨(.own k 13 (d2P l++[tSt e]),ow.set k ((d2P l).length+1)),?_,?_,?_,?_⟩
  ·intro sg
   have r:a0N ((d2P l).length+[tSt e].length) 152=true:=e5R (by rw[e5Q];simp only[g7L,g7O];omega)
   have hk2:ow[k]?=some (d2P l).length:=by rw[e5Q];exact hkk
   simp only[a0V,e2,e3,hk2,r,g9B,g9J,if_true]
   rfl
  ·refine .inr ⟨k,by rw[e5P],by simp,?_,hl0⟩
   show(ow.set k ((d2P l).length+1))[k]?=_
   rw[g7G (g7B.1 hkk).1,e5Q,g7K];rfl
  ·simp only[g7P];omega
  ·intro j hj
   exact g7F (by omega)
theorem va {x:St} (hx:StOk x) (hs:szS x≤B20) {K:PV→Prop}:XcP F gl 42 [.agg [.sl true [],.sl true [],.sl false (d2P [x])]] K ⟨⟩↔K (.t (.int .i64 (d4L ⟨true,[],true,[],false,[x]⟩))):=by
 refine ok42 ⟨true,[],true,[],false,[x]⟩ ?_ ?_
 ·constructor <;> simp [hx]
  unfold B47;omega
 ·exact⟨fun f hf=>absurd hf (by simp),by show d3I [x]≤B20;rw[d9S];exact hs⟩
end Go.Proofs.YtcbgiabippcpaaaGreatDoor

/- The parser: bodies, the loop. -/
namespace Go.Proofs.YtcbgiabippcpaaaGreatDoor
open Go.Pi Go.Lx Go.Ky
variable {gl:Nat→Option (List T)}
theorem at3 {s:Ps} (h:atS s=true):atM [108,101,116] s=true∨(atM [108,101,116] s=false∧atM [97,115,115,101,114,116] s=true)∨(atM [108,101,116] s=false∧atM [97,115,115,101,114,116] s=false∧atM [102,111,114] s=true):=by
 unfold atS at h
 cases h1:atM [108,101,116] s <;> cases h2:atM [97,115,115,101,114,116] s <;> simp_all
theorem at0 {s:Ps} (h:atS s=false):atM [108,101,116] s=false∧atM [97,115,115,101,114,116] s=false∧atM [102,111,114] s=false:=by
 unfold atS at h
 simpa using h
set_option maxHeartbeats 4000000 in
theorem e5T {o:Bool} {c:Nat} {a b:Int} {sg0:Sg} {ow0:Ow} (hc0:c < sg0.length) (X:Ex→S→Prop) :
  ∀ (m:Nat),(∀ k,k < m→CallS gl k)→∀ (l:List St) (v:PV) (st:Ps) (sg:Sg) (ow:Ow) (fr:List PV),Lw ow0.length v ow l→OwK ow0 ow→Wv st→st.ts.length≤16400→l.length+st.ts.length≤200000→Q c a b sg0 st sg→12 * st.ts.length+13≤m →
  b8Y fr [(0,.lp c 0),(1,.t (.bool o)),(5,v)] →
  (∀ fr' sg' ow' v',Lw ow0.length v' ow' (d6L m o l st).1→Q c a b sg0 (d6L m o l st).2 sg'→a0A fr' 5=v'→OwK ow0 ow'→X (.exit 0) ⟨fr',sg',ow'⟩) →
  Xl F gl c4N ⟨fr,sg,ow⟩ X ⟨⟩:=by
 intro m
 induction m with
 |zero=>intro _ l v st sg ow fr _ _ hw _ _ _ hf;omega
 |succ m ih =>
  intro hall l v st sg ow fr hv ho hw hln hll hq hf hfr k
  simp only[b9A,b8Z] at hfr
  obtain⟨f0,f1,f5,-⟩:=hfr
  refine Xl.step ?_
  simp only[c4N]
  have hne:=hw.wf.ne
  cases hat:atS st with
  |false =>
   obtain⟨h1,h2,h3⟩:=at0 hat
   have hB:d6L (m+1) o l st=(l,st):=by rw[d6L,if_neg (by rw[hat];simp)]
   rw[hB] at k
   simp only[wA,seval,reduceCtorEq,reduceIte,f0,f1,f5,e4B hq.cell hne,h1,h2,h3]
   refine k _ _ _ v hv hq ?_ ho
   simp only[wQ,Nat.reduceEqDiff,reduceIte,f5]
  |true =>
   have hk:=d9T hat
   have hB:d6L (m+1) o l st=d6L m o (l++[(d6K m st).1]) (if o then d5U st.hd.pos (d6H (d6K m st).1) (d6K m st).2 else (d6K m st).2):=by rw[d6L,if_pos hat]
   rw[hB] at k
   obtain⟨r,hr⟩:=e4G hne
   have hc1:=hq.cell
   simp only[psC,hr,g7T] at hc1
   have hps:PreS c a b st sg:=⟨⟨hq.cell,hw.wf,by omega⟩,hw,hln⟩
   have R:=(d9W m).st st hw.wf hk
   have hx:=(e0J m).st st hw hk
   have hz:szS (d6K m st).1≤B20:=by have:=R.2 (by omega);unfold B20;omega
   have w2:=hw.of R.1
   have l2:=R.1.le
   have l3:(d6K m st).2.ts.length+1≤st.ts.length:=by
    have:=R.2 (by omega)
    have:1≤szS (d6K m st).1:=by rw[d3L];omega
    omega
   rcases at3 hat with h1|⟨h1,h2⟩|⟨h1,h2,h3⟩
   all_goals
    first
     |have hh:=And.intro h1 (And.intro h2 h3)
     |have hh:=And.intro h1 h2
     |have hh:=h1
    simp only[wA,seval,reduceCtorEq,reduceIte,f0,f1,f5,e4B hq.cell hne,hh,hc1,e3G]
    refine CallE.mono ((hall m (by omega)).st c a b st sg ow hps hk (by omega)) fun v1 sg1 ow1 g1=>?_
    obtain⟨hv1,q1,o1⟩:=g1
    have q1':=hq.trans q1
    have hb:=bsS hv1
    have hwv:=fun K=>va (gl:=gl) hx hz (K:=K)
    obtain⟨x,hx1,hx2,hx3,hx4⟩:=e5S (hv.keep o1) (g8T ho.1 o1.1) (by omega) (d6K m st).1
    have h3:=ho.trans o1
    have ho2:OwK ow0 x.2:=⟨g8T h3.1 hx3,fun j hj=>by rw[hx4 j hj,h3.2 j hj]⟩
    have gl1:=q1'.fr.1
    rcases hv1 with rfl|⟨p,⟨hp,hn⟩,rfl⟩|⟨q,⟨hq2,hn⟩,rfl⟩
    all_goals
     first|have hax:=Xk.al2 hp|have hax:=Bk.al2 hq2|have hax:=@c2X
     cases o with
     |false =>
      simp only[g5V,if_false] at k
      simp only[wA,seval,reduceCtorEq,reduceIte,f0,f1,f5,hax,hb,hx1]
      refine ih (fun k hk=>hall k (by omega)) (l++[(d6K m st).1]) x.1 (d6K m st).2 _ x.2 _ hx2 ho2 w2 (by omega) (by simp only[g7K,g7L,g7O];omega) (q1'.more _) (by omega) ?_ k
      simp only[wQ,Nat.reduceEqDiff,reduceIte,f0,f1,f5]
     |true =>
      simp only[reduceIte] at k
      simp only[wA,seval,reduceCtorEq,reduceIte,f0,f1,f5,hax,hb,hwv]
      refine CallE.mono (e4J (q1'.more _).cell _ (d6H (d6K m st).1)) fun v2 sg2 ow2 g2=>?_
      obtain⟨e2,q2,o2⟩:=g2
      subst e2 o2
      have z7:=q2.fr.get (i:=sg1.length) e4Q (by omega)
      have ld:=congrArg List.length (d7B st.hd.pos (d6H (d6K m st).1) (d6K m st).2)
      simp only[wA,seval,reduceCtorEq,reduceIte,f0,f1,f5,z7,hax,hb,hx1]
      refine ih (fun k hk=>hall k (by omega)) (l++[(d6K m st).1]) x.1 (d5U st.hd.pos (d6H (d6K m st).1) (d6K m st).2) _ x.2 _ hx2 ho2 (w2.of (d7C w2.wf _ _)) (by omega) (by simp only[g7K,g7L,g7O];omega) (q1'.trans q2.from) (by omega) ?_ k
      simp only[wQ,Nat.reduceEqDiff,reduceIte,f0,f1,f5]
end Go.Proofs.YtcbgiabippcpaaaGreatDoor

/- The parser: bodies, statements. -/
namespace Go.Proofs.YtcbgiabippcpaaaGreatDoor
open Go.Pi Go.Lx Go.Ky
variable {gl:Nat→Option (List T)}
set_option maxHeartbeats 1000000 in
theorem e5U {n:Nat} (hall:∀ k,k < n→CallS gl k) (o:Bool) {c:Nat} {a b:Int} {st:Ps} {sg:Sg} {ow:Ow} (hp:PreS c a b st sg) (hf:12 * st.ts.length+13≤n):CallE F gl 22 [.lp c 0,.t (.bool o)] sg ow fun v sg' ow'=>Lw ow.length v ow' (d6L n o [] st).1∧Q c a b sg (d6L n o [] st).2 sg'∧OwK ow ow':=by
 refine XcE.of F22 rfl ?_
 simp only[c4O]
 have hcl:=hp.pre.lt
 have hln:=hp.pre.ln
 simp only[wA,seval,reduceCtorEq,reduceIte]
 refine e5T (sg0:=sg) (a:=a) (b:=b) (c:=c) (ow0:=ow) (o:=o) hcl _ n hall [] _ st _ ow _ (.inl ⟨rfl,rfl⟩) OwK.refl hp.wv hp.l16 (by simp only[g7O];omega) ⟨hp.pre.cell,Fr.refl _ _⟩ hf ?_ ?_
 ·simp only[wQ,Nat.reduceEqDiff,reduceIte]
 ·intro fr' sg' ow' v' a1 a2 a4 a5
  simp only[wA,seval,reduceCtorEq,reduceIte,a4]
  exact⟨a1,a2,a5⟩
end Go.Proofs.YtcbgiabippcpaaaGreatDoor

/- The parser: statements. -/
namespace Go.Proofs.YtcbgiabippcpaaaGreatDoor
open Go.Pi Go.Lx Go.Ky
variable {gl:Nat→Option (List T)}
abbrev zS:List PV:=[.t (.int .i64 0),.t (.str []),.t (.bool false),.t (.int .i64 0),.t (.int .i64 0),.t (.int .i64 0),.t (.int .i64 0),.t (.int .u64 0),.t (.str []),.t (.sl true []),.t (.int .i64 0),.t (.int .i64 0),.t (.sl true [])]
structure Tw (c:Nat) (a b:Int) (sg0:Sg) (cs:List PV) (st:Ps) (sg:Sg):Prop where
 q:Q c a b sg0 st sg
 z2:sg[sg0.length]?=some (false,zS)
 z3:sg[sg0.length+1]?=some (false,cs)
theorem Tw.set {c:Nat} {a b:Int} {sg0 sg:Sg} {cs:List PV} {st:Ps} (t:Tw c a b sg0 cs st sg) (hc:c < sg0.length) (cs':List PV):Tw c a b sg0 cs' st (sg.set (sg0.length+1) (false,cs')) :=
 ⟨t.q.hi (by omega) (by omega) _,by rw[e4R (by omega)];exact t.z2,d4Z t.z3⟩
theorem Tw.call {c:Nat} {a b:Int} {sg0 sg sg':Sg} {cs:List PV} {st st':Ps} (hc:c < sg0.length) (t:Tw c a b sg0 cs st sg) (q:Q c a b sg st' sg'):Tw c a b sg0 cs st' sg' :=
 ⟨t.q.trans q,q.fr.get t.z2 (by omega),q.fr.get t.z3 (by omega)⟩
set_option maxHeartbeats 8000000 in
theorem e5V (hg:GlOk gl) {n:Nat} (hn:CallS gl n) {c:Nat} {a b:Int} {st:Ps} {sg:Sg} {ow:Ow} (hp:PreS c a b st sg) (hk:st.hd.kind≠0) (hf:12 * st.ts.length+12≤n+1):CallE F gl 60 [.lp c 0] sg ow fun v sg' ow'=>Sv v (d6K (n+1) st).1∧Q c a b sg (d6K (n+1) st).2 sg'∧OwK ow ow':=by
 refine XcE.of F60 rfl ?_
 simp only[c6A]
 have hcl:=hp.pre.lt
 have hln:=hp.pre.ln
 have l16:=hp.l16
 simp only[wA,seval,reduceCtorEq,reduceIte]
 refine CallE.mono (e4D (hp.pre.app _).cell hp.pre.ne) fun v0 sg1 ow1 h0=>?_
 obtain⟨e0,q0,o0⟩:=h0
 subst e0 o0
 have t0:Tw c a b sg zS (d5P st) sg1:=⟨q0.from,q0.fr.get e5I (by omega),q0.fr.get e5J (by omega)⟩
 have s0:=d6V hp.pre.wf
 have l0:=d6X hp.pre.wf hk
 have w0:=hp.wv.of s0
 have p0:=hp.pre.next q0 s0
 by_cases k1:st.hd.text=[108,101,116]
 ·simp only[wA,seval,reduceCtorEq,reduceIte,e3G,k1,t0.z3]
  refine CallE.mono (e4H (t0.set hcl _).q.cell p0.ne (by omega)) fun v1 sg2 ow2 h1=>?_
  obtain⟨e1,q1,o1⟩:=h1
  subst e1 o1
  have t1:=Tw.call hcl (t0.set hcl _) q1
  have p1:=p0.next q1 (d6Z p0.wf)
  have l1:=(d6Z p0.wf).le
  simp only[wA,seval,reduceCtorEq,reduceIte,t1.z3]
  refine CallE.mono (e4E (t1.set hcl _).q.cell p1.ne [58]) fun v2 sg3 ow3 h2=>?_
  obtain⟨e2,q2,o2⟩:=h2
  subst e2 o2
  unfold d5Q at q2
  cases ha:atM [58] (d5S (d5P st)).2 with
  |false =>
   rw[ha] at q2
   simp only[g5V,if_false] at q2
   have hB:d6K (n+1) st=(.mk 1 (d5S (d5P st)).1 false zTy (d5W n (d5R [61] (d5S (d5P st)).2)).1 0 0 true [],d5R [59] (d5W n (d5R [61] (d5S (d5P st)).2)).2):=by rw[d6K,if_pos k1];unfold d6I;simp only[ha];rfl
   have t2:=Tw.call hcl (t1.set hcl _) q2
   have p3:=p1.next q2 (Suf.refl p1.wf)
   have ln3:=p3.ln
   simp only[wA,seval,reduceCtorEq,reduceIte]
   refine CallE.mono (e4F t2.q.cell p3.ne (by omega) [61]) fun v4 sg4 ow4 h4=>?_
   obtain⟨e4,q4,o4⟩:=h4
   subst e4 o4
   have tb:=Tw.call hcl t2 q4
   have pe:=p3.next q4 (d6Y p3.wf [61])
   have le:=(d6Y p3.wf [61]).le
   simp only[wA,seval,reduceCtorEq,reduceIte]
   refine CallE.mono ((all hg n).ex c a b (d5R [61] (d5S (d5P st)).2) _ _ pe (by omega)) fun ve sge owe he=>?_
   obtain⟨hve,qe,oe⟩:=he
   have Re:=(d7P n).ex (d5R [61] (d5S (d5P st)).2) pe.wf
   have te:=Tw.call hcl tb qe
   have pf:=pe.next qe Re.suf
   have lnf:=pf.ln
   rcases hve with rfl|⟨pp,⟨hpp,hnn⟩,rfl⟩
   all_goals
    first|have hax:=Xk.al2 hpp|have hax:=@c2X
    simp only[wA,seval,reduceCtorEq,reduceIte,te.z3,hax]
    refine CallE.mono (e4F (te.set hcl _).q.cell pf.ne (by omega) [59]) fun vf sgf owf hf1=>?_
    obtain⟨ef,qf,of⟩:=hf1
    subst ef of
    have tf:=Tw.call hcl (te.set hcl _) qf
    have gs:=fun y=>d4Z (y:=y) tf.z2
    simp only[wA,seval,reduceCtorEq,reduceIte,tf.z3,tf.z2,gs,hax]
    rw[hB]
    refine⟨?_,tf.q.hi (g8S _) (by omega) _,oe⟩
    first|exact .inl rfl|exact .inr (.inl ⟨pp,⟨hpp,hnn⟩,rfl⟩)
  |true =>
   rw[ha] at q2
   simp only[reduceIte] at q2
   have hB:d6K (n+1) st=(.mk 1 (d5S (d5P st)).1 true (tyM (d5P (d5S (d5P st)).2)).1 (d5W n (d5R [61] (tyM (d5P (d5S (d5P st)).2)).2)).1 0 0 true [],d5R [59] (d5W n (d5R [61] (tyM (d5P (d5S (d5P st)).2)).2)).2):=by rw[d6K,if_pos k1];unfold d6I;simp only[ha];rfl
   have t2:=Tw.call hcl (t1.set hcl _) q2
   have p2:=p1.next q2 (d6V p1.wf)
   have l2:=(d6V p1.wf).le
   simp only[wA,seval,reduceCtorEq,reduceIte,t2.z3]
   refine CallE.mono (e5O (p1.next (t2.set hcl _).q (d6V p1.wf))) fun v3 sg4 ow4 h3=>?_
   obtain⟨e3,q3,o3⟩:=h3
   subst e3 o3
   have t3:=Tw.call hcl (t2.set hcl _) q3
   have p3:=p2.next q3 (d7E p2.wf)
   have l3:=(d7E p2.wf).le
   have ln3:=p3.ln
   simp only[wA,seval,reduceCtorEq,reduceIte,t3.z3]
   refine CallE.mono (e4F (t3.set hcl _).q.cell p3.ne (by omega) [61]) fun v4 sg4 ow4 h4=>?_
   obtain⟨e4,q4,o4⟩:=h4
   subst e4 o4
   have tb:=Tw.call hcl (t3.set hcl _) q4
   have pe:=p3.next q4 (d6Y p3.wf [61])
   have le:=(d6Y p3.wf [61]).le
   simp only[wA,seval,reduceCtorEq,reduceIte]
   refine CallE.mono ((all hg n).ex c a b (d5R [61] (tyM (d5P (d5S (d5P st)).2)).2) _ _ pe (by omega)) fun ve sge owe he=>?_
   obtain⟨hve,qe,oe⟩:=he
   have Re:=(d7P n).ex (d5R [61] (tyM (d5P (d5S (d5P st)).2)).2) pe.wf
   have te:=Tw.call hcl tb qe
   have pf:=pe.next qe Re.suf
   have lnf:=pf.ln
   rcases hve with rfl|⟨pp,⟨hpp,hnn⟩,rfl⟩
   all_goals
    first|have hax:=Xk.al2 hpp|have hax:=@c2X
    simp only[wA,seval,reduceCtorEq,reduceIte,te.z3,hax]
    refine CallE.mono (e4F (te.set hcl _).q.cell pf.ne (by omega) [59]) fun vf sgf owf hf1=>?_
    obtain⟨ef,qf,of⟩:=hf1
    subst ef of
    have tf:=Tw.call hcl (te.set hcl _) qf
    have gs:=fun y=>d4Z (y:=y) tf.z2
    simp only[wA,seval,reduceCtorEq,reduceIte,tf.z3,tf.z2,gs,hax]
    rw[hB]
    refine⟨?_,tf.q.hi (g8S _) (by omega) _,oe⟩
    first|exact .inl rfl|exact .inr (.inl ⟨pp,⟨hpp,hnn⟩,rfl⟩)
 by_cases k2:st.hd.text=[97,115,115,101,114,116]
 ·have hB:d6K (n+1) st=(.mk 2 [] false zTy (d5W n (d5P st)).1 0 0 true [],d5R [59] (d5W n (d5P st)).2):=by rw[d6K,if_neg k1,if_pos k2];rfl
  have pe:=p0
  have d1:=g9L k1
  have d2:=g9M k2
  simp only[wA,seval,reduceCtorEq,reduceIte,e3G,d1,d2,t0.z3]
  have tb:=t0.set hcl [.t (.int .i64 2),.t (.str []),.t (.bool false),.t (.int .i64 0),.t (.int .i64 0),.t (.int .i64 0),.t (.int .i64 0),.t (.int .u64 0),.t (.str []),.t (.sl true []),.t (.int .i64 0),.t (.int .i64 0),.t (.sl true [])]
  refine CallE.mono ((all hg n).ex c a b (d5P st) _ _ (p0.next tb.q (Suf.refl p0.wf)) (by omega)) fun ve sge owe he=>?_
  obtain⟨hve,qe,oe⟩:=he
  have Re:=(d7P n).ex (d5P st) pe.wf
  have te:=Tw.call hcl tb qe
  have pf:=pe.next qe Re.suf
  have lnf:=pf.ln
  rcases hve with rfl|⟨pp,⟨hpp,hnn⟩,rfl⟩
  all_goals
   first|have hax:=Xk.al2 hpp|have hax:=@c2X
   simp only[wA,seval,reduceCtorEq,reduceIte,te.z3,hax]
   refine CallE.mono (e4F (te.set hcl _).q.cell pf.ne (by omega) [59]) fun vf sgf owf hf1=>?_
   obtain⟨ef,qf,of⟩:=hf1
   subst ef of
   have tf:=Tw.call hcl (te.set hcl _) qf
   have gs:=fun y=>d4Z (y:=y) tf.z2
   simp only[wA,seval,reduceCtorEq,reduceIte,tf.z3,tf.z2,gs,hax]
   rw[hB]
   refine⟨?_,tf.q.hi (g8S _) (by omega) _,oe⟩
   first|exact .inl rfl|exact .inr (.inl ⟨pp,⟨hpp,hnn⟩,rfl⟩)
 by_cases k3:st.hd.text=[102,111,114]
 ·have hB:d6K (n+1) st=(.mk 3 (d5S (d5P st)).1 false zTy zEx (d5T 0 1000000 (d5R [105,110] (d5S (d5P st)).2)).1 (d5T 0 1000000 (d5R [46,46] (d5T 0 1000000 (d5R [105,110] (d5S (d5P st)).2)).2)).1 (d6L n false [] (d5R [123] (d5T 0 1000000 (d5R [46,46] (d5T 0 1000000 (d5R [105,110] (d5S (d5P st)).2)).2)).2)).1.isEmpty (d6L n false [] (d5R [123] (d5T 0 1000000 (d5R [46,46] (d5T 0 1000000 (d5R [105,110] (d5S (d5P st)).2)).2)).2)).1,d5R [125] (d6L n false [] (d5R [123] (d5T 0 1000000 (d5R [46,46] (d5T 0 1000000 (d5R [105,110] (d5S (d5P st)).2)).2)).2)).2):=by rw[d6K,if_neg k1,if_neg k2,if_pos k3]
  have d1:=g9L k1
  have d2:=g9L k2
  have d3:=g9M k3
  simp only[wA,seval,reduceCtorEq,reduceIte,e3G,d1,d2,d3,t0.z3]
  refine CallE.mono (e4H (t0.set hcl _).q.cell p0.ne (by omega)) fun v1 sg2 ow2 h1=>?_
  obtain⟨e1,q1,o1⟩:=h1
  subst e1 o1
  have t1:=Tw.call hcl (t0.set hcl _) q1
  have s1:=d6Z p0.wf
  have p1:=p0.next q1 s1
  have w1:=w0.of s1
  have ln1:=p1.ln
  simp only[wA,seval,reduceCtorEq,reduceIte,t1.z3]
  refine CallE.mono (e4F (t1.set hcl _).q.cell p1.ne (by omega) [105,110]) fun v2 sg3 ow3 h2=>?_
  obtain⟨e2,q2,o2⟩:=h2
  subst e2 o2
  have t2:=Tw.call hcl (t1.set hcl _) q2
  have s2:=d6Y p1.wf [105,110]
  have p2:=p1.next q2 s2
  have w2:=w1.of s2
  have ln2:=p2.ln
  simp only[wA,seval,reduceCtorEq,reduceIte]
  refine CallE.mono (e4I t2.q.cell p2.ne (by omega) 0 1000000) fun v3 sg4 ow4 h3=>?_
  obtain⟨e3,q3,o3⟩:=h3
  subst e3 o3
  have t3:=Tw.call hcl t2 q3
  have s3:=d7A p2.wf 0 1000000
  have p3:=p2.next q3 s3
  have w3:=w2.of s3
  have ln3:=p3.ln
  simp only[wA,seval,reduceCtorEq,reduceIte,t3.z3]
  refine CallE.mono (e4F (t3.set hcl _).q.cell p3.ne (by omega) [46,46]) fun v4 sg5 ow5 h4=>?_
  obtain⟨e4,q4,o4⟩:=h4
  subst e4 o4
  have t4:=Tw.call hcl (t3.set hcl _) q4
  have s4:=d6Y p3.wf [46,46]
  have p4:=p3.next q4 s4
  have w4:=w3.of s4
  have ln4:=p4.ln
  simp only[wA,seval,reduceCtorEq,reduceIte]
  refine CallE.mono (e4I t4.q.cell p4.ne (by omega) 0 1000000) fun v5 sg6 ow6 h5=>?_
  obtain⟨e5,q5,o5⟩:=h5
  subst e5 o5
  have t5:=Tw.call hcl t4 q5
  have s5:=d7A p4.wf 0 1000000
  have p5:=p4.next q5 s5
  have w5:=w4.of s5
  have ln5:=p5.ln
  simp only[wA,seval,reduceCtorEq,reduceIte,t5.z3]
  refine CallE.mono (e4F (t5.set hcl _).q.cell p5.ne (by omega) [123]) fun v6 sg7 ow7 h6=>?_
  obtain⟨e6,q6,o6⟩:=h6
  subst e6 o6
  have t6:=Tw.call hcl (t5.set hcl _) q6
  have s6:=d6Y p5.wf [123]
  have p6:=p5.next q6 s6
  have w6:=w5.of s6
  have ln6:=p6.ln
  have le:=(((((s1.trans s2).trans s3).trans s4).trans s5).trans s6).le
  simp only[wA,seval,reduceCtorEq,reduceIte]
  refine CallE.mono (hn.bd false c a b _ sg7 _ ⟨p6,w6,by omega⟩ (by omega)) fun v7 sg8 ow8 h7=>?_
  obtain⟨hv7,q7,o7⟩:=h7
  have t7:=Tw.call hcl t6 q7
  have s7:=((d9W n).bd false [] _ p6.wf).suf
  have p7:=p6.next q7 s7
  have ln7:=p7.ln
  rcases hv7 with⟨rfl,hA⟩|⟨j,rfl,hA,-,-⟩
  all_goals
   simp only[wA,seval,reduceCtorEq,reduceIte,t7.z3]
   refine CallE.mono (e4F (t7.set hcl _).q.cell p7.ne (by omega) [125]) fun v8 sg9 ow9 h8=>?_
   obtain⟨e8,q8,o8⟩:=h8
   subst e8 o8
   have t8:=Tw.call hcl (t7.set hcl _) q8
   have gs:=fun y=>d4Z (y:=y) t8.z2
   simp only[wA,seval,reduceCtorEq,reduceIte,t8.z3,t8.z2,gs]
   rw[hB]
   refine⟨?_,t8.q.hi (g8S _) (by omega) _,o7⟩
   first
    |exact .inr (.inr ⟨_,⟨⟨j,rfl⟩,g7J.2 hA⟩,rfl⟩)
    |(rw[hA];exact .inl rfl)
 ·have hB:d6K (n+1) st=(.mk 0 [] false zTy zEx 0 0 true [],d5P st):=by rw[d6K,if_neg k1,if_neg k2,if_neg k3]
  have gs:=fun y=>d4Z (y:=y) t0.z2
  simp only[wA,seval,reduceCtorEq,reduceIte,e3G,k1,k2,k3,t0.z3,t0.z2,gs]
  rw[hB]
  exact⟨.inl rfl,t0.q.hi (g8S _) (by omega) _,OwK.refl⟩
end Go.Proofs.YtcbgiabippcpaaaGreatDoor

/- The parser's statements and bodies: the contracts at every fuel. -/
namespace Go.Proofs.YtcbgiabippcpaaaGreatDoor
open Go.Pi Go.Lx Go.Ky
variable {gl:Nat→Option (List T)}
theorem e5W (hg:GlOk gl) (n:Nat):CallS gl n:=by
 induction n using Nat.strongRecOn with
 |_ n ih =>
  refine⟨?_,fun o c a b st sg ow hp hf=>e5U ih o hp hf⟩
  intro c a b st sg ow hp hk hf
  cases n with
  |zero=>exact absurd hf (by omega)
  |succ n=>exact e5V hg (ih n (Nat.lt_succ_self n)) hp hk hf
end Go.Proofs.YtcbgiabippcpaaaGreatDoor
