/- Contracts: the elements of values. -/
import Derived.Test.YtdjcnfacjfnakaaGreatU4
import Derived.Test.YtdjcnfacjfnakaaGreatKx81
import Derived.Test.YtdjcnfacjfnakaaGreatKx81
import Derived.Test.YtdjcnfacjfnakaaGreatKx81
import Derived.Test.YtdjcnfacjfnakaaGreatKx19
set_option maxRecDepth 10000
set_option linter.unusedVariables false
set_option linter.unusedSimpArgs false
namespace Go.Proofs.YtdjcnfacjfnakaaGreat
open Go.Pi Go.Lx Go.Ky Go.Lib
variable {gl:Nat→Option (List T)}
theorem f7D {vs:List Vl} {nl:Bool} (hls:vs.length≤B20) (hpos:∀ v,v∈vs→0 < v.els.length) {ow:Ow} (Q:Ex→S→Prop):∀ (l:List Vl) (i:Nat) (fr:List PV) (sg:Sg),vs.drop i=l→sg[0]?=some (false,f4T (vs.map Ky.fst) i) →
  b9J fr [(3,.ls 0 0 vs.length 1),(9,.t (.sl nl (vs.map fun v=>tV v))),(10,.t (.int .i64 vs.length)),(11,.t (.int .i64 i))] →
  (∀ fr' sg',sg'[0]?=some (false,f4T (vs.map Ky.fst) vs.length)→a0A fr' 3=.ls 0 0 vs.length 1→Q (.exit 0) ⟨fr',sg',ow⟩) →
  Xl F gl c8X ⟨fr,sg,ow⟩ Q ⟨⟩:=by
 intro l
 induction l with
 |nil =>
  intro i fr sg hd h0 hf k1
  have hd:=b9E hd
  simp only[b9L,b9K] at hf
  obtain⟨f3,f9,f10,f11,-⟩:=hf
  refine Xl.step ?_
  simp only[c8X]
  have c1:¬((i:Int) < (vs.length:Int)):=by omega
  simp only[wA,seval,reduceCtorEq,reduceIte,f3,f9,f10,f11,c1]
  refine k1 _ _ ?_ (by simp only[wQ,Nat.reduceEqDiff,reduceIte,f3])
  have hfull:∀ k,vs.length≤k→f4T (vs.map Ky.fst) k=f4T (vs.map Ky.fst) vs.length:=by
   intro k hk
   unfold f4T
   rw[List.take_of_length_le (by simpa using hk),List.take_of_length_le (by simp),g4L,Nat.sub_eq_zero_of_le hk,Nat.sub_self]
  rw[←hfull i (by omega)]
  exact h0
 |cons x l ih =>
  intro i fr sg hd h0 hf k1
  obtain⟨hx,hr,hi⟩:=b9D hd
  simp only[b9L,b9K] at hf
  obtain⟨f3,f9,f10,f11,-⟩:=hf
  refine Xl.step ?_
  simp only[c8X]
  have c1:(i:Int) < (vs.length:Int):=by omega
  have hw1:=d7A hi (show vs.length≤281474976710656 by have:B20=1100000:=rfl;omega)
  have hx0:=f4R (hpos x (g4Y hx))
  have h0l:=d6P h0
  have hle:i+1≤(f4T (vs.map Ky.fst) i).length:=by rw[f4W (by rw[g4L];omega),g4L];omega
  have hset:(f4T (vs.map Ky.fst) i).set i (.t (.int .u64 (Ky.fst x)))=f4T (vs.map Ky.fst) (i+1):=f4X (by rw[g4B,hx];rfl)
  simp only[wA,seval,reduceCtorEq,reduceIte,f3,f9,f10,f11,c1,hw1,g3K,hi,g4B,hx,g5V,f4O,hx0,d7D h0l,h0,hle,hset,cellsP,setRange,Go.Pi.one,g5P]
  refine ih (i+1) _ _ hr ?_ (by simp only[wQ,Nat.reduceEqDiff,reduceIte,f3,f9,f10];first|done|rfl) k1
  rw[g4F (by rw[g4I];omega)]
theorem f7E {vs:List Vl} {nl:Bool} (hls:vs.length≤B20) (hpos:∀ v,v∈vs→0 < v.els.length) {K:PV→Prop}:XcP F gl 118 [.sl nl (vs.map fun v=>tV v)] K ⟨⟩↔K (elV vs):=by
 refine Ret.iff (Ret.of F118 rfl ?_)
 simp only[c8Y]
 cases hvs:vs with
 |nil =>
  have hroom:a0N 0 8=true:=by decide
  simp only[wA,seval,reduceCtorEq,reduceIte,b6N,g4S,hroom]
  refine Xl.step ?_
  simp only[c8X]
  simp only[wA,seval,reduceCtorEq,reduceIte,elV]
 |cons y t =>
  rw[←hvs]
  have hn:0 < vs.length:=by rw[hvs];simp
  have hn0:¬((vs.length:Int)=0):=by omega
  have hroom:a0N vs.length 8=true:=by unfold a0N;simp only[g6B];have:B20=1100000:=rfl;omega
  have he:elV vs=.t (.sl false (uL (vs.map Ky.fst))):=by unfold elV;rw[if_neg (by rw[hvs];simp)]
  rw[he]
  simp only[wA,seval,reduceCtorEq,reduceIte,b6N,g4L,hn0,hroom,g3K]
  refine f7D (nl:=nl) hls hpos _ vs 0 _ _ rfl ?_ (by simp only[wQ,Nat.reduceEqDiff,reduceIte];first|done|exact⟨rfl,rfl⟩|rfl) ?_
  ·rw[f4U,g4L]
   simp only[List.getElem?_cons_zero,f4Y]
  ·intro fr' sg' hg f3
   have hr:=f5B (sg:=sg') (l:=vs.map Ky.fst) (by rw[hg,←f4V,g4L])
   rw[g4L] at hr
   simp only[wA,seval,reduceCtorEq,reduceIte,f3,hr]
end Go.Proofs.YtdjcnfacjfnakaaGreat

/- Contracts: a new run. -/
namespace Go.Proofs.YtdjcnfacjfnakaaGreat
open Go.Pi Go.Lx Go.Ky Go.Lib
variable {gl:Nat→Option (List T)}
abbrev iFu (fs:Fs):List PV:=d6Q (fun x=>.agg (tFu x)) fs
theorem f7F {ls:List Fu} {nl:Bool} (hls:ls.length≤B20) {r fm:Nat} {p:Int} {sg0:Sg} (hr0:sg0[r]?=some (false,[.t (.int .u64 p),.mp fm,.t (.bool false)])) (hne:r≠fm) {ow:Ow} (Q:Ex→S→Prop):∀ (l:List Fu) (i:Nat) (cur:Fs) (fr:List PV) (sg:Sg),ls.drop i=l→Fr fm sg0 sg→sg[fm]?=some (true,iFu cur) →
  b9J fr [(5,.lp r 0),(14,.t (.sl nl (ls.map fun f=>tFu f))),(15,.t (.int .i64 ls.length)),(16,.t (.int .i64 i))] →
  (∀ fr' sg',Fr fm sg0 sg'→sg'[fm]?=some (true,iFu (f5D l cur))→a0A fr' 5=.lp r 0→Q (.exit 0) ⟨fr',sg',ow⟩) →
  Xl F gl c7F ⟨fr,sg,ow⟩ Q ⟨⟩:=by
 intro l
 induction l with
 |nil =>
  intro i cur fr sg hd hg hk hf k1
  have hd:=b9E hd
  simp only[b9L,b9K] at hf
  obtain⟨f5,f14,f15,f16,-⟩:=hf
  refine Xl.step ?_
  simp only[c7F]
  have c1:¬((i:Int) < (ls.length:Int)):=by omega
  rw[f5D] at k1
  simp only[wA,seval,reduceCtorEq,reduceIte,f5,f14,f15,f16,c1]
  exact k1 _ _ hg hk (by simp only[wQ,Nat.reduceEqDiff,reduceIte,f5])
 |cons x l ih =>
  intro i cur fr sg hd hg hk hf k1
  obtain⟨hx,hr,hi⟩:=b9D hd
  simp only[b9L,b9K] at hf
  obtain⟨f5,f14,f15,f16,-⟩:=hf
  refine Xl.step ?_
  simp only[c7F]
  have c1:(i:Int) < (ls.length:Int):=by omega
  have hw1:=d7A hi (show ls.length≤281474976710656 by have:B20=1100000:=rfl;omega)
  rw[f5D] at k1
  have hkl:=d6P hk
  have hr1:=hg.get hr0 hne
  have hrl:=d6P hr1
  have hmp:=f5C (fun x=>T.agg (tFu x)) x.name x cur
  simp only[wA,seval,reduceCtorEq,reduceIte,f5,f14,f15,f16,c1,hw1,g3K,hi,g4B,hx,g5V,d7J,d7I,d7H,d7G,a1I,d7D hrl,hr1,d7D hkl,hk,a1E,d6S,iFu,hmp]
  refine ih (i+1) (f1Z x.name x cur) _ _ hr ((hg.trans (Fr.of (Grow.app _ _))).set _) (by rw[g4F (by rw[g4I];omega)]) (by simp only[wQ,Nat.reduceEqDiff,reduceIte,f5,f14,f15];first|done|rfl) k1
theorem ok80 {p:Pg} (hfl:p.funcs.length≤B20) (k:Int) (sg:Sg) (ow:Ow) :
  CallE F gl 80 [.t (.agg (tPg p)),.t (.int .u64 k)] sg ow fun v sg' ow'=>v=.lp (sg.length+2) 0∧Grow sg sg'∧ow'=ow∧sg'[sg.length+2]?=some (false,[.t (.int .u64 k),.mp (sg.length+1),.t (.bool false)])∧sg'[sg.length+1]?=some (true,iFu (f5D p.funcs [])):=by
 refine XcE.of F80 rfl ?_
 simp only[c7G]
 simp only[wA,seval,reduceCtorEq,reduceIte,g4L]
 refine f7F (r:=sg.length+2) (fm:=sg.length+1) (p:=k) (sg0:=sg++[(false,[PV.t (.sl p.fnl (p.funcs.map fun f=>tFu f)),.t (.sl p.dnl (p.decls.map fun f=>tDe f)),.t (.sl p.bnl (d3G p.body))]),(true,[]),(false,[.t (.int .u64 k),.mp (sg.length+1),.t (.bool false)])]) hfl (by simp) (by omega) _ p.funcs 0 [] _ _ rfl ?_ ?_ (by simp only[wQ,Nat.reduceEqDiff,reduceIte];first|done|exact⟨rfl,rfl⟩|rfl) ?_
 ·exact Fr.refl _ _
 ·simp [iFu,d6Q]
 ·intro fr' sg' hg hk f5
  simp only[wA,seval,reduceCtorEq,reduceIte,f5]
  refine⟨?_,?_,?_⟩
  ·exact Fr.grow (Grow.app _ _) hg (by omega)
  ·exact hg.get (by simp) (by omega)
  ·exact hk
end Go.Proofs.YtdjcnfacjfnakaaGreat

/- Contracts: the value of an expression, its arguments. -/
namespace Go.Proofs.YtdjcnfacjfnakaaGreat
open Go.Pi Go.Lx Go.Ky Go.Lib
variable {gl:Nat→Option (List T)}
abbrev cR (p:Int) (fm:Nat) (fl:Bool):Bool×List PV:=(false,[.t (.int .u64 p),.mp fm,.t (.bool fl)])
def f7G (gl:Nat→Option (List T)) (p:Int) (fa fs:Fs) (ns:Ns) (Φ:Fi) (e:Exp):Prop :=
 ∀ (sg:Sg) (r fm m:Nat) (fl:Bool) (sc:Sc) (ow:Ow) (w:Int),sg[r]?=some (cR p fm fl)→sg[fm]?=some (true,iFu fa)→sg[m]?=some (true,iV sc)→ScOk ns sc→(exM fs ns e w).1.2=0 →
  CallE F gl 84 [.lp r 0,.t (.agg (tEx e)),.mp m] sg ow fun x sg' ow'=>x=.t (.agg (tV (evV (oF p) Φ sc e fl).1))∧sg'[r]?=some (cR p fm (evV (oF p) Φ sc e fl).2)∧Fr r sg sg'
theorem f7H {p:Int} {fa fs:Fs} {ns:Ns} {Φ:Fi} {e:Exp} (hrec:∀ a,a∈e.args→f7G gl p fa fs ns Φ a) (hn:e.args.length≤B47) {r fm m a b4 b6:Nat} {sc:Sc} (hsc:ScOk ns sc) {v:PV} {sgB:Sg} (hf0:sgB[fm]?=some (true,iFu fa)) (hm0:sgB[m]?=some (true,iV sc))
  (hra:r≠a) (hma:m≠a) (hfa:fm≠a) (hmr:m≠r) (hfr:fm≠r) (hv:0 < e.args.length→v=.ls a 0 e.args.length 3) (Q:Ex→S→Prop):∀ (l:List Exp) (i:Nat) (done:List Vl) (w:Int) (fl:Bool) (fr:List PV) (sg:Sg) (ow:Ow),e.args.drop i=l→i≤e.args.length→done.length=i→Fr2 r a sgB sg →
  (0 < e.args.length→sg[a]?=some (false,f5K done e.args.length))→sg[r]?=some (cR p fm fl)→(d5T fs ns l w).1.2=0 →
  b9J fr [(0,.lp r 0),(2,.mp m),(4,.lp b4 0),(6,.lp b6 0),(9,v),(46,.t (.sl e.nl (d3B e.args))),(47,.t (.int .i64 e.args.length)),(48,.t (.int .i64 i))] →
  (∀ fr' sg' ow',Fr2 r a sgB sg'→(0 < e.args.length→sg'[a]?=some (false,cV (done++(f2C (oF p) Φ sc l fl).1)))→sg'[r]?=some (cR p fm (f2C (oF p) Φ sc l fl).2) →
   b9J fr' [(0,.lp r 0),(2,.mp m),(4,.lp b4 0),(6,.lp b6 0),(9,v)]→Q (.exit 1) ⟨fr',sg',ow'⟩) →
  Xl F gl c7M ⟨fr,sg,ow⟩ Q ⟨⟩:=by
 intro l
 induction l with
 |nil =>
  intro i done w fl fr sg ow hd hil hdn hg har hc he hf k1
  have hd:=b9E hd
  simp only[b9L,b9K] at hf
  obtain⟨f0,f2,f4,f6,f9,f46,f47,f48,-⟩:=hf
  refine Xl.step ?_
  simp only[c7M]
  have c1:¬((i:Int) < (e.args.length:Int)):=by omega
  rw[f2C] at k1
  simp only[wA,seval,reduceCtorEq,reduceIte,f0,f2,f4,f6,f9,f46,f47,f48,c1]
  refine k1 _ _ _ hg (fun h=>?_) hc (by simp only[wQ,Nat.reduceEqDiff,reduceIte,f0,f2,f4,f6,f9])
  rw[har h,f5M (by omega),g3O]
 |cons x l ih =>
  intro i done w fl fr sg ow hd hil hdn hg har hc he hf k1
  obtain⟨hx,hr,hi⟩:=b9D hd
  simp only[b9L,b9K] at hf
  obtain⟨f0,f2,f4,f6,f9,f46,f47,f48,-⟩:=hf
  refine Xl.step ?_
  simp only[c7M]
  have c1:(i:Int) < (e.args.length:Int):=by omega
  have hpos:0 < e.args.length:=by omega
  have hvv:=hv hpos
  subst hvv
  have hw1:=d7A hi (show e.args.length≤281474976710656 by have:B47=140737488355328:=rfl;omega)
  rw[d7R] at he
  have e1:(exM fs ns x w).1.2=0:=by
   by_cases h:(exM fs ns x w).1.2≠0
   ·rw[if_pos h] at he;exact absurd he h
   ·simpa using h
  rw[if_neg (by simpa using e1)] at he
  have e2:(d5T fs ns l (exM fs ns x w).2).1.2=0:=by
   by_cases h:(d5T fs ns l (exM fs ns x w).2).1.2≠0
   ·rw[if_pos h] at he;exact absurd he h
   ·simpa using h
  have hff:=hg.get hf0 hfr hfa
  have hmm:=hg.get hm0 hmr hma
  have hq:=fun t=>hrec x (g4Y hx) (sg++t) r fm m fl sc ow w (b1U hc) (b1U hff) (b1U hmm) hsc e1
  simp only[d3D] at hq
  rw[f2C] at k1
  simp only at k1
  simp only[wA,seval,reduceCtorEq,reduceIte,f0,f2,f4,f6,f9,f46,f47,f48,c1,hw1,g3K,hi,d3F,hx,g5V,d3D]
  refine CallE.mono (hq _) ?_
  rintro y sg' ow' ⟨rfl,hc',hfr'⟩
  have hFr:Fr r sg sg':=(Fr.of (.app _ _)).trans hfr'
  have hg':Fr2 r a sgB sg':=hg.trans (Fr2.of hFr)
  have ha:=hFr.get (har hpos) (Ne.symm hra)
  have ma:=d6P ha
  generalize hxr:evV (oF p) Φ sc x fl=q at *
  obtain⟨vx,fx⟩:=q
  have hle:i * 3+3≤(f5K done e.args.length).length:=by rw[f5N (by omega)];omega
  have hset:=f5O (done:=done) (n:=e.args.length) (by omega) vx
  rw[hdn] at hset
  simp only[c3] at hset
  simp only[wA,seval,reduceCtorEq,reduceIte,f0,f2,f4,f6,f9,f46,f47,f48,c1,hw1,g3K,hi,ha,hle,hset]
  refine ih (i+1) (done++[vx]) (exM fs ns x w).2 fx _ _ _ hr (by omega) (by simp [hdn]) (hg'.set _) (fun _=>?_) ?_ e2 (by simp only[wQ,Nat.reduceEqDiff,reduceIte,f0,f2,f4,f6,f9,f46,f47];first|done|rfl) ?_
  ·rw[g4F ma]
  ·rw[g4E (Ne.symm hra)];exact hc'
  ·intro fr' sg2 ow2 x1 x2 x3 x4
   refine k1 fr' sg2 ow2 x1 (fun h=>?_) x3 x4
   rw[x2 h,g3N];rfl
end Go.Proofs.YtdjcnfacjfnakaaGreat

/- Contracts: the value of a name, of an index. -/
namespace Go.Proofs.YtdjcnfacjfnakaaGreat
open Go.Pi Go.Lx Go.Ky Go.Lib
variable {gl:Nat→Option (List T)}
theorem f7I {p:Int} {fa fs:Fs} {ns:Ns} {Φ:Fi} {e:Exp} (o2:e.op=2):f7G gl p fa fs ns Φ e:=by
 intro sg r fm m fl sc ow w hr hf hm hsc he
 obtain⟨v,hl⟩:∃ v,Ky.look e.name sc=some v:=by
  rw[d5U,if_neg (by omega)] at he
  simp only at he
  by_cases c:(d5T fs ns e.args w).1.2≠0
  ·rw[if_pos c] at he;exact absurd he c
  rw[if_neg c] at he
  unfold opM at he
  rw[if_neg (by omega),if_neg (by omega),if_pos o2] at he
  cases hk:Ky.look e.name ns with
  |none=>simp only[hk] at he;cases he
  |some s =>
   obtain⟨v,k1,_⟩:=hsc _ _ hk
   exact⟨v,k1⟩
 have hP:evV (oF p) Φ sc e fl=(v,fl):=by rw[f2D,if_pos o2];unfold lkV;rw[hl];rfl
 rw[hP]
 have hml:=d6P hm
 have hrl:=d6P hr
 refine XcE.of F84 rfl ?_
 simp only[c7N]
 simp only[wA,seval,reduceCtorEq,reduceIte,d3D,o2,d7D hml,hm,a1D,iV,d6S,hl,g5T,Option.isSome_some,cellsP,setRange,Go.Pi.one]
 refine⟨?_,?_⟩
 ·rw[d7D hrl];exact hr
 ·exact Fr.of (Grow.app _ _)
theorem f7J {p:Int} (hk:known p=true) {fa fs:Fs} {ns:Ns} {Φ:Fi} (hΦ:FiOk fs Φ) {e a b:Exp} (o8:e.op=8) (hab:e.args=[a,b]) (hxo:ExpOk e) (heb:exB e=true) (hrec:f7G gl p fa fs ns Φ a):f7G gl p fa fs ns Φ e:=by
 intro sg r fm m fl sc ow w hr hf hm hsc he
 have he':(d5S ns (exM fs ns a w) b).1.2=0:=by
  rw[d5U,if_pos o8,hab] at he
  exact he
 obtain⟨i1,i2,i3,i4⟩:=f3D he'
 obtain⟨x1,x2,x3⟩:=f3B hxo
 have hba:=d7N heb
 have hv:=f3E (f6Z hk) hΦ hsc a (x3 a (by rw[hab];simp)) (hba a (by rw[hab];simp)) w fl i1
 obtain⟨p1,p2⟩:=f3F hsc (x3 b (by rw[hab];simp)) hv.1 hv.2.1 i2
 have hP:evV (oF p) Φ sc e fl=(f1Y ((evV (oF p) Φ sc a fl).1.els.getD (f2B b sc).toNat 0),(evV (oF p) Φ sc a fl).2):=by rw[f2D,if_neg (by omega),if_pos o8,hab]
 rw[hP]
 have hmr:m≠r:=fun h=>by rw[h,hr] at hm;cases hm
 have hfr:fm≠r:=fun h=>by rw[h,hr] at hf;cases hf
 have hml:=d6P hm
 have hrl:=d6P hr
 refine XcE.of F84 rfl ?_
 simp only[c7N]
 have hq:=fun t=>hrec (sg++t) r fm m fl sc ow w (b1U hr) (b1U hf) (b1U hm) hsc i1
 simp only[d3D] at hq
 simp only[wA,seval,reduceCtorEq,reduceIte,d3D,o8,hab,d3B]
 refine CallE.mono (hq _) ?_
 rintro y sg' ow' ⟨rfl,hc',hfr'⟩
 have j4:=hfr'.get (i:=sg.length) (x:=(false,[PV.t (.int .i64 8),.t (.int .u64 e.val),.t (.str e.name),.t (.sl e.nl [tEx a,tEx b])])) (by simp [d3D]) (by omega)
 have j6:=hfr'.get (i:=sg.length+1) (x:=(false,[PV.t (.sl true []),.t (.bool false),.t (.int .i64 0)])) (by rw[g3V (by omega)];simp) (by omega)
 have hm':=(Fr.trans (Fr.of (.app _ _)) hfr').get hm hmr
 have m4:=d6P j4
 have m6:=d6P j6
 simp only[d3D] at j4
 have hq2:=fun t=>f6T (gl:=gl) (sg:=sg'++t) (m:=m) (sc:=sc) (b1U hm') b (hba b (by rw[hab];simp)) ow'
 simp only[d3D] at hq2
 generalize hqa:evV (oF p) Φ sc a fl=q at *
 obtain⟨va,fa'⟩:=q
 simp only[wA,seval,reduceCtorEq,reduceIte,d7D m4,j4]
 refine CallE.mono (hq2 _) ?_
 rintro y sg2 ow2 ⟨rfl,hg2,rfl⟩
 have j7:=hg2.get (i:=sg'.length) (x:=(false,[PV.t (.sl false (uL va.els)),.t (.bool va.arr),.t (.int .i64 va.num)])) (by simp)
 have j6':=hg2.get (b1U j6)
 have hlen:f2B b sc < (va.els.length:Int):=by
  rw[hv.2.2.1]
  unfold f2K
  split <;> omega
 have hget:va.els[(f2B b sc).toNat]?=some (va.els.getD (f2B b sc).toNat 0):=by
  have h:(f2B b sc).toNat < va.els.length:=by omega
  rw[List.getD_eq_getElem?_getD,g3Y h];rfl
 have hlt:(f2B b sc).toNat < va.els.length:=by omega
 have hs:=fun n K=>f6N (gl:=gl) n (K:=K)
 have m6':=d6P j6'
 simp only[wA,seval,reduceCtorEq,reduceIte,j7,f4O,f4P,hget,hlen,hlt,p1,g5V,hs,j6',d6O j6',d6Z,cellsP,setRange,Go.Pi.one]
 have hFr:Fr r sg sg2:=(Fr.trans (Fr.of (.app _ _)) hfr').trans (Fr.of ((Grow.app _ _).trans hg2))
 refine⟨?_,?_⟩
 ·rw[g4E (by omega)];exact hg2.get (b1U hc')
 ·exact Fr2.fr (a:=sg.length+1) (Fr.refl r sg) ((Fr2.of hFr).set _) (by omega)
end Go.Proofs.YtdjcnfacjfnakaaGreat
