/- Contracts: loops, statements: all. -/
import Derived.Test.YtdjcnfacjfnakaaGreatU10
set_option maxRecDepth 10000
set_option linter.unusedVariables false
set_option linter.unusedSimpArgs false
namespace Go.Proofs.YtdjcnfacjfnakaaGreat
open Go.Pi Go.Lx Go.Ky Go.Lib
variable {gl:Nat→Option (List T)}
abbrev f7S (p:Int) (Φ:Fi) (s:St):Int→Sc→Bool→Sc×Bool:=fun n sc1 fl1=>f2H (oF p) Φ s.body (f1Z s.name ⟨[(oF p).red n],false,n⟩ sc1) fl1
theorem f7T {p:Int} (hk:known p=true) {fa fs:Fs} {Φ:Fi} (hΦ:FiOk fs Φ) {s:St} (h3:s.kind=3) (hx:StOk s) (hB:stB s=true) (hbody:f7P gl p fa fs Φ s.body s.nl) {ns:Ns} {w:Int} (he:(stM fs s ns w).1=0) {r fm m b:Nat} (hmr:m≠r) (hfr:fm≠r) (hfm:fm≠m) (hbr:b≠r) (hbm:b≠m) {sg0:Sg} (hf0:sg0[fm]?=some (true,iFu fa)) (hb0:sg0[b]?=some (false,cSt s)) (Q:Ex→S→Prop):∀ (k:Nat) (n:Int) (fl:Bool) (sc:Sc) (fr:List PV) (sg:Sg) (ow:Ow),n+(k:Int)=s.hi→s.lo≤n→Fr2 r m sg0 sg→sg[r]?=some (cR p fm fl)→sg[m]?=some (true,iV sc)→(fl=false→ScOk ns sc) →
  b9J fr [(0,.lp r 0),(2,.mp m),(4,.lp b 0),(6,.t (.int .i64 n))] →
  (∀ fr' sg' ow',Fr2 r m sg0 sg'→sg'[r]?=some (cR p fm (Ky.iter (f7S p Φ s) k n sc fl).2)→sg'[m]?=some (true,iV (Ky.iter (f7S p Φ s) k n sc fl).1)→Q (.exit 0) ⟨fr',sg',ow'⟩) →
  Xl F gl c8Q ⟨fr,sg,ow⟩ Q ⟨⟩:=by
 intro k
 induction k with
 |zero =>
  intro n fl sc fr sg ow hn hlo hg hc hm hsc hf k1
  simp only[b9L,b9K] at hf
  obtain⟨f0,f2,f4,f6,-⟩:=hf
  have hb:=hg.get hb0 hbr hbm
  refine Xl.step ?_
  simp only[c8Q]
  have c1:¬(n < s.hi):=by omega
  rw[Ky.iter] at k1
  simp only[wA,seval,reduceCtorEq,reduceIte,f0,f2,f4,f6,hb,c1]
  exact k1 _ _ _ hg hc hm
 |succ k ih =>
  intro n fl sc fr sg ow hn hlo hg hc hm hsc hf k1
  simp only[b9L,b9K] at hf
  obtain⟨f0,f2,f4,f6,-⟩:=hf
  have hb:=hg.get hb0 hbr hbm
  have hff:=hg.get hf0 hfr hfm
  have lc:=d6P hc
  have lm:=d6P hm
  obtain⟨hnew,l1,l2,l3,hbz⟩:=f5W h3 hB he
  refine Xl.step ?_
  simp only[c8Q]
  have c1:n < s.hi:=by omega
  rw[Ky.iter] at k1
  cases fl with
  |true =>
   rw[if_pos rfl] at k1
   simp only[wA,seval,reduceCtorEq,reduceIte,f0,f2,f4,f6,hb,c1,hc]
   exact k1 _ _ _ hg hc hm
  |false =>
   rw[if_neg (by simp)] at k1
   obtain⟨hr1,hr2⟩:=f5X (f6Z hk) hΦ h3 hx hB he (hsc rfl) hlo c1
   have hw64:IntKind.u64.wrap n=n:=IntWalk.u64_in _ (by omega)
   have hwn:IntKind.i64.wrap (n+1)=n+1:=IntWalk.i64_in _ (by omega)
   have hred:=fun K=>@e6P gl p n hk (by omega) K
   have hf:fillP [PV.t (T.sl true []),PV.t (T.bool false),PV.t (T.int .i64 0)] [(0,1,PV.lit [[T.int .u64 (n % p)]]),(2,1,.t (.int .i64 n))]=some [PV.lit [[T.int .u64 (n % p)]],.t (.bool false),.t (.int .i64 n)]:=rfl
   have hma:mkAgg [PV.lit [[T.int .u64 (n % p)]],.t (.bool false),.t (.int .i64 n)]=PV.agg [PV.lit [[T.int .u64 (n % p)]],.t (.bool false),.t (.int .i64 n)]:=rfl
   have hmp:a1B 2 (T.str s.name) (T.agg [T.sl false [[T.int .u64 (n % p)]],T.bool false,T.int .i64 n]) (iV sc)=iV (f1Z s.name ⟨[(oF p).red n],false,n⟩ sc):=f5C (fun v=>T.agg (tV v)) s.name ⟨[n % p],false,n⟩ sc
   have eb:∀ y,(sg.set m y)[b]?=some (false,cSt s):=fun y=>by rw[g4E (Ne.symm hbm)];exact hb
   have hq:=fun ow=>hbody (ns++[(s.name,⟨fieldT,true,s.lo,s.hi⟩)]) w (sg.set m (true,iV (f1Z s.name ⟨[(oF p).red n],false,n⟩ sc))) r fm m false (f1Z s.name ⟨[(oF p).red n],false,n⟩ sc) ow (by rw[g4E hmr];exact hc) (by rw[g4E (Ne.symm hfm)];exact hff) hfm (by rw[g4F lm]) (fun _=>hr1) hbz
   simp only[wA,seval,reduceCtorEq,reduceIte,f0,f2,f4,f6,hb,c1,hc,hm,hw64,hred,b6Q,a0C,a0M,T.isAgg,List.replicate,g3S,g3T,g3O,hf,hma,a1E,d6S,hmp,eb]
   refine CallE.mono (hq _) ?_
   rintro y sg' ow' ⟨rfl,hc',hm',hfr'⟩
   have hb':=hfr'.get (eb _) hbr hbm
   simp only[wA,seval,reduceCtorEq,reduceIte,f0,f2,f4,f6,hwn]
   refine ih (n+1) _ _ _ _ _ (by omega) (by omega) (hg.trans (((Fr2.refl r m sg).set _).trans hfr')) hc' hm' hr2 (by simp only[wQ,Nat.reduceEqDiff,reduceIte,f0,f2,f4];first|done|rfl) k1
theorem f7U {p:Int} (hk:known p=true) {fa fs:Fs} {Φ:Fi} (hΦ:FiOk fs Φ) {s:St} (h3:s.kind=3) (hx:StOk s) (hB:stB s=true) (hsz:szS s≤B20) (hbody:f7P gl p fa fs Φ s.body s.nl):f7Q gl p fa fs Φ s:=by
 intro ns w sg r fm m sc ow hc hf hfm hm hsc he
 have hmr:m≠r:=fun h=>by rw[h,hc] at hm;cases hm
 have hfr:fm≠r:=fun h=>by rw[h,hc] at hf;cases hf
 have lc:=d6P hc
 have lm:=d6P hm
 refine XcE.of F113 rfl ?_
 simp only[c8R]
 have hid:=fun K=>f6P (gl:=gl) s hsz K
 simp only[d3I] at hid
 have hV:stV (oF p) Φ s sc false=if idS s then (sc,false) else Ky.iter (f7S p Φ s) (s.hi - s.lo).toNat s.lo sc false:=by rw[f2I,if_neg (by omega),if_neg (by omega),if_pos h3]
 rw[hV]
 cases hi:idS s with
 |true =>
  rw[hi] at hid
  rw[if_pos rfl]
  simp only[wA,seval,reduceCtorEq,reduceIte,d3I,hid]
  exact⟨b1U hc,b1U hm,Fr2.of (Fr.of (.app _ _))⟩
 |false =>
  rw[hi] at hid
  rw[if_neg (by simp)]
  obtain⟨hnew,l1,l2,l3,hbz⟩:=f5W h3 hB he
  simp only[wA,seval,reduceCtorEq,reduceIte,d3I,hid]
  refine f7T (b:=sg.length) hk hΦ h3 hx hB hbody he hmr hfr hfm (by omega) (by omega) (sg0:=sg++[(false,cSt s)]) (b1U hf) (by simp) _ (s.hi - s.lo).toNat s.lo false sc _ _ _ (by omega) (Int.le_refl _) (Fr2.refl _ _ _) (b1U hc) (b1U hm) (fun _=>hsc) (by simp only[wQ,Nat.reduceEqDiff,reduceIte];first|done|exact⟨rfl,rfl⟩|rfl) ?_
  intro fr' sg' ow' hg hc' hm'
  simp only[wA,seval,reduceCtorEq,reduceIte]
  exact⟨hc',hm',(Fr2.of (Fr.of (.app _ _))).trans hg⟩
theorem f7V {p:Int} (hk:known p=true) {fa fs:Fs} {Φ:Fi} (hΦ:FiOk fs Φ) (hR:f7L gl p fa fs Φ):∀ s,StOk s→stB s=true→szS s≤B20→s.kind=3→f7Q gl p fa fs Φ s:=by
 refine St.ind fun s ih hx hB hsz h3=>?_
 obtain⟨b1,b2⟩:=d8E hsz
 have hst:∀ b,b∈s.body→StOk b∧stB b=true∧szS b≤B20:=fun b hb=>⟨d8I hx b hb,d8G hB h3 b hb,b2 b hb⟩
 exact f7U hk hΦ h3 hx hB hsz (ok82 hk hΦ hR b1 hst fun b hb=>ih b hb (hst b hb).1 (hst b hb).2.1 (hst b hb).2.2)
theorem f7W {p:Int} (hk:known p=true) {fa fs:Fs} {Φ:Fi} (hΦ:FiOk fs Φ) (hR:f7L gl p fa fs Φ) {ls:List St} {nl:Bool} (hls:ls.length≤B20) (hst:∀ s,s∈ls→StOk s∧stB s=true∧szS s≤B20):f7P gl p fa fs Φ ls nl :=
 ok82 hk hΦ hR hls hst fun s hs=>f7V hk hΦ hR s (hst s hs).1 (hst s hs).2.1 (hst s hs).2.2
end Go.Proofs.YtdjcnfacjfnakaaGreat

/- Contracts: functions are called. -/
namespace Go.Proofs.YtdjcnfacjfnakaaGreat
open Go.Pi Go.Lx Go.Ky Go.Lib
variable {gl:Nat→Option (List T)}
theorem f7X {ps:List Pa} {nl:Bool} {vs:List Vl} (hls:ps.length≤B20) {r b4 b6 m a:Nat} (hma:a≠m) {sg0:Sg} {v:PV} (hv:0 < ps.length→v=.ls a 0 vs.length 3∧sg0[a]?=some (false,cV vs)) (hm0:m < sg0.length) {ow:Ow} (Q:Ex→S→Prop):∀ (l:List Pa) (lv:List Vl) (i:Nat) (sc:Sc) (fr:List PV) (sg:Sg),ps.drop i=l→vs.drop i=lv→PsOk l lv→Fr m sg0 sg→sg[m]?=some (true,iV sc) →
  b9J fr [(0,.lp r 0),(2,v),(4,.lp b4 0),(6,.lp b6 0),(7,.mp m),(12,.t (.sl nl (ps.map fun f=>tPa f))),(13,.t (.int .i64 ps.length)),(14,.t (.int .i64 i))] →
  (∀ fr' sg',Fr m sg0 sg'→sg'[m]?=some (true,iV (f2J l lv sc))→b9J fr' [(0,.lp r 0),(4,.lp b4 0),(6,.lp b6 0),(7,.mp m)]→Q (.exit 0) ⟨fr',sg',ow⟩) →
  Xl F gl c8U ⟨fr,sg,ow⟩ Q ⟨⟩:=by
 intro l
 induction l with
 |nil =>
  intro lv i sc fr sg hd hdv hp hg hm hf k1
  have hd:=b9E hd
  have hlv:f2J [] lv sc=sc:=by cases lv <;> rw[f2J] <;> simp
  rw[hlv] at k1
  simp only[b9L,b9K] at hf
  obtain⟨f0,f2,f4,f6,f7,f12,f13,f14,-⟩:=hf
  refine Xl.step ?_
  simp only[c8U]
  have c1:¬((i:Int) < (ps.length:Int)):=by omega
  simp only[wA,seval,reduceCtorEq,reduceIte,f0,f2,f4,f6,f7,f12,f13,f14,c1]
  exact k1 _ _ hg hm (by simp only[wQ,Nat.reduceEqDiff,reduceIte,f0,f4,f6,f7])
 |cons x l ih =>
  intro lv i sc fr sg hd hdv hp hg hm hf k1
  obtain⟨hx,hr,hi⟩:=b9D hd
  cases lv with
  |nil=>exact hp.elim
  |cons y lv =>
   obtain⟨hy,hry,hiy⟩:=b9D hdv
   simp only[b9L,b9K] at hf
   obtain⟨f0,f2,f4,f6,f7,f12,f13,f14,-⟩:=hf
   refine Xl.step ?_
   simp only[c8U]
   have c1:(i:Int) < (ps.length:Int):=by omega
   have hw1:=d7A hi (show ps.length≤281474976710656 by have:B20=1100000:=rfl;omega)
   obtain⟨rfl,ha0⟩:=hv (by omega)
   have ha:=hg.get ha0 hma
   obtain⟨y1,y2,y3⟩:=f5P vs i y hy
   have la:=d6P ha
   have lm:=d6P hm
   have hmp:a1B 2 (T.str x.name) (T.agg [T.sl false (uL y.els),T.bool y.arr,T.int .i64 y.num]) (iV sc)=iV (f1Z x.name y sc):=f5C (fun v=>T.agg (tV v)) x.name y sc
   have hct:=f6A hy
   have hle:i * 3+3≤(cV vs).length:=by rw[f5G];omega
   have hiy':(i:Int) < (vs.length:Int):=by omega
   rw[f2J] at k1
   simp only[wA,seval,reduceCtorEq,reduceIte,f0,f2,f4,f6,f7,f12,f13,f14,c1,hw1,g3K,hi,g4B,hx,g5V,d7D la,ha,d7D lm,hm,hiy,hiy',hle,hct,allT,a1E,d6S,hmp]
   refine ih lv (i+1) _ _ _ hr hry hp.2 ((hg.trans (Fr.of (.app _ _))).set _) (by rw[g4F (by rw[g4I];omega)]) (by simp only[wQ,Nat.reduceEqDiff,reduceIte,f0,f2,f4,f6,f7,f12,f13];first|done|rfl) k1
theorem f7Y {p:Int} (hk:known p=true) {fa fs:Fs} {Φ:Fi} (hΦ:FiOk fs Φ) (hR:f7L gl p fa fs Φ) {f:Fu} (hx:FuOk f) (hB:fuB f=true) (hpl:f.params.length≤B20) (hbs:d4B f.body≤B20) (hrs:szE f.ret≤B20) {w:Int} (he:(d6B fs f w).1=0) (sg:Sg) (r fm:Nat) (fl:Bool) (ow:Ow) (vs:List Vl) (v:PV) (hc:sg[r]?=some (cR p fm fl)) (hf:sg[fm]?=some (true,iFu fa)) (ha:f7K sg v vs) (hvl:vs.length≤B20) (hp:PsOk f.params vs) :
  CallE F gl 116 [.lp r 0,.t (.agg (tFu f)),v] sg ow fun x sg' ow'=>x=.t (.agg (tV (f2L (oF p) Φ f vs fl).1))∧sg'[r]?=some (cR p fm (f2L (oF p) Φ f vs fl).2)∧Fr r sg sg':=by
 obtain⟨b1,b2,b3⟩:=f3S hB
 obtain⟨h1,h2,h3,h4,h5,h6⟩:=f3R he
 obtain⟨r1,r2⟩:=f3M b1
 have hB20:B20=1100000:=rfl
 have lc:=d6P hc
 have lf:=d6P hf
 have hfr:fm≠r:=fun h=>by rw[h,hc] at hf;cases hf
 have hst:∀ b,b∈f.body→StOk b∧stB b=true∧szS b≤B20:=fun b hb=>⟨hx.bo b hb,b2 b hb,g5L (d4H hb) hbs⟩
 refine XcE.of F116 rfl ?_
 simp only[c8V]
 obtain⟨a,ham,hav⟩:∃ a,a≠sg.length+2∧(0 < f.params.length→v=.ls a 0 vs.length 3∧sg[a]?=some (false,cV vs)):=by
  rcases ha with⟨rfl,_⟩|⟨h0,a,rfl,h⟩
  ·refine⟨sg.length,by omega,fun h=>?_⟩
   cases hq:f.params with
   |nil=>rw[hq] at h;cases h
   |cons x l=>rw[hq] at hp;exact hp.elim
  ·exact⟨a,by have:=d6P h;omega,fun _=>⟨rfl,h⟩⟩
 simp only[wA,seval,reduceCtorEq,reduceIte,g4L]
 refine f7X (nl:=f.pnl) (vs:=vs) (r:=r) (b4:=sg.length) (b6:=sg.length+1) (m:=sg.length+2) (a:=a) hpl ham (sg0:=sg++[(false,[.t (.str f.name),.t (.sl f.pnl (f.params.map tPa)),.t (.int .i64 f.res.kind),.t (.int .i64 f.res.bits),.t (.int .i64 f.res.len),.t (.sl f.bnl (d3G f.body)),.t (.int .i64 f.ret.op),.t (.int .u64 f.ret.val),.t (.str f.ret.name),.t (.sl f.ret.nl (d3B f.ret.args))]),(false,[.t (.sl true []),.t (.bool false),.t (.int .i64 0)]),(true,[])]) (fun h=>⟨(hav h).1,b1U (hav h).2⟩) (by simp) _ f.params vs 0 [] _ _ rfl rfl hp (Fr.refl _ _) (by simp [iV,d6Q]) (by simp only[wQ,Nat.reduceEqDiff,reduceIte];first|done|exact⟨rfl,rfl⟩|rfl) ?_
 intro fr' sg1 hg1 hm1 hf'
 simp only[b9L,b9K] at hf'
 obtain⟨f0,f4,f6,f7,-⟩:=hf'
 have hc1:=hg1.get (b1U hc) (show r≠sg.length+2 by omega)
 have hf1:=hg1.get (b1U hf) (show fm≠sg.length+2 by omega)
 have j4:=hg1.get (i:=sg.length) (x:=(false,[.t (.str f.name),.t (.sl f.pnl (f.params.map tPa)),.t (.int .i64 f.res.kind),.t (.int .i64 f.res.bits),.t (.int .i64 f.res.len),.t (.sl f.bnl (d3G f.body)),.t (.int .i64 f.ret.op),.t (.int .u64 f.ret.val),.t (.str f.ret.name),.t (.sl f.ret.nl (d3B f.ret.args))])) (by simp) (by omega)
 have j6:=hg1.get (i:=sg.length+1) (x:=(false,[.t (.sl true []),.t (.bool false),.t (.int .i64 0)])) (by rw[g3V (by omega)];simp) (by omega)
 have hsc:=f3Q f.params vs [] [] w hp .nil h3
 have hbl:f.body.length≤B20:=g5L (d4J _) hbs
 have hex:=f7W (gl:=gl) (nl:=f.bnl) hk hΦ hR hbl hst _ _ sg1 r fm (sg.length+2) fl (f2J f.params vs []) ow hc1 hf1 (by omega) hm1 (fun _=>hsc) h4
 have hso:=f3L (O:=oF p) (Φ:=Φ) (fs:=fs) f.body (fun s hs=>f3P (f6Z hk) hΦ s (hx.bo s hs) (b2 s hs)) _ _ _ hsc h4
 have hcv:f2L (oF p) Φ f vs fl=if (f2H (oF p) Φ f.body (f2J f.params vs []) fl).2 then (⟨List.replicate (f2K f.res.len).toNat 0,decide (f.res.len≠0),0⟩,true) else evV (oF p) Φ (f2H (oF p) Φ f.body (f2J f.params vs []) fl).1 f.ret false:=rfl
 have hfl:(f2H (oF p) Φ f.body (f2J f.params vs []) fl).2=false→fl=false:=by
  intro h
  cases fl with
  |false=>rfl
  |true=>rw[f3K] at h;cases h
 rw[hcv]
 simp only[wA,seval,reduceCtorEq,reduceIte,f0,f4,f6,f7,j4]
 refine CallE.mono hex ?_
 rintro y sg2 ow2 ⟨rfl,hc2,hm2,hfr2⟩
 have k4:=hfr2.get j4 (by omega) (by omega)
 have k6:=hfr2.get j6 (by omega) (by omega)
 have hf2:=hfr2.get hf1 hfr (by omega)
 have hG:Fr r sg sg2:=Fr2.fr (a:=sg.length+2) (Fr.of (Grow.app sg _)) ((Fr2.of' hg1).trans hfr2) (by omega)
 cases hst2:(f2H (oF p) Φ f.body (f2J f.params vs []) fl).2 with
 |true =>
  rw[hst2] at hc2
  rw[if_pos rfl]
  have hl1:f2K f.res.len=if (1:Int) > f.res.len then 1 else f.res.len:=rfl
  have hl2:1≤f2K f.res.len∧f2K f.res.len≤64:=by unfold f2K;split <;> omega
  have hroom:a0N (f2K f.res.len).toNat 8=true:=by unfold a0N;simp only[g6B];omega
  have hmx:mxT true (.t (.int .i64 f.res.len)) (.t (.int .i64 1))=some (.int .i64 (f2K f.res.len)):=rfl
  have hmz:b7M 1 8 [T.int .u64 0] (.t (.int .i64 (f2K f.res.len))) (.t (.int .i64 (f2K f.res.len)))=some (.t (.sl false (uL (List.replicate (f2K f.res.len).toNat 0)))):=by
   unfold b7M
   simp only
   rw[if_pos ⟨by omega,by omega,hroom,rfl,by decide⟩]
   unfold uL
   rw[List.map_replicate]
  simp only[wA,seval,reduceCtorEq,reduceIte,f0,f4,f6,f7,k4,hc2,hmx,hmz,k6,d6O k6,d6Z,cellsP,setRange,Go.Pi.one]
  refine⟨?_,?_,?_⟩
  ·simp only[decide_not,ne_eq]
  ·rw[g4E (by omega)];exact hc2
  ·exact Fr2.fr (a:=sg.length+1) (Fr.refl r sg) ((Fr2.of hG).set _) (by omega)
 |false =>
  have:=hfl hst2
  subst this
  rw[hst2] at hc2
  rw[if_neg (by simp)]
  rw[hst2] at hso
  have hsc2:=hso.resolve_left (by simp)
  have hv:=f7O (gl:=gl) hk hΦ hR f.ret hx.ret hrs b3 sg2 r fm (sg.length+2) false _ ow2 _ hc2 hf2 hm2 hsc2 h5
  simp only[d3D] at hv
  simp only[wA,seval,reduceCtorEq,reduceIte,f0,f4,f6,f7,k4,hc2]
  refine CallE.mono hv ?_
  rintro y sg3 ow3 ⟨rfl,hc3,hfr3⟩
  have k6':=hfr3.get k6 (by omega)
  simp only[wA,seval,reduceCtorEq,reduceIte,f0,f4,f6,f7,k6',d6O k6',d6Z,cellsP,setRange,Go.Pi.one]
  refine⟨?_,?_⟩
  ·rw[g4E (by omega)];exact hc3
  ·exact Fr2.fr (a:=sg.length+1) (Fr.refl r sg) ((Fr2.of (hG.trans hfr3)).set _) (by omega)
theorem f7Z {p:Int} (hk:known p=true) {fa:Fs}:∀ (l:List Fu) (Φ:Fi) (fs:Fs) (w:Int),FiOk fs Φ→f7L gl p fa fs Φ→(∀ f,f∈l→FuOk f∧fuB f=true∧f.params.length≤B20∧d4B f.body≤B20∧szE f.ret≤B20)→(d6C l fs w).1=0→(∀ nm f,Ky.look nm (d6C l fs w).2.1=some f→Ky.look nm fa=some f)→f7L gl p fa (d6C l fs w).2.1 (f2M (oF p) l Φ):=by
 intro l
 induction l with
 |nil=>intro Φ fs w _ h _ _ _;rw[d6C,f2M];exact h
 |cons f r ih =>
  intro Φ fs w hΦ hR hl he hfa
  rw[d8P] at he hfa ⊢
  by_cases c:(d6B fs f w).1≠0
  ·rw[if_pos c] at he;exact absurd he c
  rw[if_neg c] at he hfa ⊢
  have c':(d6B fs f w).1=0:=by simpa using c
  obtain⟨x1,x2,x3,x4,x5⟩:=hl f (by simp)
  obtain⟨g1,g2,_⟩:=f3R c'
  have h2:=f3U (f6Z hk) hΦ x1 x2 c'
  rw[←g2] at h2
  rw[f2M]
  refine ih _ _ _ h2 ?_ (fun x hx=>hl x (by simp [hx])) he hfa
  intro nm g hg
  refine⟨hfa _ _ (f6B _ _ _ he _ _ hg),?_⟩
  rw[g2,d6W] at hg
  by_cases hk2:nm=f.name
  ·subst hk2
   rw[g1] at hg
   simp only[f3G] at hg
   have:f=g:=by simpa using hg
   subst this
   have hE:∀ vs fl,fiS (oF p) f Φ f.name vs fl=f2L (oF p) Φ f vs fl:=fun vs fl=>by unfold fiS;rw[if_pos rfl]
   intro sg r fm fl ow vs v hc hf ha hvl hp
   rw[hE]
   exact f7Y hk hΦ hR x1 x2 x3 x4 x5 c' sg r fm fl ow vs v hc hf ha hvl hp
  ·have hE:∀ vs fl,fiS (oF p) f Φ nm vs fl=Φ nm vs fl:=fun vs fl=>by unfold fiS;rw[if_neg hk2]
   cases hb:Ky.look nm fs with
   |some y =>
    rw[hb] at hg
    have:y=g:=by simpa using hg
    subst this
    intro sg r fm fl ow vs v hc hf ha hvl hp
    rw[hE]
    exact(hR nm y hb).2 sg r fm fl ow vs v hc hf ha hvl hp
   |none =>
    rw[hb] at hg
    simp only[f3H hk2] at hg
    cases hg
end Go.Proofs.YtdjcnfacjfnakaaGreat
