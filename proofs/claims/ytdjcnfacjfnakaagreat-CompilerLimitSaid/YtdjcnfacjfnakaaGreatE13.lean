/- Contracts: room, checks, scalars. -/
import Derived.Test.YtdjcnfacjfnakaaGreatE8
import Derived.Test.YtdjcnfacjfnakaaGreatK19
import Derived.Test.YtdjcnfacjfnakaaGreatKx91
set_option maxRecDepth 10000
set_option linter.unusedVariables false
set_option linter.unusedSimpArgs false
namespace Go.Proofs.YtdjcnfacjfnakaaGreat
open Go.Pi Go.Lx Go.Ky Go.Lib
variable {gl:Nat→Option (List T)}
theorem f8N {p:Int} {fa:Fs} {sg:Sg} {c r ri hi fm:Nat} {s:Cst} (h:CS sg c r ri hi fm p fa s) (hs:CsOk s) {n:Int} (h0:0≤n) (h1:n≤1000000000) (ow:Ow) :
  CallE F gl 87 [.lp c 0,.t (.int .i64 n)] sg ow fun x sg' ow'=>x=.t (.bool (f0Z n s))∧ow'=ow∧CS sg' c r ri hi fm p fa (f1A n s)∧Mv [c,r,ri,hi] [c,r,ri,hi] sg sg':=by
 have hc:=h.hc
 have e1:=hs.r0
 have e2:=hs.le
 have hw1:IntKind.i64.wrap (16384 - s.rows)=16384 - s.rows:=IntWalk.i64_in _ (by omega)
 have hw2:IntKind.i64.wrap (s.rows+n)=s.rows+n:=IntWalk.i64_in _ (by omega)
 have mv:∀ x,Mv [c,r,ri,hi] [c,r,ri,hi] sg (sg.set c x):=fun x=>(Mv.refl _ sg).set (.inl (by simp)) x
 refine XcE.of F87 rfl ?_
 simp only[c5T]
 unfold f1A f0Z
 cases hf:s.full with
 |true =>
  rw[hf] at hc
  simp only[wA,seval,reduceCtorEq,reduceIte,hc,d4X hc,wC]
  refine⟨by simp,?_,mv _⟩
  exact h.rows _ _
 |false =>
  rw[hf] at hc
  by_cases c1:16384 - s.rows < n
  ·have c2:decide (n > 16384 - s.rows)=true:=g5K c1
   rw[c2]
   simp only[wA,seval,reduceCtorEq,reduceIte,hc,d4X hc,wC,hw1,c1]
   exact⟨by simp,h.rows _ _,mv _⟩
  ·have c2:decide (n > 16384 - s.rows)=false:=g5I c1
   rw[c2]
   simp only[wA,seval,reduceCtorEq,reduceIte,hc,d4X hc,wC,hw1,hw2,c1]
   exact⟨by simp,h.rows _ _,mv _⟩
theorem f8O {n:Int} {s:Cst} (h:f0Z n s=true):f1A n s=⟨s.b,s.rows+n,s.full⟩:=by unfold f1A;rw[h];rfl
theorem f8P {n:Int} {s:Cst} (h:f0Z n s=false):f1A n s=⟨s.b,s.rows,true⟩:=by unfold f1A;rw[h];rfl
theorem f8Q {n:Int} {g:Bd→Li×Bd} {s:Cst} (h:f0Z n s=true):f1B n g s=((g s.b).1,⟨(g s.b).2,s.rows+n,s.full⟩):=by unfold f1B;rw[h];rfl
theorem f8R {n:Int} {g:Bd→Li×Bd} {s:Cst} (h:f0Z n s=false):f1B n g s=(e8S,⟨s.b,s.rows,true⟩):=by unfold f1B;rw[h];rfl
theorem f8S {n:Int} {g:Bd→Bd} {s:Cst} (h:f0Z n s=true):f1C n g s=⟨g s.b,s.rows+n,s.full⟩:=by unfold f1C;rw[h];rfl
theorem f8T {n:Int} {g:Bd→Bd} {s:Cst} (h:f0Z n s=false):f1C n g s=⟨s.b,s.rows,true⟩:=by unfold f1C;rw[h];rfl
theorem ok86 {p:Int} (hk:e2N p=true) {fa:Fs} {sg:Sg} {c r ri hi fm:Nat} {s:Cst} (h:CS sg c r ri hi fm p fa s) (hs:CsOk s) {x:Li} (hx:LiOk s.b.vars x) {t:Ty} (ht:t.kind=3→1≤t.bits∧t.bits≤62) (ow:Ow) :
  CallE F gl 86 [.lp c 0,.t (tLi x),.t (.agg (tTy t))] sg ow fun v sg' ow'=>Cd sg ow c r ri hi fm p fa (f1O (foF p) x t s) sg' ow':=by
 refine XcE.of F86 rfl ?_
 simp only[c5S]
 have h1:=h.app [(false,[.t (.int .i64 t.kind),.t (.int .i64 t.bits),.t (.int .i64 t.len)])]
 have j5:(sg++[(false,[PV.t (.int .i64 t.kind),.t (.int .i64 t.bits),.t (.int .i64 t.len)])])[sg.length]?=some (false,[.t (.int .i64 t.kind),.t (.int .i64 t.bits),.t (.int .i64 t.len)]):=by simp
 unfold f1O
 by_cases k2:t.kind=2
 ·have k3:¬t.kind=3:=by omega
  rw[if_pos k2]
  simp only[wA,seval,reduceCtorEq,reduceIte,k2]
  rw[k2] at h1 j5
  refine CallE.mono (f8N h1 hs (n:=1) (by decide) (by decide) ow) ?_
  rintro v sg1 ow1 ⟨rfl,rfl,hcs,hm⟩
  have jj:=hm.get j5 (h.new (g4U _))
  cases hr:f0Z 1 s with
  |true =>
   rw[f8O hr] at hcs
   rw[f8S hr]
   have hc:=hcs.hc
   simp only[wA,seval,reduceCtorEq,reduceIte,hc,jj]
   refine CallE.mono (f6W hk hcs.hb hs.b (hs.rm (by decide)) hx ow1) ?_
   intro v sg2 ow2 hG
   simp only[wA,seval,reduceCtorEq,reduceIte]
   exact Cd.app (Cd.pre hm (List.prefix_refl _) (hcs.gd hG))
  |false =>
   rw[f8P hr] at hcs
   rw[f8T hr]
   have k4:¬((2:Int)=3):=by decide
   simp only[wA,seval,reduceCtorEq,reduceIte,jj,k4]
   exact Cd.app (Cd.pre hm (List.prefix_refl _) (.same hcs ow1))
 by_cases k3:t.kind=3
 ·obtain⟨t1,t2⟩:=ht k3
  have hw:IntKind.i64.wrap (t.bits+1)=t.bits+1:=IntWalk.i64_in _ (by omega)
  rw[if_neg k2,if_pos k3]
  simp only[wA,seval,reduceCtorEq,reduceIte,k2,k3,hw]
  rw[k3] at h1 j5
  refine CallE.mono (f8N h1 hs (n:=t.bits+1) (by omega) (by omega) ow) ?_
  rintro v sg1 ow1 ⟨rfl,rfl,hcs,hm⟩
  have jj:=hm.get j5 (h.new (g4U _))
  cases hr:f0Z (t.bits+1) s with
  |true =>
   rw[f8O hr] at hcs
   rw[f8S hr]
   have hc:=hcs.hc
   simp only[wA,seval,reduceCtorEq,reduceIte,hc,jj]
   refine CallE.mono (f7L hk hcs.hb hs.b t1 t2 (hs.rm (by omega)) hx ow1) ?_
   rintro v sg2 ow2 ⟨hG,_⟩
   simp only[wA,seval,reduceCtorEq,reduceIte]
   exact Cd.app (Cd.pre hm (List.prefix_refl _) (hcs.gd hG))
  |false =>
   rw[f8P hr] at hcs
   rw[f8T hr]
   simp only[wA,seval,reduceCtorEq,reduceIte,jj]
   exact Cd.app (Cd.pre hm (List.prefix_refl _) (.same hcs ow1))
 ·rw[if_neg k2,if_neg k3]
  simp only[wA,seval,reduceCtorEq,reduceIte,k2,k3]
  exact Cd.app (.same h1 ow)
theorem f8U {p:Int} (hk:e2N p=true) {fa:Fs} {sg:Sg} {c r ri hi fm:Nat} {s:Cst} (h:CS sg c r ri hi fm p fa s) (hs:CsOk s) {x y:Li} (hx:LiOk s.b.vars x) (hy:LiOk s.b.vars y) (ow:Ow) :
  CallE F gl 170 [.lp c 0,.t (tLi x),.t (tLi y)] sg ow fun v sg' ow'=>v=.t (tLi (f1B 1 (e9F (foF p) x y) s).1)∧Cd sg ow c r ri hi fm p fa (f1B 1 (e9F (foF p) x y) s).2 sg' ow':=by
 refine XcE.of F170 rfl ?_
 simp only[c9C]
 simp only[wA,seval,reduceCtorEq,reduceIte]
 refine CallE.mono (f8N h hs (n:=1) (by decide) (by decide) ow) ?_
 rintro v sg1 ow1 ⟨rfl,rfl,hcs,hm⟩
 cases hr:f0Z 1 s with
 |true =>
  rw[f8O hr] at hcs
  rw[f8Q hr]
  have hc:=hcs.hc
  simp only[wA,seval,reduceCtorEq,reduceIte,hc]
  refine CallE.mono (f6V hk hcs.hb hs.b (hs.rm (by decide)) hx hy ow1) ?_
  rintro v sg2 ow2 ⟨rfl,hG⟩
  simp only[wA,seval,reduceCtorEq,reduceIte]
  first|exact Cd.pre hm (List.prefix_refl _) (hcs.gd hG)|exact⟨rfl,Cd.pre hm (List.prefix_refl _) (hcs.gd hG)⟩
 |false =>
  rw[f8P hr] at hcs
  rw[f8R hr]
  simp only[wA,seval,reduceCtorEq,reduceIte]
  exact⟨rfl,Cd.pre hm (List.prefix_refl _) (.same hcs ow1)⟩
theorem f8V (l:Li):b6V 1 1 [T.sl true []] [(0,1,PV.t (tLi l))]=some (.lit [[tLi l]]):=rfl
theorem f8W (c:PV) (l:Li) (t:Ty) (sg:Sg) (ow:Ow) :
  CallE F gl 120 [c,.t (tLi l),.t (.agg (tTy t))] sg ow fun v sg' ow'=>v=.t (.agg (tVc (f0X l t)))∧Grow sg sg'∧ow'=ow:=by
 have hf:fillP [PV.t (.sl true []),.t (.int .i64 0),.t (.int .i64 0),.t (.int .i64 0),.t (.int .i64 0)] [(0,1,PV.lit [[tLi l]]),(1,3,.t (.agg [.int .i64 t.kind,.int .i64 t.bits,.int .i64 t.len]))]=some [PV.lit [[tLi l]],.t (.int .i64 t.kind),.t (.int .i64 t.bits),.t (.int .i64 t.len),.t (.int .i64 0)]:=rfl
 have hm:mkAgg [PV.lit [[tLi l]],.t (.int .i64 t.kind),.t (.int .i64 t.bits),.t (.int .i64 t.len),.t (.int .i64 0)]=.agg [PV.lit [[tLi l]],.t (.int .i64 t.kind),.t (.int .i64 t.bits),.t (.int .i64 t.len),.t (.int .i64 0)]:=rfl
 have hcl:clo (.agg [PV.lit [[tLi l]],.t (.int .i64 t.kind),.t (.int .i64 t.bits),.t (.int .i64 t.len),.t (.int .i64 0)])=.t (.agg (tVc (f0X l t))):=rfl
 have hpo:Pi.one (PV.lit [[tLi l]])=true:=rfl
 have h5:(1000:Nat) < 1005:=by decide
 refine XcE.of F120 rfl ?_
 simp only[c6Y]
 simp only[wA,seval,reduceCtorEq,reduceIte,f8V,a1K,List.zip_cons_cons,List.zip_nil_left,hf,hm,wC,hpo,c4J h5,hcl]
 exact⟨rfl,.app _ _⟩
theorem f8X {n:Int} (h0:0≤n) (h1:n≤18446744073709551615) {K:PV→Prop}:XcP F gl 122 [.int .u64 n] K ⟨⟩↔K (.t (.agg (tTy (d3Q n)))):=by
 refine Ret.iff (Ret.of F122 rfl ?_)
 simp only[c7A]
 unfold d3Q
 by_cases c:4611686018427387904≤n
 ·rw[if_pos c]
  simp only[wA,seval,reduceCtorEq,reduceIte,c,wC]
  rfl
 ·rw[if_neg c]
  have hl:=fun K=>@e0U gl n h0 h1 K
  have hmx:mxT true (.t (.int .i64 1)) (.t (.int .i64 (d3P n)))=some (.int .i64 (if d3P n > 1 then d3P n else 1)):=rfl
  rw[←e0V] at hmx
  simp only[wA,seval,reduceCtorEq,reduceIte,c,wC,hl,hmx]
  rfl
end Go.Proofs.YtdjcnfacjfnakaaGreat

/- Contracts: elements, hash, arithmetic, less, e7A. -/
namespace Go.Proofs.YtdjcnfacjfnakaaGreat
open Go.Pi Go.Lx Go.Ky Go.Lib
variable {gl:Nat→Option (List T)}
theorem f8Y {v:Vc} (h:0 < v.els.length):v.els[0]?=some (f0Y v):=by
 unfold f0Y
 rw[List.getD_eq_getElem?_getD,g3L h];rfl
theorem f8Z {vs:List Vc} {nl:Bool} (hls:vs.length≤B20) (hpos:∀ v,v∈vs→0 < v.els.length) {ow:Ow} (Q:Ex→S→Prop):∀ (l:List Vc) (i:Nat) (fr:List PV) (sg:Sg),vs.drop i=l→sg[0]?=some (false,f3Y tL1 [.sl true []] vs.length ((vs.take i).map f0Y))→i≤vs.length →
  b9P fr [(3,.ls 0 0 vs.length 1),(9,.t (.sl nl (vs.map tVc))),(10,.t (.int .i64 vs.length)),(11,.t (.int .i64 i))] →
  (∀ fr' sg',sg'[0]?=some (false,f3Y tL1 [.sl true []] vs.length (vs.map f0Y))→a0A fr' 3=.ls 0 0 vs.length 1→Q (.exit 0) ⟨fr',sg',ow⟩) →
  Xl F gl c7E ⟨fr,sg,ow⟩ Q ⟨⟩:=by
 intro l
 induction l with
 |nil =>
  intro i fr sg hd h0 hile hf k1
  have hd:=b9K hd
  simp only[b9R,b9Q] at hf
  obtain⟨f3,f9,f10,f11,-⟩:=hf
  refine Xl.step ?_
  simp only[c7E]
  have c1:¬((i:Int) < (vs.length:Int)):=by omega
  simp only[wA,seval,reduceCtorEq,reduceIte,f3,f9,f10,f11,c1]
  refine k1 _ _ ?_ (by simp only[wQ,Nat.reduceEqDiff,reduceIte,f3])
  rw[List.take_of_length_le (by omega)] at h0
  exact h0
 |cons x l ih =>
  intro i fr sg hd h0 hile hf k1
  obtain⟨hx,hr,hi⟩:=b9J hd
  simp only[b9R,b9Q] at hf
  obtain⟨f3,f9,f10,f11,-⟩:=hf
  refine Xl.step ?_
  simp only[c7E]
  have c1:(i:Int) < (vs.length:Int):=by omega
  have hw1:=d5J hi (show vs.length≤281474976710656 by have:B20=1100000:=rfl;omega)
  have hx0:=f8Y (hpos x (g4K hx))
  have h0l:=d4Y h0
  have hlen:((vs.take i).map f0Y).length=i:=by rw[g3X,g4A,Nat.min_eq_left (by omega)]
  have hle:i+1≤(f3Y tL1 [.sl true []] vs.length ((vs.take i).map f0Y)).length:=by rw[f4G f7E rfl (by omega)];omega
  have hset:=f4H (t:=tL1) (z:=[.sl true []]) f7E rfl (n:=vs.length) (l:=(vs.take i).map f0Y) (by omega) (f0Y x)
  rw[hlen,g4Z,show(vs.take i).map f0Y++[f0Y x]=(vs.take (i+1)).map f0Y by rw[List.take_add_one,hx,g4C];rfl] at hset
  simp only[g4D,g4E,setRange] at hset
  simp only[wA,seval,reduceCtorEq,reduceIte,f3,f9,f10,f11,c1,hw1,g2X,hi,g3O,hx,g5F,f3V,hx0,d5M h0l,h0,hle,hset,wC,g4Z]
  refine ih (i+1) _ _ hr ?_ (by omega) (by simp only[wQ,Nat.reduceEqDiff,reduceIte,f3,f9,f10];first|done|rfl) k1
  rw[g3S (by rw[g3V];omega)]
theorem f9A {vs:List Vc} {nl:Bool} (hls:vs.length≤B20) (hpos:∀ v,v∈vs→0 < v.els.length) {K:PV→Prop}:XcP F gl 125 [.sl nl (vs.map tVc)] K ⟨⟩↔K (.t (.sl false (tLs (vs.map f0Y)))):=by
 have hb20:B20=1100000:=rfl
 have hroom:a0N vs.length 24=true:=by unfold a0N;simp only[g5L];omega
 refine Ret.iff (Ret.of F125 rfl ?_)
 simp only[c7F]
 obtain⟨v3,q,ow1,e1,e2,e3⟩:=f4S tL1 [.sl true []] (sz:=1) rfl (by decide) [] [] hroom
 rw[List.nil_append] at e1
 rcases e3 with⟨h0,⟨k,rfl⟩,rfl⟩|⟨hp,rfl,rfl⟩
 ·have hv:vs=[]:=List.length_eq_zero_iff.1 h0
  subst hv
  simp only[g3Y,c3S] at e1
  simp only[wA,seval,reduceCtorEq,reduceIte,g4E,e1]
  refine Xl.step ?_
  simp only[c7E]
  simp only[wA,seval,reduceCtorEq,reduceIte]
  rfl
 ·simp only[wA,seval,reduceCtorEq,reduceIte,g3X,e1]
  refine f8Z (nl:=nl) hls hpos _ vs 0 _ _ rfl (by simp) (by omega) (by simp only[wQ,Nat.reduceEqDiff,reduceIte];first|done|exact⟨rfl,rfl⟩|rfl) ?_
  intro fr' sg' hg f3
  rw[f4F (by rw[g3X])] at hg
  have hr:=f4O (t:=tL1) (sz:=1) f7E f7H hg
  rw[g3X] at hr
  have hcl:clo (.ls 0 0 vs.length 1)=.ls 0 0 vs.length 1:=rfl
  simp only[wA,seval,reduceCtorEq,reduceIte,f3,hr,hcl]
  rfl
theorem f9B {p:Int} (hk:e2N p=true) {fa:Fs} {sg:Sg} {c r ri hi fm:Nat} {s:Cst} (h:CS sg c r ri hi fm p fa s) (hs:CsOk s) {l:List Li} (hn:l.length≤B20) (h0:l≠[]) (hl:∀ x,x∈l→LiOk s.b.vars x) {v:Int} (hv:0≤v) (ow:Ow) :
  CallE F gl 124 [.lp c 0,.t (.int .u64 v),.t (.sl false (tLs l))] sg ow fun x sg' ow'=>x=.t (tLi (f1F (foF p) v l s).1)∧Cd sg ow c r ri hi fm p fa (f1F (foF p) v l s).2 sg' ow':=by
 have hb20:B20=1100000:=rfl
 have hc:=h.hc
 have lc:=d4Y hc
 have hex:=fun K=>e3I (gl:=gl) p (K:=K)
 have hE:(foF p).ex=(e2Q p).2.2:=rfl
 have he:=(f5W hk).ex
 have hl1:1≤l.length:=List.length_pos_iff.2 h0
 have hw1:IntKind.i64.wrap ((l.length:Int)+1)=(l.length:Int)+1:=IntWalk.i64_in _ (by omega)
 have hq:((l.length:Int)+1).tdiv 2=((l.length:Int)+1) / 2:=Int.tdiv_eq_ediv_of_nonneg (by omega)
 have hw2:IntKind.i64.wrap (((l.length:Int)+1) / 2)=((l.length:Int)+1) / 2:=IntWalk.i64_in _ (by omega)
 have hw3:IntKind.i64.wrap (((l.length:Int)+1) / 2 * 8)=((l.length:Int)+1) / 2 * 8:=IntWalk.i64_in _ (by omega)
 have hw4:IntKind.i64.wrap (((l.length:Int)+1) / 2 * 8 * 3)=((l.length:Int)+1) / 2 * 8 * 3:=IntWalk.i64_in _ (by omega)
 have hre:2≤f1E (foF p).ex∧f1E (foF p).ex≤4:=by
  unfold f1E
  rcases he with he|he|he <;> rw[he] <;> decide
 have hmap:∀ sg2:Sg,sg2[sg.length]?=some (true,[.tup [.t (.int .u64 3),.t (.int .i64 2)],.tup [.t (.int .u64 5),.t (.int .i64 3)],.tup [.t (.int .u64 7),.t (.int .i64 4)]])→a1C sg2 false 1 (.int .i64 0) (.mp sg.length) (.t (.int .u64 (e2Q p).2.2))=some (.t (.int .i64 (f1E (foF p).ex))):=by
  intro sg2 h2
  rw[hE] at he ⊢
  simp only[a1C,h2]
  unfold f1E
  rcases he with he|he|he <;> rw[he] <;> rfl
 generalize hR:f1E (foF p).ex=R at *
 have hm5:((l.length:Int)+1) / 2 * 8 * 3 * R≤((l.length:Int)+1) / 2 * 8 * 3 * 4:=Int.mul_le_mul_of_nonneg_left hre.2 (by omega)
 have hm6:0≤((l.length:Int)+1) / 2 * 8 * 3 * R:=Int.mul_nonneg (by omega) (by omega)
 have hw5:IntKind.i64.wrap (((l.length:Int)+1) / 2 * 8 * 3 * R)=((l.length:Int)+1) / 2 * 8 * 3 * R:=IntWalk.i64_in _ (by omega)
 have hmp1:a1A 1 (.int .u64 3) (.int .i64 2) []=[.tup [.t (.int .u64 3),.t (.int .i64 2)]]:=rfl
 have hmp2:a1A 1 (.int .u64 5) (.int .i64 3) [.tup [.t (.int .u64 3),.t (.int .i64 2)]]=[.tup [.t (.int .u64 3),.t (.int .i64 2)],.tup [.t (.int .u64 5),.t (.int .i64 3)]]:=rfl
 have hmp3:a1A 1 (.int .u64 7) (.int .i64 4) [.tup [.t (.int .u64 3),.t (.int .i64 2)],.tup [.t (.int .u64 5),.t (.int .i64 3)]]=[.tup [.t (.int .u64 3),.t (.int .i64 2)],.tup [.t (.int .u64 5),.t (.int .i64 3)],.tup [.t (.int .u64 7),.t (.int .i64 4)]]:=rfl
 have hmf1:a0Z 1 (.int .u64 3) []=some none:=rfl
 have hmf2:a0Z 1 (.int .u64 5) [.tup [.t (.int .u64 3),.t (.int .i64 2)]]=some none:=rfl
 have hmf3:a0Z 1 (.int .u64 7) [.tup [.t (.int .u64 3),.t (.int .i64 2)],.tup [.t (.int .u64 5),.t (.int .i64 3)]]=some none:=rfl
 have hmm:=hmap (sg++[(true,[.tup [.t (.int .u64 3),.t (.int .i64 2)],.tup [.t (.int .u64 5),.t (.int .i64 3)],.tup [.t (.int .u64 7),.t (.int .i64 4)]])]) (by simp)
 refine XcE.of F124 rfl ?_
 simp only[c7D]
 simp only[wA,seval,reduceCtorEq,reduceIte,d5M lc,hc,a1D,hmp1,hmp2,hmp3,hmf1,hmf2,hmf3,hex,hmm,f3U,hw1,hq,hw2,hw3,hw4,hw5]
 refine CallE.mono (f8N (h.app _) hs (n:=((l.length:Int)+1) / 2 * 8 * 3 * R) hm6 (by omega) ow) ?_
 rintro v' sg1 ow1 ⟨rfl,rfl,hcs,hm⟩
 unfold f1F
 rw[hR]
 cases hr:f0Z (((l.length:Int)+1) / 2 * 8 * 3 * R) s with
 |true =>
  rw[f8O hr] at hcs
  rw[f8Q hr]
  have hc1:=hcs.hc
  have hle:=(f2A hr).2
  have hhr:=f2N (f5W hk).ex l.length
  rw[hR] at hhr
  have hr0:=hs.r0
  simp only[wA,seval,reduceCtorEq,reduceIte,hc1]
  refine CallE.mono (f8A hk hcs.hb hs.b hn h0 (hs.rm (by omega)) hl hv ow1) ?_
  rintro v2 sg2 ow2 ⟨rfl,hG⟩
  simp only[wA,seval,reduceCtorEq,reduceIte]
  first|exact Cd.app (Cd.pre hm (List.prefix_refl _) (hcs.gd hG))|exact⟨rfl,Cd.app (Cd.pre hm (List.prefix_refl _) (hcs.gd hG))⟩
 |false =>
  rw[f8P hr] at hcs
  rw[f8R hr]
  simp only[wA,seval,reduceCtorEq,reduceIte]
  exact⟨rfl,Cd.app (Cd.pre hm (List.prefix_refl _) (.same hcs ow1))⟩
end Go.Proofs.YtdjcnfacjfnakaaGreat

/- Contracts: arithmetic, comparison, e7A. -/
namespace Go.Proofs.YtdjcnfacjfnakaaGreat
open Go.Pi Go.Lx Go.Ky Go.Lib
variable {gl:Nat→Option (List T)}
theorem f9C {x:Li} {l:List Li}:(x::l).getD 0 e8S=x:=rfl
theorem f9D {x y:Li} {l:List Li}:(x::y::l).getD 1 e8S=y:=rfl
theorem f9E (x:Li) (l:List Li):tLs (x::l)=[tLi x]::tLs l:=rfl
theorem f9F {p:Int} (hk:e2N p=true) {fa:Fs} {sg:Sg} {c r ri hi fm:Nat} {s:Cst} (h:CS sg c r ri hi fm p fa s) (hs:CsOk s) {op:Int} (hop:op=9∨op=11∨op=12∨op=13) {l:List Li} (hn:(op=9→l.length=1)∧(op≠9→l.length=2)) (hl:∀ x,x∈l→LiOk s.b.vars x) (ow:Ow) :
  CallE F gl 128 [.lp c 0,.t (.int .i64 op),.t (.sl false (tLs l))] sg ow fun x sg' ow'=>x=.t (tLi (f1G (foF p) op l s).1)∧Cd sg ow c r ri hi fm p fa (f1G (foF p) op l s).2 sg' ow':=by
 have hc:=h.hc
 obtain⟨b1,b2⟩:=e2W hk
 have hw:IntKind.u64.wrap (p - 1)=p - 1:=IntWalk.u64_in _ (by omega)
 have hR:=hs.rm (k:=0) (by decide)
 refine XcE.of F128 rfl ?_
 simp only[c7K]
 unfold f1G
 by_cases o9:op=9
 ·obtain⟨x,rfl⟩:∃ x,l=[x]:=by
   match l,hn.1 o9 with
   |[x],_=>exact⟨x,rfl⟩
  have hx:=hl x (by simp)
  have hsc:=fun K=>@f6I gl p (p - 1) hk (by omega) x (LiOk.g' hs.b hR (by decide) hx) K
  rw[if_pos o9]
  simp only[wA,seval,reduceCtorEq,reduceIte,hc,o9,f9E,hw,hsc,f9C]
  first|exact Cd.same h ow|exact⟨rfl,Cd.same h ow⟩
 obtain⟨x,y,rfl⟩:∃ x y,l=[x,y]:=by
  match l,hn.2 o9 with
  |[x,y],_=>exact⟨x,y,rfl⟩
 have hx:=hl x (by simp)
 have hy:=hl y (by simp)
 rw[if_neg o9]
 by_cases o12:op=12
 ·have ha:=fun K=>@f6H gl p hk x y (LiOk.g' hs.b hR (by decide) hx) (LiOk.g' hs.b hR (by decide) hy) K
  rw[if_pos o12]
  simp only[wA,seval,reduceCtorEq,reduceIte,hc,o12,f9E,ha]
  first|exact Cd.same h ow|exact⟨rfl,Cd.same h ow⟩
 rw[if_neg o12]
 by_cases o13:op=13
 ·have ha:=fun K=>@f6J gl p hk x y (LiOk.g' hs.b hR (by decide) hx) (LiOk.g' hs.b hR (by decide) hy) K
  rw[if_pos o13]
  simp only[wA,seval,reduceCtorEq,reduceIte,hc,o13,f9E,ha,a1K,d5T]
  first|exact Cd.same h ow|exact⟨rfl,Cd.same h ow⟩
 rw[if_neg o13]
 simp only[wA,seval,reduceCtorEq,reduceIte,hc,o9,o12,o13,f9E]
 refine CallE.mono (f8U hk h hs hx hy ow) ?_
 rintro v sg1 ow1 ⟨rfl,hG⟩
 simp only[wA,seval,reduceCtorEq,reduceIte]
 first|exact hG|exact⟨rfl,hG⟩
theorem f9G {p:Int} (hk:e2N p=true) {fa:Fs} {sg:Sg} {c r ri hi fm:Nat} {s:Cst} (h:CS sg c r ri hi fm p fa s) (hs:CsOk s) {op:Int} {x y:Li} (hx:LiOk s.b.vars x) (hy:LiOk s.b.vars y) {w:Int} (w0:0≤w) (w1:w≤100) (ow:Ow) :
  CallE F gl 129 [.lp c 0,.t (.int .i64 op),.t (.sl false (tLs [x,y])),.t (.int .i64 w)] sg ow fun v sg' ow'=>v=.t (tLi (f1H (foF p) op [x,y] w s).1)∧Cd sg ow c r ri hi fm p fa (f1H (foF p) op [x,y] w s).2 sg' ow':=by
 have hw:IntKind.i64.wrap (w+2)=w+2:=IntWalk.i64_in _ (by omega)
 refine XcE.of F129 rfl ?_
 simp only[c7L]
 simp only[wA,seval,reduceCtorEq,reduceIte,hw]
 refine CallE.mono (f8N h hs (n:=w+2) (by omega) (by omega) ow) ?_
 rintro v sg1 ow1 ⟨rfl,rfl,hcs,hm⟩
 unfold f1H
 cases hr:f0Z (w+2) s with
 |true =>
  rw[f8O hr] at hcs
  rw[f8Q hr]
  have hc1:=hcs.hc
  simp only[f9C,f9D]
  by_cases o17:op=17
  ·rw[if_pos o17]
   obtain⟨r1,k1,x1,x2,x3⟩:=f2R (foF p) y x w0 s.b
   have lli:=f0R (f5W hk).nn hs.b y x w
   simp only[wA,seval,reduceCtorEq,reduceIte,o17,hc1,a1I,lenS,d5U,d5T,d5S,d5P,f9E]
   refine CallE.mono (f7M hk hcs.hb hs.b w0 (hs.rm (by decide)) hy hx ow1) ?_
   rintro v2 sg2 ow2 ⟨rfl,hG⟩
   have hD:=hcs.gd hG
   obtain⟨q1,ri2,hi2,hcs2,hm2⟩:=hD
   have hc2:=hcs2.hc
   have ho2:=x1.ok hs.b
   have hn:=fun K=>RetE.iff (K:=K) (f6Y (gl:=gl) hk hcs2.hb ho2 (x1.rm 0 (hs.rm (k:=200) (by decide)) (by omega) (by omega)) lli ow2)
   simp only[wA,seval,reduceCtorEq,reduceIte,hc1,hc2,hn,d5U,d5T,d5S,d5P]
   first|exact Cd.pre hm (List.prefix_refl _) ⟨q1,ri2,hi2,hcs2,hm2⟩|exact⟨rfl,Cd.pre hm (List.prefix_refl _) ⟨q1,ri2,hi2,hcs2,hm2⟩⟩
  ·rw[if_neg o17]
   simp only[wA,seval,reduceCtorEq,reduceIte,o17,hc1,f9E]
   refine CallE.mono (f7M hk hcs.hb hs.b w0 (hs.rm (by decide)) hx hy ow1) ?_
   rintro v2 sg2 ow2 ⟨rfl,hG⟩
   simp only[wA,seval,reduceCtorEq,reduceIte]
   first|exact Cd.pre hm (List.prefix_refl _) (hcs.gd hG)|exact⟨rfl,Cd.pre hm (List.prefix_refl _) (hcs.gd hG)⟩
 |false =>
  rw[f8P hr] at hcs
  rw[f8R hr]
  simp only[wA,seval,reduceCtorEq,reduceIte]
  first|exact Cd.pre hm (List.prefix_refl _) (.same hcs ow1)|exact⟨rfl,Cd.pre hm (List.prefix_refl _) (.same hcs ow1)⟩
theorem f9H {p:Int} (hk:e2N p=true) {fa:Fs} {sg:Sg} {c r ri hi fm:Nat} {s:Cst} (h:CS sg c r ri hi fm p fa s) (hs:CsOk s) {op:Int} {l:List Li} (hn:(op=10→l.length=1)∧(op=14∨op=15∨op=18∨op=19→l.length=2)) (hl:∀ x,x∈l→LiOk s.b.vars x) (ow:Ow) :
  CallE F gl 130 [.lp c 0,.t (.int .i64 op),.t (.sl false (tLs l))] sg ow fun x sg' ow'=>x=.t (tLi (f1I (foF p) op l s).1)∧Cd sg ow c r ri hi fm p fa (f1I (foF p) op l s).2 sg' ow':=by
 have hc:=h.hc
 have hR:=hs.rm (k:=0) (by decide)
 refine XcE.of F130 rfl ?_
 simp only[c7M]
 unfold f1I
 by_cases o3:op=3
 ·have h1:=fun K=>@f6A gl p 1 hk (by decide) K
  rw[if_pos o3]
  simp only[wA,seval,reduceCtorEq,reduceIte,hc,o3,h1]
  first|exact Cd.same h ow|exact⟨rfl,Cd.same h ow⟩
 rw[if_neg o3]
 by_cases o10:op=10
 ·obtain⟨x,rfl⟩:∃ x,l=[x]:=by
   match l,hn.1 o10 with
   |[x],_=>exact⟨x,rfl⟩
  have hx:=hl x (by simp)
  have hnn:=fun K=>RetE.iff (K:=K) (f6Y (gl:=gl) hk h.hb hs.b hR hx ow)
  rw[if_pos o10]
  simp only[wA,seval,reduceCtorEq,reduceIte,hc,o10,f9E,hnn]
  first|exact Cd.same h ow|exact⟨rfl,Cd.same h ow⟩
 rw[if_neg o10]
 by_cases o2:op=14∨op=15∨op=18∨op=19
 ·obtain⟨x,y,rfl⟩:∃ x y,l=[x,y]:=by
   match l,hn.2 o2 with
   |[x,y],_=>exact⟨x,y,rfl⟩
  have hx:=hl x (by simp)
  have hy:=hl y (by simp)
  simp only[f9C,f9D]
  by_cases o18:op=18
  ·rw[if_pos o18]
   simp only[wA,seval,reduceCtorEq,reduceIte,o18]
   refine CallE.mono (f8N h hs (n:=1) (by decide) (by decide) ow) ?_
   rintro v sg1 ow1 ⟨rfl,rfl,hcs,hm⟩
   cases hr:f0Z 1 s with
   |true =>
    rw[f8O hr] at hcs
    rw[f8Q hr]
    have hc1:=hcs.hc
    simp only[wA,seval,reduceCtorEq,reduceIte,hc1,f9E]
    refine CallE.mono (f7B hk hcs.hb hs.b (hs.rm (by decide)) hx hy ow1) ?_
    rintro v2 sg2 ow2 ⟨rfl,hG⟩
    simp only[wA,seval,reduceCtorEq,reduceIte]
    first|exact Cd.pre hm (List.prefix_refl _) (hcs.gd hG)|exact⟨rfl,Cd.pre hm (List.prefix_refl _) (hcs.gd hG)⟩
   |false =>
    rw[f8P hr] at hcs
    rw[f8R hr]
    simp only[wA,seval,reduceCtorEq,reduceIte]
    first|exact Cd.pre hm (List.prefix_refl _) (.same hcs ow1)|exact⟨rfl,Cd.pre hm (List.prefix_refl _) (.same hcs ow1)⟩
  rw[if_neg o18]
  by_cases o19:op=19
  ·have n18:¬((19:Int)=18):=by decide
   rw[if_pos o19]
   simp only[wA,seval,reduceCtorEq,reduceIte,o19,n18]
   refine CallE.mono (f8N h hs (n:=1) (by decide) (by decide) ow) ?_
   rintro v sg1 ow1 ⟨rfl,rfl,hcs,hm⟩
   cases hr:f0Z 1 s with
   |true =>
    rw[f8O hr] at hcs
    rw[f8Q hr]
    have hc1:=hcs.hc
    simp only[wA,seval,reduceCtorEq,reduceIte,hc1,f9E,n18]
    refine CallE.mono (f7C hk hcs.hb hs.b (hs.rm (by decide)) hx hy ow1) ?_
    rintro v2 sg2 ow2 ⟨rfl,hG⟩
    simp only[wA,seval,reduceCtorEq,reduceIte]
    first|exact Cd.pre hm (List.prefix_refl _) (hcs.gd hG)|exact⟨rfl,Cd.pre hm (List.prefix_refl _) (hcs.gd hG)⟩
   |false =>
    rw[f8P hr] at hcs
    rw[f8R hr]
    simp only[wA,seval,reduceCtorEq,reduceIte]
    first|exact Cd.pre hm (List.prefix_refl _) (.same hcs ow1)|exact⟨rfl,Cd.pre hm (List.prefix_refl _) (.same hcs ow1)⟩
  rw[if_neg o19]
  by_cases o14:op=14
  ·rw[if_pos o14]
   simp only[wA,seval,reduceCtorEq,reduceIte,o14]
   refine CallE.mono (f8N h hs (n:=3) (by decide) (by decide) ow) ?_
   rintro v sg1 ow1 ⟨rfl,rfl,hcs,hm⟩
   cases hr:f0Z 3 s with
   |true =>
    rw[f8O hr] at hcs
    rw[f8Q hr]
    have hc1:=hcs.hc
    simp only[wA,seval,reduceCtorEq,reduceIte,hc1,f9E]
    refine CallE.mono (f7A hk hcs.hb hs.b (hs.rm (by decide)) hx hy ow1) ?_
    rintro v2 sg2 ow2 ⟨rfl,hG⟩
    simp only[wA,seval,reduceCtorEq,reduceIte]
    first|exact Cd.pre hm (List.prefix_refl _) (hcs.gd hG)|exact⟨rfl,Cd.pre hm (List.prefix_refl _) (hcs.gd hG)⟩
   |false =>
    rw[f8P hr] at hcs
    rw[f8R hr]
    simp only[wA,seval,reduceCtorEq,reduceIte]
    first|exact Cd.pre hm (List.prefix_refl _) (.same hcs ow1)|exact⟨rfl,Cd.pre hm (List.prefix_refl _) (.same hcs ow1)⟩
  have o15:op=15:=by omega
  rw[if_neg o14,if_pos o15]
  simp only[wA,seval,reduceCtorEq,reduceIte,o15]
  refine CallE.mono (f8N h hs (n:=3) (by decide) (by decide) ow) ?_
  rintro v sg1 ow1 ⟨rfl,rfl,hcs,hm⟩
  cases hr:f0Z 3 s with
  |true =>
   rw[f8O hr] at hcs
   rw[f8Q hr]
   have hc1:=hcs.hc
   simp only[wA,seval,reduceCtorEq,reduceIte,hc1,f9E]
   refine CallE.mono (f7A hk hcs.hb hs.b (hs.rm (by decide)) hx hy ow1) ?_
   rintro v2 sg2 ow2 ⟨rfl,hG⟩
   have hD:=hcs.gd hG
   obtain⟨q1,ri2,hi2,hcs2,hm2⟩:=hD
   have hc2:=hcs2.hc
   have hst:=f0A (foF p) (e9B (foF p) x y) s.b
   have hnn:=fun K=>RetE.iff (K:=K) (f6Y (gl:=gl) hk hcs2.hb (hst.ok hs.b) (hst.rm 0 (hs.rm (k:=200) (by decide)) (by decide) (by decide)) (f0M (f5W hk).nn hs.b (e9B (foF p) x y)) ow2)
   have e:(eqB (foF p) x y s.b).1=(e9L (foF p) (e9B (foF p) x y) s.b).1:=rfl
   rw[e]
   simp only[wA,seval,reduceCtorEq,reduceIte,hc2,hnn]
   first|exact Cd.pre hm (List.prefix_refl _) ⟨q1,ri2,hi2,hcs2,hm2⟩|exact⟨rfl,Cd.pre hm (List.prefix_refl _) ⟨q1,ri2,hi2,hcs2,hm2⟩⟩
  |false =>
   rw[f8P hr] at hcs
   rw[f8R hr]
   simp only[wA,seval,reduceCtorEq,reduceIte]
   first|exact Cd.pre hm (List.prefix_refl _) (.same hcs ow1)|exact⟨rfl,Cd.pre hm (List.prefix_refl _) (.same hcs ow1)⟩
 ·have n14:¬op=14:=fun e=>o2 (.inl e)
  have n15:¬op=15:=fun e=>o2 (.inr (.inl e))
  have n18:¬op=18:=fun e=>o2 (.inr (.inr (.inl e)))
  have n19:¬op=19:=fun e=>o2 (.inr (.inr (.inr e)))
  rw[if_neg n18,if_neg n19,if_neg n14,if_neg n15]
  simp only[wA,seval,reduceCtorEq,reduceIte,o3,o10,n14,n15,n18,n19]
  first|exact Cd.same h ow|exact⟨rfl,Cd.same h ow⟩
end Go.Proofs.YtdjcnfacjfnakaaGreat

/- Contracts: the value of an index; common types. -/
namespace Go.Proofs.YtdjcnfacjfnakaaGreat
open Go.Pi Go.Lx Go.Ky Go.Lib
variable {gl:Nat→Option (List T)}
theorem Mv.toGrow {x y:Sg} (h:Mv [] [] x y):Grow x y:=d5K fun i hi=>h.2.1 i hi (by simp)
set_option maxHeartbeats 1000000 in
theorem f9I {sg:Sg} {m:Nat} {sc:Sx} (hm:sg[m]?=some (true,iC sc)) (e:Exp) (he:exB e=true) (ow:Ow) :
  CallE F gl 121 [.t (.agg (tEx e)),.mp m] sg ow fun v sg' ow'=>v=.t (.int .i64 (f1L e sc))∧Grow sg sg'∧ow'=ow:=by
 refine XcE.of F121 rfl ?_
 simp only[c6Z]
 have hml:=d4Y hm
 by_cases o2:e.op=2
 ·have hP:f1L e sc=(lkC e.name sc).num:=by unfold f1L;rw[if_pos o2]
  rw[hP]
  unfold lkC
  cases hl:Ky.look e.name sc with
  |none =>
   simp only[wA,seval,reduceCtorEq,reduceIte,d1Z,o2,d5M hml,hm,a1C,iC,d5B,hl,Option.getD_none,Option.isSome_none,zVc]
   exact Grow.app _ _
  |some v =>
   simp only[wA,seval,reduceCtorEq,reduceIte,d1Z,o2,d5M hml,hm,a1C,iC,d5B,hl,g5D,Option.isSome_some]
   exact Grow.app _ _
 by_cases o12:e.op=12
 ·obtain⟨a,b,hab⟩:=d5V he (.inr (.inl o12))
  have hP:f1L e sc=IntKind.i64.wrap ((lkC a.name sc).num+IntKind.i64.wrap b.val):=by unfold f1L;rw[if_neg (by omega),if_pos o12,hab];rfl
  rw[hP]
  unfold lkC
  cases hl:Ky.look a.name sc with
  |none =>
   simp only[wA,seval,reduceCtorEq,reduceIte,d1Z,o12,hab,d1X,d5M hml,hm,a1C,iC,d5B,hl,Option.getD_none,Option.isSome_none,zVc]
   exact Grow.app _ _
  |some v =>
   simp only[wA,seval,reduceCtorEq,reduceIte,d1Z,o12,hab,d1X,d5M hml,hm,a1C,iC,d5B,hl,g5D,Option.isSome_some]
   exact Grow.app _ _
 by_cases o13:e.op=13
 ·obtain⟨a,b,hab⟩:=d5V he (.inr (.inr (.inl o13)))
  have hP:f1L e sc=IntKind.i64.wrap ((lkC a.name sc).num - IntKind.i64.wrap b.val):=by unfold f1L;rw[if_neg (by omega),if_neg (by omega),if_pos o13,hab];rfl
  rw[hP]
  unfold lkC
  cases hl:Ky.look a.name sc with
  |none =>
   simp only[wA,seval,reduceCtorEq,reduceIte,d1Z,o13,hab,d1X,d5M hml,hm,a1C,iC,d5B,hl,Option.getD_none,Option.isSome_none,zVc]
   exact Grow.app _ _
  |some v =>
   simp only[wA,seval,reduceCtorEq,reduceIte,d1Z,o13,hab,d1X,d5M hml,hm,a1C,iC,d5B,hl,g5D,Option.isSome_some]
   exact Grow.app _ _
 ·have hP:f1L e sc=IntKind.i64.wrap e.val:=by unfold f1L;rw[if_neg o2,if_neg o12,if_neg o13]
  rw[hP]
  simp only[wA,seval,reduceCtorEq,reduceIte,d1Z,o2,o12,o13]
  exact Grow.app _ _
theorem f9J {vs:List Vc} {v0:Vc} (hv0:vs[0]?=some v0) (hls:vs.length≤B20) {a:Nat} {sg0:Sg} (ha:sg0[a]?=some (false,cG tVc vs)) {ow:Ow} (Q:Ex→S→Prop):∀ (l:List Vc) (i:Nat) (fr:List PV) (sg:Sg),vs.drop i=l→Mv [] [] (sg0++[(false,[.t (.int .i64 0),.t (.int .i64 0),.t (.int .i64 0)])]) sg →
  b9P fr [(0,.ls a 0 vs.length 5),(2,.lp sg0.length 0),(5,.ls a 0 vs.length 5),(6,.t (.int .i64 vs.length)),(7,.t (.int .i64 i))] →
  (l.all (fun v=>decide (v.typ=v0.typ))=true→∀ fr' sg',Mv [] [] (sg0++[(false,[.t (.int .i64 0),.t (.int .i64 0),.t (.int .i64 0)])]) sg'→b9P fr' [(0,.ls a 0 vs.length 5),(2,.lp sg0.length 0)]→Q (.exit 0) ⟨fr',sg',ow⟩) →
  (l.all (fun v=>decide (v.typ=v0.typ))=false→∀ fr' sg',Mv [] [] sg0 sg'→sg'[sg0.length]?=some (false,[.t (.int .i64 1),.t (.int .i64 0),.t (.int .i64 0)])→b9P fr' [(2,.lp sg0.length 0)]→Q .ret ⟨fr',sg',ow⟩) →
  Xl F gl c7G ⟨fr,sg,ow⟩ Q ⟨⟩:=by
 intro l
 induction l with
 |nil =>
  intro i fr sg hd hM hf k1 k2
  have hd:=b9K hd
  simp only[b9R,b9Q] at hf
  obtain⟨f0,f2,f5,f6,f7,-⟩:=hf
  refine Xl.step ?_
  simp only[c7G]
  have c1:¬((i:Int) < (vs.length:Int)):=by omega
  simp only[wA,seval,reduceCtorEq,reduceIte,f0,f2,f5,f6,f7,c1]
  exact k1 rfl _ _ hM (by simp only[wQ,Nat.reduceEqDiff,reduceIte,f0,f2])
 |cons x l ih =>
  intro i fr sg hd hM hf k1 k2
  obtain⟨hx,hr,hi⟩:=b9J hd
  simp only[b9R,b9Q] at hf
  obtain⟨f0,f2,f5,f6,f7,-⟩:=hf
  have ha1:=hM.get (b1V ha) (by simp)
  have hz1:=hM.get (i:=sg0.length) (v:=(false,[.t (.int .i64 0),.t (.int .i64 0),.t (.int .i64 0)])) (by simp) (by simp)
  have la:=d4Y ha1
  have lz:=d4Y hz1
  have hlen:=f4C (t:=tVc) f4T vs
  refine Xl.step ?_
  simp only[c7G]
  have c1:(i:Int) < (vs.length:Int):=by omega
  have c0:(0:Int) < (vs.length:Int):=by omega
  have c00:0 < vs.length:=by omega
  have hw1:=d5J hi (show vs.length≤281474976710656 by have:B20=1100000:=rfl;omega)
  have hct:=f4I (t:=tVc) f4T vs i x [] hx
  rw[g3B] at hct
  simp only[g4D,g4E] at hct
  have hle:i * 5+5≤(cG tVc vs).length:=by omega
  have hle0:1+3≤(cG tVc vs).length:=by omega
  have ht0:((cG tVc vs).drop 1).take 3=[.t (.int .i64 v0.typ.kind),.t (.int .i64 v0.typ.bits),.t (.int .i64 v0.typ.len)]:=by
   match vs,hv0 with
   |y::r,hv0 =>
    have:y=v0:=by simpa using hv0
    subst this
    rfl
  rw[List.all_cons] at k1 k2
  have hq:=d5H x.typ v0.typ
  by_cases c:x.typ=v0.typ
  ·rw[g5K c] at k1 k2 hq
   simp only[wA,seval,reduceCtorEq,reduceIte,f0,f2,f5,f6,f7,c1,c0,c00,hi,hw1,g2X,ha1,d5M la,hct,hle,allT,wC,hle0,ht0,hq,Nat.zero_mul]
   exact ih (i+1) _ _ hr (hM.app2 _) (by simp only[wQ,Nat.reduceEqDiff,reduceIte,f0,f2,f5,f6]) (by simpa using k1) (by simpa using k2)
  ·rw[g5I c] at k1 k2 hq
   have hzz:=fun t=>show(sg++(t:Sg))[sg0.length]?=_ from b1V hz1
   simp only[wA,seval,reduceCtorEq,reduceIte,f0,f2,f5,f6,f7,c1,c0,c00,hi,hw1,g2X,ha1,d5M la,hct,hle,allT,wC,hle0,ht0,hq,Nat.zero_mul,hzz,d5N lz]
   refine k2 rfl _ _ ((((Mv.app [] sg0 _).trans hM).set (.inr (g4U _)) _).app2 _) ?_ (by simp only[wQ,Nat.reduceEqDiff,reduceIte,f2])
   rw[g3I (by rw[g3Z];exact lz),g3S lz]
theorem f9K {vs:List Vc} (h0:vs≠[]) (hls:vs.length≤B20) {sg:Sg} {a:Nat} (ha:sg[a]?=some (false,cG tVc vs)) (ow:Ow) :
  CallE F gl 126 [.ls a 0 vs.length 5] sg ow fun v sg' ow'=>v=.t (.agg (tTy (f1D vs)))∧Grow sg sg'∧ow'=ow:=by
 obtain⟨v0,hv0⟩:∃ v0,vs[0]?=some v0:=⟨_,g3L (List.length_pos_iff.2 h0)⟩
 have hg0:vs.getD 0 zVc=v0:=by rw[List.getD_eq_getElem?_getD,hv0];rfl
 have hpos:=List.length_pos_iff.2 h0
 have c0:(0:Int) < (vs.length:Int):=by omega
 refine XcE.of F126 rfl ?_
 simp only[c7H]
 unfold f1D
 rw[hg0]
 simp only[wA,seval,reduceCtorEq,reduceIte]
 refine f9J hv0 hls ha _ vs 0 _ _ rfl (.refl _ _) (by simp only[wQ,Nat.reduceEqDiff,reduceIte];first|done|exact⟨rfl,rfl⟩|rfl) ?_ ?_
 ·intro hall fr' sg' hM hf
  simp only[b9R,b9Q] at hf
  obtain⟨f0,f2,-⟩:=hf
  have ha1:=hM.get (b1V ha) (by simp)
  have hz1:=hM.get (i:=sg.length) (v:=(false,[.t (.int .i64 0),.t (.int .i64 0),.t (.int .i64 0)])) (by simp) (by simp)
  have hlen:=f4C (t:=tVc) f4T vs
  have hle0:1+3≤(cG tVc vs).length:=by omega
  have ht0:((cG tVc vs).drop 1).take 3=[.t (.int .i64 v0.typ.kind),.t (.int .i64 v0.typ.bits),.t (.int .i64 v0.typ.len)]:=by
   match vs,hv0 with
   |y::r,hv0 =>
    have:y=v0:=by simpa using hv0
    subst this
    rfl
  rw[if_pos hall]
  simp only[wA,seval,reduceCtorEq,reduceIte,f0,f2,c0,hpos,ha1,hle0,ht0,allT,hz1,d4X hz1,wC,Nat.zero_mul]
  exact Mv.toGrow (((Mv.app [] sg _).trans hM).set (.inr (g4U _)) _)
 ·intro hall fr' sg' hM hz hf
  simp only[b9R,b9Q] at hf
  obtain⟨f2,-⟩:=hf
  rw[if_neg (by rw[hall];simp)]
  simp only[wA,seval,reduceCtorEq,reduceIte,f2,hz,allT]
  exact⟨rfl,Mv.toGrow hM⟩
theorem f9L (x y:Vc) (sg:Sg) (ow:Ow) :
  CallE F gl 126 [.lit [tVc x,tVc y]] sg ow fun v sg' ow'=>v=.t (.agg (tTy (f1D [x,y])))∧Grow sg sg'∧ow'=ow:=by
 have w1:IntKind.i64.wrap 1=1:=by decide
 have w2:IntKind.i64.wrap 2=2:=by decide
 refine XcE.of F126 rfl ?_
 simp only[c7H]
 have hq0:=d5H x.typ x.typ
 rw[g5K rfl] at hq0
 have hq:=d5H y.typ x.typ
 have hE:f1D [x,y]=if y.typ=x.typ then x.typ else d1V:=by
  unfold f1D
  simp
 rw[hE]
 have hz1:∀ t:Sg,(sg++(false,[.t (.int .i64 0),.t (.int .i64 0),.t (.int .i64 0)])::t)[sg.length]?=some (false,[.t (.int .i64 0),.t (.int .i64 0),.t (.int .i64 0)]):=fun t=>by simp
 by_cases c:y.typ=x.typ
 ·rw[g5K c] at hq
  rw[if_pos c]
  simp only[wA,seval,reduceCtorEq,reduceIte]
  refine Xl.step ?_
  try simp only[c7G]
  simp only[wA,seval,reduceCtorEq,reduceIte,hq0,hq,w1,w2,allT,wC]
  refine Xl.step ?_
  try simp only[c7G]
  simp only[wA,seval,reduceCtorEq,reduceIte,hq0,hq,w1,w2,allT,wC]
  refine Xl.step ?_
  try simp only[c7G]
  simp only[wA,seval,reduceCtorEq,reduceIte,hq0,hq,w1,w2,allT,wC]
  exact Grow.app _ _
 ·rw[g5I c] at hq
  rw[if_neg c]
  simp only[wA,seval,reduceCtorEq,reduceIte]
  refine Xl.step ?_
  try simp only[c7G]
  simp only[wA,seval,reduceCtorEq,reduceIte,hq0,hq,w1,w2,allT,wC]
  refine Xl.step ?_
  try simp only[c7G]
  simp only[wA,seval,reduceCtorEq,reduceIte,hq0,hq,w1,w2,allT,wC]
  exact⟨rfl,Grow.app _ _⟩
end Go.Proofs.YtdjcnfacjfnakaaGreat

/- Contracts: a choice. -/
namespace Go.Proofs.YtdjcnfacjfnakaaGreat
open Go.Pi Go.Lx Go.Ky Go.Lib
variable {gl:Nat→Option (List T)}
def Elw (ow:Ow) (v:PV) (l:List Li):Prop:=(l=[]∧v=.t (.sl true []))∨(l≠[]∧∃ k,v=.own k 1 (tLs l)∧ow[k]?=some l.length)
theorem f9M {ow ow':Ow} (h:ow <+: ow') {k n:Nat} (hk:ow[k]?=some n):ow'[k]?=some n:=by
 obtain⟨t,rfl⟩:=h
 rw[g3I (g3N.1 hk).1];exact hk
theorem Elw.pre {ow ow':Ow} {v:PV} {l:List Li} (h:Elw ow v l) (hp:ow <+: ow'):Elw ow' v l:=by
 rcases h with h|⟨h1,k,h2,h3⟩
 ·exact .inl h
 ·exact .inr ⟨h1,k,h2,f9M hp h3⟩
theorem f9N {ow0 ow:Ow} (h:ow0 <+: ow) {k n:Nat} (hk:ow0.length≤k):ow0 <+: ow.set k n:=by
 obtain⟨t,rfl⟩:=h
 rw[List.set_append_right _ _ hk]
 exact List.prefix_append _ _
theorem Elw.app {ow0 ow:Ow} {v:PV} {l:List Li} (h:Elw ow v l) (hp:ow0 <+: ow) (hk:∀ k z es,v=.own k z es→ow0.length≤k) (hl:l.length≤2000000) (x:Li) (dr:Bool) (sg:Sg) :
  ∃ v' ow',a0U dr sg ow 1 24 v (.lit [[tLi x]])=some (v',ow')∧Elw ow' v' (l++[x])∧ow0 <+: ow'∧(∀ k z es,v'=.own k z es→ow0.length≤k)∧Pi.one v'=true∧cellsP v'=[v']:=by
 have hlen0:ow0.length≤ow.length:=hp.length_le
 have ha:[[tLi x]].all (fun y=>y.length == 1)=true:=rfl
 rcases h with⟨rfl,rfl⟩|⟨h1,k,rfl,h3⟩
 ·have hr:a0N 1 24=true:=by decide
  refine⟨.own ow.length 1 [[tLi x]],ow++[1],?_,.inr ⟨by simp,ow.length,rfl,by simp⟩,hp.trans (List.prefix_append _ _),fun k z es e=>by injection e with e;omega,rfl,rfl⟩
  unfold a0U
  simp only[a0L,elems]
  rw[if_pos ⟨ha,by decide⟩]
  simp only[List.length_singleton,hr,g5H,if_true]
 ·have hr:a0N (l.length+1) 24=true:=by unfold a0N;simp only[g5L];omega
  have hkk:=hk k 1 (tLs l) rfl
  have hlt:=(g3N.1 h3).1
  refine⟨.own k 1 (tLs (l++[x])),ow.set k (l.length+1),?_,.inr ⟨by simp,k,rfl,by rw[g3S hlt];simp⟩,f9N hp hkk,fun k' z es e=>by injection e with e;omega,rfl,rfl⟩
  unfold a0U
  simp only[a0L,elems]
  rw[if_pos ⟨ha,by decide⟩]
  have e:tLs l++[[tLi x]]=tLs (l++[x]):=by unfold tLs;rw[g4C];rfl
  simp only[List.length_singleton,f3U,h3,hr,g5H,if_true,e]
theorem Elw.own {ow:Ow} {v:PV} {l:List Li} (h:Elw ow v l) (h0:l≠[]):∃ k,v=.own k 1 (tLs l):=by
 rcases h with⟨h1,_⟩|⟨_,k,h2,_⟩
 ·exact absurd h1 h0
 ·exact⟨k,h2⟩
abbrev cVc (v:Vc):List PV:=[.t (.sl false (tLs v.els)),.t (.int .i64 v.typ.kind),.t (.int .i64 v.typ.bits),.t (.int .i64 v.typ.len),.t (.int .i64 v.num)]
theorem f9O {p:Int} (hk:e2N p=true) {fa:Fs} {c r fm a6 a7 a8 a9 ri0 hi0:Nat} {cnd:Li} {x y:Vc} {t:Ty} {sg0:Sg} {ow0:Ow} (hxl:x.els.length≤2000000) (hxy:x.els.length=y.els.length)
  (h6:sg0[a6]?=some (false,cVc x)) (h7:sg0[a7]?=some (false,cVc y)) (c6:a6 ∉ [a9,c,r,ri0,hi0]) (c7:a7 ∉ [a9,c,r,ri0,hi0]) (l9:a9 < sg0.length) (c9:a9 ∉ [c,r,ri0,hi0]) (f9:a9≠fm) (Q:Ex→S→Prop):∀ (k:Nat) (i:Nat) (s:Cst) (done:List Li) (ev:PV) (fr:List PV) (sg:Sg) (ow:Ow) (ri hi:Nat),a9 ∉ [c,r,ri,hi]→i+k=x.els.length→done.length=i→CsOk s→LiOk s.b.vars cnd→(∀ l,l∈x.els→LiOk s.b.vars l)→(∀ l,l∈y.els→LiOk s.b.vars l)→CS sg c r ri hi fm p fa s→sg[a9]?=some (false,[ev,.t (.int .i64 t.kind),.t (.int .i64 t.bits),.t (.int .i64 t.len),.t (.int .i64 0)])→Elw ow ev done→(∀ k z es,ev=.own k z es→ow0.length≤k)→Mv [a9,c,r,ri0,hi0] [a9,c,r,ri,hi] sg0 sg→ow0 <+: ow →
  b9P fr [(0,.lp c 0),(1,.t (tLi cnd)),(6,.lp a6 0),(7,.lp a7 0),(8,.lp a8 0),(9,.lp a9 0),(18,.t (.int .i64 x.els.length)),(19,.t (.int .i64 i))] →
  (∀ fr' sg' ow' ri' hi' ev',CS sg' c r ri' hi' fm p fa (f1J (foF p) cnd (x.els.drop i) (y.els.drop i) s).2→sg'[a9]?=some (false,[ev',.t (.int .i64 t.kind),.t (.int .i64 t.bits),.t (.int .i64 t.len),.t (.int .i64 0)])→Elw ow' ev' (done++(f1J (foF p) cnd (x.els.drop i) (y.els.drop i) s).1)→Mv [a9,c,r,ri0,hi0] [a9,c,r,ri',hi'] sg0 sg'→ow0 <+: ow'→b9P fr' [(8,.lp a8 0),(9,.lp a9 0)]→Q (.exit 0) ⟨fr',sg',ow'⟩) →
  Xl F gl c7I ⟨fr,sg,ow⟩ Q ⟨⟩:=by
 intro k
 induction k with
 |zero =>
  intro i s done ev fr sg ow ri hi k9 hik hdn hs hc hx hy h h9 hE hEk hM hO hf k1
  simp only[b9R,b9Q] at hf
  obtain⟨f0,f1,f6,f7,f8,f9',f18,f19,-⟩:=hf
  refine Xl.step ?_
  simp only[c7I]
  have c1:¬((i:Int) < (x.els.length:Int)):=by omega
  rw[List.drop_eq_nil_of_le (show x.els.length≤i by omega),List.drop_eq_nil_of_le (show y.els.length≤i by omega),f1J] at k1
  ·simp only[wA,seval,reduceCtorEq,reduceIte,f0,f1,f6,f7,f8,f9',f18,f19,c1]
   exact k1 _ _ _ ri hi ev h h9 (by simpa using hE) hM hO (by simp only[wQ,Nat.reduceEqDiff,reduceIte,f8,f9'])
  ·intros;simp_all
 |succ k ih =>
  intro i s done ev fr sg ow ri hi k9 hik hdn hs hc hx hy h h9 hE hEk hM hO hf k1
  simp only[b9R,b9Q] at hf
  obtain⟨f0,f1,f6,f7,f8,f9',f18,f19,-⟩:=hf
  have hli:i < x.els.length:=by omega
  obtain⟨xi,hxi⟩:∃ z,x.els[i]?=some z:=⟨_,g3L hli⟩
  obtain⟨yi,hyi⟩:∃ z,y.els[i]?=some z:=⟨_,g3L (by omega)⟩
  have hdx:x.els.drop i=xi::x.els.drop (i+1):=by
   rw[List.drop_eq_getElem_cons hli];congr 1;exact Option.some.inj (by rw[←hxi,g3L hli])
  have hdy:y.els.drop i=yi::y.els.drop (i+1):=by
   rw[List.drop_eq_getElem_cons (by omega)];congr 1;exact Option.some.inj (by rw[←hyi,g3L (by omega)])
  rw[hdx,hdy,f1J] at k1
  simp only at k1
  have lxi:=hx xi (g4K hxi)
  have lyi:=hy yi (g4K hyi)
  obtain⟨s1,s2,s3⟩:=f2U (f5W hk) cnd hs lxi lyi
  have c1:((i:Int) < (x.els.length:Int)):=by omega
  have c2:((i:Int) < (y.els.length:Int)):=by omega
  have hli2:i < y.els.length:=by omega
  have hw1:=d5J hli (by omega)
  have l6:=d4Y h6
  have l7:=d4Y h7
  have k6:=hM.cold l6 c6
  have k7:=hM.cold l7 c7
  have m6:=hM.get h6 c6
  have m7:=hM.get h7 c7
  have n69:a6≠a9:=fun e=>k6 (by simp [e])
  have n79:a7≠a9:=fun e=>k7 (by simp [e])
  have k6':a6 ∉ [c,r,ri,hi]:=fun e=>k6 (g4H _ e)
  have k7':a7 ∉ [c,r,ri,hi]:=fun e=>k7 (g4H _ e)
  have nc9:c≠a9:=fun e=>k9 (by simp [e])
  refine Xl.step ?_
  simp only[c7I]
  simp only[wA,seval,reduceCtorEq,reduceIte,f0,f1,f6,f7,f8,f9',f18,f19,c1]
  refine CallE.mono (f8N h hs (n:=1) (by decide) (by decide) ow) ?_
  rintro v sg1 ow1 ⟨rfl,rfl,hcs,hm⟩
  have m61:=hm.get m6 k6'
  have m71:=hm.get m7 k7'
  have m91:=hm.get h9 k9
  have k91:=hm.cold (d4Y h9) k9
  have k61:=hm.cold (d4Y m6) k6'
  have k71:=hm.cold (d4Y m7) k7'
  have l91:=d4Y m91
  cases hr:f0Z 1 s with
  |false =>
   rw[f8P hr] at hcs
   rw[f8R hr] at k1 s1 s2 s3
   simp only at k1 s1 s2 s3
   obtain⟨v',ow',e1,e2,e3,e4,e5,e6⟩:=hE.app hO hEk (by omega) e8S false sg1
   have bz:b6V 1 1 [T.sl true []] [(0,1,PV.t (T.sl true []))]=some (.lit [[tLi e8S]]):=rfl
   simp only[wA,seval,reduceCtorEq,reduceIte,f0,f1,f6,f7,f8,f9',f18,f19,c1,m91,bz,e1,e5,e6,wC,hw1]
   refine ih (i+1) _ (done++[e8S]) v' _ _ _ ri hi k91 (by omega) (by rw[g3V,List.length_singleton];omega) s1 hc hx hy (hcs.set k91 f9 _) (by rw[g3S l91]) e2 e4 ((hM.trans (hm.cons a9)).set (.inl (by simp)) _) e3 (by simp only[wQ,Nat.reduceEqDiff,reduceIte,f0,f1,f6,f7,f8,f9',f18]) ?_
   intro fr' sg' ow2 ri' hi' ev' x1 x2 x3 x4 x5 x6
   refine k1 fr' sg' ow2 ri' hi' ev' x1 x2 ?_ x4 x5 x6
   rw[g3A] at x3
   exact x3
  |true =>
   rw[f8O hr] at hcs
   rw[f8Q hr] at k1 s1 s2 s3
   simp only at k1 s1 s2 s3
   have hc1:=hcs.hc
   simp only[wA,seval,reduceCtorEq,reduceIte,f0,f1,f6,f7,f8,f9',f18,f19,c1,c2,hli,hli2,a1I,lenS,m91,hc1,m61,m71,f3V,f3U,hxi,hyi,g5F,g2X]
   refine CallE.mono (f7D hk hcs.hb hs.b (hs.rm (by decide)) hc lxi lyi ow1) ?_
   rintro v2 sg2 ow2 ⟨rfl,hG⟩
   have hD:=hcs.gd hG
   obtain⟨q1,ri2,hi2,hcs2,hm2⟩:=hD
   have hc2:=hcs2.hc
   have m62:=hm2.get m61 k61
   have m72:=hm2.get m71 k71
   have m92:=hm2.get m91 k91
   have k92:=hm2.cold l91 k91
   have l92:=d4Y m92
   obtain⟨v',ow',e1,e2,e3,e4,e5,e6⟩:=(hE.pre q1).app (hO.trans q1) hEk (by omega) (e9M (foF p) cnd xi yi s.b).1 true sg2
   have g6:∀ z,(sg2.set a9 z)[a6]?=sg2[a6]?:=fun z=>g3R (Ne.symm n69)
   have g7:∀ z,(sg2.set a9 z)[a7]?=sg2[a7]?:=fun z=>g3R (Ne.symm n79)
   have gc:∀ z,(sg2.set a9 z)[c]?=sg2[c]?:=fun z=>g3R (Ne.symm nc9)
   simp only[wA,seval,reduceCtorEq,reduceIte,f0,f1,f6,f7,f8,f9',f18,f19,m91,m61,m71,hc1,m92,m62,m72,hc2,g6,g7,gc,f8V,e1,e5,e6,wC,hw1,d5U,d5T,d5S,d5P]
   refine ih (i+1) _ (done++[(e9M (foF p) cnd xi yi s.b).1]) v' _ _ _ ri2 hi2 k92 (by omega) (by rw[g3V,List.length_singleton];omega) s1 (hc.mono s2.vars) (fun l hl=>(hx l hl).mono s2.vars) (fun l hl=>(hy l hl).mono s2.vars) (hcs2.set k92 f9 _) (by rw[g3S l92]) e2 e4 ((((hM.trans (hm.cons a9))).trans (hm2.cons a9)).set (.inl (by simp)) _) e3 (by simp only[wQ,Nat.reduceEqDiff,reduceIte,f0,f1,f6,f7,f8,f9',f18]) ?_
   intro fr' sg' ow3 ri' hi' ev' x1 x2 x3 x4 x5 x6
   refine k1 fr' sg' ow3 ri' hi' ev' x1 x2 ?_ x4 x5 x6
   rw[g3A] at x3
   exact x3
theorem f9P {p:Int} (hk:e2N p=true) {fa:Fs} {sg:Sg} {c r ri hi fm:Nat} {s:Cst} (h:CS sg c r ri hi fm p fa s) (hs:CsOk s) {cnd:Li} (hc:LiOk s.b.vars cnd) {x y:Vc} (hxl:x.els.length≤2000000) (hx0:0 < x.els.length) (hxy:x.els.length=y.els.length) (hx:∀ l,l∈x.els→LiOk s.b.vars l) (hy:∀ l,l∈y.els→LiOk s.b.vars l) (ow:Ow) :
  CallE F gl 127 [.lp c 0,.t (tLi cnd),.t (.agg (tVc x)),.t (.agg (tVc y))] sg ow fun v sg' ow'=>v=.t (.agg (tVc (f1K (foF p) cnd x y s).1))∧Cd sg ow c r ri hi fm p fa (f1K (foF p) cnd x y s).2 sg' ow':=by
 have lf:=d4Y h.hf
 refine XcE.of F127 rfl ?_
 simp only[c7J]
 have hbs:b6V 5 2 zVt [(0,5,PV.t (.agg (tVc x))),(5,5,.t (.agg (tVc y)))]=some (.lit [tVc x,tVc y]):=rfl
 simp only[wA,seval,reduceCtorEq,reduceIte,allT,hbs]
 refine CallE.mono (f9L x y _ ow) ?_
 rintro v sg1 ow1 ⟨rfl,hg1,rfl⟩
 have h1:=h.grow ((Grow.app sg _).trans hg1)
 have h6:=hg1.get (i:=sg.length) (x:=(false,cVc x)) (by simp)
 have h7:=hg1.get (i:=sg.length+1) (x:=(false,cVc y)) (by rw[g3J (by omega)];simp)
 have h8:=hg1.get (i:=sg.length+2) (x:=(false,[.t (.sl true []),.t (.int .i64 0),.t (.int .i64 0),.t (.int .i64 0),.t (.int .i64 0)])) (by rw[g3J (by omega)];simp)
 generalize hT:f1D [x,y]=t
 have hf1:fillP [PV.t (.sl true []),.t (.int .i64 0),.t (.int .i64 0),.t (.int .i64 0),.t (.int .i64 0)] [(1,3,.t (.agg [.int .i64 t.kind,.int .i64 t.bits,.int .i64 t.len]))]=some [PV.t (.sl true []),.t (.int .i64 t.kind),.t (.int .i64 t.bits),.t (.int .i64 t.len),.t (.int .i64 0)]:=rfl
 have lg:=hg1.len
 simp only[g3V,g3W,g3Y] at lg
 have hl1:=h1.lt
 have h6':=b1V (r:=[(false,[PV.t (.sl true []),.t (.int .i64 t.kind),.t (.int .i64 t.bits),.t (.int .i64 t.len),.t (.int .i64 0)])]) h6
 have h7':=b1V (r:=[(false,[PV.t (.sl true []),.t (.int .i64 t.kind),.t (.int .i64 t.bits),.t (.int .i64 t.len),.t (.int .i64 0)])]) h7
 have n6:sg.length ∉ [sg1.length,c,r,ri,hi]:=fun e=>by
  rcases g4G.1 e with e|e
  ·omega
  ·exact h.new (g4U _) e
 have n7:sg.length+1 ∉ [sg1.length,c,r,ri,hi]:=fun e=>by
  rcases g4G.1 e with e|e
  ·omega
  ·exact h.new (by omega) e
 have n8:sg.length+2 ∉ [sg1.length,c,r,ri,hi]:=fun e=>by
  rcases g4G.1 e with e|e
  ·omega
  ·exact h.new (by omega) e
 simp only[wA,seval,reduceCtorEq,reduceIte,allT,a1K,List.zip_cons_cons,List.zip_nil_left,hf1,wC,d5M (d4Y h6),h6,f3U]
 refine f9O (fa:=fa) (r:=r) (fm:=fm) (a6:=sg.length) (a7:=sg.length+1) (a8:=sg.length+2) (a9:=sg1.length) (ri0:=ri) (hi0:=hi) (cnd:=cnd) (x:=x) (y:=y) (t:=t) (sg0:=sg1++[(false,[PV.t (.sl true []),.t (.int .i64 t.kind),.t (.int .i64 t.bits),.t (.int .i64 t.len),.t (.int .i64 0)])]) (ow0:=ow1) hk hxl hxy h6' h7' n6 n7 (by simp) (h1.new (g4U _)) (by omega) _ x.els.length 0 s [] (.t (.sl true [])) _ _ _ ri hi (h1.new (g4U _)) (by omega) rfl hs hc hx hy (h1.app _) (by simp) (.inl ⟨rfl,rfl⟩) (fun k z es e=>by cases e) (.refl _ _) (List.prefix_refl _) (by simp only[wQ,Nat.reduceEqDiff,reduceIte];first|done|exact⟨rfl,rfl⟩|rfl) ?_
 intro fr' sg' ow' ri' hi' ev' hcs' h9' hE' hM' hO' hf'
 simp only[b9R,b9Q] at hf'
 obtain⟨f8,f9,-⟩:=hf'
 rw[g3E,g3E,List.nil_append] at hE'
 rw[g3E,g3E] at hcs'
 obtain⟨_,_,e3,_⟩:=f2V (f5W hk) cnd x.els y.els s hxy hs hx hy
 obtain⟨k,rfl⟩:=hE'.own (fun e=>by rw[e] at e3;simp at e3;omega)
 have h8':=hM'.get (b1V h8) n8
 have k8':=hM'.cold (d4Y (b1V (r:=[(false,[PV.t (.sl true []),.t (.int .i64 t.kind),.t (.int .i64 t.bits),.t (.int .i64 t.len),.t (.int .i64 0)])]) h8)) n8
 have hE:f1K (foF p) cnd x y s=(⟨(f1J (foF p) cnd x.els y.els s).1,t,0⟩,(f1J (foF p) cnd x.els y.els s).2):=by unfold f1K;rw[hT]
 rw[hE]
 have h5:(1000:Nat) < 1005:=by decide
 have hma:mkAgg [PV.own k 1 (tLs (f1J (foF p) cnd x.els y.els s).1),.t (.int .i64 t.kind),.t (.int .i64 t.bits),.t (.int .i64 t.len),.t (.int .i64 0)]=.agg [PV.own k 1 (tLs (f1J (foF p) cnd x.els y.els s).1),.t (.int .i64 t.kind),.t (.int .i64 t.bits),.t (.int .i64 t.len),.t (.int .i64 0)]:=rfl
 have hcl:clo (.agg [PV.own k 1 (tLs (f1J (foF p) cnd x.els y.els s).1),.t (.int .i64 t.kind),.t (.int .i64 t.bits),.t (.int .i64 t.len),.t (.int .i64 0)])=.t (.agg (tVc ⟨(f1J (foF p) cnd x.els y.els s).1,t,0⟩)):=rfl
 simp only[wA,seval,reduceCtorEq,reduceIte,f8,f9,h9',hma,wC,h8',d4X h8',c4J h5,hcl]
 refine⟨hO',ri',hi',hcs'.set (fun e=>k8' (g4H _ e)) (by omega) _,?_⟩
 have hM2:Mv [sg1.length,c,r,ri,hi] [sg1.length,c,r,ri',hi'] sg sg':=(Mv.grow ((Grow.app sg _).trans (hg1.app2 _))).trans hM'
 refine Mv.set ⟨hM2.1,fun i hi1 hn=>hM2.2.1 i hi1 fun e=>?_,fun i hi1=>?_⟩ (.inr (by omega)) _
 ·rcases g4G.1 e with e|e
  ·omega
  ·exact hn e
 ·rcases hM2.2.2 i (g4H _ hi1) with e|e
  ·rcases g4G.1 e with e|e
   ·exact .inr (by omega)
   ·exact .inl e
  ·exact .inr e
end Go.Proofs.YtdjcnfacjfnakaaGreat
