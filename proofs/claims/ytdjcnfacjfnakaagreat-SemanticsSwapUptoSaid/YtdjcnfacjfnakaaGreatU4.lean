/- Contracts: semantics' small functions. -/
import Derived.Test.YtdjcnfacjfnakaaGreatK19
import Derived.Test.YtdjcnfacjfnakaaGreatF3
import Derived.Test.YtdjcnfacjfnakaaGreatKx81
import Derived.Test.YtdjcnfacjfnakaaGreatKx19
set_option maxRecDepth 10000
set_option linter.unusedVariables false
set_option linter.unusedSimpArgs false
namespace Go.Proofs.YtdjcnfacjfnakaaGreat
open Go.Pi Go.Lx Go.Ky Go.Lib
variable {gl:Nat→Option (List T)}
theorem f6M (b:Bool) {K:PV→Prop}:XcP F gl 163 [.bool b] K ⟨⟩↔K (.t (.int .u64 (Ky.truth b))):=by
 refine Ret.iff (Ret.of F163 rfl ?_)
 simp only[d0E]
 cases b
 ·simp only[wA,seval,reduceCtorEq,reduceIte]
  simp [Ky.truth]
 ·simp only[wA,seval,reduceCtorEq,reduceIte]
  simp [Ky.truth]
theorem f6N (n:Int) {K:PV→Prop}:XcP F gl 115 [.int .u64 n] K ⟨⟩↔K (.t (.agg (tV (f1Y n)))):=by
 refine Ret.iff (Ret.of F115 rfl ?_)
 have hf:fillP [PV.t (T.sl true []),PV.t (T.bool false),PV.t (T.int IntKind.i64 0)] [(0,1,PV.lit [[T.int IntKind.u64 n]])]=some [PV.lit [[T.int IntKind.u64 n]],PV.t (T.bool false),PV.t (T.int IntKind.i64 0)]:=rfl
 have hm:mkAgg [PV.lit [[T.int IntKind.u64 n]],PV.t (T.bool false),PV.t (T.int IntKind.i64 0)]=PV.agg [PV.lit [[T.int IntKind.u64 n]],PV.t (T.bool false),PV.t (T.int IntKind.i64 0)]:=rfl
 simp only[c8T]
 simp only[wA,seval,reduceCtorEq,reduceIte,b6Q,a0C,a0M,T.isAgg,List.replicate,g3S,g3T,g3O,a1K,a1J,List.zip_cons_cons,List.zip_nil_left,hf,hm,cellsP,setRange,Go.Pi.one]
 rfl
theorem f6O {s:St} (hls:s.body.length≤B20) (hrec:∀ a,a∈s.body→∀ K,XcP F gl 156 [.agg (tSt a)] K ⟨⟩↔K (.t (.bool (idS a)))) {ow:Ow} (Q:Ex→S→Prop):∀ (l:List St) (i:Nat) (fr:List PV) (sg:Sg),s.body.drop i=l →
  b9J fr [(14,.t (.sl s.nl (d3G s.body))),(15,.t (.int .i64 s.body.length)),(16,.t (.int .i64 i))] →
  (l.all idS=true→∀ fr' sg',Q (.exit 0) ⟨fr',sg',ow⟩) →
  (l.all idS=false→∀ fr' sg',a0A fr' 2=.t (.bool false)→Q .ret ⟨fr',sg',ow⟩) →
  Xl F gl c9V ⟨fr,sg,ow⟩ Q ⟨⟩:=by
 intro l
 induction l with
 |nil =>
  intro i fr sg hd hf k1 k2
  have hd:=b9E hd
  simp only[b9L,b9K] at hf
  obtain⟨f1,f2,f3,-⟩:=hf
  refine Xl.step ?_
  simp only[c9V]
  have c1:¬((i:Int) < (s.body.length:Int)):=by omega
  simp only[wA,seval,reduceCtorEq,reduceIte,f1,f2,f3,c1]
  exact k1 rfl _ _
 |cons x l ih =>
  intro i fr sg hd hf k1 k2
  obtain⟨hx,hr,hi⟩:=b9D hd
  simp only[b9L,b9K] at hf
  obtain⟨f1,f2,f3,-⟩:=hf
  refine Xl.step ?_
  simp only[c9V]
  have c1:(i:Int) < (s.body.length:Int):=by omega
  have hw1:=d7A hi (show s.body.length≤281474976710656 by have:B20=1100000:=rfl;omega)
  have hm:=g4Y hx
  have hq:=fun K=>hrec x hm K
  simp only[d3I] at hq
  rw[List.all_cons] at k1 k2
  cases hb:idS x with
  |true =>
   rw[hb] at k1 k2 hq
   simp only[wA,seval,reduceCtorEq,reduceIte,f1,f2,f3,c1,hw1,g3K,hi,d3K,hx,g5V,d3I,hq]
   exact ih (i+1) _ _ hr (by simp only[wQ,Nat.reduceEqDiff,reduceIte,f1,f2];first|done|rfl) (by simpa using k1) (by simpa using k2)
  |false =>
   rw[hb] at k1 k2 hq
   simp only[wA,seval,reduceCtorEq,reduceIte,f1,f2,f3,c1,hw1,g3K,hi,d3K,hx,g5V,d3I,hq]
   exact k2 rfl _ _ (by simp only[wQ,Nat.reduceEqDiff,reduceIte])
theorem f6P:∀ s,szS s≤B20→∀ K,XcP F gl 156 [.agg (tSt s)] K ⟨⟩↔K (.t (.bool (idS s))):=by
 refine St.ind fun s ih hsz K=>?_
 obtain⟨hb1,hb2⟩:=d8E hsz
 rw[f2G]
 refine Ret.iff (Ret.of F156 rfl ?_)
 simp only[c9W]
 rw[d3I]
 by_cases h3:s.kind=3
 ·by_cases hl:s.lo≥s.hi
  ·rw[if_neg (by simpa using h3),if_pos hl]
   simp only[wA,seval,reduceCtorEq,reduceIte,h3,hl]
  ·rw[if_neg (by simpa using h3),if_neg hl]
   simp only[wA,seval,reduceCtorEq,reduceIte,h3,hl,d3J]
   refine f6O hb1 (fun a ha=>ih a ha (hb2 a ha)) _ s.body 0 _ _ rfl (by simp only[wQ,Nat.reduceEqDiff,reduceIte];first|done|exact⟨rfl,rfl⟩|rfl) (fun h fr' sg'=>?_) (fun h fr' sg' f2=>?_)
   ·rw[h]
    simp only[wA,seval,reduceCtorEq,reduceIte]
   ·rw[h]
    simp only[wA,seval,reduceCtorEq,reduceIte,f2]
 ·rw[if_pos (by simpa using h3)]
  simp only[wA,seval,reduceCtorEq,reduceIte,h3]
theorem f6Q {ns:List Int} {nl:Bool} {p:Int} (hls:ns.length≤B20) {sg:Sg} {ow:Ow} (Q:Ex→S→Prop):∀ (l:List Int) (i:Nat) (fr:List PV),ns.drop i=l →
  b9J fr [(1,.t (.int .u64 p)),(7,.t (.sl nl (uL ns))),(8,.t (.int .i64 ns.length)),(9,.t (.int .i64 i))] →
  (l.all (fun n=>decide (n < p))=true→∀ fr',Q (.exit 0) ⟨fr',sg,ow⟩) →
  (l.all (fun n=>decide (n < p))=false→∀ fr',a0A fr' 4=.t (.bool false)→Q .ret ⟨fr',sg,ow⟩) →
  Xl F gl c7D ⟨fr,sg,ow⟩ Q ⟨⟩:=by
 intro l
 induction l with
 |nil =>
  intro i fr hd hf k1 k2
  have hd:=b9E hd
  simp only[b9L,b9K] at hf
  obtain⟨f0,f1,f2,f3,-⟩:=hf
  refine Xl.step ?_
  simp only[c7D]
  have c1:¬((i:Int) < (ns.length:Int)):=by omega
  simp only[wA,seval,reduceCtorEq,reduceIte,f0,f1,f2,f3,c1]
  exact k1 rfl _
 |cons x l ih =>
  intro i fr hd hf k1 k2
  obtain⟨hx,hr,hi⟩:=f4S hd
  simp only[b9L,b9K] at hf
  obtain⟨f0,f1,f2,f3,-⟩:=hf
  refine Xl.step ?_
  simp only[c7D]
  have c1:(i:Int) < (ns.length:Int):=by omega
  have hw1:=d7A hi (show ns.length≤281474976710656 by have:B20=1100000:=rfl;omega)
  rw[List.all_cons] at k1 k2
  by_cases hb:p≤x
  ·have hb2:¬x < p:=by omega
   simp only[wA,seval,reduceCtorEq,reduceIte,f0,f1,f2,f3,c1,hw1,g3K,hi,f4O,hx,g5V,hb]
   exact k2 (by simp [hb2]) _ (by simp only[wQ,Nat.reduceEqDiff,reduceIte])
  ·have hb2:x < p:=by omega
   simp only[wA,seval,reduceCtorEq,reduceIte,f0,f1,f2,f3,c1,hw1,g3K,hi,f4O,hx,g5V,hb]
   exact ih (i+1) _ hr (by simp only[wQ,Nat.reduceEqDiff,reduceIte,f0,f1,f2];first|done|rfl) (by simpa [hb2] using k1) (by simpa [hb2] using k2)
theorem ok79 {ns:List Int} (hls:ns.length≤B20) (nl:Bool) (p:Int) {K:PV→Prop}:XcP F gl 79 [.sl nl (uL ns),.int .u64 p] K ⟨⟩↔K (.t (.bool (ns.all fun n=>decide (n < p)))):=by
 refine Ret.iff (Ret.of F79 rfl ?_)
 simp only[c7E]
 simp only[wA,seval,reduceCtorEq,reduceIte,f4P]
 refine f6Q hls _ ns 0 _ rfl (by simp only[wQ,Nat.reduceEqDiff,reduceIte];first|done|exact⟨rfl,rfl⟩|rfl) (fun h fr'=>?_) (fun h fr' f2=>?_)
 ·rw[h]
  simp only[wA,seval,reduceCtorEq,reduceIte]
 ·rw[h]
  simp only[wA,seval,reduceCtorEq,reduceIte,f2]
theorem f6R {v:Vl} {t:Ty} (hls:v.els.length≤B20) (hnn:∀ n,n∈v.els→0≤n) (ht:t.kind=3→0≤t.bits∧t.bits≤62) {sg:Sg} (h1:sg[1]?=some (false,[PV.t (.int .i64 t.kind),.t (.int .i64 t.bits),.t (.int .i64 t.len)])) {ow:Ow} (Q:Ex→S→Prop):∀ (l:List Int) (i:Nat) (fr:List PV),v.els.drop i=l →
  b9J fr [(3,.lp 1 0),(8,.t (.sl false (uL v.els))),(9,.t (.int .i64 v.els.length)),(10,.t (.int .i64 i))] →
  (inR l t=true→∀ fr',Q (.exit 0) ⟨fr',sg,ow⟩) →
  (inR l t=false→∀ fr',a0A fr' 4=.t (.bool false)→Q .ret ⟨fr',sg,ow⟩) →
  Xl F gl c7H ⟨fr,sg,ow⟩ Q ⟨⟩:=by
 intro l
 induction l with
 |nil =>
  intro i fr hd hf k1 k2
  have hd:=b9E hd
  simp only[b9L,b9K] at hf
  obtain⟨f0,f1,f2,f3,-⟩:=hf
  refine Xl.step ?_
  simp only[c7H]
  have c1:¬((i:Int) < (v.els.length:Int)):=by omega
  simp only[wA,seval,reduceCtorEq,reduceIte,f0,f1,f2,f3,c1]
  exact k1 rfl _
 |cons x l ih =>
  intro i fr hd hf k1 k2
  obtain⟨hx,hr,hi⟩:=f4S hd
  simp only[b9L,b9K] at hf
  obtain⟨f0,f1,f2,f3,-⟩:=hf
  refine Xl.step ?_
  simp only[c7H]
  have c1:(i:Int) < (v.els.length:Int):=by omega
  have hw1:=d7A hi (show v.els.length≤281474976710656 by have:B20=1100000:=rfl;omega)
  have hx0:=hnn x (g4Y hx)
  rw[f4Q] at k1 k2
  have stay:inR l t=true→inR l t=true:=id
  by_cases h2:t.kind=2
  ·have h3:¬t.kind=3:=by omega
   by_cases hb:1 < x
   ·simp only[wA,seval,reduceCtorEq,reduceIte,f0,f1,f2,f3,c1,hw1,g3K,hi,f4O,hx,g5V,h1,h2,hb]
    exact k2 (by simp [h2,hb]) _ (by simp only[wQ,Nat.reduceEqDiff,reduceIte])
   ·have hb':¬(x > 1):=hb
    simp only[wA,seval,reduceCtorEq,reduceIte,f0,f1,f2,f3,c1,hw1,g3K,hi,f4O,hx,g5V,h1,h2,h3,hb]
    exact ih (i+1) _ hr (by simp only[wQ,Nat.reduceEqDiff,reduceIte,f0,f1,f2];first|done|rfl) (by simpa [h2,hb'] using k1) (by simpa [h2,hb'] using k2)
  ·by_cases h3:t.kind=3
   ·obtain⟨b1,b2⟩:=ht h3
    have b3:¬t.bits < 0:=by omega
    have hsh:∀ y:Int,y.fdiv (2 ^ t.bits.toNat)=y / 2 ^ t.bits.toNat:=fun y=>Int.fdiv_eq_ediv_of_nonneg _ (Int.le_of_lt (Int.pow_pos (by decide)))
    have hmin:min t.bits.toNat 64=t.bits.toNat:=by omega
    by_cases hb:x / 2 ^ t.bits.toNat=0
    ·simp only[wA,seval,reduceCtorEq,reduceIte,f0,f1,f2,f3,c1,hw1,g3K,hi,f4O,hx,g5V,h1,h2,h3,b1,b3,IntKind.bits,hmin,hsh,hb]
     exact ih (i+1) _ hr (by simp only[wQ,Nat.reduceEqDiff,reduceIte,f0,f1,f2];first|done|rfl) (by simpa [h3,hb] using k1) (by simpa [h3,hb] using k2)
    ·simp only[wA,seval,reduceCtorEq,reduceIte,f0,f1,f2,f3,c1,hw1,g3K,hi,f4O,hx,g5V,h1,h2,h3,b1,b3,IntKind.bits,hmin,hsh,hb]
     exact k2 (by simp [h3,hb]) _ (by simp only[wQ,Nat.reduceEqDiff,reduceIte])
   ·simp only[wA,seval,reduceCtorEq,reduceIte,f0,f1,f2,f3,c1,hw1,g3K,hi,f4O,hx,g5V,h1,h2,h3]
    exact ih (i+1) _ hr (by simp only[wQ,Nat.reduceEqDiff,reduceIte,f0,f1,f2];first|done|rfl) (by simpa [h2,h3] using k1) (by simpa [h2,h3] using k2)
theorem f6S {v:Vl} {t:Ty} (hls:v.els.length≤B20) (hnn:∀ n,n∈v.els→0≤n) (ht:t.kind=3→0≤t.bits∧t.bits≤62) {K:PV→Prop}:XcP F gl 81 [.agg (tV v),.agg (tTy t)] K ⟨⟩↔K (.t (.bool (inR v.els t))):=by
 refine Ret.iff (Ret.of F81 rfl ?_)
 simp only[c7I]
 simp only[wA,seval,reduceCtorEq,reduceIte,f4P]
 refine f6R hls hnn ht rfl _ v.els 0 _ rfl (by simp only[wQ,Nat.reduceEqDiff,reduceIte];first|done|exact⟨rfl,rfl⟩|rfl) (fun h fr'=>?_) (fun h fr' f2=>?_)
 ·rw[h]
  simp only[wA,seval,reduceCtorEq,reduceIte]
 ·rw[h]
  simp only[wA,seval,reduceCtorEq,reduceIte,f2]
end Go.Proofs.YtdjcnfacjfnakaaGreat

/- Contracts: the value of an index; elements; a new run. -/
namespace Go.Proofs.YtdjcnfacjfnakaaGreat
open Go.Pi Go.Lx Go.Ky Go.Lib
variable {gl:Nat→Option (List T)}
abbrev iV (sc:Sc):List PV:=d6Q (fun v=>.agg (tV v)) sc
set_option maxHeartbeats 1000000 in
theorem f6T {sg:Sg} {m:Nat} {sc:Sc} (hm:sg[m]?=some (true,iV sc)) (e:Exp) (he:exB e=true) (ow:Ow) :
  CallE F gl 114 [.t (.agg (tEx e)),.mp m] sg ow fun v sg' ow'=>v=.t (.int .i64 (f2B e sc))∧Grow sg sg'∧ow'=ow:=by
 refine XcE.of F114 rfl ?_
 simp only[c8S]
 have hml:=d6P hm
 by_cases o2:e.op=2
 ·have hP:f2B e sc=(lkV e.name sc).num:=by unfold f2B;rw[if_pos o2]
  rw[hP]
  unfold lkV
  cases hl:Ky.look e.name sc with
  |none =>
   simp only[wA,seval,reduceCtorEq,reduceIte,d3D,o2,d7D hml,hm,a1D,iV,d6S,hl,Option.getD_none,Option.isSome_none,zVl]
   exact Grow.app _ _
  |some v =>
   simp only[wA,seval,reduceCtorEq,reduceIte,d3D,o2,d7D hml,hm,a1D,iV,d6S,hl,g5T,Option.isSome_some]
   exact Grow.app _ _
 by_cases o12:e.op=12
 ·obtain⟨a,b,hab⟩:=d7K he (.inr (.inl o12))
  have hP:f2B e sc=IntKind.i64.wrap ((lkV a.name sc).num+IntKind.i64.wrap b.val):=by unfold f2B;rw[if_neg (by omega),if_pos o12,hab];rfl
  rw[hP]
  unfold lkV
  cases hl:Ky.look a.name sc with
  |none =>
   simp only[wA,seval,reduceCtorEq,reduceIte,d3D,o12,hab,d3B,d7J,d7I,d7H,d7G,a1I,d7D hml,hm,a1D,iV,d6S,hl,Option.getD_none,Option.isSome_none,zVl]
   exact Grow.app _ _
  |some v =>
   simp only[wA,seval,reduceCtorEq,reduceIte,d3D,o12,hab,d3B,d7J,d7I,d7H,d7G,a1I,d7D hml,hm,a1D,iV,d6S,hl,g5T,Option.isSome_some]
   exact Grow.app _ _
 by_cases o13:e.op=13
 ·obtain⟨a,b,hab⟩:=d7K he (.inr (.inr (.inl o13)))
  have hP:f2B e sc=IntKind.i64.wrap ((lkV a.name sc).num - IntKind.i64.wrap b.val):=by unfold f2B;rw[if_neg (by omega),if_neg (by omega),if_pos o13,hab];rfl
  rw[hP]
  unfold lkV
  cases hl:Ky.look a.name sc with
  |none =>
   simp only[wA,seval,reduceCtorEq,reduceIte,d3D,o13,hab,d3B,d7J,d7I,d7H,d7G,a1I,d7D hml,hm,a1D,iV,d6S,hl,Option.getD_none,Option.isSome_none,zVl]
   exact Grow.app _ _
  |some v =>
   simp only[wA,seval,reduceCtorEq,reduceIte,d3D,o13,hab,d3B,d7J,d7I,d7H,d7G,a1I,d7D hml,hm,a1D,iV,d6S,hl,g5T,Option.isSome_some]
   exact Grow.app _ _
 ·have hP:f2B e sc=IntKind.i64.wrap e.val:=by unfold f2B;rw[if_neg o2,if_neg o12,if_neg o13]
  rw[hP]
  simp only[wA,seval,reduceCtorEq,reduceIte,d3D,o2,o12,o13]
  exact Grow.app _ _
end Go.Proofs.YtdjcnfacjfnakaaGreat

/- Contracts: the operators over the field. -/
namespace Go.Proofs.YtdjcnfacjfnakaaGreat
open Go.Pi Go.Lx Go.Ky Go.Lib
variable {gl:Nat→Option (List T)}
def f6U (p a:Int):Int:=if a % p=0 then 0 else p - a % p
def oF (p:Int):Ops:=⟨fun a=>a % p,f6U p,e5U p,fun a b=>e5U p a (f6U p b),e5V p,hash p⟩
theorem f6V {p a:Int} (hp:0 < p):0≤f6U p a∧f6U p a < p:=by
 have h1:=Int.emod_nonneg a (show p≠0 by omega)
 have h2:=Int.emod_lt_of_pos a hp
 unfold f6U
 split <;> omega
theorem f6W {p a:Int} (hk:known p=true) (ha:0≤a) {K:PV→Prop}:XcP F gl 159 [.agg [.int .u64 p],.int .u64 a] K ⟨⟩↔K (.t (.int .u64 (f6U p a))):=by
 refine Ret.iff (Ret.of F159 rfl ?_)
 obtain⟨b1,b2⟩:=e5T hk
 have h1:=Int.emod_nonneg a (show p≠0 by omega)
 have h2:=Int.emod_lt_of_pos a (show 0 < p by omega)
 have hw:IntKind.u64.wrap (p - a % p)=p - a % p:=IntWalk.u64_in _ (by omega)
 have hr:=fun K=>@e6P gl p a hk ha K
 simp only[d0A]
 by_cases c:a % p=0
 ·simp only[wA,seval,reduceCtorEq,reduceIte,hr,c]
  simp [f6U,c]
 ·simp only[wA,seval,reduceCtorEq,reduceIte,hr,c,hw]
  simp [f6U,c]
theorem f6X {p a b:Int} (hk:known p=true) (ha:0≤a) (hb:0≤b) {K:PV→Prop}:XcP F gl 160 [.agg [.int .u64 p],.int .u64 a,.int .u64 b] K ⟨⟩↔K (.t (.int .u64 (e5U p a (f6U p b)))):=by
 refine Ret.iff (Ret.of F160 rfl ?_)
 obtain⟨b1,b2⟩:=e5T hk
 have hr:=fun K=>@f6W gl p b hk hb K
 have hs:=fun K=>@e6A gl p a (f6U p b) ha (f6V (by omega)).1 K
 simp only[d0B]
 simp only[wA,seval,reduceCtorEq,reduceIte,hr,hs]
theorem ab_n {p:Int}:∀ (l:List Int) (s:Tri),stN s→(∀ n,n∈l→0≤n)→stN (ab p s l)
 |[],s,h,_=>by rw[ab];exact h
 |[x],s,h,hl=>by
  rw[ab]
  exact e7B _ _ _ ⟨e6D h.1 (hl x (by simp)),h.2.1,h.2.2⟩
 |x::y::r,s,h,hl=>by
  rw[ab]
  exact ab_n r _ (e7B _ _ _ ⟨e6D h.1 (hl x (by simp)),e6D h.2.1 (hl y (by simp)),h.2.2⟩) (fun n hn=>hl n (by simp [hn]))
theorem f6Y {p v:Int} {l:List Int} (hv:0≤v) (hl:∀ n,n∈l→0≤n):0≤hash p v l:=by
 unfold hash
 split
 ·unfold e7H
  split
  ·exact(e7B _ _ _ (e7I hv)).1
  ·exact(ab_n l _ (e7I hv) hl).1
 ·exact Int.le_refl _
theorem f6Z {p:Int} (hk:known p=true):(oF p).Nn:=by
 obtain⟨b1,b2⟩:=e5T hk
 have hp:0 < p:=by omega
 exact⟨fun a _=>Int.emod_nonneg a (by omega),fun a _=>(f6V hp).1,fun a b ha hb=>e6D ha hb,fun a b ha hb=>e6D ha (f6V hp).1,fun a b ha hb=>e6E ha hb,fun v l hv hl=>f6Y hv hl⟩
end Go.Proofs.YtdjcnfacjfnakaaGreat

/- Contracts: the value of an operator (printed by genu4.py). -/
namespace Go.Proofs.YtdjcnfacjfnakaaGreat
open Go.Pi Go.Lx Go.Ky Go.Lib
variable {gl:Nat→Option (List T)}
theorem f7A {op n v:Int} {nm:Nm} (h:opB op n v nm=true):((op=9∨op=10)→n=1)∧((11≤op∧op≤19)→n=2):=by
 unfold opB at h
 refine⟨fun h1=>?_,fun h1=>?_⟩
 ·repeat' split at h
  all_goals first|(exfalso;omega)|(simp at h;omega)
 ·repeat' split at h
  all_goals first|(exfalso;omega)|(simp at h;omega)
theorem f7B {op n v:Int} {nm:Nm} (h:opB op n v nm=true):1≤op∧op≤20:=by
 unfold opB at h
 repeat' split at h
 all_goals first|omega|cases h
set_option maxHeartbeats 4000000 in
theorem f7C {p:Int} (hk:known p=true) {sg:Sg} {r fm:Nat} {fl:Bool} (hr:sg[r]?=some (false,[.t (.int .u64 p),.mp fm,.t (.bool fl)])) (e:Exp) (hv:0≤e.val) {xs:List Int} (hxs:xs.length=e.args.length) (hnn:∀ n,n∈xs→0≤n) (hB:opB e.op (e.args.length:Int) e.val e.name=true)
  (n2:e.op≠2) (n5:e.op≠5) (n6:e.op≠6) (n7:e.op≠7) (n8:e.op≠8) (n20:e.op≠20) {v:PV} (hvx:xs≠[]→v=.t (.sl false (uL xs))) (ow:Ow) :
  CallE F gl 119 [.lp r 0,.t (.agg (tEx e)),v] sg ow fun x sg' ow'=>x=.t (.int .u64 (f2A (oF p) e.op e.val xs))∧Grow sg sg'∧ow'=ow:=by
 have hrl:=d6P hr
 obtain⟨l1,l2⟩:=f7A hB
 obtain⟨q1,q2⟩:=f7B hB
 obtain⟨b1,b2⟩:=e5T hk
 have hp0:0 < p:=by omega
 refine XcE.of F119 rfl ?_
 simp only[c8Z]
 by_cases o1:e.op=1
 ·have hc:f2A (oF p) e.op e.val xs=e.val % p:=by rw[o1];rfl
  have f1:=fun K=>@e6P gl p e.val hk hv K
  rw[hc]
  simp only[wA,seval,reduceCtorEq,reduceIte,d3D,o1,d7D hrl,hr,d7J,d7I,d7H,d7G,a1I,uL,g4R,g4S,f1]
  try exact Grow.app _ _
 by_cases o3:e.op=3
 ·have hc:f2A (oF p) e.op e.val xs=1:=by rw[o3];rfl
  rw[hc]
  simp only[wA,seval,reduceCtorEq,reduceIte,d3D,o3,d7D hrl,hr,d7J,d7I,d7H,d7G,a1I,uL,g4R,g4S]
  try exact Grow.app _ _
 by_cases o4:e.op=4
 ·have hc:f2A (oF p) e.op e.val xs=0:=by rw[o4];rfl
  rw[hc]
  simp only[wA,seval,reduceCtorEq,reduceIte,d3D,o4,d7D hrl,hr,d7J,d7I,d7H,d7G,a1I,uL,g4R,g4S]
  try exact Grow.app _ _
 by_cases o9:e.op=9
 ·obtain⟨x,rfl⟩:∃ x,xs=[x]:=by
   have h2:xs.length=1:=by have:=l1 (by omega);omega
   match xs,h2 with
   |[x],_=>exact⟨x,rfl⟩
  obtain rfl:=hvx (by simp)
  have hx:=hnn x (by simp)
  have hc:f2A (oF p) e.op e.val [x]=f6U p x:=by rw[o9];rfl
  have f1:=fun K=>@f6W gl p x hk hx K
  rw[hc]
  simp only[wA,seval,reduceCtorEq,reduceIte,d3D,o9,d7D hrl,hr,d7J,d7I,d7H,d7G,a1I,uL,g4R,g4S,f1]
  try exact Grow.app _ _
 by_cases o10:e.op=10
 ·obtain⟨x,rfl⟩:∃ x,xs=[x]:=by
   have h2:xs.length=1:=by have:=l1 (by omega);omega
   match xs,h2 with
   |[x],_=>exact⟨x,rfl⟩
  obtain rfl:=hvx (by simp)
  have hx:=hnn x (by simp)
  have hc:f2A (oF p) e.op e.val [x]=e5U p 1 (f6U p x):=by rw[o10];rfl
  have f1:=fun K=>@f6X gl p 1 x hk (by decide) hx K
  rw[hc]
  simp only[wA,seval,reduceCtorEq,reduceIte,d3D,o10,d7D hrl,hr,d7J,d7I,d7H,d7G,a1I,uL,g4R,g4S,f1]
  try exact Grow.app _ _
 by_cases o11:e.op=11
 ·obtain⟨x,y,rfl⟩:∃ x y,xs=[x,y]:=by
   have h2:xs.length=2:=by have:=l2 (by omega);omega
   match xs,h2 with
   |[x,y],_=>exact⟨x,y,rfl⟩
  obtain rfl:=hvx (by simp)
  have hx:=hnn x (by simp)
  have hy:=hnn y (by simp)
  have hc:f2A (oF p) e.op e.val [x,y]=e5V p x y:=by rw[o11];rfl
  have f1:=fun K=>@e6B gl p x y hx hy K
  rw[hc]
  simp only[wA,seval,reduceCtorEq,reduceIte,d3D,o11,d7D hrl,hr,d7J,d7I,d7H,d7G,a1I,uL,g4R,g4S,f1]
  try exact Grow.app _ _
 by_cases o18:e.op=18
 ·obtain⟨x,y,rfl⟩:∃ x y,xs=[x,y]:=by
   have h2:xs.length=2:=by have:=l2 (by omega);omega
   match xs,h2 with
   |[x,y],_=>exact⟨x,y,rfl⟩
  obtain rfl:=hvx (by simp)
  have hx:=hnn x (by simp)
  have hy:=hnn y (by simp)
  have hc:f2A (oF p) e.op e.val [x,y]=e5V p x y:=by rw[o18];rfl
  have f1:=fun K=>@e6B gl p x y hx hy K
  rw[hc]
  simp only[wA,seval,reduceCtorEq,reduceIte,d3D,o18,d7D hrl,hr,d7J,d7I,d7H,d7G,a1I,uL,g4R,g4S,f1]
  try exact Grow.app _ _
 by_cases o12:e.op=12
 ·obtain⟨x,y,rfl⟩:∃ x y,xs=[x,y]:=by
   have h2:xs.length=2:=by have:=l2 (by omega);omega
   match xs,h2 with
   |[x,y],_=>exact⟨x,y,rfl⟩
  obtain rfl:=hvx (by simp)
  have hx:=hnn x (by simp)
  have hy:=hnn y (by simp)
  have hc:f2A (oF p) e.op e.val [x,y]=e5U p x y:=by rw[o12];rfl
  have f1:=fun K=>@e6A gl p x y hx hy K
  rw[hc]
  simp only[wA,seval,reduceCtorEq,reduceIte,d3D,o12,d7D hrl,hr,d7J,d7I,d7H,d7G,a1I,uL,g4R,g4S,f1]
  try exact Grow.app _ _
 by_cases o13:e.op=13
 ·obtain⟨x,y,rfl⟩:∃ x y,xs=[x,y]:=by
   have h2:xs.length=2:=by have:=l2 (by omega);omega
   match xs,h2 with
   |[x,y],_=>exact⟨x,y,rfl⟩
  obtain rfl:=hvx (by simp)
  have hx:=hnn x (by simp)
  have hy:=hnn y (by simp)
  have hc:f2A (oF p) e.op e.val [x,y]=e5U p x (f6U p y):=by rw[o13];rfl
  have f1:=fun K=>@f6X gl p x y hk hx hy K
  rw[hc]
  simp only[wA,seval,reduceCtorEq,reduceIte,d3D,o13,d7D hrl,hr,d7J,d7I,d7H,d7G,a1I,uL,g4R,g4S,f1]
  try exact Grow.app _ _
 by_cases o19:e.op=19
 ·obtain⟨x,y,rfl⟩:∃ x y,xs=[x,y]:=by
   have h2:xs.length=2:=by have:=l2 (by omega);omega
   match xs,h2 with
   |[x,y],_=>exact⟨x,y,rfl⟩
  obtain rfl:=hvx (by simp)
  have hx:=hnn x (by simp)
  have hy:=hnn y (by simp)
  have hc:f2A (oF p) e.op e.val [x,y]=e5U p (e5U p x y) (f6U p (e5V p x y)):=by rw[o19];rfl
  have f1:=fun K=>@e6A gl p x y hx hy K
  have f2:=fun K=>@e6B gl p x y hx hy K
  have f3:=fun K=>@f6X gl p (e5U p x y) (e5V p x y) hk (e6D hx hy) (e6E hx hy) K
  rw[hc]
  simp only[wA,seval,reduceCtorEq,reduceIte,d3D,o19,d7D hrl,hr,d7J,d7I,d7H,d7G,a1I,uL,g4R,g4S,f1,f2,f3]
  try exact Grow.app _ _
 by_cases o14:e.op=14
 ·obtain⟨x,y,rfl⟩:∃ x y,xs=[x,y]:=by
   have h2:xs.length=2:=by have:=l2 (by omega);omega
   match xs,h2 with
   |[x,y],_=>exact⟨x,y,rfl⟩
  obtain rfl:=hvx (by simp)
  have hx:=hnn x (by simp)
  have hy:=hnn y (by simp)
  have hc:f2A (oF p) e.op e.val [x,y]=Ky.truth (decide (x=y)):=by rw[o14];rfl
  have f1:=fun b K=>@f6M gl b K
  rw[hc]
  simp only[wA,seval,reduceCtorEq,reduceIte,d3D,o14,d7D hrl,hr,d7J,d7I,d7H,d7G,a1I,uL,g4R,g4S,f1]
  try exact Grow.app _ _
 by_cases o15:e.op=15
 ·obtain⟨x,y,rfl⟩:∃ x y,xs=[x,y]:=by
   have h2:xs.length=2:=by have:=l2 (by omega);omega
   match xs,h2 with
   |[x,y],_=>exact⟨x,y,rfl⟩
  obtain rfl:=hvx (by simp)
  have hx:=hnn x (by simp)
  have hy:=hnn y (by simp)
  have hc:f2A (oF p) e.op e.val [x,y]=Ky.truth (decide (x≠y)):=by rw[o15];rfl
  have f1:=fun b K=>@f6M gl b K
  rw[hc]
  simp only[wA,seval,reduceCtorEq,reduceIte,d3D,o15,d7D hrl,hr,d7J,d7I,d7H,d7G,a1I,uL,g4R,g4S,f1]
  try exact Grow.app _ _
  exact⟨by rw[show(!decide (x=y))=decide (x≠y) by simp],Grow.app _ _⟩
 by_cases o16:e.op=16
 ·obtain⟨x,y,rfl⟩:∃ x y,xs=[x,y]:=by
   have h2:xs.length=2:=by have:=l2 (by omega);omega
   match xs,h2 with
   |[x,y],_=>exact⟨x,y,rfl⟩
  obtain rfl:=hvx (by simp)
  have hx:=hnn x (by simp)
  have hy:=hnn y (by simp)
  have hc:f2A (oF p) e.op e.val [x,y]=Ky.truth (decide (x < y)):=by rw[o16];rfl
  have f1:=fun b K=>@f6M gl b K
  rw[hc]
  simp only[wA,seval,reduceCtorEq,reduceIte,d3D,o16,d7D hrl,hr,d7J,d7I,d7H,d7G,a1I,uL,g4R,g4S,f1]
  try exact Grow.app _ _
 by_cases o17:e.op=17
 ·obtain⟨x,y,rfl⟩:∃ x y,xs=[x,y]:=by
   have h2:xs.length=2:=by have:=l2 (by omega);omega
   match xs,h2 with
   |[x,y],_=>exact⟨x,y,rfl⟩
  obtain rfl:=hvx (by simp)
  have hx:=hnn x (by simp)
  have hy:=hnn y (by simp)
  have hc:f2A (oF p) e.op e.val [x,y]=Ky.truth (decide (x≤y)):=by rw[o17];rfl
  have f1:=fun b K=>@f6M gl b K
  rw[hc]
  simp only[wA,seval,reduceCtorEq,reduceIte,d3D,o17,d7D hrl,hr,d7J,d7I,d7H,d7G,a1I,uL,g4R,g4S,f1]
  try exact Grow.app _ _
 exfalso
 omega
end Go.Proofs.YtdjcnfacjfnakaaGreat
