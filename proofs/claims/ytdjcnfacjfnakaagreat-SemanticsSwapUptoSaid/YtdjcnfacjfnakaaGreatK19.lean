/- Contracts: what the laws call. -/
import Derived.Test.YtdjcnfacjfnakaaGreatK17
import Derived.Test.YtdjcnfacjfnakaaGreatKx19
set_option maxRecDepth 10000
set_option linter.unusedVariables false
set_option linter.unusedSimpArgs false
namespace Go.Proofs.YtdjcnfacjfnakaaGreat
open Go.Pi Go.Lx Go.Ky Go.Lib
variable {gl:Nat→Option (List T)}
structure PgB (p:Pg):Prop where
 ok:PgOk p
 fl:p.funcs.length≤B20
 dl:p.decls.length≤B20
 fs:∀ f,f∈p.funcs→f.params.length≤B20∧d4B f.body≤B20∧szE f.ret≤B20
 bs:d4B p.body≤B20
theorem PgB.st {p:Pg} (h:PgB p) (hv:d5E p=0):PgSt p:=by
 have hb:(p.funcs.all fuB&&p.decls.all deB&&p.body.all stB)=true:=by
  unfold d5E at hv
  cases hc:(p.funcs.all fuB&&p.decls.all deB&&p.body.all stB) with
  |true=>rfl
  |false=>rw[hc] at hv;simp at hv
 simp only[g3C] at hb
 exact⟨h.ok,hb.1.1,hb.2,h.fl,h.dl,h.fs,h.bs⟩
theorem ok37 {p:Pg} (hp:PgB p) {K:PV→Prop}:XcP F gl 37 [.agg (tPg p)] K ⟨⟩↔K (.tup [.t (.int .i64 (d6N p).1),.t (.int .i64 (d6N p).2.1),.t (.int .i64 (d6N p).2.2)]):=by
 refine Ret.iff (Ret.of F37 rfl ?_)
 simp only[c5B]
 have hv:=fun K=>@ok61 gl p hp.ok ⟨fun f hf=>(hp.fs f hf).2,hp.bs⟩ K
 unfold d6N
 by_cases h0:d5E p=0
 ·rw[if_neg (by simpa using h0)]
  have hs:=hp.st h0
  have hcs:Cs ([(false,[PV.t (.sl p.fnl (p.funcs.map fun f=>tFu f)),.t (.sl p.dnl (p.decls.map fun f=>tDe f)),.t (.sl p.bnl (d3G p.body))]),(true,[]),(true,[]),(false,[PV.mp 1,.mp 2,.t (.sl true []),.t (.int .i64 0)])]:Sg) 3 1 2 [] [] (.t (.sl true [])) 0:=⟨⟨rfl,rfl,rfl⟩,⟨by simp,.inl ⟨rfl,rfl⟩⟩,by decide⟩
  simp only[wA,seval,reduceCtorEq,reduceIte,hv,h0]
  refine CallE.mono (ok62 hs hcs _) ?_
  rintro v sg' ow' ⟨rfl,hp1⟩
  by_cases h1:(d6E p).1=0
  ·obtain⟨od',hc,hg⟩:=hp1 h1
   have hlk:=d9H hs.fb hs.bb h1
   have hst:=fun K=>@ok63 gl p hs hlk.1 hlk.2 K
   have j0:=hg.get (i:=0) (v:=(false,[PV.t (.sl p.fnl (p.funcs.map fun f=>tFu f)),.t (.sl p.dnl (p.decls.map fun f=>tDe f)),.t (.sl p.bnl (d3G p.body))])) rfl (by omega) (by omega) (by omega) (by rintro⟨l,h⟩;cases h)
   by_cases h2:d6M p > 20000
   ·simp only[wA,seval,reduceCtorEq,reduceIte,h1,hc,j0,hst,h2]
    all_goals simp [h1,h2]
   ·simp only[wA,seval,reduceCtorEq,reduceIte,h1,hc,j0,hst,h2]
    all_goals simp [h1,h2]
  ·simp only[wA,seval,reduceCtorEq,reduceIte,h1]
   all_goals simp [h1]
 ·rw[if_pos (by simpa using h0)]
  simp only[wA,seval,reduceCtorEq,reduceIte,hv,h0]
theorem ok32 {p:Pg} (hp:PgB p) {K:PV→Prop}:XcP F gl 32 [.agg (tPg p)] K ⟨⟩↔K (.t (.int .i64 (d6N p).2.2)):=by
 refine Ret.iff (Ret.of F32 rfl ?_)
 simp only[c4W]
 have he:=fun K=>@ok37 gl p hp K
 simp only[wA,seval,reduceCtorEq,reduceIte,he]
theorem e5F {ls:List De} {nl:Bool} (hls:ls.length≤B20) {ow:Ow} (Q:Ex→S→Prop):∀ (l:List De) (i:Nat) (a b:Int) (fr:List PV) (sg:Sg),ls.drop i=l →
  b9J fr [(4,.t (.int .i64 a)),(5,.t (.int .i64 b)),(13,.t (.sl nl (ls.map fun f=>tDe f))),(14,.t (.int .i64 ls.length)),(15,.t (.int .i64 i))] →
  (∀ fr' sg',b9J fr' [(4,.t (.int .i64 (d9O l a b).1)),(5,.t (.int .i64 (d9O l a b).2))]→Q (.exit 0) ⟨fr',sg',ow⟩) →
  Xl F gl c4K ⟨fr,sg,ow⟩ Q ⟨⟩:=by
 intro l
 induction l with
 |nil =>
  intro i a b fr sg hd hf k1
  have hd:=b9E hd
  simp only[b9L,b9K] at hf
  obtain⟨f4,f5,f14,f15,f16,-⟩:=hf
  refine Xl.step ?_
  simp only[c4K]
  have c1:¬((i:Int) < (ls.length:Int)):=by omega
  rw[d9O] at k1
  simp only[wA,seval,reduceCtorEq,reduceIte,f4,f5,f14,f15,f16,c1]
  exact k1 _ _ (by simp only[wQ,Nat.reduceEqDiff,reduceIte,f4,f5])
 |cons x l ih =>
  intro i a b fr sg hd hf k1
  obtain⟨hx,hr,hi⟩:=b9D hd
  simp only[b9L,b9K] at hf
  obtain⟨f4,f5,f14,f15,f16,-⟩:=hf
  refine Xl.step ?_
  simp only[c4K]
  have c1:(i:Int) < (ls.length:Int):=by omega
  have hw1:=d7A hi (show ls.length≤281474976710656 by have:B20=1100000:=rfl;omega)
  rw[d9O] at k1
  cases hpub:x.pub with
  |true =>
   rw[hpub] at k1
   simp only[wA,seval,reduceCtorEq,reduceIte,f4,f5,f14,f15,f16,c1,hw1,g3K,hi,g4B,hx,g5V,hpub,mxT]
   exact ih (i+1) _ b _ _ hr (by simp only[wQ,Nat.reduceEqDiff,reduceIte,f4,f5,f14,f15];first|done|rfl) k1
  |false =>
   rw[hpub] at k1
   simp only[wA,seval,reduceCtorEq,reduceIte,f4,f5,f14,f15,f16,c1,hw1,g3K,hi,g4B,hx,g5V,hpub,mxT]
   exact ih (i+1) a _ _ _ hr (by simp only[wQ,Nat.reduceEqDiff,reduceIte,f4,f5,f14,f15];first|done|rfl) k1
theorem ok13 {p:Pg} (hp:PgB p) {K:PV→Prop}:XcP F gl 13 [.agg (tPg p)] K ⟨⟩↔K (.tup [.t (.int .i64 (d9P p).1),.t (.int .i64 (d9P p).2)]):=by
 refine Ret.iff (Ret.of F13 rfl ?_)
 simp only[c4L]
 have he:=fun K=>@ok32 gl p hp K
 unfold d9P
 by_cases h0:(d6N p).2.2=0
 ·rw[if_neg (by simpa using h0)]
  simp only[wA,seval,reduceCtorEq,reduceIte,he,h0,g4L]
  refine e5F hp.dl _ p.decls 0 0 0 _ _ rfl (by simp only[wQ,Nat.reduceEqDiff,reduceIte];first|done|exact⟨rfl,rfl⟩|rfl) ?_
  intro fr' sg' hf
  simp only[b9L,b9K] at hf
  obtain⟨f4,f5,-⟩:=hf
  simp only[wA,seval,reduceCtorEq,reduceIte,f4,f5]
 ·rw[if_pos (by simpa using h0)]
  simp only[wA,seval,reduceCtorEq,reduceIte,he,h0]
theorem ok47 (n:Int) {K:PV→Prop}:XcP F gl 47 [.agg [.int .u64 n]] K ⟨⟩↔K (.t (.bool (fieldB n))):=by
 refine Ret.iff (Ret.of F47 rfl ?_)
 simp only[c5T]
 unfold fieldB
 by_cases h1:n=18446744069414584321
 ·simp only[wA,seval,reduceCtorEq,reduceIte,h1]
  all_goals simp
 by_cases h2:n=17
 ·simp only[wA,seval,reduceCtorEq,reduceIte,h2]
  all_goals simp
 by_cases h3:n=97
 ·simp only[wA,seval,reduceCtorEq,reduceIte,h3]
  all_goals simp
 by_cases h4:n=193
 ·simp only[wA,seval,reduceCtorEq,reduceIte,h4]
  all_goals simp
 by_cases h5:n=257
 ·simp only[wA,seval,reduceCtorEq,reduceIte,h5]
  all_goals simp
 by_cases h6:n=12289
 ·simp only[wA,seval,reduceCtorEq,reduceIte,h6]
  all_goals simp
 by_cases h7:n=65537
 ·simp only[wA,seval,reduceCtorEq,reduceIte,h7]
  all_goals simp
 simp only[wA,seval,reduceCtorEq,reduceIte,h1,h2,h3,h4,h5,h6,h7]
 all_goals simp
theorem ok83 (n:Nm) {K:PV→Prop}:XcP F gl 83 [.str n] K ⟨⟩↔K (.t (.agg (tEx (.mk 2 0 n true [])))):=by
 refine Ret.iff (Ret.of F83 rfl ?_)
 simp only[c7L]
 simp only[wA,seval,reduceCtorEq,reduceIte,d3D]
 rfl
theorem ok52 (n:Int) {K:PV→Prop}:XcP F gl 52 [.int .u64 n] K ⟨⟩↔K (.t (.agg (tEx (.mk 1 n [] true [])))):=by
 refine Ret.iff (Ret.of F52 rfl ?_)
 simp only[c5X]
 simp only[wA,seval,reduceCtorEq,reduceIte,d3D]
 rfl
theorem ok19 (e:Exp) {K:PV→Prop}:XcP F gl 19 [.agg (tEx e)] K ⟨⟩↔K (.t (.agg (tSt (.mk 2 [] false zTy e 0 0 true [])))):=by
 refine Ret.iff (Ret.of F19 rfl ?_)
 simp only[c4Q]
 simp only[wA,seval,reduceCtorEq,reduceIte,d3D,d3I]
 rfl
end Go.Proofs.YtdjcnfacjfnakaaGreat

/- Contracts: how much a program holds. -/
namespace Go.Proofs.YtdjcnfacjfnakaaGreat
open Go.Pi Go.Lx Go.Ky Go.Lib
variable {gl:Nat→Option (List T)}
theorem e5G {e:Exp} {lim:Int} (hls:e.args.length≤B20) (hrec:∀ a,a∈e.args→∀ (lim:Int) (K:PV→Prop),XcP F gl 36 [.agg (tEx a),.int .i64 lim] K ⟨⟩↔K (.t (.int .i64 (szM a lim)))) {b2:Nat} {sg:Sg} (h2:sg[b2]?=some (cEx e)) {ow:Ow} (Q:Ex→S→Prop):∀ (l:List Exp) (i:Nat) (n:Int) (fr:List PV),e.args.drop i=l →
  b9J fr [(1,.t (.int .i64 lim)),(2,.lp b2 0),(5,.t (.int .i64 n)),(6,.t (.int .i64 i))] →
  (∀ fr',a0A fr' 5=.t (.int .i64 (d9I l lim n))→Q (.exit 0) ⟨fr',sg,ow⟩) →
  Xl F gl c4Z ⟨fr,sg,ow⟩ Q ⟨⟩:=by
 intro l
 induction l with
 |nil =>
  intro i n fr hd hf k1
  have hd:=b9E hd
  simp only[b9L,b9K] at hf
  obtain⟨f1,f2,f5,f6,-⟩:=hf
  refine Xl.step ?_
  simp only[c4Z]
  have c1:¬((i:Int) < (e.args.length:Int)):=by omega
  rw[d9I] at k1
  simp only[wA,seval,reduceCtorEq,reduceIte,f1,f2,f5,f6,c1,h2,d3E]
  exact k1 _ (by simp only[wQ,Nat.reduceEqDiff,reduceIte,f5])
 |cons x l ih =>
  intro i n fr hd hf k1
  obtain⟨hx,hr,hi⟩:=b9D hd
  simp only[b9L,b9K] at hf
  obtain⟨f1,f2,f5,f6,-⟩:=hf
  refine Xl.step ?_
  simp only[c4Z]
  have c1:(i:Int) < (e.args.length:Int):=by omega
  have hw1:=d7A hi (show e.args.length≤281474976710656 by have:B20=1100000:=rfl;omega)
  have hq:=fun lim K=>hrec x (g4Y hx) lim K
  simp only[d3D] at hq
  rw[d9I] at k1
  by_cases hn:n≤lim
  ·rw[if_pos hn] at k1
   simp only[wA,seval,reduceCtorEq,reduceIte,f1,f2,f5,f6,c1,hw1,h2,d3E,hn,g3K,hi,d3F,hx,g5V,hq,d3D]
   exact ih (i+1) _ _ hr (by simp only[wQ,Nat.reduceEqDiff,reduceIte,f1,f2];first|done|rfl) k1
  ·rw[if_neg hn] at k1
   simp only[wA,seval,reduceCtorEq,reduceIte,f1,f2,f5,f6,c1,hw1,h2,d3E,hn]
   exact k1 _ (by simp only[wQ,Nat.reduceEqDiff,reduceIte,f5])
theorem ok36:∀ e,szE e≤B20→∀ (lim:Int) (K:PV→Prop),XcP F gl 36 [.agg (tEx e),.int .i64 lim] K ⟨⟩↔K (.t (.int .i64 (szM e lim))):=by
 refine Exp.ind fun e ih hsz lim K=>?_
 have hrec:=fun a ha=>ih a ha ((d7T hsz).2 a ha)
 refine Ret.iff (Ret.of F36 rfl ?_)
 simp only[c5A]
 rw[d9J]
 simp only[wA,seval,reduceCtorEq,reduceIte,d3D]
 refine e5G (d7T hsz).1 hrec (b2:=0) (sg:=[cEx e]) rfl _ e.args 0 1 _ rfl (by simp only[wQ,Nat.reduceEqDiff,reduceIte];first|done|exact⟨rfl,rfl⟩|rfl) ?_
 intro fr' f5
 simp only[wA,seval,reduceCtorEq,reduceIte,f5]
theorem e5H {ls:List St} {nl:Bool} {lim:Int} (hls:ls.length≤B20) (hsz:∀ s,s∈ls→szE s.ex≤B20) (hrec:∀ s,s∈ls→∀ (nl:Bool) (lim:Int) (K:PV→Prop),XcP F gl 35 [.sl nl (d3G s.body),.int .i64 lim] K ⟨⟩↔K (.t (.int .i64 (d9K s.body lim 0)))) {sg:Sg} {ow:Ow} (Q:Ex→S→Prop):∀ (l:List St) (i:Nat) (n:Int) (fr:List PV),ls.drop i=l →
  b9J fr [(0,.t (.sl nl (d3G ls))),(1,.t (.int .i64 lim)),(5,.t (.int .i64 n)),(6,.t (.int .i64 i))] →
  (∀ fr',a0A fr' 5=.t (.int .i64 (d9K l lim n))→Q (.exit 0) ⟨fr',sg,ow⟩) →
  Xl F gl c4X ⟨fr,sg,ow⟩ Q ⟨⟩:=by
 intro l
 induction l with
 |nil =>
  intro i n fr hd hf k1
  have hd:=b9E hd
  simp only[b9L,b9K] at hf
  obtain⟨f1,f2,f5,f6,-⟩:=hf
  refine Xl.step ?_
  simp only[c4X]
  have c1:¬((i:Int) < (ls.length:Int)):=by omega
  rw[d9K] at k1
  simp only[wA,seval,reduceCtorEq,reduceIte,f1,f2,f5,f6,c1,d3J]
  exact k1 _ (by simp only[wQ,Nat.reduceEqDiff,reduceIte,f5])
 |cons x l ih =>
  intro i n fr hd hf k1
  obtain⟨hx,hr,hi⟩:=b9D hd
  simp only[b9L,b9K] at hf
  obtain⟨f1,f2,f5,f6,-⟩:=hf
  refine Xl.step ?_
  simp only[c4X]
  have c1:(i:Int) < (ls.length:Int):=by omega
  have hw1:=d7A hi (show ls.length≤281474976710656 by have:B20=1100000:=rfl;omega)
  have hm:=g4Y hx
  have hq:=fun lim K=>ok36 (gl:=gl) x.ex (hsz x hm) lim K
  have hq2:=fun nl lim K=>hrec x hm nl lim K
  simp only[d3D] at hq
  rw[d9K,d9L] at k1
  by_cases hn:n≤lim
  ·rw[if_pos hn] at k1
   simp only[wA,seval,reduceCtorEq,reduceIte,f1,f2,f5,f6,c1,hw1,d3J,hn,g3K,hi,d3K,hx,g5V,hq,hq2,d3I]
   exact ih (i+1) _ _ hr (by simp only[wQ,Nat.reduceEqDiff,reduceIte,f1,f2];first|done|rfl) k1
  ·rw[if_neg hn] at k1
   simp only[wA,seval,reduceCtorEq,reduceIte,f1,f2,f5,f6,c1,hw1,d3J,hn]
   exact k1 _ (by simp only[wQ,Nat.reduceEqDiff,reduceIte,f5])
theorem e5I {ls:List St} (hls:ls.length≤B20) (hsz:∀ s,s∈ls→szE s.ex≤B20) (hrec:∀ s,s∈ls→∀ (nl:Bool) (lim:Int) (K:PV→Prop),XcP F gl 35 [.sl nl (d3G s.body),.int .i64 lim] K ⟨⟩↔K (.t (.int .i64 (d9K s.body lim 0)))) (nl:Bool) (lim:Int) (K:PV→Prop):XcP F gl 35 [.sl nl (d3G ls),.int .i64 lim] K ⟨⟩↔K (.t (.int .i64 (d9K ls lim 0))):=by
 refine Ret.iff (Ret.of F35 rfl ?_)
 simp only[c4Y]
 simp only[wA,seval,reduceCtorEq,reduceIte]
 refine e5H hls hsz hrec _ ls 0 0 _ rfl (by simp only[wQ,Nat.reduceEqDiff,reduceIte];first|done|exact⟨rfl,rfl⟩|rfl) ?_
 intro fr' f5
 simp only[wA,seval,reduceCtorEq,reduceIte,f5]
theorem e5J:∀ s,szS s≤B20→∀ (nl:Bool) (lim:Int) (K:PV→Prop),XcP F gl 35 [.sl nl (d3G s.body),.int .i64 lim] K ⟨⟩↔K (.t (.int .i64 (d9K s.body lim 0))):=by
 refine St.ind fun s ih hsz=>?_
 have hb:=d8E hsz
 exact e5I hb.1 (fun x hx=>g5L (d4K x) (hb.2 x hx)) (fun x hx=>ih x hx (hb.2 x hx))
theorem ok35 {ls:List St} (h:d4B ls≤B20) (nl:Bool) (lim:Int) {K:PV→Prop}:XcP F gl 35 [.sl nl (d3G ls),.int .i64 lim] K ⟨⟩↔K (.t (.int .i64 (d9K ls lim 0))) :=
 e5I (g5L (d4J _) h) (fun x hx=>g5L (d4K x) (g5L (d4H hx) h)) (fun x hx=>e5J x (g5L (d4H hx) h)) nl lim K
theorem e5K {p:Pg} (hp:PgB p) {sg:Sg} (h1:sg[0]?=some (false,[PV.t (.sl p.fnl (p.funcs.map fun f=>tFu f)),.t (.sl p.dnl (p.decls.map fun f=>tDe f)),.t (.sl p.bnl (d3G p.body))])) {ow:Ow} (Q:Ex→S→Prop):∀ (l:List Fu) (i:Nat) (n:Int) (fr:List PV),p.funcs.drop i=l →
  b9J fr [(1,.lp 0 0),(3,.t (.int .i64 n)),(4,.t (.int .i64 i))] →
  (∀ fr',b9J fr' [(1,.lp 0 0),(3,.t (.int .i64 (d9M l i n)))]→Q (.exit 0) ⟨fr',sg,ow⟩) →
  Xl F gl c4D ⟨fr,sg,ow⟩ Q ⟨⟩:=by
 intro l
 induction l with
 |nil =>
  intro i n fr hd hf k1
  have hd:=b9E hd
  simp only[b9L,b9K] at hf
  obtain⟨f1,f3,f4,-⟩:=hf
  refine Xl.step ?_
  simp only[c4D]
  have c1:¬((i:Int) < (p.funcs.length:Int)):=by omega
  rw[d9M] at k1
  simp only[wA,seval,reduceCtorEq,reduceIte,f1,f3,f4,c1,h1,g4L]
  exact k1 _ (by simp only[wQ,Nat.reduceEqDiff,reduceIte,f1,f3])
 |cons x l ih =>
  intro i n fr hd hf k1
  obtain⟨hx,hr,hi⟩:=b9D hd
  simp only[b9L,b9K] at hf
  obtain⟨f1,f3,f4,-⟩:=hf
  refine Xl.step ?_
  simp only[c4D]
  have c1:(i:Int) < (p.funcs.length:Int):=by omega
  have hw1:=d7A hi (show p.funcs.length≤281474976710656 by have:=hp.fl;have:B20=1100000:=rfl;omega)
  obtain⟨x1,x2,x3⟩:=hp.fs x (g4Y hx)
  have hq:=fun lim K=>ok36 (gl:=gl) x.ret x3 lim K
  have hq2:=fun nl lim K=>@ok35 gl x.body x2 nl lim K
  simp only[d3D] at hq
  rw[d9M] at k1
  by_cases h20:(i:Int) < 20
  ·by_cases hn:n≤400
   ·rw[if_pos ⟨by omega,hn⟩] at k1
    simp only[wA,seval,reduceCtorEq,reduceIte,f1,f3,f4,c1,hw1,h1,g4L,h20,hn,g3K,hi,g4B,hx,g5V,hq,hq2]
    exact ih (i+1) _ _ hr (by simp only[wQ,Nat.reduceEqDiff,reduceIte,f1];first|done|rfl) k1
   ·rw[if_neg (fun h=>hn h.2)] at k1
    simp only[wA,seval,reduceCtorEq,reduceIte,f1,f3,f4,c1,hw1,h1,g4L,h20,hn]
    exact k1 _ (by simp only[wQ,Nat.reduceEqDiff,reduceIte,f1,f3])
  ·rw[if_neg (fun h=>h20 (by omega))] at k1
   simp only[wA,seval,reduceCtorEq,reduceIte,f1,f3,f4,c1,hw1,h1,g4L,h20]
   exact k1 _ (by simp only[wQ,Nat.reduceEqDiff,reduceIte,f1,f3])
theorem ok10 {p:Pg} (hp:PgB p) {K:PV→Prop}:XcP F gl 10 [.agg (tPg p)] K ⟨⟩↔K (.t (.bool (d9N p))):=by
 refine Ret.iff (Ret.of F10 rfl ?_)
 simp only[c4E]
 have hq2:=fun nl lim K=>@ok35 gl p.body hp.bs nl lim K
 unfold d9N
 simp only[wA,seval,reduceCtorEq,reduceIte,hq2]
 refine e5K hp rfl _ p.funcs 0 _ _ rfl (by simp only[wQ,Nat.reduceEqDiff,reduceIte];first|done|exact⟨rfl,rfl⟩|rfl) ?_
 intro fr' hf
 simp only[b9L,b9K] at hf
 obtain⟨f1,f3,-⟩:=hf
 generalize d9M p.funcs 0 (d9K p.body 400 0)=n at *
 by_cases a1:n≤400
 ·by_cases a2:(p.funcs.length:Int)≤10
  ·by_cases a3:(p.decls.length:Int)≤20
   ·simp only[wA,seval,reduceCtorEq,reduceIte,f1,f3,a1,a2,a3,g4L]
    all_goals simp_all
   ·simp only[wA,seval,reduceCtorEq,reduceIte,f1,f3,a1,a2,a3,g4L]
    all_goals simp_all
  ·simp only[wA,seval,reduceCtorEq,reduceIte,f1,f3,a1,a2,g4L]
   all_goals simp_all
 ·simp only[wA,seval,reduceCtorEq,reduceIte,f1,f3,a1,g4L]
  all_goals simp_all
end Go.Proofs.YtdjcnfacjfnakaaGreat
