/- Contracts: what the laws call. -/
import Derived.Test.YtdjcnfacjfnakaaGreatK17
import Derived.Test.YtdjcnfacjfnakaaGreatKx19
set_option maxRecDepth 10000
set_option linter.unusedVariables false
set_option linter.unusedSimpArgs false
namespace Go.Proofs.YtdjcnfacjfnakaaGreat
open Go.Pi Go.Lx Go.Ky Go.Lib
variable {gl:Nat->Option (List T)}
structure PgB (p:Pg):Prop where
 ok:PgOk p
 fl:p.funcs.length<=B20
 dl:p.decls.length<=B20
 fs:∀ f,f∈p.funcs->f.params.length<=B20/\d2G f.body<=B20/\szE f.ret<=B20
 bs:d2G p.body<=B20
theorem PgB.st {p:Pg} (h:PgB p) (hv:d3J p=0):PgSt p:=by
 have hb:(p.funcs.all fuB&&p.decls.all deB&&p.body.all stB)=true:=by
  unfold d3J at hv
  cases hc:(p.funcs.all fuB&&p.decls.all deB&&p.body.all stB) with
  |true=>rfl
  |false=>rw[hc] at hv;simp at hv
 simp only[g4S] at hb
 exact⟨h.ok,hb.1.1,hb.2,h.fl,h.dl,h.fs,h.bs⟩
theorem ok37 {p:Pg} (hp:PgB p) {K:PV->Prop}:XcP F gl 37 [.agg (tPg p)] K ⟨⟩↔K (.tup [.t (.int .i64 (d4S p).1),.t (.int .i64 (d4S p).2.1),.t (.int .i64 (d4S p).2.2)]):=by
 refine Ret.iff (Ret.of F37 rfl ?_)
 simp only[c2A]
 have hv:=λK=>@ok61 gl p hp.ok ⟨λf hf=>(hp.fs f hf).2,hp.bs⟩ K
 unfold d4S
 by_cases h0:d3J p=0
 ·rw[if_neg (by simpa using h0)]
  have hs:=hp.st h0
  have hcs:Cs ([(false,[PV.t (.sl p.fnl (p.funcs.map λf=>tFu f)),.t (.sl p.dnl (p.decls.map λf=>tDe f)),.t (.sl p.bnl (d1M p.body))]),(true,[]),(true,[]),(false,[PV.mp 1,.mp 2,.t (.sl true []),.t (.int .i64 0)])]:Sg) 3 1 2 [] [] (.t (.sl true [])) 0:=⟨⟨rfl,rfl,rfl⟩,⟨by simp,.inl ⟨rfl,rfl⟩⟩,by decide⟩
  simp only[wA,seval,hv,h0]
  refine CallE.mono (ok62 hs hcs _) ?_
  rintro v sg' ow' ⟨rfl,hp1⟩
  by_cases h1:(d4J p).1=0
  ·obtain⟨od',hc,hg⟩:=hp1 h1
   have hlk:=d7O hs.fb hs.bb h1
   have hst:=λK=>@ok63 gl p hs hlk.1 hlk.2 K
   have j0:=hg.get (i:=0) (v:=(false,[PV.t (.sl p.fnl (p.funcs.map λf=>tFu f)),.t (.sl p.dnl (p.decls.map λf=>tDe f)),.t (.sl p.bnl (d1M p.body))])) rfl (by omega) (by omega) (by omega) (by rintro⟨l,h⟩;cases h)
   by_cases h2:d4R p > 20000
   ·simp only[wA,seval,h1,hc,j0,hst,h2]
    all_goals simp [h1,h2]
   ·simp only[wA,seval,h1,hc,j0,hst,h2]
    all_goals simp [h1,h2]
  ·simp only[wA,seval,h1]
   all_goals simp [h1]
 ·rw[if_pos (by simpa using h0)]
  simp only[wA,seval,hv,h0]
theorem ok32 {p:Pg} (hp:PgB p) {K:PV->Prop}:XcP F gl 32 [.agg (tPg p)] K ⟨⟩↔K (.t (.int .i64 (d4S p).2.2)):=by
 refine Ret.iff (Ret.of F32 rfl ?_)
 simp only[c1V]
 have he:=λK=>@ok37 gl p hp K
 simp only[wA,seval,he]
theorem e2R {ls:List De} {nl:Bool} (hls:ls.length<=B20) {ow:Ow} (Q:Ex->S->Prop):∀ (l:List De) (i:Nat) (a b:Int) (fr:List PV) (sg:Sg),ls.drop i=l ->
  b6S fr [(4,.t (.int .i64 a)),(5,.t (.int .i64 b)),(13,.t (.sl nl (ls.map λf=>tDe f))),(14,.t (.int .i64 ls.length)),(15,.t (.int .i64 i))] ->
  (∀ fr' sg',b6S fr' [(4,.t (.int .i64 (d7V l a b).1)),(5,.t (.int .i64 (d7V l a b).2))]->Q (.exit 0) ⟨fr',sg',ow⟩) ->
  Xl F gl c1L ⟨fr,sg,ow⟩ Q ⟨⟩:=by
 intro l
 induction l with
 |nil =>
  intro i a b fr sg hd hf k1
  have hd:=b6N hd
  simp only[b6U,b6T] at hf
  obtain⟨f4,f5,f14,f15,f16,-⟩:=hf
  refine Xl.step ?_
  simp only[c1L]
  have c1:¬((i:Int) < (ls.length:Int)):=by omega
  rw[d7V] at k1
  simp only[wA,seval,f4,f5,f14,f15,f16,c1]
  exact k1 _ _ (by simp only[wQ,seval,f4,f5])
 |cons x l ih =>
  intro i a b fr sg hd hf k1
  obtain⟨hx,hr,hi⟩:=b6M hd
  simp only[b6U,b6T] at hf
  obtain⟨f4,f5,f14,f15,f16,-⟩:=hf
  refine Xl.step ?_
  simp only[c1L]
  have c1:(i:Int) < (ls.length:Int):=by omega
  have hw1:=d5F hi (show ls.length<=281474976710656 by have:B20=1100000:=rfl;omega)
  rw[d7V] at k1
  cases hpub:x.pub with
  |true =>
   rw[hpub] at k1
   simp only[wA,seval,f4,f5,f14,f15,f16,c1,hw1,g4Z,hi,g5P,hx,g7F,hpub,mxT]
   exact ih (i+1) _ b _ _ hr (by simp only[wQ,seval,f4,f5,f14,f15];first|done|rfl) k1
  |false =>
   rw[hpub] at k1
   simp only[wA,seval,f4,f5,f14,f15,f16,c1,hw1,g4Z,hi,g5P,hx,g7F,hpub,mxT]
   exact ih (i+1) a _ _ _ hr (by simp only[wQ,seval,f4,f5,f14,f15];first|done|rfl) k1
theorem ok13 {p:Pg} (hp:PgB p) {K:PV->Prop}:XcP F gl 13 [.agg (tPg p)] K ⟨⟩↔K (.tup [.t (.int .i64 (d7W p).1),.t (.int .i64 (d7W p).2)]):=by
 refine Ret.iff (Ret.of F13 rfl ?_)
 simp only[c1M]
 have he:=λK=>@ok32 gl p hp K
 unfold d7W
 by_cases h0:(d4S p).2.2=0
 ·rw[if_neg (by simpa using h0)]
  simp only[wA,seval,he,h0,g5Y]
  refine e2R hp.dl _ p.decls 0 0 0 _ _ rfl (by simp only[wQ,seval];first|done|exact⟨rfl,rfl⟩|rfl) ?_
  intro fr' sg' hf
  simp only[b6U,b6T] at hf
  obtain⟨f4,f5,-⟩:=hf
  simp only[wA,seval,f4,f5]
 ·rw[if_pos (by simpa using h0)]
  simp only[wA,seval,he,h0]
theorem ok47 (n:Int) {K:PV->Prop}:XcP F gl 47 [.agg [.int .u64 n]] K ⟨⟩↔K (.t (.bool (fieldB n))):=by
 refine Ret.iff (Ret.of F47 rfl ?_)
 simp only[c2S]
 unfold fieldB
 by_cases h1:n=18446744069414584321
 ·simp only[wA,seval,h1]
  all_goals simp
 by_cases h2:n=17
 ·simp only[wA,seval,h2]
  all_goals simp
 by_cases h3:n=97
 ·simp only[wA,seval,h3]
  all_goals simp
 by_cases h4:n=193
 ·simp only[wA,seval,h4]
  all_goals simp
 by_cases h5:n=257
 ·simp only[wA,seval,h5]
  all_goals simp
 by_cases h6:n=12289
 ·simp only[wA,seval,h6]
  all_goals simp
 by_cases h7:n=65537
 ·simp only[wA,seval,h7]
  all_goals simp
 simp only[wA,seval,h1,h2,h3,h4,h5,h6,h7]
 all_goals simp
end Go.Proofs.YtdjcnfacjfnakaaGreat

/- Contracts: how much a program holds. -/
namespace Go.Proofs.YtdjcnfacjfnakaaGreat
open Go.Pi Go.Lx Go.Ky Go.Lib
variable {gl:Nat->Option (List T)}
theorem e2S {e:Exp} {lim:Int} (hls:e.args.length<=B20) (hrec:∀ a,a∈e.args->∀ (lim:Int) (K:PV->Prop),XcP F gl 36 [.agg (tEx a),.int .i64 lim] K ⟨⟩↔K (.t (.int .i64 (szM a lim)))) {b2:Nat} {sg:Sg} (h2:sg[b2]?=some (cEx e)) {ow:Ow} (Q:Ex->S->Prop):∀ (l:List Exp) (i:Nat) (n:Int) (fr:List PV),e.args.drop i=l ->
  b6S fr [(1,.t (.int .i64 lim)),(2,.lp b2 0),(5,.t (.int .i64 n)),(6,.t (.int .i64 i))] ->
  (∀ fr',a0A fr' 5=.t (.int .i64 (d7P l lim n))->Q (.exit 0) ⟨fr',sg,ow⟩) ->
  Xl F gl c1Y ⟨fr,sg,ow⟩ Q ⟨⟩:=by
 intro l
 induction l with
 |nil =>
  intro i n fr hd hf k1
  have hd:=b6N hd
  simp only[b6U,b6T] at hf
  obtain⟨f1,f2,f5,f6,-⟩:=hf
  refine Xl.step ?_
  simp only[c1Y]
  have c1:¬((i:Int) < (e.args.length:Int)):=by omega
  rw[d7P] at k1
  simp only[wA,seval,f1,f2,f5,f6,c1,h2,d1K]
  exact k1 _ (by simp only[wQ,seval,f5])
 |cons x l ih =>
  intro i n fr hd hf k1
  obtain⟨hx,hr,hi⟩:=b6M hd
  simp only[b6U,b6T] at hf
  obtain⟨f1,f2,f5,f6,-⟩:=hf
  refine Xl.step ?_
  simp only[c1Y]
  have c1:(i:Int) < (e.args.length:Int):=by omega
  have hw1:=d5F hi (show e.args.length<=281474976710656 by have:B20=1100000:=rfl;omega)
  have hq:=λlim K=>hrec x (g6K hx) lim K
  simp only[d1J] at hq
  rw[d7P] at k1
  by_cases hn:n<=lim
  ·rw[if_pos hn] at k1
   simp only[wA,seval,f1,f2,f5,f6,c1,hw1,h2,d1K,hn,g4Z,hi,d1L,hx,g7F,hq,d1J]
   exact ih (i+1) _ _ hr (by simp only[wQ,seval,f1,f2];first|done|rfl) k1
  ·rw[if_neg hn] at k1
   simp only[wA,seval,f1,f2,f5,f6,c1,hw1,h2,d1K,hn]
   exact k1 _ (by simp only[wQ,seval,f5])
theorem ok36:∀ e,szE e<=B20->∀ (lim:Int) (K:PV->Prop),XcP F gl 36 [.agg (tEx e),.int .i64 lim] K ⟨⟩↔K (.t (.int .i64 (szM e lim))):=by
 refine Exp.ind λe ih hsz lim K=>?_
 have hrec:=λa ha=>ih a ha ((d6A hsz).2 a ha)
 refine Ret.iff (Ret.of F36 rfl ?_)
 simp only[c1Z]
 rw[d7Q]
 simp only[wA,seval,d1J]
 refine e2S (d6A hsz).1 hrec (b2:=0) (sg:=[cEx e]) rfl _ e.args 0 1 _ rfl (by simp only[wQ,seval];first|done|exact⟨rfl,rfl⟩|rfl) ?_
 intro fr' f5
 simp only[wA,seval,f5]
theorem e2T {ls:List St} {nl:Bool} {lim:Int} (hls:ls.length<=B20) (hsz:∀ s,s∈ls->szE s.ex<=B20) (hrec:∀ s,s∈ls->∀ (nl:Bool) (lim:Int) (K:PV->Prop),XcP F gl 35 [.sl nl (d1M s.body),.int .i64 lim] K ⟨⟩↔K (.t (.int .i64 (d7R s.body lim 0)))) {sg:Sg} {ow:Ow} (Q:Ex->S->Prop):∀ (l:List St) (i:Nat) (n:Int) (fr:List PV),ls.drop i=l ->
  b6S fr [(0,.t (.sl nl (d1M ls))),(1,.t (.int .i64 lim)),(5,.t (.int .i64 n)),(6,.t (.int .i64 i))] ->
  (∀ fr',a0A fr' 5=.t (.int .i64 (d7R l lim n))->Q (.exit 0) ⟨fr',sg,ow⟩) ->
  Xl F gl c1W ⟨fr,sg,ow⟩ Q ⟨⟩:=by
 intro l
 induction l with
 |nil =>
  intro i n fr hd hf k1
  have hd:=b6N hd
  simp only[b6U,b6T] at hf
  obtain⟨f1,f2,f5,f6,-⟩:=hf
  refine Xl.step ?_
  simp only[c1W]
  have c1:¬((i:Int) < (ls.length:Int)):=by omega
  rw[d7R] at k1
  simp only[wA,seval,f1,f2,f5,f6,c1,d1P]
  exact k1 _ (by simp only[wQ,seval,f5])
 |cons x l ih =>
  intro i n fr hd hf k1
  obtain⟨hx,hr,hi⟩:=b6M hd
  simp only[b6U,b6T] at hf
  obtain⟨f1,f2,f5,f6,-⟩:=hf
  refine Xl.step ?_
  simp only[c1W]
  have c1:(i:Int) < (ls.length:Int):=by omega
  have hw1:=d5F hi (show ls.length<=281474976710656 by have:B20=1100000:=rfl;omega)
  have hm:=g6K hx
  have hq:=λlim K=>ok36 (gl:=gl) x.ex (hsz x hm) lim K
  have hq2:=λnl lim K=>hrec x hm nl lim K
  simp only[d1J] at hq
  rw[d7R,d7S] at k1
  by_cases hn:n<=lim
  ·rw[if_pos hn] at k1
   simp only[wA,seval,f1,f2,f5,f6,c1,hw1,d1P,hn,g4Z,hi,d1Q,hx,g7F,hq,hq2,d1O]
   exact ih (i+1) _ _ hr (by simp only[wQ,seval,f1,f2];first|done|rfl) k1
  ·rw[if_neg hn] at k1
   simp only[wA,seval,f1,f2,f5,f6,c1,hw1,d1P,hn]
   exact k1 _ (by simp only[wQ,seval,f5])
theorem e2U {ls:List St} (hls:ls.length<=B20) (hsz:∀ s,s∈ls->szE s.ex<=B20) (hrec:∀ s,s∈ls->∀ (nl:Bool) (lim:Int) (K:PV->Prop),XcP F gl 35 [.sl nl (d1M s.body),.int .i64 lim] K ⟨⟩↔K (.t (.int .i64 (d7R s.body lim 0)))) (nl:Bool) (lim:Int) (K:PV->Prop):XcP F gl 35 [.sl nl (d1M ls),.int .i64 lim] K ⟨⟩↔K (.t (.int .i64 (d7R ls lim 0))):=by
 refine Ret.iff (Ret.of F35 rfl ?_)
 simp only[c1X]
 simp only[wA,seval]
 refine e2T hls hsz hrec _ ls 0 0 _ rfl (by simp only[wQ,seval];first|done|exact⟨rfl,rfl⟩|rfl) ?_
 intro fr' f5
 simp only[wA,seval,f5]
theorem e2V:∀ s,szS s<=B20->∀ (nl:Bool) (lim:Int) (K:PV->Prop),XcP F gl 35 [.sl nl (d1M s.body),.int .i64 lim] K ⟨⟩↔K (.t (.int .i64 (d7R s.body lim 0))):=by
 refine St.ind λs ih hsz=>?_
 have hb:=d6L hsz
 exact e2U hb.1 (λx hx=>g6V (d2P x) (hb.2 x hx)) (λx hx=>ih x hx (hb.2 x hx))
theorem ok35 {ls:List St} (h:d2G ls<=B20) (nl:Bool) (lim:Int) {K:PV->Prop}:XcP F gl 35 [.sl nl (d1M ls),.int .i64 lim] K ⟨⟩↔K (.t (.int .i64 (d7R ls lim 0))) :=
 e2U (g6V (d2O _) h) (λx hx=>g6V (d2P x) (g6V (d2M hx) h)) (λx hx=>e2V x (g6V (d2M hx) h)) nl lim K
theorem e2W {p:Pg} (hp:PgB p) {sg:Sg} (h1:sg[0]?=some (false,[PV.t (.sl p.fnl (p.funcs.map λf=>tFu f)),.t (.sl p.dnl (p.decls.map λf=>tDe f)),.t (.sl p.bnl (d1M p.body))])) {ow:Ow} (Q:Ex->S->Prop):∀ (l:List Fu) (i:Nat) (n:Int) (fr:List PV),p.funcs.drop i=l ->
  b6S fr [(1,.lp 0 0),(3,.t (.int .i64 n)),(4,.t (.int .i64 i))] ->
  (∀ fr',b6S fr' [(1,.lp 0 0),(3,.t (.int .i64 (d7T l i n)))]->Q (.exit 0) ⟨fr',sg,ow⟩) ->
  Xl F gl c1E ⟨fr,sg,ow⟩ Q ⟨⟩:=by
 intro l
 induction l with
 |nil =>
  intro i n fr hd hf k1
  have hd:=b6N hd
  simp only[b6U,b6T] at hf
  obtain⟨f1,f3,f4,-⟩:=hf
  refine Xl.step ?_
  simp only[c1E]
  have c1:¬((i:Int) < (p.funcs.length:Int)):=by omega
  rw[d7T] at k1
  simp only[wA,seval,f1,f3,f4,c1,h1,g5Y]
  exact k1 _ (by simp only[wQ,seval,f1,f3])
 |cons x l ih =>
  intro i n fr hd hf k1
  obtain⟨hx,hr,hi⟩:=b6M hd
  simp only[b6U,b6T] at hf
  obtain⟨f1,f3,f4,-⟩:=hf
  refine Xl.step ?_
  simp only[c1E]
  have c1:(i:Int) < (p.funcs.length:Int):=by omega
  have hw1:=d5F hi (show p.funcs.length<=281474976710656 by have:=hp.fl;have:B20=1100000:=rfl;omega)
  obtain⟨x1,x2,x3⟩:=hp.fs x (g6K hx)
  have hq:=λlim K=>ok36 (gl:=gl) x.ret x3 lim K
  have hq2:=λnl lim K=>@ok35 gl x.body x2 nl lim K
  simp only[d1J] at hq
  rw[d7T] at k1
  by_cases h20:(i:Int) < 20
  ·by_cases hn:n<=400
   ·rw[if_pos ⟨by omega,hn⟩] at k1
    simp only[wA,seval,f1,f3,f4,c1,hw1,h1,g5Y,h20,hn,g4Z,hi,g5P,hx,g7F,hq,hq2]
    exact ih (i+1) _ _ hr (by simp only[wQ,seval,f1];first|done|rfl) k1
   ·rw[if_neg (λh=>hn h.2)] at k1
    simp only[wA,seval,f1,f3,f4,c1,hw1,h1,g5Y,h20,hn]
    exact k1 _ (by simp only[wQ,seval,f1,f3])
  ·rw[if_neg (λh=>h20 (by omega))] at k1
   simp only[wA,seval,f1,f3,f4,c1,hw1,h1,g5Y,h20]
   exact k1 _ (by simp only[wQ,seval,f1,f3])
theorem ok10 {p:Pg} (hp:PgB p) {K:PV->Prop}:XcP F gl 10 [.agg (tPg p)] K ⟨⟩↔K (.t (.bool (d7U p))):=by
 refine Ret.iff (Ret.of F10 rfl ?_)
 simp only[c1F]
 have hq2:=λnl lim K=>@ok35 gl p.body hp.bs nl lim K
 unfold d7U
 simp only[wA,seval,hq2]
 refine e2W hp rfl _ p.funcs 0 _ _ rfl (by simp only[wQ,seval];first|done|exact⟨rfl,rfl⟩|rfl) ?_
 intro fr' hf
 simp only[b6U,b6T] at hf
 obtain⟨f1,f3,-⟩:=hf
 generalize d7T p.funcs 0 (d7R p.body 400 0)=n at *
 by_cases a1:n<=400
 ·by_cases a2:(p.funcs.length:Int)<=10
  ·by_cases a3:(p.decls.length:Int)<=20
   ·simp only[wA,seval,f1,f3,a1,a2,a3,g5Y]
    all_goals simp_all
   ·simp only[wA,seval,f1,f3,a1,a2,a3,g5Y]
    all_goals simp_all
  ·simp only[wA,seval,f1,f3,a1,a2,g5Y]
   all_goals simp_all
 ·simp only[wA,seval,f1,f3,a1,g5Y]
  all_goals simp_all
end Go.Proofs.YtdjcnfacjfnakaaGreat
