/- The reference: valid programs. -/
import Derived.Test.YtdjcnfacjfnakaaGreatQ5
import Derived.Test.YtdjcnfacjfnakaaGreatKx19
import Derived.Test.YtdjcnfacjfnakaaGreatKx27
set_option maxRecDepth 10000
set_option linter.unusedVariables false
set_option linter.unusedSimpArgs false
namespace Go.Proofs.YtdjcnfacjfnakaaGreat
open Go.Pi Go.Lx Go.Ky
variable {gl:Nat→Option (List T)}
theorem f8R {ls:List St} {nl:Bool} (hls:ls.length≤B20) {lim:Nat} (hrec:∀ s,s∈ls→∀ K:PV→Prop,XcP F gl 112 [.agg (tSt s),.int .i64 (lim:Int)] K ⟨⟩↔K (.t (.bool (dpS s lim)))) {sg:Sg} {ow:Ow} (Q:Ex→S→Prop):∀ (l:List St) (i:Nat) (fr:List PV),ls.drop i=l →
  b9J fr [(0,.t (.sl nl (d3G ls))),(1,.t (.int .i64 lim)),(5,.t (.int .i64 i))] →
  (e1C l lim=false→∀ fr',Q (.exit 0) ⟨fr',sg,ow⟩)→(e1C l lim=true→∀ fr',a0A fr' 4=.t (.bool true)→Q .ret ⟨fr',sg,ow⟩) →
  Xl F gl c6O ⟨fr,sg,ow⟩ Q ⟨⟩:=by
 intro l
 induction l with
 |nil =>
  intro i fr hd hf k1 k2
  have hd:=b9E hd
  simp only[b9L,b9K] at hf
  obtain⟨f0,f1,f5,-⟩:=hf
  refine Xl.step ?_
  simp only[c6O]
  have c1:¬((i:Int) < (ls.length:Int)):=by omega
  simp only[wA,seval,reduceCtorEq,reduceIte,f0,f1,f5,c1,d3J]
  exact k1 (by rw[e1C]) _
 |cons x l ih =>
  intro i fr hd hf k1 k2
  obtain⟨hx,hr,hi⟩:=b9D hd
  simp only[b9L,b9K] at hf
  obtain⟨f0,f1,f5,-⟩:=hf
  refine Xl.step ?_
  simp only[c6O]
  have c1:(i:Int) < (ls.length:Int):=by omega
  have hb:B20=1100000:=rfl
  have hw1:=d7A hi (show ls.length≤281474976710656 by omega)
  have hq:=fun K=>hrec x (g4Y hx) K
  simp only[d3I] at hq
  rw[e1C] at k1 k2
  cases hxb:dpS x lim with
  |false =>
   rw[hxb,Bool.false_or] at k1 k2
   simp only[wA,seval,reduceCtorEq,reduceIte,f0,f1,f5,c1,hw1,d3J,g3K,hi,d3K,hx,g5V,hq,d3I,hxb]
   exact ih (i+1) _ hr (by simp only[wQ,Nat.reduceEqDiff,reduceIte,f0,f1]) k1 k2
  |true =>
   rw[hxb,Bool.true_or] at k1 k2
   simp only[wA,seval,reduceCtorEq,reduceIte,f0,f1,f5,c1,hw1,d3J,g3K,hi,d3K,hx,g5V,hq,d3I,hxb]
   exact k2 rfl _ (by simp only[wQ,Nat.reduceEqDiff,reduceIte])
theorem f8S {ls:List St} (hls:ls.length≤B20) {lim:Nat} (hrec:∀ s,s∈ls→∀ K:PV→Prop,XcP F gl 112 [.agg (tSt s),.int .i64 (lim:Int)] K ⟨⟩↔K (.t (.bool (dpS s lim)))) (nl:Bool) (K:PV→Prop):XcP F gl 68 [.sl nl (d3G ls),.int .i64 (lim:Int)] K ⟨⟩↔K (.t (.bool (e1C ls lim))):=by
 refine Ret.iff (Ret.of F68 rfl ?_)
 simp only[c6P]
 simp only[wA,seval,reduceCtorEq,reduceIte]
 refine f8R hls hrec _ ls 0 _ rfl (by simp only[wQ,Nat.reduceEqDiff,reduceIte];first|done|exact⟨rfl,rfl⟩|rfl) ?_ ?_
 ·intro h fr'
  simp only[wA,seval,reduceCtorEq,reduceIte]
  rw[h]
 ·intro h fr' f2
  simp only[wA,seval,reduceCtorEq,reduceIte,f2]
  rw[h]
theorem f8T:∀ s,szS s≤B20→∀ (lim:Nat),lim≤100→∀ K:PV→Prop,XcP F gl 112 [.agg (tSt s),.int .i64 (lim:Int)] K ⟨⟩↔K (.t (.bool (dpS s lim))):=by
 refine St.ind fun s ih hsz lim hl K=>?_
 have hbd:=d8E hsz
 refine Ret.iff (Ret.of F112 rfl ?_)
 simp only[c8P]
 have hD:=fun K=>ok69 (gl:=gl) s.ex (g5L (d4K s) hsz) K
 simp only[d3D] at hD
 rw[e1D]
 by_cases h0:(lim:Int)=0
 ·have h0':lim=0:=by omega
  simp only[wA,seval,reduceCtorEq,reduceIte,d3I,h0]
  all_goals simp [h0']
 have h0':¬lim=0:=by omega
 have hw:IntKind.i64.wrap ((lim:Int) - 1)=((lim - 1:Nat):Int):=by rw[d9C (by omega) (by omega)];omega
 have hY:=fun nl K=>f8S (gl:=gl) hbd.1 (lim:=lim - 1) (fun a ha=>ih a ha (hbd.2 a ha) (lim - 1) (by omega)) nl K
 by_cases h3:s.kind=3
 ·simp only[wA,seval,reduceCtorEq,reduceIte,d3I,h0,h3,hw,hY]
  all_goals simp [h0',h3]
 ·by_cases h4:((dEx s.ex:Nat):Int) > 40
  ·simp only[wA,seval,reduceCtorEq,reduceIte,d3I,h0,h3,hD,h4]
   all_goals simp [h0',h3,h4]
  ·simp only[wA,seval,reduceCtorEq,reduceIte,d3I,h0,h3,hD,h4,hw,hY]
   all_goals simp [h0',h3,h4]
theorem ok68 {ls:List St} (h:d4B ls≤B20) {lim:Nat} (hl:lim≤100) (nl:Bool) (K:PV→Prop):XcP F gl 68 [.sl nl (d3G ls),.int .i64 (lim:Int)] K ⟨⟩↔K (.t (.bool (e1C ls lim))) :=
 f8S (g5L (d4J _) h) (fun s hs=>f8T s (g5L (d4H hs) h) lim hl) nl K
end Go.Proofs.YtdjcnfacjfnakaaGreat

/- The reference: valid functions, valid programs. -/
namespace Go.Proofs.YtdjcnfacjfnakaaGreat
open Go.Pi Go.Lx Go.Ky
variable {gl:Nat→Option (List T)}
theorem f8U {f:Fu} (hok:FuOk f) (hls:f.params.length≤B20) {sg:Sg} (h1:sg[0]?=some (false,[.t (.str f.name),.t (.sl f.pnl (f.params.map tPa)),.t (.int .i64 f.res.kind),.t (.int .i64 f.res.bits),.t (.int .i64 f.res.len),.t (.sl f.bnl (d3G f.body)),.t (.int .i64 f.ret.op),.t (.int .u64 f.ret.val),.t (.str f.ret.name),.t (.sl f.ret.nl (d3B f.ret.args))])) {ow:Ow} (Q:Ex→S→Prop):∀ (l:List Pa) (i:Nat) (fr:List PV),f.params.drop i=l →
  b9J fr [(1,.lp 0 0),(3,.t (.int .i64 i))] →
  (l.all paB=true→∀ fr',a0A fr' 1=.lp 0 0→Q (.exit 0) ⟨fr',sg,ow⟩)→(l.all paB=false→∀ fr',a0A fr' 2=.t (.bool false)→Q .ret ⟨fr',sg,ow⟩) →
  Xl F gl c6H ⟨fr,sg,ow⟩ Q ⟨⟩:=by
 intro l
 induction l with
 |nil =>
  intro i fr hd hf k1 k2
  have hd:=b9E hd
  simp only[b9L,b9K] at hf
  obtain⟨f1,f3,-⟩:=hf
  refine Xl.step ?_
  simp only[c6H]
  have c1:¬((i:Int) < (f.params.length:Int)):=by omega
  simp only[wA,seval,reduceCtorEq,reduceIte,f1,f3,c1,h1,g4L]
  exact k1 rfl _ (by simp only[wQ,Nat.reduceEqDiff,reduceIte,f1])
 |cons x l ih =>
  intro i fr hd hf k1 k2
  obtain⟨hx,hr,hi⟩:=b9D hd
  simp only[b9L,b9K] at hf
  obtain⟨f1,f3,-⟩:=hf
  refine Xl.step ?_
  simp only[c6H]
  have c1:(i:Int) < (f.params.length:Int):=by omega
  have hb:B20=1100000:=rfl
  have hw1:=d7A hi (show f.params.length≤281474976710656 by omega)
  have hp:=hok.pa x (g4Y hx)
  have hN:=fun K=>@f8E gl x.name hp.1 K
  have hT:=fun K=>@f8G gl x.ty K
  have hall:(x::l).all paB=(paB x&&l.all paB):=rfl
  have hpa:paB x=(d4L x.name&&tyB x.ty):=rfl
  rw[hall,hpa] at k1 k2
  cases n1:d4L x.name with
  |false =>
   rw[n1,Bool.false_and,Bool.false_and] at k1 k2
   simp only[wA,seval,reduceCtorEq,reduceIte,f1,f3,c1,hw1,h1,g4L,g3K,hi,g4B,hx,g5V,hN,hT,n1,g3E,g3F]
   exact k2 rfl _ (by simp only[wQ,Nat.reduceEqDiff,reduceIte])
  |true =>
   cases t1:tyB x.ty with
   |false =>
    rw[n1,t1,Bool.and_false,Bool.false_and] at k1 k2
    simp only[wA,seval,reduceCtorEq,reduceIte,f1,f3,c1,hw1,h1,g4L,g3K,hi,g4B,hx,g5V,hN,hT,n1,t1,g3E,g3F]
    exact k2 rfl _ (by simp only[wQ,Nat.reduceEqDiff,reduceIte])
   |true =>
    rw[n1,t1,Bool.and_self,g3H] at k1 k2
    simp only[wA,seval,reduceCtorEq,reduceIte,f1,f3,c1,hw1,h1,g4L,g3K,hi,g4B,hx,g5V,hN,hT,n1,t1,g3E,g3F]
    exact ih (i+1) _ hr (by simp only[wQ,Nat.reduceEqDiff,reduceIte,f1]) k1 k2
theorem ok64 {f:Fu} (hok:FuOk f) (hls:f.params.length≤B20) (hbs:d4B f.body≤B20) (hrs:szE f.ret≤B20) (K:PV→Prop):XcP F gl 64 [.agg (tFu f)] K ⟨⟩↔K (.t (.bool (fmB f))):=by
 refine Ret.iff (Ret.of F64 rfl ?_)
 simp only[c6I]
 have hN:=fun K=>@f8E gl f.name hok.name K
 have hT:=fun K=>@f8G gl f.res K
 have hS:=fun nl K=>ok67 (gl:=gl) hbs nl K
 have hE:=fun K=>f8N (gl:=gl) f.ret hrs K
 simp only[d3D] at hE
 unfold fmB
 simp only[wA,seval,reduceCtorEq,reduceIte]
 refine f8U hok hls rfl _ f.params 0 _ rfl (by simp only[wQ,Nat.reduceEqDiff,reduceIte];first|done|exact⟨rfl,rfl⟩|rfl) ?_ ?_
 ·intro h fr' f1
  rw[h]
  cases n1:d4L f.name with
  |false =>
   simp only[wA,seval,reduceCtorEq,reduceIte,f1,hN,n1]
   all_goals simp
  |true =>
   cases t1:tyB f.res with
   |false =>
    simp only[wA,seval,reduceCtorEq,reduceIte,f1,hN,hT,n1,t1]
    all_goals simp
   |true =>
    cases b1:f.body.all stB with
    |false =>
     simp only[wA,seval,reduceCtorEq,reduceIte,f1,hN,hT,hS,n1,t1,b1]
     all_goals simp
    |true =>
     simp only[wA,seval,reduceCtorEq,reduceIte,f1,hN,hT,hS,hE,n1,t1,b1]
     all_goals simp
 ·intro h fr' f2
  rw[h]
  simp only[wA,seval,reduceCtorEq,reduceIte,f2]
  all_goals simp
end Go.Proofs.YtdjcnfacjfnakaaGreat

/- The reference: valid programs. -/
namespace Go.Proofs.YtdjcnfacjfnakaaGreat
open Go.Pi Go.Lx Go.Ky
variable {gl:Nat→Option (List T)}
structure PgQ (p:Pg):Prop where
 ok:PgOk p
 fl:p.funcs.length≤B20
 dl:p.decls.length≤B20
 fs:∀ f,f∈p.funcs→f.params.length≤B20∧d4B f.body≤B20∧szE f.ret≤B20
 bs:d4B p.body≤B20
theorem f8V {p:Pg} (hp:PgQ p) {sg:Sg} (h1:sg[0]?=some (false,[PV.t (.sl p.fnl (p.funcs.map fun f=>tFu f)),.t (.sl p.dnl (p.decls.map fun f=>tDe f)),.t (.sl p.bnl (d3G p.body))])) {ow:Ow} (Q:Ex→S→Prop):∀ (l:List Fu) (i:Nat) (fr:List PV),p.funcs.drop i=l →
  b9J fr [(1,.lp 0 0),(3,.t (.int .i64 i))] →
  (l.all fmB=true→∀ fr',a0A fr' 1=.lp 0 0→Q (.exit 0) ⟨fr',sg,ow⟩)→(¬(l.all fmB=true)→∀ fr',a0A fr' 2=.t (.int .i64 1)→Q .ret ⟨fr',sg,ow⟩) →
  Xl F gl c5E ⟨fr,sg,ow⟩ Q ⟨⟩:=by
 intro l
 induction l with
 |nil =>
  intro i fr hd hf k1 k2
  have hd:=b9E hd
  simp only[b9L,b9K] at hf
  obtain⟨f1,f3,-⟩:=hf
  refine Xl.step ?_
  simp only[c5E]
  have c1:¬((i:Int) < (p.funcs.length:Int)):=by omega
  simp only[wA,seval,reduceCtorEq,reduceIte,f1,f3,c1,h1,g4L]
  exact k1 rfl _ (by simp only[wQ,Nat.reduceEqDiff,reduceIte,f1])
 |cons x l ih =>
  intro i fr hd hf k1 k2
  obtain⟨hx,hr,hi⟩:=b9D hd
  simp only[b9L,b9K] at hf
  obtain⟨f1,f3,-⟩:=hf
  refine Xl.step ?_
  simp only[c5E]
  have c1:(i:Int) < (p.funcs.length:Int):=by omega
  have hb:B20=1100000:=rfl
  have hm:=g4Y hx
  have hw1:=d7A hi (show p.funcs.length≤281474976710656 by have:=hp.fl;have:=hp.dl;omega)
  have hF:=fun K=>ok64 (gl:=gl) (hp.ok.fo x hm) (hp.fs x hm).1 (hp.fs x hm).2.1 (hp.fs x hm).2.2 K
  rw[List.all_cons] at k1 k2
  cases g1:fmB x with
  |false =>
   rw[g1,Bool.false_and] at k1 k2
   simp only[wA,seval,reduceCtorEq,reduceIte,f1,f3,c1,hw1,h1,g4L,g3K,hi,g4B,hx,g5V,g3E,g3F,hF,g1]
   exact k2 (by simp) _ (by simp only[wQ,Nat.reduceEqDiff,reduceIte])
  |true =>
   rw[g1,g3H] at k1 k2
   simp only[wA,seval,reduceCtorEq,reduceIte,f1,f3,c1,hw1,h1,g4L,g3K,hi,g4B,hx,g5V,g3E,g3F,hF,g1]
   exact ih (i+1) _ hr (by simp only[wQ,Nat.reduceEqDiff,reduceIte,f1]) k1 k2
theorem f8W {p:Pg} (hp:PgQ p) {sg:Sg} (h1:sg[0]?=some (false,[PV.t (.sl p.fnl (p.funcs.map fun f=>tFu f)),.t (.sl p.dnl (p.decls.map fun f=>tDe f)),.t (.sl p.bnl (d3G p.body))])) {ow:Ow} (Q:Ex→S→Prop):∀ (l:List De) (i:Nat) (fr:List PV),p.decls.drop i=l →
  b9J fr [(1,.lp 0 0),(4,.t (.int .i64 i))] →
  (l.all deB=true→∀ fr',a0A fr' 1=.lp 0 0→Q (.exit 2) ⟨fr',sg,ow⟩)→(¬(l.all deB=true)→∀ fr',a0A fr' 2=.t (.int .i64 1)→Q .ret ⟨fr',sg,ow⟩) →
  Xl F gl c5D ⟨fr,sg,ow⟩ Q ⟨⟩:=by
 intro l
 induction l with
 |nil =>
  intro i fr hd hf k1 k2
  have hd:=b9E hd
  simp only[b9L,b9K] at hf
  obtain⟨f1,f3,-⟩:=hf
  refine Xl.step ?_
  simp only[c5D]
  have c1:¬((i:Int) < (p.decls.length:Int)):=by omega
  simp only[wA,seval,reduceCtorEq,reduceIte,f1,f3,c1,h1,g4L]
  exact k1 rfl _ (by simp only[wQ,Nat.reduceEqDiff,reduceIte,f1])
 |cons x l ih =>
  intro i fr hd hf k1 k2
  obtain⟨hx,hr,hi⟩:=b9D hd
  simp only[b9L,b9K] at hf
  obtain⟨f1,f3,-⟩:=hf
  refine Xl.step ?_
  simp only[c5D]
  have c1:(i:Int) < (p.decls.length:Int):=by omega
  have hb:B20=1100000:=rfl
  have hm:=g4Y hx
  have hw1:=d7A hi (show p.decls.length≤281474976710656 by have:=hp.fl;have:=hp.dl;omega)
  have hN:=fun K=>@f8E gl x.name (hp.ok.dok x hm).1 K
  have hT:=fun K=>@f8G gl x.ty K
  have hde:deB x=(d4L x.name&&tyB x.ty):=rfl
  rw[List.all_cons,hde] at k1 k2
  cases g1:d4L x.name with
  |false =>
   rw[g1,Bool.false_and,Bool.false_and] at k1 k2
   simp only[wA,seval,reduceCtorEq,reduceIte,f1,f3,c1,hw1,h1,g4L,g3K,hi,g4B,hx,g5V,g3E,g3F,hN,hT,g1]
   exact k2 (by simp) _ (by simp only[wQ,Nat.reduceEqDiff,reduceIte])
  |true =>
   cases g2:tyB x.ty with
   |false =>
    rw[g1,g2,Bool.and_false,Bool.false_and] at k1 k2
    simp only[wA,seval,reduceCtorEq,reduceIte,f1,f3,c1,hw1,h1,g4L,g3K,hi,g4B,hx,g5V,g3E,g3F,hN,hT,g1,g2]
    exact k2 (by simp) _ (by simp only[wQ,Nat.reduceEqDiff,reduceIte])
   |true =>
    rw[g1,g2,Bool.and_self,g3H] at k1 k2
    simp only[wA,seval,reduceCtorEq,reduceIte,f1,f3,c1,hw1,h1,g4L,g3K,hi,g4B,hx,g5V,g3E,g3F,hN,hT,g1,g2]
    exact ih (i+1) _ hr (by simp only[wQ,Nat.reduceEqDiff,reduceIte,f1]) k1 k2
theorem f8X {p:Pg} (hp:PgQ p) {sg:Sg} (h1:sg[0]?=some (false,[PV.t (.sl p.fnl (p.funcs.map fun f=>tFu f)),.t (.sl p.dnl (p.decls.map fun f=>tDe f)),.t (.sl p.bnl (d3G p.body))])) {ow:Ow} (Q:Ex→S→Prop):∀ (l:List Fu) (i:Nat) (fr:List PV),p.funcs.drop i=l →
  b9J fr [(1,.lp 0 0),(5,.t (.int .i64 i))] →
  (l.any dpF=false→∀ fr',a0A fr' 1=.lp 0 0→Q (.exit 4) ⟨fr',sg,ow⟩)→(¬(l.any dpF=false)→∀ fr',a0A fr' 2=.t (.int .i64 3)→Q .ret ⟨fr',sg,ow⟩) →
  Xl F gl c5C ⟨fr,sg,ow⟩ Q ⟨⟩:=by
 intro l
 induction l with
 |nil =>
  intro i fr hd hf k1 k2
  have hd:=b9E hd
  simp only[b9L,b9K] at hf
  obtain⟨f1,f3,-⟩:=hf
  refine Xl.step ?_
  simp only[c5C]
  have c1:¬((i:Int) < (p.funcs.length:Int)):=by omega
  simp only[wA,seval,reduceCtorEq,reduceIte,f1,f3,c1,h1,g4L]
  exact k1 rfl _ (by simp only[wQ,Nat.reduceEqDiff,reduceIte,f1])
 |cons x l ih =>
  intro i fr hd hf k1 k2
  obtain⟨hx,hr,hi⟩:=b9D hd
  simp only[b9L,b9K] at hf
  obtain⟨f1,f3,-⟩:=hf
  refine Xl.step ?_
  simp only[c5C]
  have c1:(i:Int) < (p.funcs.length:Int):=by omega
  have hb:B20=1100000:=rfl
  have hm:=g4Y hx
  have hw1:=d7A hi (show p.funcs.length≤281474976710656 by have:=hp.fl;have:=hp.dl;omega)
  have hD:=fun nl K=>ok68 (gl:=gl) (hp.fs x hm).2.1 (lim:=40) (by omega) nl K
  have hE:=fun K=>ok69 (gl:=gl) x.ret (hp.fs x hm).2.2 K
  simp only[d3D] at hE
  simp only[Int.cast_ofNat_Int] at hD
  have hde:dpF x=(e1C x.body 40 || decide ((dEx x.ret:Int) > 40)):=rfl
  rw[List.any_cons,hde] at k1 k2
  cases g1:e1C x.body 40 with
  |true =>
   rw[g1,Bool.true_or,Bool.true_or] at k1 k2
   simp only[wA,seval,reduceCtorEq,reduceIte,f1,f3,c1,hw1,h1,g4L,g3K,hi,g4B,hx,g5V,g3E,g3F,hD,g1]
   exact k2 (by simp) _ (by simp only[wQ,Nat.reduceEqDiff,reduceIte])
  |false =>
   by_cases g2:((dEx x.ret:Nat):Int) > 40
   ·rw[g1,g6A g2,Bool.or_true,Bool.true_or] at k1 k2
    simp only[wA,seval,reduceCtorEq,reduceIte,f1,f3,c1,hw1,h1,g4L,g3K,hi,g4B,hx,g5V,g3E,g3F,hD,hE,g1,g2]
    exact k2 (by simp) _ (by simp only[wQ,Nat.reduceEqDiff,reduceIte])
   ·rw[g1,g5Y g2,Bool.or_false,Bool.false_or] at k1 k2
    simp only[wA,seval,reduceCtorEq,reduceIte,f1,f3,c1,hw1,h1,g4L,g3K,hi,g4B,hx,g5V,g3E,g3F,hD,hE,g1,g2]
    exact ih (i+1) _ hr (by simp only[wQ,Nat.reduceEqDiff,reduceIte,f1]) k1 k2
theorem ok38 {p:Pg} (hp:PgQ p) (K:PV→Prop):XcP F gl 38 [.agg (tPg p)] K ⟨⟩↔K (.t (.int .i64 (rvP p))):=by
 refine Ret.iff (Ret.of F38 rfl ?_)
 simp only[c5F]
 have hS:=fun nl K=>ok67 (gl:=gl) hp.bs nl K
 have hD:=fun nl K=>ok68 (gl:=gl) hp.bs (lim:=40) (by omega) nl K
 simp only[Int.cast_ofNat_Int] at hD
 unfold rvP
 simp only[wA,seval,reduceCtorEq,reduceIte]
 refine f8V hp rfl _ p.funcs 0 _ rfl (by simp only[wQ,Nat.reduceEqDiff,reduceIte];first|done|exact⟨rfl,rfl⟩|rfl) ?_ ?_
 ·intro g1 fr1 f1
  rw[if_neg (by simp [g1])]
  simp only[wA,seval,reduceCtorEq,reduceIte,f1]
  refine f8W hp rfl _ p.decls 0 _ rfl (by simp only[wQ,Nat.reduceEqDiff,reduceIte,f1];first|done|exact⟨rfl,rfl⟩|rfl) ?_ ?_
  ·intro g2 fr2 f1
   rw[if_neg (by simp [g2])]
   cases b1:p.body.all stB with
   |false =>
    simp only[wA,seval,reduceCtorEq,reduceIte,f1,hS,b1,g3E]
    all_goals simp
   |true =>
    rw[if_neg (by simp)]
    simp only[wA,seval,reduceCtorEq,reduceIte,f1,hS,b1,g3F]
    refine f8X hp rfl _ p.funcs 0 _ rfl (by simp only[wQ,Nat.reduceEqDiff,reduceIte,f1];first|done|exact⟨rfl,rfl⟩|rfl) ?_ ?_
    ·intro g3 fr3 f1
     rw[if_neg (by simp [g3])]
     cases d1:e1C p.body 40 with
     |false =>
      simp only[wA,seval,reduceCtorEq,reduceIte,f1,hD,d1]
      all_goals simp
     |true =>
      simp only[wA,seval,reduceCtorEq,reduceIte,f1,hD,d1]
      all_goals simp
    ·intro g3 fr3 f2
     rw[if_pos (by simpa using g3)]
     simp only[wA,seval,reduceCtorEq,reduceIte,f2]
  ·intro g2 fr2 f2
   rw[if_pos (by simpa using g2)]
   simp only[wA,seval,reduceCtorEq,reduceIte,f2]
 ·intro g1 fr1 f2
  rw[if_pos (by simpa using g1)]
  simp only[wA,seval,reduceCtorEq,reduceIte,f2]
end Go.Proofs.YtdjcnfacjfnakaaGreat

/- The reference: small functions of types. -/
namespace Go.Proofs.YtdjcnfacjfnakaaGreat
open Go.Pi Go.Lx Go.Ky
variable {gl:Nat→Option (List T)}
theorem f8Y (n:Int) {K:PV→Prop}:XcP F gl 44 [.int .i64 n] K ⟨⟩↔K (.t (.int .i64 (e7L n))):=by
 refine Ret.iff (Ret.of F44 rfl ?_)
 simp only[c5Q]
 unfold e7L
 by_cases h:n > 20000
 ·simp only[wA,seval,reduceCtorEq,reduceIte,h]
 ·simp only[wA,seval,reduceCtorEq,reduceIte,h]
theorem f8Z (a b:Int) {K:PV→Prop}:XcP F gl 43 [.int .i64 a,.int .i64 b] K ⟨⟩↔K (.t (.int .i64 (grM a b))):=by
 refine Ret.iff (Ret.of F43 rfl ?_)
 simp only[c5P]
 unfold grM
 by_cases h:a > b
 ·simp only[wA,seval,reduceCtorEq,reduceIte,h]
 ·simp only[wA,seval,reduceCtorEq,reduceIte,h]
theorem ok72 (n s:Int) {K:PV→Prop}:XcP F gl 72 [.int .i64 n,.int .i64 s] K ⟨⟩↔K (.t (.int .i64 (e7M n s))):=by
 refine Ret.iff (Ret.of F72 rfl ?_)
 simp only[c6U]
 unfold e7M
 by_cases h1:n=0
 ·simp only[wA,seval,reduceCtorEq,reduceIte,h1]
  all_goals simp
 by_cases h2:s=0
 ·simp only[wA,seval,reduceCtorEq,reduceIte,h1,h2]
  all_goals simp
 rw[if_neg (by omega)]
 by_cases h3:n > 20000
 ·simp only[wA,seval,reduceCtorEq,reduceIte,h1,h2,h3]
 ·simp only[wA,seval,reduceCtorEq,reduceIte,h1,h2,h3,f8Y]
theorem f9A (t:Ty) {K:PV→Prop}:XcP F gl 45 [.agg (tTy t)] K ⟨⟩↔K (.t (.int .i64 (e7N t))):=by
 refine Ret.iff (Ret.of F45 rfl ?_)
 simp only[c5R]
 unfold e7N
 by_cases h:t.kind=3
 ·simp only[wA,seval,reduceCtorEq,reduceIte,h]
 ·simp only[wA,seval,reduceCtorEq,reduceIte,h]
theorem ok46 (t:Ty) {K:PV→Prop}:XcP F gl 46 [.agg (tTy t)] K ⟨⟩↔K (.t (.int .i64 (elM t))):=by
 refine Ret.iff (Ret.of F46 rfl ?_)
 simp only[c5S]
 unfold elM
 by_cases h:t.len=0
 ·simp only[wA,seval,reduceCtorEq,reduceIte,h]
 ·simp only[wA,seval,reduceCtorEq,reduceIte,h]
theorem f9B (t:Ty) {K:PV→Prop}:XcP F gl 74 [.agg (tTy t)] K ⟨⟩↔K (.t (.bool (d5I t))):=by
 refine Ret.iff (Ret.of F74 rfl ?_)
 simp only[c6W]
 unfold d5I
 simp only[wA,seval,reduceCtorEq,reduceIte]
theorem f9C {K:PV→Prop}:XcP F gl 71 [] K ⟨⟩↔K (.t (.agg [.int .i64 1,.int .i64 0,.int .i64 0])):=by
 refine Ret.iff (Ret.of F71 rfl ?_)
 simp only[c6T]
 simp only[wA,seval,reduceCtorEq,reduceIte]
theorem f9D {K:PV→Prop}:XcP F gl 73 [] K ⟨⟩↔K (.t (.agg [.int .i64 2,.int .i64 0,.int .i64 0])):=by
 refine Ret.iff (Ret.of F73 rfl ?_)
 simp only[c6V]
 simp only[wA,seval,reduceCtorEq,reduceIte]
theorem f9E (e:Int) {K:PV→Prop}:XcP F gl 70 [.int .i64 e] K ⟨⟩↔K (.t (.agg [.int .i64 0,.int .i64 0,.int .i64 0,.int .i64 0,.int .i64 0,.int .i64 e])):=by
 refine Ret.iff (Ret.of F70 rfl ?_)
 simp only[c6S]
 simp only[wA,seval,reduceCtorEq,reduceIte]
end Go.Proofs.YtdjcnfacjfnakaaGreat

/- The reference: what fits; where a name stands. -/
namespace Go.Proofs.YtdjcnfacjfnakaaGreat
open Go.Pi Go.Lx Go.Ky
variable {gl:Nat→Option (List T)}
theorem f9F (a b:Ty) {K:PV→Prop}:XcP F gl 42 [.agg (tTy a),.agg (tTy b)] K ⟨⟩↔K (.t (.bool (e7O a b))):=by
 refine Ret.iff (Ret.of F42 rfl ?_)
 simp only[c5O]
 have hq:=d6Y a b
 unfold e7O
 by_cases h:a=b
 ·rw[g6A h] at hq
  rw[if_pos h]
  simp only[wA,seval,reduceCtorEq,reduceIte,hq]
 rw[g5Y h] at hq
 rw[if_neg h]
 by_cases h1:a.len=b.len
 ·have h1':(a.len=b.len)=True:=g6D h1
  rw[if_neg (by simpa using h1)]
  by_cases k1:b.kind=1
  ·have k1':(b.kind=1)=True:=g6D k1
   rw[if_pos k1]
   simp only[wA,seval,reduceCtorEq,reduceIte,hq,h1',k1']
   repeat' ((with_reducible first|refine c3U ?_ ?_|refine c3V ?_ ?_|refine c3T ?_ ?_|refine c3S ?_ ?_|refine c3Q ?_ ?_|refine c3R ?_ ?_|refine c3P ?_ ?_|refine c3O ?_ ?_) <;> intro h <;> (try simp only[wA,seval,reduceCtorEq,reduceIte,hq,h1',k1',h]))
   all_goals simp_all
  ·rw[if_neg k1]
   simp only[wA,seval,reduceCtorEq,reduceIte,hq,h1',k1]
   repeat' ((with_reducible first|refine c3U ?_ ?_|refine c3V ?_ ?_|refine c3T ?_ ?_|refine c3S ?_ ?_|refine c3Q ?_ ?_|refine c3R ?_ ?_|refine c3P ?_ ?_|refine c3O ?_ ?_) <;> intro h <;> (try simp only[wA,seval,reduceCtorEq,reduceIte,hq,h1',k1,h]))
   all_goals simp_all
 ·have h1':(a.len=b.len)=False:=g6C h1
  rw[if_pos h1]
  simp only[wA,seval,reduceCtorEq,reduceIte,hq,h1']
  repeat' ((with_reducible first|refine c3U ?_ ?_|refine c3V ?_ ?_|refine c3T ?_ ?_|refine c3S ?_ ?_|refine c3Q ?_ ?_|refine c3R ?_ ?_|refine c3P ?_ ?_|refine c3O ?_ ?_) <;> intro h <;> (try simp only[wA,seval,reduceCtorEq,reduceIte,hq,h1',h]))
  all_goals simp_all
theorem f9G {ns:Ns} {nl:Bool} {k:Nm} (hls:ns.length≤4 * B20) {sg:Sg} {ow:Ow} (Q:Ex→S→Prop):∀ (l:Ns) (i:Nat) (fr:List PV),ns.drop i=l →
  b9J fr [(0,.t (.sl nl (ns.map e7P))),(1,.t (.str k)),(5,.t (.int .i64 i))] →
  (e7Q k l i=-1→∀ fr',Q (.exit 0) ⟨fr',sg,ow⟩)→(e7Q k l i≠-1→∀ fr',a0A fr' 4=.t (.int .i64 (e7Q k l i))→Q .ret ⟨fr',sg,ow⟩) →
  Xl F gl c5G ⟨fr,sg,ow⟩ Q ⟨⟩:=by
 intro l
 induction l with
 |nil =>
  intro i fr hd hf k1 k2
  have hd:=b9E hd
  simp only[b9L,b9K] at hf
  obtain⟨f0,f1,f5,-⟩:=hf
  refine Xl.step ?_
  simp only[c5G]
  have c1:¬((i:Int) < (ns.length:Int)):=by omega
  simp only[wA,seval,reduceCtorEq,reduceIte,f0,f1,f5,c1,g4L]
  exact k1 rfl _
 |cons x l ih =>
  intro i fr hd hf k1 k2
  obtain⟨hx,hr,hi⟩:=b9D hd
  simp only[b9L,b9K] at hf
  obtain⟨f0,f1,f5,-⟩:=hf
  refine Xl.step ?_
  simp only[c5G]
  have c1:(i:Int) < (ns.length:Int):=by omega
  have hb:B20=1100000:=rfl
  have hw1:=d7A hi (show ns.length≤281474976710656 by omega)
  by_cases hxk:x.1=k
  ·have hxb:(x.1 == k)=true:=by simpa using hxk
   have hfi:e7Q k (x::l) i=(i:Int):=by rw[e7Q,if_pos hxk]
   rw[hfi] at k1 k2
   simp only[wA,seval,reduceCtorEq,reduceIte,f0,f1,f5,c1,hw1,g4L,g3K,hi,g4B,hx,g5V,hxb,hxk,beq_self_eq_true]
   exact k2 (by omega) _ (by simp only[wQ,Nat.reduceEqDiff,reduceIte])
  ·have hxb:(x.1 == k)=false:=by simpa using hxk
   have hfi:e7Q k (x::l) i=e7Q k l (i+1):=by rw[e7Q,if_neg hxk]
   rw[hfi] at k1 k2
   simp only[wA,seval,reduceCtorEq,reduceIte,f0,f1,f5,c1,hw1,g4L,g3K,hi,g4B,hx,g5V,hxb,hxk,beq_self_eq_true]
   exact ih (i+1) _ hr (by simp only[wQ,Nat.reduceEqDiff,reduceIte,f0,f1]) k1 k2
theorem f9H {ns:Ns} (nl:Bool) (k:Nm) (hls:ns.length≤4 * B20) {K:PV→Prop}:XcP F gl 39 [.sl nl (ns.map e7P),.str k] K ⟨⟩↔K (.t (.int .i64 (e7Q k ns 0))):=by
 refine Ret.iff (Ret.of F39 rfl ?_)
 simp only[c5H]
 simp only[wA,seval,reduceCtorEq,reduceIte]
 refine f9G hls _ ns 0 _ rfl (by simp only[wQ,Nat.reduceEqDiff,reduceIte];first|done|exact⟨rfl,rfl⟩|rfl) ?_ ?_
 ·intro h fr'
  simp only[wA,seval,reduceCtorEq,reduceIte]
  rw[h]
 ·intro h fr' f2
  simp only[wA,seval,reduceCtorEq,reduceIte,f2]
end Go.Proofs.YtdjcnfacjfnakaaGreat

/- The reference: binary digits. -/
namespace Go.Proofs.YtdjcnfacjfnakaaGreat
open Go.Pi Go.Lx Go.Ky
variable {gl:Nat→Option (List T)}
theorem f9I {sg:Sg} {ow:Ow} (Q:Ex→S→Prop):∀ (b n d:Nat) (fr:List PV),n < 2 ^ b→b≤64→d+b≤100 →
  b9J fr [(0,.t (.int .u64 n)),(3,.t (.int .i64 d))] →
  (∀ fr',a0A fr' 3=.t (.int .i64 ((d+n.log2:Nat):Int))→Q (.exit 0) ⟨fr',sg,ow⟩) →
  Xl F gl c6X ⟨fr,sg,ow⟩ Q ⟨⟩:=by
 intro b
 induction b with
 |zero =>
  intro n d fr hn hb hd hf k1
  simp only[b9L,b9K] at hf
  obtain⟨f0,f3,-⟩:=hf
  have h0:n=0:=by simpa using hn
  subst h0
  refine Xl.step ?_
  simp only[c6X]
  have c1:¬(((0:Nat):Int) > 1):=by omega
  simp only[wA,seval,reduceCtorEq,reduceIte,f0,f3,c1]
  exact k1 _ (by simp only[wQ,Nat.reduceEqDiff,reduceIte,f3];rfl)
 |succ b ih =>
  intro n d fr hn hb hd hf k1
  simp only[b9L,b9K] at hf
  obtain⟨f0,f3,-⟩:=hf
  refine Xl.step ?_
  simp only[c6X]
  by_cases h1:(n:Int) > 1
  ·have hw:IntKind.i64.wrap ((d:Int)+1)=((d+1:Nat):Int):=by rw[d9C (by omega) (by omega)];omega
   have hq:Int.tdiv (n:Int) 2=((n / 2:Nat):Int):=rfl
   have hq2:IntKind.u64.wrap ((n / 2:Nat):Int)=((n / 2:Nat):Int):=by
    have hp:2 ^ (b+1)≤2 ^ 64:=Nat.pow_le_pow_right (by omega) hb
    have:IntKind.wrap .u64 ((n / 2:Nat):Int)=((n / 2:Nat):Int) % 18446744073709551616:=rfl
    rw[this]
    omega
   simp only[wA,seval,reduceCtorEq,reduceIte,f0,f3,h1,hw,hq,hq2]
   refine ih (n / 2) (d+1) _ (by rw[Nat.pow_succ] at hn;omega) (by omega) (by omega) (by simp only[wQ,Nat.reduceEqDiff,reduceIte];first|done|exact⟨rfl,rfl⟩|rfl) fun fr' h=>k1 fr' ?_
   rw[h]
   have hl:n.log2=(n / 2).log2+1:=by rw[Nat.log2_def n,if_pos (by omega)]
   rw[hl]
   congr 3
   omega
  ·simp only[wA,seval,reduceCtorEq,reduceIte,f0,f3,h1]
   have hl:n.log2=0:=by
    have:n=0∨n=1:=by omega
    rcases this with h|h <;> subst h <;> rfl
   exact k1 _ (by simp only[wQ,Nat.reduceEqDiff,reduceIte,f3,hl,g5H])
theorem ok75 (n:Nat) (hn:n < 2 ^ 64) {K:PV→Prop}:XcP F gl 75 [.int .u64 (n:Int)] K ⟨⟩↔K (.t (.int .i64 ((1+n.log2:Nat):Int))):=by
 refine Ret.iff (Ret.of F75 rfl ?_)
 simp only[c6Y]
 simp only[wA,seval,reduceCtorEq,reduceIte]
 refine f9I _ 64 n 1 _ hn (by omega) (by omega) (by simp only[wQ,Nat.reduceEqDiff,reduceIte];first|done|exact⟨rfl,rfl⟩|rfl) fun fr' h=>?_
 simp only[wA,seval,reduceCtorEq,reduceIte,h]
end Go.Proofs.YtdjcnfacjfnakaaGreat
