/- The reference: valid programs. -/
import Derived.Test.YtdjcnfacjfnakaaGreatQ5
import Derived.Test.YtdjcnfacjfnakaaGreatKx19
import Derived.Test.YtdjcnfacjfnakaaGreatKx27
set_option maxRecDepth 10000
set_option linter.unusedVariables false
set_option linter.unusedSimpArgs false
namespace Go.Proofs.YtdjcnfacjfnakaaGreat
open Go.Pi Go.Lx Go.Ky
variable {gl:Nat->Option (List T)}
theorem g1N {ls:List St} {nl:Bool} (hls:ls.length<=B20) {lim:Nat} (hrec:∀ s,s∈ls->∀ K:PV->Prop,XcP F gl 112 [.agg (tSt s),.int .i64 (lim:Int)] K ⟨⟩↔K (.t (.bool (dpS s lim)))) {sg:Sg} {ow:Ow} (Q:Ex->S->Prop):∀ (l:List St) (i:Nat) (fr:List PV),ls.drop i=l ->
  b6S fr [(0,.t (.sl nl (d1M ls))),(1,.t (.int .i64 lim)),(5,.t (.int .i64 i))] ->
  (d8P l lim=false->∀ fr',Q (.exit 0) ⟨fr',sg,ow⟩)->(d8P l lim=true->∀ fr',a0A fr' 4=.t (.bool true)->Q .ret ⟨fr',sg,ow⟩) ->
  Xl F gl c3U ⟨fr,sg,ow⟩ Q ⟨⟩:=by
 intro l
 induction l with
 |nil =>
  intro i fr hd hf k1 k2
  have hd:=b6N hd
  simp only[b6U,b6T] at hf
  obtain⟨f0,f1,f5,-⟩:=hf
  refine Xl.step ?_
  simp only[c3U]
  have c1:¬((i:Int) < (ls.length:Int)):=by omega
  simp only[wA,seval,f0,f1,f5,c1,d1P]
  exact k1 (by rw[d8P]) _
 |cons x l ih =>
  intro i fr hd hf k1 k2
  obtain⟨hx,hr,hi⟩:=b6M hd
  simp only[b6U,b6T] at hf
  obtain⟨f0,f1,f5,-⟩:=hf
  refine Xl.step ?_
  simp only[c3U]
  have c1:(i:Int) < (ls.length:Int):=by omega
  have hb:B20=1100000:=rfl
  have hw1:=d5F hi (show ls.length<=281474976710656 by omega)
  have hq:=λK=>hrec x (g6K hx) K
  simp only[d1O] at hq
  rw[d8P] at k1 k2
  cases hxb:dpS x lim with
  |false =>
   rw[hxb,Bool.false_or] at k1 k2
   simp only[wA,seval,f0,f1,f5,c1,hw1,d1P,g4Z,hi,d1Q,hx,g7F,hq,d1O,hxb]
   exact ih (i+1) _ hr (by simp only[wQ,seval,f0,f1]) k1 k2
  |true =>
   rw[hxb,Bool.true_or] at k1 k2
   simp only[wA,seval,f0,f1,f5,c1,hw1,d1P,g4Z,hi,d1Q,hx,g7F,hq,d1O,hxb]
   exact k2 rfl _ (by simp only[wQ,seval])
theorem g1O {ls:List St} (hls:ls.length<=B20) {lim:Nat} (hrec:∀ s,s∈ls->∀ K:PV->Prop,XcP F gl 112 [.agg (tSt s),.int .i64 (lim:Int)] K ⟨⟩↔K (.t (.bool (dpS s lim)))) (nl:Bool) (K:PV->Prop):XcP F gl 68 [.sl nl (d1M ls),.int .i64 (lim:Int)] K ⟨⟩↔K (.t (.bool (d8P ls lim))):=by
 refine Ret.iff (Ret.of F68 rfl ?_)
 simp only[c3V]
 simp only[wA,seval]
 refine g1N hls hrec _ ls 0 _ rfl (by simp only[wQ,seval];first|done|exact⟨rfl,rfl⟩|rfl) ?_ ?_
 ·intro h fr'
  simp only[wA,seval]
  rw[h]
 ·intro h fr' f2
  simp only[wA,seval,f2]
  rw[h]
theorem g1P:∀ s,szS s<=B20->∀ (lim:Nat),lim<=100->∀ K:PV->Prop,XcP F gl 112 [.agg (tSt s),.int .i64 (lim:Int)] K ⟨⟩↔K (.t (.bool (dpS s lim))):=by
 refine St.ind λs ih hsz lim hl K=>?_
 have hbd:=d6L hsz
 refine Ret.iff (Ret.of F112 rfl ?_)
 simp only[c5V]
 have hD:=λK=>ok69 (gl:=gl) s.ex (g6V (d2P s) hsz) K
 simp only[d1J] at hD
 rw[d8Q]
 by_cases h0:(lim:Int)=0
 ·have h0':lim=0:=by omega
  simp only[wA,seval,d1O,h0]
  all_goals simp [h0']
 have h0':¬lim=0:=by omega
 have hw:IntKind.i64.wrap ((lim:Int) - 1)=((lim - 1:Nat):Int):=by rw[d7J (by omega) (by omega)];omega
 have hY:=λnl K=>g1O (gl:=gl) hbd.1 (lim:=lim - 1) (λa ha=>ih a ha (hbd.2 a ha) (lim - 1) (by omega)) nl K
 by_cases h3:s.kind=3
 ·simp only[wA,seval,d1O,h0,h3,hw,hY]
  all_goals simp [h0',h3]
 ·by_cases h4:((dEx s.ex:Nat):Int) > 40
  ·simp only[wA,seval,d1O,h0,h3,hD,h4]
   all_goals simp [h0',h3,h4]
  ·simp only[wA,seval,d1O,h0,h3,hD,h4,hw,hY]
   all_goals simp [h0',h3,h4]
theorem ok68 {ls:List St} (h:d2G ls<=B20) {lim:Nat} (hl:lim<=100) (nl:Bool) (K:PV->Prop):XcP F gl 68 [.sl nl (d1M ls),.int .i64 (lim:Int)] K ⟨⟩↔K (.t (.bool (d8P ls lim))) :=
 g1O (g6V (d2O _) h) (λs hs=>g1P s (g6V (d2M hs) h) lim hl) nl K
end Go.Proofs.YtdjcnfacjfnakaaGreat

/- The reference: valid functions, valid programs. -/
namespace Go.Proofs.YtdjcnfacjfnakaaGreat
open Go.Pi Go.Lx Go.Ky
variable {gl:Nat->Option (List T)}
theorem g1Q {f:Fu} (hok:FuOk f) (hls:f.params.length<=B20) {sg:Sg} (h1:sg[0]?=some (false,[.t (.str f.name),.t (.sl f.pnl (f.params.map tPa)),.t (.int .i64 f.res.kind),.t (.int .i64 f.res.bits),.t (.int .i64 f.res.len),.t (.sl f.bnl (d1M f.body)),.t (.int .i64 f.ret.op),.t (.int .u64 f.ret.val),.t (.str f.ret.name),.t (.sl f.ret.nl (d1H f.ret.args))])) {ow:Ow} (Q:Ex->S->Prop):∀ (l:List Pa) (i:Nat) (fr:List PV),f.params.drop i=l ->
  b6S fr [(1,.lp 0 0),(3,.t (.int .i64 i))] ->
  (l.all paB=true->∀ fr',a0A fr' 1=.lp 0 0->Q (.exit 0) ⟨fr',sg,ow⟩)->(l.all paB=false->∀ fr',a0A fr' 2=.t (.bool false)->Q .ret ⟨fr',sg,ow⟩) ->
  Xl F gl c3N ⟨fr,sg,ow⟩ Q ⟨⟩:=by
 intro l
 induction l with
 |nil =>
  intro i fr hd hf k1 k2
  have hd:=b6N hd
  simp only[b6U,b6T] at hf
  obtain⟨f1,f3,-⟩:=hf
  refine Xl.step ?_
  simp only[c3N]
  have c1:¬((i:Int) < (f.params.length:Int)):=by omega
  simp only[wA,seval,f1,f3,c1,h1,g5Y]
  exact k1 rfl _ (by simp only[wQ,seval,f1])
 |cons x l ih =>
  intro i fr hd hf k1 k2
  obtain⟨hx,hr,hi⟩:=b6M hd
  simp only[b6U,b6T] at hf
  obtain⟨f1,f3,-⟩:=hf
  refine Xl.step ?_
  simp only[c3N]
  have c1:(i:Int) < (f.params.length:Int):=by omega
  have hb:B20=1100000:=rfl
  have hw1:=d5F hi (show f.params.length<=281474976710656 by omega)
  have hp:=hok.pa x (g6K hx)
  have hN:=λK=>@g1A gl x.name hp.1 K
  have hT:=λK=>@g1C gl x.ty K
  have hall:(x::l).all paB=(paB x&&l.all paB):=rfl
  have hpa:paB x=(d2Q x.name&&tyB x.ty):=rfl
  rw[hall,hpa] at k1 k2
  cases n1:d2Q x.name with
  |false =>
   rw[n1,Bool.false_and,Bool.false_and] at k1 k2
   simp only[wA,seval,f1,f3,c1,hw1,h1,g5Y,g4Z,hi,g5P,hx,g7F,hN,hT,n1,g4U,g4V]
   exact k2 rfl _ (by simp only[wQ,seval])
  |true =>
   cases t1:tyB x.ty with
   |false =>
    rw[n1,t1,Bool.and_false,Bool.false_and] at k1 k2
    simp only[wA,seval,f1,f3,c1,hw1,h1,g5Y,g4Z,hi,g5P,hx,g7F,hN,hT,n1,t1,g4U,g4V]
    exact k2 rfl _ (by simp only[wQ,seval])
   |true =>
    rw[n1,t1,Bool.and_self,g4X] at k1 k2
    simp only[wA,seval,f1,f3,c1,hw1,h1,g5Y,g4Z,hi,g5P,hx,g7F,hN,hT,n1,t1,g4U,g4V]
    exact ih (i+1) _ hr (by simp only[wQ,seval,f1]) k1 k2
theorem ok64 {f:Fu} (hok:FuOk f) (hls:f.params.length<=B20) (hbs:d2G f.body<=B20) (hrs:szE f.ret<=B20) (K:PV->Prop):XcP F gl 64 [.agg (tFu f)] K ⟨⟩↔K (.t (.bool (fmB f))):=by
 refine Ret.iff (Ret.of F64 rfl ?_)
 simp only[c3O]
 have hN:=λK=>@g1A gl f.name hok.name K
 have hT:=λK=>@g1C gl f.res K
 have hS:=λnl K=>ok67 (gl:=gl) hbs nl K
 have hE:=λK=>g1J (gl:=gl) f.ret hrs K
 simp only[d1J] at hE
 unfold fmB
 simp only[wA,seval]
 refine g1Q hok hls rfl _ f.params 0 _ rfl (by simp only[wQ,seval];first|done|exact⟨rfl,rfl⟩|rfl) ?_ ?_
 ·intro h fr' f1
  rw[h]
  cases n1:d2Q f.name with
  |false =>
   simp only[wA,seval,f1,hN,n1]
   all_goals simp
  |true =>
   cases t1:tyB f.res with
   |false =>
    simp only[wA,seval,f1,hN,hT,n1,t1]
    all_goals simp
   |true =>
    cases b1:f.body.all stB with
    |false =>
     simp only[wA,seval,f1,hN,hT,hS,n1,t1,b1]
     all_goals simp
    |true =>
     simp only[wA,seval,f1,hN,hT,hS,hE,n1,t1,b1]
     all_goals simp
 ·intro h fr' f2
  rw[h]
  simp only[wA,seval,f2]
  all_goals simp
end Go.Proofs.YtdjcnfacjfnakaaGreat

/- The reference: valid programs. -/
namespace Go.Proofs.YtdjcnfacjfnakaaGreat
open Go.Pi Go.Lx Go.Ky
variable {gl:Nat->Option (List T)}
structure PgQ (p:Pg):Prop where
 ok:PgOk p
 fl:p.funcs.length<=B20
 dl:p.decls.length<=B20
 fs:∀ f,f∈p.funcs->f.params.length<=B20/\d2G f.body<=B20/\szE f.ret<=B20
 bs:d2G p.body<=B20
theorem g1R {p:Pg} (hp:PgQ p) {sg:Sg} (h1:sg[0]?=some (false,[PV.t (.sl p.fnl (p.funcs.map λf=>tFu f)),.t (.sl p.dnl (p.decls.map λf=>tDe f)),.t (.sl p.bnl (d1M p.body))])) {ow:Ow} (Q:Ex->S->Prop):∀ (l:List Fu) (i:Nat) (fr:List PV),p.funcs.drop i=l ->
  b6S fr [(1,.lp 0 0),(3,.t (.int .i64 i))] ->
  (l.all fmB=true->∀ fr',a0A fr' 1=.lp 0 0->Q (.exit 0) ⟨fr',sg,ow⟩)->(¬(l.all fmB=true)->∀ fr',a0A fr' 2=.t (.int .i64 1)->Q .ret ⟨fr',sg,ow⟩) ->
  Xl F gl c2D ⟨fr,sg,ow⟩ Q ⟨⟩:=by
 intro l
 induction l with
 |nil =>
  intro i fr hd hf k1 k2
  have hd:=b6N hd
  simp only[b6U,b6T] at hf
  obtain⟨f1,f3,-⟩:=hf
  refine Xl.step ?_
  simp only[c2D]
  have c1:¬((i:Int) < (p.funcs.length:Int)):=by omega
  simp only[wA,seval,f1,f3,c1,h1,g5Y]
  exact k1 rfl _ (by simp only[wQ,seval,f1])
 |cons x l ih =>
  intro i fr hd hf k1 k2
  obtain⟨hx,hr,hi⟩:=b6M hd
  simp only[b6U,b6T] at hf
  obtain⟨f1,f3,-⟩:=hf
  refine Xl.step ?_
  simp only[c2D]
  have c1:(i:Int) < (p.funcs.length:Int):=by omega
  have hb:B20=1100000:=rfl
  have hm:=g6K hx
  have hw1:=d5F hi (show p.funcs.length<=281474976710656 by have:=hp.fl;have:=hp.dl;omega)
  have hF:=λK=>ok64 (gl:=gl) (hp.ok.fo x hm) (hp.fs x hm).1 (hp.fs x hm).2.1 (hp.fs x hm).2.2 K
  rw[List.all_cons] at k1 k2
  cases g1:fmB x with
  |false =>
   rw[g1,Bool.false_and] at k1 k2
   simp only[wA,seval,f1,f3,c1,hw1,h1,g5Y,g4Z,hi,g5P,hx,g7F,g4U,g4V,hF,g1]
   exact k2 (by simp) _ (by simp only[wQ,seval])
  |true =>
   rw[g1,g4X] at k1 k2
   simp only[wA,seval,f1,f3,c1,hw1,h1,g5Y,g4Z,hi,g5P,hx,g7F,g4U,g4V,hF,g1]
   exact ih (i+1) _ hr (by simp only[wQ,seval,f1]) k1 k2
theorem g1S {p:Pg} (hp:PgQ p) {sg:Sg} (h1:sg[0]?=some (false,[PV.t (.sl p.fnl (p.funcs.map λf=>tFu f)),.t (.sl p.dnl (p.decls.map λf=>tDe f)),.t (.sl p.bnl (d1M p.body))])) {ow:Ow} (Q:Ex->S->Prop):∀ (l:List De) (i:Nat) (fr:List PV),p.decls.drop i=l ->
  b6S fr [(1,.lp 0 0),(4,.t (.int .i64 i))] ->
  (l.all deB=true->∀ fr',a0A fr' 1=.lp 0 0->Q (.exit 2) ⟨fr',sg,ow⟩)->(¬(l.all deB=true)->∀ fr',a0A fr' 2=.t (.int .i64 1)->Q .ret ⟨fr',sg,ow⟩) ->
  Xl F gl c2C ⟨fr,sg,ow⟩ Q ⟨⟩:=by
 intro l
 induction l with
 |nil =>
  intro i fr hd hf k1 k2
  have hd:=b6N hd
  simp only[b6U,b6T] at hf
  obtain⟨f1,f3,-⟩:=hf
  refine Xl.step ?_
  simp only[c2C]
  have c1:¬((i:Int) < (p.decls.length:Int)):=by omega
  simp only[wA,seval,f1,f3,c1,h1,g5Y]
  exact k1 rfl _ (by simp only[wQ,seval,f1])
 |cons x l ih =>
  intro i fr hd hf k1 k2
  obtain⟨hx,hr,hi⟩:=b6M hd
  simp only[b6U,b6T] at hf
  obtain⟨f1,f3,-⟩:=hf
  refine Xl.step ?_
  simp only[c2C]
  have c1:(i:Int) < (p.decls.length:Int):=by omega
  have hb:B20=1100000:=rfl
  have hm:=g6K hx
  have hw1:=d5F hi (show p.decls.length<=281474976710656 by have:=hp.fl;have:=hp.dl;omega)
  have hN:=λK=>@g1A gl x.name (hp.ok.dok x hm).1 K
  have hT:=λK=>@g1C gl x.ty K
  have hde:deB x=(d2Q x.name&&tyB x.ty):=rfl
  rw[List.all_cons,hde] at k1 k2
  cases g1:d2Q x.name with
  |false =>
   rw[g1,Bool.false_and,Bool.false_and] at k1 k2
   simp only[wA,seval,f1,f3,c1,hw1,h1,g5Y,g4Z,hi,g5P,hx,g7F,g4U,g4V,hN,hT,g1]
   exact k2 (by simp) _ (by simp only[wQ,seval])
  |true =>
   cases g2:tyB x.ty with
   |false =>
    rw[g1,g2,Bool.and_false,Bool.false_and] at k1 k2
    simp only[wA,seval,f1,f3,c1,hw1,h1,g5Y,g4Z,hi,g5P,hx,g7F,g4U,g4V,hN,hT,g1,g2]
    exact k2 (by simp) _ (by simp only[wQ,seval])
   |true =>
    rw[g1,g2,Bool.and_self,g4X] at k1 k2
    simp only[wA,seval,f1,f3,c1,hw1,h1,g5Y,g4Z,hi,g5P,hx,g7F,g4U,g4V,hN,hT,g1,g2]
    exact ih (i+1) _ hr (by simp only[wQ,seval,f1]) k1 k2
theorem g1T {p:Pg} (hp:PgQ p) {sg:Sg} (h1:sg[0]?=some (false,[PV.t (.sl p.fnl (p.funcs.map λf=>tFu f)),.t (.sl p.dnl (p.decls.map λf=>tDe f)),.t (.sl p.bnl (d1M p.body))])) {ow:Ow} (Q:Ex->S->Prop):∀ (l:List Fu) (i:Nat) (fr:List PV),p.funcs.drop i=l ->
  b6S fr [(1,.lp 0 0),(5,.t (.int .i64 i))] ->
  (l.any dpF=false->∀ fr',a0A fr' 1=.lp 0 0->Q (.exit 4) ⟨fr',sg,ow⟩)->(¬(l.any dpF=false)->∀ fr',a0A fr' 2=.t (.int .i64 3)->Q .ret ⟨fr',sg,ow⟩) ->
  Xl F gl c2B ⟨fr,sg,ow⟩ Q ⟨⟩:=by
 intro l
 induction l with
 |nil =>
  intro i fr hd hf k1 k2
  have hd:=b6N hd
  simp only[b6U,b6T] at hf
  obtain⟨f1,f3,-⟩:=hf
  refine Xl.step ?_
  simp only[c2B]
  have c1:¬((i:Int) < (p.funcs.length:Int)):=by omega
  simp only[wA,seval,f1,f3,c1,h1,g5Y]
  exact k1 rfl _ (by simp only[wQ,seval,f1])
 |cons x l ih =>
  intro i fr hd hf k1 k2
  obtain⟨hx,hr,hi⟩:=b6M hd
  simp only[b6U,b6T] at hf
  obtain⟨f1,f3,-⟩:=hf
  refine Xl.step ?_
  simp only[c2B]
  have c1:(i:Int) < (p.funcs.length:Int):=by omega
  have hb:B20=1100000:=rfl
  have hm:=g6K hx
  have hw1:=d5F hi (show p.funcs.length<=281474976710656 by have:=hp.fl;have:=hp.dl;omega)
  have hD:=λnl K=>ok68 (gl:=gl) (hp.fs x hm).2.1 (lim:=40) (by omega) nl K
  have hE:=λK=>ok69 (gl:=gl) x.ret (hp.fs x hm).2.2 K
  simp only[d1J] at hE
  simp only[Int.cast_ofNat_Int] at hD
  have hde:dpF x=(d8P x.body 40 || decide ((dEx x.ret:Int) > 40)):=rfl
  rw[List.any_cons,hde] at k1 k2
  cases g1:d8P x.body 40 with
  |true =>
   rw[g1,Bool.true_or,Bool.true_or] at k1 k2
   simp only[wA,seval,f1,f3,c1,hw1,h1,g5Y,g4Z,hi,g5P,hx,g7F,g4U,g4V,hD,g1]
   exact k2 (by simp) _ (by simp only[wQ,seval])
  |false =>
   by_cases g2:((dEx x.ret:Nat):Int) > 40
   ·rw[g1,g7K g2,Bool.or_true,Bool.true_or] at k1 k2
    simp only[wA,seval,f1,f3,c1,hw1,h1,g5Y,g4Z,hi,g5P,hx,g7F,g4U,g4V,hD,hE,g1,g2]
    exact k2 (by simp) _ (by simp only[wQ,seval])
   ·rw[g1,g7I g2,Bool.or_false,Bool.false_or] at k1 k2
    simp only[wA,seval,f1,f3,c1,hw1,h1,g5Y,g4Z,hi,g5P,hx,g7F,g4U,g4V,hD,hE,g1,g2]
    exact ih (i+1) _ hr (by simp only[wQ,seval,f1]) k1 k2
theorem ok38 {p:Pg} (hp:PgQ p) (K:PV->Prop):XcP F gl 38 [.agg (tPg p)] K ⟨⟩↔K (.t (.int .i64 (rvP p))):=by
 refine Ret.iff (Ret.of F38 rfl ?_)
 simp only[c2E]
 have hS:=λnl K=>ok67 (gl:=gl) hp.bs nl K
 have hD:=λnl K=>ok68 (gl:=gl) hp.bs (lim:=40) (by omega) nl K
 simp only[Int.cast_ofNat_Int] at hD
 unfold rvP
 simp only[wA,seval]
 refine g1R hp rfl _ p.funcs 0 _ rfl (by simp only[wQ,seval];first|done|exact⟨rfl,rfl⟩|rfl) ?_ ?_
 ·intro g1 fr1 f1
  rw[if_neg (by simp [g1])]
  simp only[wA,seval,f1]
  refine g1S hp rfl _ p.decls 0 _ rfl (by simp only[wQ,seval,f1];first|done|exact⟨rfl,rfl⟩|rfl) ?_ ?_
  ·intro g2 fr2 f1
   rw[if_neg (by simp [g2])]
   cases b1:p.body.all stB with
   |false =>
    simp only[wA,seval,f1,hS,b1,g4U]
    all_goals simp
   |true =>
    rw[if_neg (by simp)]
    simp only[wA,seval,f1,hS,b1,g4V]
    refine g1T hp rfl _ p.funcs 0 _ rfl (by simp only[wQ,seval,f1];first|done|exact⟨rfl,rfl⟩|rfl) ?_ ?_
    ·intro g3 fr3 f1
     rw[if_neg (by simp [g3])]
     cases d1:d8P p.body 40 with
     |false =>
      simp only[wA,seval,f1,hD,d1]
      all_goals simp
     |true =>
      simp only[wA,seval,f1,hD,d1]
      all_goals simp
    ·intro g3 fr3 f2
     rw[if_pos (by simpa using g3)]
     simp only[wA,seval,f2]
  ·intro g2 fr2 f2
   rw[if_pos (by simpa using g2)]
   simp only[wA,seval,f2]
 ·intro g1 fr1 f2
  rw[if_pos (by simpa using g1)]
  simp only[wA,seval,f2]
end Go.Proofs.YtdjcnfacjfnakaaGreat

/- The reference: small functions of types. -/
namespace Go.Proofs.YtdjcnfacjfnakaaGreat
open Go.Pi Go.Lx Go.Ky
variable {gl:Nat->Option (List T)}
theorem g1U (n:Int) {K:PV->Prop}:XcP F gl 44 [.int .i64 n] K ⟨⟩↔K (.t (.int .i64 (e3Z n))):=by
 refine Ret.iff (Ret.of F44 rfl ?_)
 simp only[c2P]
 unfold e3Z
 by_cases h:n > 20000
 ·simp only[wA,seval,h]
 ·simp only[wA,seval,h]
theorem g1V (a b:Int) {K:PV->Prop}:XcP F gl 43 [.int .i64 a,.int .i64 b] K ⟨⟩↔K (.t (.int .i64 (grM a b))):=by
 refine Ret.iff (Ret.of F43 rfl ?_)
 simp only[c2O]
 unfold grM
 by_cases h:a > b
 ·simp only[wA,seval,h]
 ·simp only[wA,seval,h]
theorem ok72 (n s:Int) {K:PV->Prop}:XcP F gl 72 [.int .i64 n,.int .i64 s] K ⟨⟩↔K (.t (.int .i64 (e4A n s))):=by
 refine Ret.iff (Ret.of F72 rfl ?_)
 simp only[c4A]
 unfold e4A
 by_cases h1:n=0
 ·simp only[wA,seval,h1]
  all_goals simp
 by_cases h2:s=0
 ·simp only[wA,seval,h1,h2]
  all_goals simp
 rw[if_neg (by omega)]
 by_cases h3:n > 20000
 ·simp only[wA,seval,h1,h2,h3]
 ·simp only[wA,seval,h1,h2,h3,g1U]
theorem g1W (t:Ty) {K:PV->Prop}:XcP F gl 45 [.agg (tTy t)] K ⟨⟩↔K (.t (.int .i64 (e4B t))):=by
 refine Ret.iff (Ret.of F45 rfl ?_)
 simp only[c2Q]
 unfold e4B
 by_cases h:t.kind=3
 ·simp only[wA,seval,h]
 ·simp only[wA,seval,h]
theorem ok46 (t:Ty) {K:PV->Prop}:XcP F gl 46 [.agg (tTy t)] K ⟨⟩↔K (.t (.int .i64 (elM t))):=by
 refine Ret.iff (Ret.of F46 rfl ?_)
 simp only[c2R]
 unfold elM
 by_cases h:t.len=0
 ·simp only[wA,seval,h]
 ·simp only[wA,seval,h]
theorem g1X (t:Ty) {K:PV->Prop}:XcP F gl 74 [.agg (tTy t)] K ⟨⟩↔K (.t (.bool (d3N t))):=by
 refine Ret.iff (Ret.of F74 rfl ?_)
 simp only[c4C]
 unfold d3N
 simp only[wA,seval]
theorem g1Y {K:PV->Prop}:XcP F gl 71 [] K ⟨⟩↔K (.t (.agg [.int .i64 1,.int .i64 0,.int .i64 0])):=by
 refine Ret.iff (Ret.of F71 rfl ?_)
 simp only[c3Z]
 simp only[wA,seval]
theorem g1Z {K:PV->Prop}:XcP F gl 73 [] K ⟨⟩↔K (.t (.agg [.int .i64 2,.int .i64 0,.int .i64 0])):=by
 refine Ret.iff (Ret.of F73 rfl ?_)
 simp only[c4B]
 simp only[wA,seval]
theorem g2A (e:Int) {K:PV->Prop}:XcP F gl 70 [.int .i64 e] K ⟨⟩↔K (.t (.agg [.int .i64 0,.int .i64 0,.int .i64 0,.int .i64 0,.int .i64 0,.int .i64 e])):=by
 refine Ret.iff (Ret.of F70 rfl ?_)
 simp only[c3Y]
 simp only[wA,seval]
end Go.Proofs.YtdjcnfacjfnakaaGreat

/- The reference: what fits; where a name stands. -/
namespace Go.Proofs.YtdjcnfacjfnakaaGreat
open Go.Pi Go.Lx Go.Ky
variable {gl:Nat->Option (List T)}
theorem g2B (a b:Ty) {K:PV->Prop}:XcP F gl 42 [.agg (tTy a),.agg (tTy b)] K ⟨⟩↔K (.t (.bool (e4C a b))):=by
 refine Ret.iff (Ret.of F42 rfl ?_)
 simp only[c2N]
 have hq:=d5D a b
 unfold e4C
 by_cases h:a=b
 ·rw[g7K h] at hq
  rw[if_pos h]
  simp only[wA,seval,hq]
 rw[g7I h] at hq
 rw[if_neg h]
 by_cases h1:a.len=b.len
 ·have h1':(a.len=b.len)=True:=g7N h1
  rw[if_neg (by simpa using h1)]
  by_cases k1:b.kind=1
  ·have k1':(b.kind=1)=True:=g7N k1
   rw[if_pos k1]
   simp only[wA,seval,hq,h1',k1']
   repeat' ((with_reducible first|refine c0S ?_ ?_|refine c0T ?_ ?_|refine c0R ?_ ?_|refine c0Q ?_ ?_|refine c0O ?_ ?_|refine c0P ?_ ?_|refine c0N ?_ ?_|refine c0M ?_ ?_) <;> intro h <;> (try simp only[wA,seval,hq,h1',k1',h]))
   all_goals simp_all
  ·rw[if_neg k1]
   simp only[wA,seval,hq,h1',k1]
   repeat' ((with_reducible first|refine c0S ?_ ?_|refine c0T ?_ ?_|refine c0R ?_ ?_|refine c0Q ?_ ?_|refine c0O ?_ ?_|refine c0P ?_ ?_|refine c0N ?_ ?_|refine c0M ?_ ?_) <;> intro h <;> (try simp only[wA,seval,hq,h1',k1,h]))
   all_goals simp_all
 ·have h1':(a.len=b.len)=False:=g7M h1
  rw[if_pos h1]
  simp only[wA,seval,hq,h1']
  repeat' ((with_reducible first|refine c0S ?_ ?_|refine c0T ?_ ?_|refine c0R ?_ ?_|refine c0Q ?_ ?_|refine c0O ?_ ?_|refine c0P ?_ ?_|refine c0N ?_ ?_|refine c0M ?_ ?_) <;> intro h <;> (try simp only[wA,seval,hq,h1',h]))
  all_goals simp_all
theorem g2C {ns:Ns} {nl:Bool} {k:Nm} (hls:ns.length<=4 * B20) {sg:Sg} {ow:Ow} (Q:Ex->S->Prop):∀ (l:Ns) (i:Nat) (fr:List PV),ns.drop i=l ->
  b6S fr [(0,.t (.sl nl (ns.map e4D))),(1,.t (.str k)),(5,.t (.int .i64 i))] ->
  (e4E k l i=-1->∀ fr',Q (.exit 0) ⟨fr',sg,ow⟩)->(e4E k l i≠-1->∀ fr',a0A fr' 4=.t (.int .i64 (e4E k l i))->Q .ret ⟨fr',sg,ow⟩) ->
  Xl F gl c2F ⟨fr,sg,ow⟩ Q ⟨⟩:=by
 intro l
 induction l with
 |nil =>
  intro i fr hd hf k1 k2
  have hd:=b6N hd
  simp only[b6U,b6T] at hf
  obtain⟨f0,f1,f5,-⟩:=hf
  refine Xl.step ?_
  simp only[c2F]
  have c1:¬((i:Int) < (ns.length:Int)):=by omega
  simp only[wA,seval,f0,f1,f5,c1,g5Y]
  exact k1 rfl _
 |cons x l ih =>
  intro i fr hd hf k1 k2
  obtain⟨hx,hr,hi⟩:=b6M hd
  simp only[b6U,b6T] at hf
  obtain⟨f0,f1,f5,-⟩:=hf
  refine Xl.step ?_
  simp only[c2F]
  have c1:(i:Int) < (ns.length:Int):=by omega
  have hb:B20=1100000:=rfl
  have hw1:=d5F hi (show ns.length<=281474976710656 by omega)
  by_cases hxk:x.1=k
  ·have hxb:(x.1 == k)=true:=by simpa using hxk
   have hfi:e4E k (x::l) i=(i:Int):=by rw[e4E,if_pos hxk]
   rw[hfi] at k1 k2
   simp only[wA,seval,f0,f1,f5,c1,hw1,g5Y,g4Z,hi,g5P,hx,g7F,hxb,hxk,beq_self_eq_true]
   exact k2 (by omega) _ (by simp only[wQ,seval])
  ·have hxb:(x.1 == k)=false:=by simpa using hxk
   have hfi:e4E k (x::l) i=e4E k l (i+1):=by rw[e4E,if_neg hxk]
   rw[hfi] at k1 k2
   simp only[wA,seval,f0,f1,f5,c1,hw1,g5Y,g4Z,hi,g5P,hx,g7F,hxb,hxk,beq_self_eq_true]
   exact ih (i+1) _ hr (by simp only[wQ,seval,f0,f1]) k1 k2
theorem g2D {ns:Ns} (nl:Bool) (k:Nm) (hls:ns.length<=4 * B20) {K:PV->Prop}:XcP F gl 39 [.sl nl (ns.map e4D),.str k] K ⟨⟩↔K (.t (.int .i64 (e4E k ns 0))):=by
 refine Ret.iff (Ret.of F39 rfl ?_)
 simp only[c2G]
 simp only[wA,seval]
 refine g2C hls _ ns 0 _ rfl (by simp only[wQ,seval];first|done|exact⟨rfl,rfl⟩|rfl) ?_ ?_
 ·intro h fr'
  simp only[wA,seval]
  rw[h]
 ·intro h fr' f2
  simp only[wA,seval,f2]
end Go.Proofs.YtdjcnfacjfnakaaGreat

/- The reference: binary digits. -/
namespace Go.Proofs.YtdjcnfacjfnakaaGreat
open Go.Pi Go.Lx Go.Ky
variable {gl:Nat->Option (List T)}
theorem g2E {sg:Sg} {ow:Ow} (Q:Ex->S->Prop):∀ (b n d:Nat) (fr:List PV),n < 2 ^ b->b<=64->d+b<=100 ->
  b6S fr [(0,.t (.int .u64 n)),(3,.t (.int .i64 d))] ->
  (∀ fr',a0A fr' 3=.t (.int .i64 ((d+n.log2:Nat):Int))->Q (.exit 0) ⟨fr',sg,ow⟩) ->
  Xl F gl c4D ⟨fr,sg,ow⟩ Q ⟨⟩:=by
 intro b
 induction b with
 |zero =>
  intro n d fr hn hb hd hf k1
  simp only[b6U,b6T] at hf
  obtain⟨f0,f3,-⟩:=hf
  have h0:n=0:=by simpa using hn
  subst h0
  refine Xl.step ?_
  simp only[c4D]
  have c1:¬(((0:Nat):Int) > 1):=by omega
  simp only[wA,seval,f0,f3,c1]
  exact k1 _ (by simp only[wQ,seval,f3];rfl)
 |succ b ih =>
  intro n d fr hn hb hd hf k1
  simp only[b6U,b6T] at hf
  obtain⟨f0,f3,-⟩:=hf
  refine Xl.step ?_
  simp only[c4D]
  by_cases h1:(n:Int) > 1
  ·have hw:IntKind.i64.wrap ((d:Int)+1)=((d+1:Nat):Int):=by rw[d7J (by omega) (by omega)];omega
   have hq:Int.tdiv (n:Int) 2=((n / 2:Nat):Int):=rfl
   have hq2:IntKind.u64.wrap ((n / 2:Nat):Int)=((n / 2:Nat):Int):=by
    have hp:2 ^ (b+1)<=2 ^ 64:=Nat.pow_le_pow_right (by omega) hb
    have:IntKind.wrap .u64 ((n / 2:Nat):Int)=((n / 2:Nat):Int) % 18446744073709551616:=rfl
    rw[this]
    omega
   simp only[wA,seval,f0,f3,h1,hw,hq,hq2]
   refine ih (n / 2) (d+1) _ (by rw[Nat.pow_succ] at hn;omega) (by omega) (by omega) (by simp only[wQ,seval];first|done|exact⟨rfl,rfl⟩|rfl) λfr' h=>k1 fr' ?_
   rw[h]
   have hl:n.log2=(n / 2).log2+1:=by rw[Nat.log2_def n,if_pos (by omega)]
   rw[hl]
   congr 3
   omega
  ·simp only[wA,seval,f0,f3,h1]
   have hl:n.log2=0:=by
    have:n=0\/n=1:=by omega
    rcases this with h|h <;> subst h <;> rfl
   exact k1 _ (by simp only[wQ,seval,f3,hl,g6R])
theorem ok75 (n:Nat) (hn:n < 2 ^ 64) {K:PV->Prop}:XcP F gl 75 [.int .u64 (n:Int)] K ⟨⟩↔K (.t (.int .i64 ((1+n.log2:Nat):Int))):=by
 refine Ret.iff (Ret.of F75 rfl ?_)
 simp only[c4E]
 simp only[wA,seval]
 refine g2E _ 64 n 1 _ hn (by omega) (by omega) (by simp only[wQ,seval];first|done|exact⟨rfl,rfl⟩|rfl) λfr' h=>?_
 simp only[wA,seval,h]
end Go.Proofs.YtdjcnfacjfnakaaGreat
