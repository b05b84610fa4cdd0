/- Contracts: linear combinations. -/
import Derived.Test.YtdjcnfacjfnakaaGreatF2
import Derived.Test.YtdjcnfacjfnakaaGreatKx89
import Derived.Test.YtdjcnfacjfnakaaGreatKx89
set_option maxRecDepth 10000
set_option linter.unusedVariables false
set_option linter.unusedSimpArgs false
namespace Go.Proofs.YtdjcnfacjfnakaaGreat
open Go.Pi Go.Lx Go.Ky Go.Lib
variable {gl:Nat->Option (List T)}
def f6G (p a:Int):Int:=if a % p=0 then 0 else p - a % p
def foF (p:Int):Fo:=⟨p,λa=>a % p,f6G p,e3I p,e3J p,(e3A p).2.2,rc p⟩
theorem f6H {p a:Int} (hp:0 < p):0<=f6G p a/\f6G p a < p:=by
 have h1:=Int.emod_nonneg a (show p≠0 by omega)
 have h2:=Int.emod_lt_of_pos a hp
 unfold f6G
 split <;> omega
theorem f6I {p:Int} (hk:e2X p=true):(foF p).Ok:=by
 obtain⟨b1,b2⟩:=e3H hk
 have hp:0 < p:=by omega
 refine⟨⟨λa _=>Int.emod_nonneg a (by omega),λa _=>(f6H hp).1,λa b ha hb=>e3Q ha hb,λa b ha hb=>e3R ha hb,λr i=>Int.emod_nonneg _ (by omega)⟩,?_,by show 1<=p;omega⟩
 show(e3A p).2.2=3\/(e3A p).2.2=5\/(e3A p).2.2=7
 unfold e2X at hk
 simp only[g7L] at hk
 rcases hk with rfl|rfl|rfl|rfl|rfl|rfl|rfl <;> decide
theorem f6J {p a:Int} (hk:e2X p=true) (ha:0<=a) {K:PV->Prop}:XcP F gl 159 [.agg [.int .u64 p],.int .u64 a] K ⟨⟩↔K (.t (.int .u64 (f6G p a))):=by
 refine Ret.iff (Ret.of F159 rfl ?_)
 obtain⟨b1,b2⟩:=e3H hk
 have h1:=Int.emod_nonneg a (show p≠0 by omega)
 have h2:=Int.emod_lt_of_pos a (show 0 < p by omega)
 have hw:IntKind.u64.wrap (p - a % p)=p - a % p:=IntWalk.u64_in _ (by omega)
 have hr:=λK=>@e3W gl p a hk ha K
 simp only[c7R]
 by_cases c:a % p=0
 ·simp only[wA,seval,hr,c]
  simp [f6G,c]
 ·simp only[wA,seval,hr,c,hw]
  simp [f6G,c]
theorem f6K (a b:Int):b4J 2 1 [T.int .i64 0,T.int .u64 0] [(0,2,PV.t (.agg [.int .i64 a,.int .u64 b]))]=some (.lit [[.int .i64 a,.int .u64 b]]):=rfl
theorem f6L {p v n:Int} (hk:e2X p=true) (hn:0<=n) {K:PV->Prop}:XcP F gl 136 [.int .u64 p,.int .i64 v,.int .u64 n] K ⟨⟩↔K (.t (tLi (f0F (foF p) v n))):=by
 refine Ret.iff (Ret.of F136 rfl ?_)
 have hr:=λK=>@e3W gl p n hk hn K
 simp only[c6R]
 have e:(foF p).red n=n % p:=rfl
 unfold f0F
 rw[e]
 by_cases c:n % p=0
 ·rw[if_pos c]
  simp only[wA,seval,hr,c]
  rfl
 ·rw[if_neg c]
  simp only[wA,seval,hr,c,f6K]
  rfl
theorem f6M {p n:Int} (hk:e2X p=true) (hn:0<=n) {K:PV->Prop}:XcP F gl 89 [.int .u64 p,.int .u64 n] K ⟨⟩↔K (.t (tLi (f0G (foF p) n))):=by
 refine Ret.iff (Ret.of F89 rfl ?_)
 have hr:=λK=>@f6L gl p 0 n hk hn K
 simp only[c4N]
 simp only[wA,seval,hr]
 rfl
theorem f6N (l:List (Int×Int)):a0P 2 (tTs l)=true:=by cases l <;> rfl
theorem f6O (l:List (Int×Int)) {K:PV->Prop}:XcP F gl 205 [.sl false (tTs l)] K ⟨⟩↔K (.t (.sl false (tTs l))):=by
 refine Ret.iff (Ret.of F205 rfl ?_)
 simp only[c9X]
 have h:a0Q 2 (.t (.sl false (tTs l))) none (some (.t (.int .i64 (l.length:Int)))) (some (.t (.int .i64 (l.length:Int))))=some (.cp (tTs l)):=by
  have hn:(0:Int)<=(l.length:Int):=Int.natCast_nonneg _
  have hs:=f6N l
  have ht:(tTs l).take l.length=tTs l:=List.take_of_length_le (by rw[f5D];exact g6U _)
  simp only[a0Q,elems,bound,hn,if_true,g4Z,f5D,ht,g5F,hs,g7B,g6U,g7H]
 simp only[wA,seval,f5D,h]
theorem f6P (dr:Bool) (sg:Sg) (v c:Int) (l:List (Int×Int)):a0R dr sg [l.length] 2 16 (.own 0 2 (tTs l)) (.lit [[.int .i64 v,.int .u64 c]])=if l.length<=4000000 then some (.own 0 2 (tTs (l++[(v,c)])),[(l++[(v,c)]).length]) else a0R dr sg [l.length] 2 16 (.own 0 2 (tTs l)) (.lit [[.int .i64 v,.int .u64 c]]):=by
 split
 ·rename_i h
  have hr:a0M (l.length+1) 16=true:=by unfold a0M;simp only[g7L];omega
  have ha:[[T.int .i64 v,T.int .u64 c]].all (λx=>x.length == 2)=true:=rfl
  unfold a0R
  simp only[a0K,elems]
  rw[if_pos ⟨ha,by decide⟩]
  simp only[g5X,g5Z,g7A,f5D,hr,List.getElem?_cons_zero,g7H,if_true,List.set_cons_zero,g5W]
  rw[show tTs l++[[T.int .i64 v,T.int .u64 c]]=tTs (l++[(v,c)]) by unfold tTs;rw[g6D];rfl]
 ·rfl
theorem f6Q (nl:Bool) (a:Int×Int) (r:List (Int×Int)):a0Q 2 (.t (.sl nl (tTs (a::r)))) (some (.t (.int .i64 1))) none none=some (.t (.sl nl (tTs r))):=by
 have hs:=f6N r
 have hl:(tTs (a::r)).length=r.length+1:=by rw[f5D];rfl
 have ht:(tTs (a::r)).take (r.length+1)=tTs (a::r):=List.take_of_length_le (by rw[hl];exact g6U _)
 have hd:(tTs (a::r)).drop 1=tTs r:=rfl
 have h0:bound (some (PV.t (.int .i64 1))) 0=some 1:=rfl
 have h1:bound none (r.length+1)=some (r.length+1):=rfl
 have he:elems (.t (.sl nl (tTs (a::r))))=some (tTs (a::r)):=rfl
 unfold a0Q
 simp only[he,h0,hl,h1,ht,hd]
 rw[if_pos ⟨by omega,g6U _,g6U _,hs⟩]
theorem f6R {p n:Int} (hk:e2X p=true) (hn:0<=n) (Q:Ex->S->Prop):∀ (k:Nat) (xs ys acc:List (Int×Int)) (nx ny:Bool) (fr:List PV) (sg:Sg),xs.length+ys.length<=k->(∀ t,t∈xs->0<=t.2)->(∀ t,t∈ys->0<=t.2)->acc.length+k<=4000000->sg[0]?=some (false,[.t (.int .u64 p)]) ->
  b6S fr [(1,.t (.sl nx (tTs xs))),(2,.t (.sl ny (tTs ys))),(3,.t (.int .u64 n)),(9,.lp 0 0),(10,.own 0 2 (tTs acc))] ->
  (∀ fr' sg',a0A fr' 10=.own 0 2 (tTs (acc++f0K (foF p) n k xs ys))->Q (.exit 0) ⟨fr',sg',[(acc++f0K (foF p) n k xs ys).length]⟩) ->
  Xl F gl c8K ⟨fr,sg,[acc.length]⟩ Q ⟨⟩:=by
 intro k
 induction k with
 |zero =>
  intro xs ys acc nx ny fr sg hl hx hy ha hs hf k1
  have e1:xs=[]:=List.length_eq_zero_iff.1 (by omega)
  have e2:ys=[]:=List.length_eq_zero_iff.1 (by omega)
  subst e1 e2
  simp only[b6U,b6T] at hf
  obtain⟨f1,f2,f3,f9,f10,-⟩:=hf
  refine Xl.step ?_
  simp only[c8K]
  rw[f0K,g5C] at k1
  simp only[wA,seval,f1,f2,f3,f9,f10,f5D]
  exact k1 _ _ (by simp only[wQ,seval,f10])
 |succ k ih =>
  intro xs ys acc nx ny fr sg hl hx hy ha hs hf k1
  simp only[b6U,b6T] at hf
  obtain⟨f1,f2,f3,f9,f10,-⟩:=hf
  have hacc:acc.length<=4000000:=by omega
  have happ:=λsg v c=>f6P false sg v c acc
  simp only[hacc,if_true] at happ
  have fin:∀ (xs' ys':List (Int×Int)) (t:Int×Int),xs'.length+ys'.length<=k->(∀ t,t∈xs'->0<=t.2)->(∀ t,t∈ys'->0<=t.2)->f0K (foF p) n (k+1) xs ys=f0J t (f0K (foF p) n k xs' ys') ->
    (t.2=0->∀ (nx' ny':Bool) (fr':List PV) (sg':Sg),sg'[0]?=some (false,[.t (.int .u64 p)])->b6S fr' [(1,.t (.sl nx' (tTs xs'))),(2,.t (.sl ny' (tTs ys'))),(3,.t (.int .u64 n)),(9,.lp 0 0),(10,.own 0 2 (tTs acc))]->Xl F gl c8K ⟨fr',sg',[acc.length]⟩ Q ⟨⟩) /\
    (t.2≠0->∀ (nx' ny':Bool) (fr':List PV) (sg':Sg),sg'[0]?=some (false,[.t (.int .u64 p)])->b6S fr' [(1,.t (.sl nx' (tTs xs'))),(2,.t (.sl ny' (tTs ys'))),(3,.t (.int .u64 n)),(9,.lp 0 0),(10,.own 0 2 (tTs (acc++[t])))]->Xl F gl c8K ⟨fr',sg',[acc.length+1]⟩ Q ⟨⟩):=by
   intro xs' ys' t h1 h2 h3 h5
   rw[h5] at k1
   unfold f0J at k1
   refine⟨λhz nx' ny' fr' sg' h4 hf=>?_,λhz nx' ny' fr' sg' h4 hf=>?_⟩
   ·rw[if_pos hz] at k1
    exact ih xs' ys' acc nx' ny' fr' sg' h1 h2 h3 (by omega) h4 hf k1
   ·rw[if_neg hz] at k1
    have hq:=ih xs' ys' (acc++[t]) nx' ny' fr' sg' h1 h2 h3 (by rw[g5W,List.length_singleton];omega) h4 hf (by rw[g5B];exact k1)
    rw[g5W,List.length_singleton] at hq
    exact hq
  refine Xl.step ?_
  simp only[c8K]
  have l0:=d4U hs
  have hml:=λ(c:Int) (hc:0<=c) K=>@e3P gl p n c hn hc K
  rcases xs with _|⟨x,xs⟩ <;> rcases ys with _|⟨y,ys⟩
  ·clear fin
   rw[f0K,g5C] at k1
   simp only[wA,seval,f1,f2,f3,f9,f10,f5D]
   exact k1 _ _ (by simp only[wQ,seval,f10])
  ·have c1:(0:Int) < ((ys.length+1:Nat):Int):=by omega
   have c2:¬((ys.length+1:Nat):Int)=0:=by omega
   have hm:=hml y.2 (hy y (by simp))
   obtain⟨g1,g2⟩:=fin [] ys (y.1,e3J p n y.2) (by simpa using hl) hx (λt ht=>hy t (by simp [ht])) (by rw[f0K];rfl)
   by_cases cz:e3J p n y.2=0
   ·simp only[wA,seval,f1,f2,f3,f9,f10,f5D,f5E,c1,c2,f6Q,cz,hm,d5I l0,hs]
    refine g1 cz nx ny _ _ (by rw[d5I l0];exact hs) (by simp only[wQ,seval,f1,f2,f3,f9,f10])
   ·simp only[wA,seval,f1,f2,f3,f9,f10,f5D,f5E,c1,c2,f6Q,cz,hm,d5I l0,hs,f6K,happ]
    refine g2 cz nx ny _ _ (by rw[d5I l0];exact hs) (by simp only[wQ,seval,f1,f2,f3,f9])
  ·have c1:(0:Int) < ((xs.length+1:Nat):Int):=by omega
   obtain⟨g1,g2⟩:=fin xs [] x (by simpa using hl) (λt ht=>hx t (by simp [ht])) hy (by rw[f0K])
   by_cases cz:x.2=0
   ·simp only[wA,seval,f1,f2,f3,f9,f10,f5D,f5E,c1,f6Q,cz]
    refine g1 cz nx ny _ _ (by rw[d5I l0];exact hs) (by simp only[wQ,seval,f1,f2,f3,f9,f10])
   ·simp only[wA,seval,f1,f2,f3,f9,f10,f5D,f5E,c1,f6Q,cz,f6K,happ]
    refine g2 cz nx ny _ _ (by rw[d5I l0];exact hs) (by simp only[wQ,seval,f1,f2,f3,f9])
  ·have c1:(0:Int) < ((ys.length+1:Nat):Int):=by omega
   have c2:¬((ys.length+1:Nat):Int)=0:=by omega
   have c3:(0:Int) < ((xs.length+1:Nat):Int):=by omega
   have c4:¬((xs.length+1:Nat):Int)=0:=by omega
   have hm:=hml y.2 (hy y (by simp))
   by_cases d1:x.1 < y.1
   ·obtain⟨g1,g2⟩:=fin xs (y::ys) x (by simp only[g5X] at hl ⊢;omega) (λt ht=>hx t (by simp [ht])) hy (by rw[f0K,if_pos d1])
    by_cases cz:x.2=0
    ·simp only[wA,seval,f1,f2,f3,f9,f10,f5D,f5E,c1,c2,c3,c4,d1,f6Q,cz,hm,d5I l0,hs]
     refine g1 cz nx ny _ _ (by rw[d5I l0];exact hs) (by simp only[wQ,seval,f1,f2,f3,f9,f10])
    ·simp only[wA,seval,f1,f2,f3,f9,f10,f5D,f5E,c1,c2,c3,c4,d1,f6Q,cz,hm,d5I l0,hs,f6K,happ]
     refine g2 cz nx ny _ _ (by rw[d5I l0];exact hs) (by simp only[wQ,seval,f1,f2,f3,f9])
   by_cases d2:y.1 < x.1
   ·obtain⟨g1,g2⟩:=fin (x::xs) ys (y.1,e3J p n y.2) (by simp only[g5X] at hl ⊢;omega) hx (λt ht=>hy t (by simp [ht])) (by rw[f0K,if_neg d1,if_pos d2];rfl)
    by_cases cz:e3J p n y.2=0
    ·simp only[wA,seval,f1,f2,f3,f9,f10,f5D,f5E,c1,c2,c3,c4,d1,d2,f6Q,cz,hm,d5I l0,hs]
     refine g1 cz nx ny _ _ (by rw[d5I l0];exact hs) (by simp only[wQ,seval,f1,f2,f3,f9,f10])
    ·simp only[wA,seval,f1,f2,f3,f9,f10,f5D,f5E,c1,c2,c3,c4,d1,d2,f6Q,cz,hm,d5I l0,hs,f6K,happ]
     refine g2 cz nx ny _ _ (by rw[d5I l0];exact hs) (by simp only[wQ,seval,f1,f2,f3,f9])
   ·have ha:=λK=>@e3O gl p x.2 (e3J p n y.2) (hx x (by simp)) (e3R hn (hy y (by simp))) K
    obtain⟨g1,g2⟩:=fin xs ys (x.1,e3I p x.2 (e3J p n y.2)) (by simp only[g5X] at hl ⊢;omega) (λt ht=>hx t (by simp [ht])) (λt ht=>hy t (by simp [ht])) (by rw[f0K,if_neg d1,if_neg d2];rfl)
    by_cases cz:e3I p x.2 (e3J p n y.2)=0
    ·simp only[wA,seval,f1,f2,f3,f9,f10,f5D,f5E,c1,c2,c3,c4,d1,d2,f6Q,cz,hm,ha,d5I l0,hs]
     refine g1 cz nx ny _ _ (by rw[d5I l0];exact hs) (by simp only[wQ,seval,f1,f2,f3,f9,f10])
    ·simp only[wA,seval,f1,f2,f3,f9,f10,f5D,f5E,c1,c2,c3,c4,d1,d2,f6Q,cz,hm,ha,d5I l0,hs,f6K,happ]
     refine g2 cz nx ny _ _ (by rw[d5I l0];exact hs) (by simp only[wQ,seval,f1,f2,f3,f9])
def LiG (l:Li):Prop:=l.ts.length<=1000000/\∀ t,t∈l.ts->0<=t.2
theorem f6S {p n:Int} (hk:e2X p=true) (hn:0<=n) {x y:Li} (hx:LiG x) (hy:LiG y) {K:PV->Prop}:XcP F gl 177 [.int .u64 p,tLi x,tLi y,.int .u64 n] K ⟨⟩↔K (.t (tLi (f0L (foF p) x y n))):=by
 refine Ret.iff (Ret.of F177 rfl ?_)
 simp only[c8L]
 have hw:IntKind.i64.wrap ((x.ts.length:Int)+(y.ts.length:Int))=((x.ts.length+y.ts.length:Nat):Int):=by
  rw[IntWalk.i64_in _ (by have:=hx.1;have:=hy.1;omega)];omega
 have hroom:a0M (x.ts.length+y.ts.length) 16=true:=by
  have:=hx.1;have:=hy.1
  unfold a0M;simp only[g7L];omega
 have hle:(0:Int)<=((x.ts.length+y.ts.length:Nat):Int):=Int.natCast_nonneg _
 simp only[wA,seval,e2Z,hk,f5D,hw,b4G,hroom,hle,g4Z]
 refine f6R hk hn _ (x.ts.length+y.ts.length) x.ts y.ts [] x.nl y.nl _ _ (g6U _) hx.2 hy.2 (by have:=hx.1;have:=hy.1;simp only[g5Z];omega) rfl (by simp only[wQ,seval];first|done|exact⟨rfl,rfl⟩|rfl) ?_
 intro fr' sg' h10
 have hc:=λK=>@f6O gl (f0K (foF p) n (x.ts.length+y.ts.length) x.ts y.ts) K
 rw[List.nil_append] at h10 ⊢
 simp only[wA,seval,h10,hc]
 rfl
theorem LiOk.g {n:Int} (h0:0<=n) (hn:n<=1000000) {l:Li} (h:LiOk n l):LiG l:=by
 refine⟨by have:=h.len h0;omega,?_⟩
 have:∀ (l:List (Int×Int)) (lo:Int),Inc lo n l->∀ t,t∈l->0<=t.2:=by
  intro l
  induction l with
  |nil=>intro lo _ t ht;cases ht
  |cons a r ih =>
   intro lo hi t ht
   rcases g6H.1 ht with rfl|ht
   ·exact hi.2.2.1
   ·exact ih _ hi.2.2.2 t ht
 exact this l.ts 0 h.1
theorem f6T {p:Int} (hk:e2X p=true) {x y:Li} (hx:LiG x) (hy:LiG y) {K:PV->Prop}:XcP F gl 169 [.int .u64 p,tLi x,tLi y] K ⟨⟩↔K (.t (tLi (f0M (foF p) x y))):=by
 refine Ret.iff (Ret.of F169 rfl ?_)
 simp only[c8C]
 have h:=λK=>@f6S gl p 1 hk (by decide) x y hx hy K
 simp only[wA,seval,h]
 rfl
theorem f6U {p n:Int} (hk:e2X p=true) (hn:0<=n) {x:Li} (hx:LiG x) {K:PV->Prop}:XcP F gl 168 [.int .u64 p,tLi x,.int .u64 n] K ⟨⟩↔K (.t (tLi (f0O (foF p) x n))):=by
 refine Ret.iff (Ret.of F168 rfl ?_)
 simp only[c8B]
 have h:=λK=>@f6S gl p n hk hn f0E x ⟨g7B _,λt ht=>by cases ht⟩ hx K
 have e:tLi f0E=.sl true []:=rfl
 rw[e] at h
 simp only[wA,seval,h]
 rfl
theorem f6V {p:Int} (hk:e2X p=true) {x y:Li} (hx:LiG x) (hy:LiG y) {K:PV->Prop}:XcP F gl 134 [.int .u64 p,tLi x,tLi y] K ⟨⟩↔K (.t (tLi (f0N (foF p) x y))):=by
 refine Ret.iff (Ret.of F134 rfl ?_)
 simp only[c6P]
 obtain⟨b1,b2⟩:=e3H hk
 have h:=λK=>@f6S gl p (f6G p 1) hk (f6H (by omega)).1 x y hx hy K
 have hn:=λK=>@f6J gl p 1 hk (by decide) K
 simp only[wA,seval,hn,h]
 rfl
theorem f6W (dr:Bool) (sg:Sg) (ow:Ow) (a:Int×Int) (l:List (Int×Int)) (h:l.length<=1000000):a0R dr sg ow 2 16 (.lit []) (.t (.sl false (tTs (a::l))))=some (.own ow.length 2 (tTs (a::l)),ow++[(a::l).length]):=by
 have hr:a0M (a::l).length 16=true:=by unfold a0M;simp only[g7L,g5X];omega
 have ha:(tTs (a::l)).all (λx=>x.length == 2)=true:=by
  unfold tTs
  rw[List.all_map]
  exact g5A.2 λx _=>rfl
 have hl:=f5D (a::l)
 show a0R dr sg ow 2 16 (.lit []) (.t (.sl false ([T.int .i64 a.1,T.int .u64 a.2]::tTs l)))=some (.own ow.length 2 ([T.int .i64 a.1,T.int .u64 a.2]::tTs l),_)
 replace ha:([T.int .i64 a.1,T.int .u64 a.2]::tTs l).all (λx=>x.length == 2)=true:=ha
 replace hl:([T.int .i64 a.1,T.int .u64 a.2]::tTs l).length=(a::l).length:=hl
 unfold a0R
 simp only[a0K,elems]
 rw[if_pos ⟨ha,by decide⟩]
 simp only[g5Z,g7A,hl,hr,List.all_nil,List.nil_append,g7H,if_true]
theorem f6X:b4J 2 0 [T.int .i64 0,T.int .u64 0] []=some (.lit []):=rfl
theorem f6Y {l:Li} (h:l.ts.length<=1000000) (hn:l.nl=true->l.ts=[]) {K:PV->Prop}:XcP F gl 93 [tLi l] K ⟨⟩↔K (.t (tLi l)):=by
 refine Ret.iff (Ret.of F93 rfl ?_)
 simp only[c4S]
 obtain⟨nl,ts⟩:=l
 cases nl with
 |true =>
  have:ts=[]:=hn rfl
  subst this
  simp only[wA,seval]
  rfl
 |false =>
  cases ts with
  |nil =>
   have ha:∀ sg ow,a0R false sg ow 2 16 (.lit []) (.t (tLi ⟨false,[]⟩))=some (.lit [],ow):=λ_ _=>rfl
   simp only[wA,seval,f6X,ha]
   rfl
  |cons a r =>
   have ha:=λsg ow=>f6W false sg ow a r (by simp only[g5X] at h;omega)
   simp only[wA,seval,f6X,ha]
end Go.Proofs.YtdjcnfacjfnakaaGreat

/- Contracts: the builder of circuits: hints, rows. -/
namespace Go.Proofs.YtdjcnfacjfnakaaGreat
open Go.Pi Go.Lx Go.Ky Go.Lib
variable {gl:Nat->Option (List T)}
theorem LiOk.g' {b:Bd} (ho:BdOk b) {k:Int} (hm:Rm b k) (h0:0<=k) {l:Li} (h:LiOk b.vars l):LiG l:=LiOk.g (Int.le_of_lt ho.pos) (by have:=hm.1;omega) h
theorem LiOk.c {b:Bd} (ho:BdOk b) {k:Int} (hm:Rm b k) (h0:0<=k) {l:Li} (h:LiOk b.vars l):LiC l:=⟨(LiOk.g' ho hm h0 h).1,h.2⟩
theorem f6Z {b:Bd} (ho:BdOk b) {k:Int} (hm:Rm b k) (h0:0<=k) {l:Li} (h:LiOk b.vars l) {K:PV->Prop}:XcP F gl 93 [tLi l] K ⟨⟩↔K (.t (tLi l)) :=
 f6Y (LiOk.g' ho hm h0 h).1 h.2
theorem f7A {p:Int} (hk:e2X p=true) {sg:Sg} {r ri hi:Nat} {b:Bd} (hb:BS sg r ri hi p b) (v:Int) (ow:Ow):RetE F gl 138 [.lp r 0,.t (.int .i64 v)] sg ow (.t (tLi (f0H (foF p) v))) sg ow:=by
 obtain⟨rv,hv,h1,h2,h3⟩:=hb.ex
 refine RetE.of F138 rfl ?_
 simp only[c6U]
 have ht:=λK=>@f6L gl p v 1 hk (by decide) K
 simp only[wA,seval,h1,ht]
 rfl
theorem f7B {p:Int} (hk:e2X p=true) {sg:Sg} {r ri hi:Nat} {b:Bd} (hb:BS sg r ri hi p b) (ow:Ow):RetE F gl 135 [.lp r 0] sg ow (.t (tLi (f0I (foF p)))) sg ow:=by
 refine RetE.of F135 rfl ?_
 simp only[c6Q]
 have ht:=λK=>RetE.iff (K:=K) (@f7A gl p hk sg r ri hi b hb 0 ow)
 simp only[wA,seval,ht]
 rfl
theorem f7C (h:Ht):b4J 4 1 [T.int .i64 0,T.sl true [],T.sl true [],T.int .i64 0] [(0,4,PV.t (.agg (tHt h)))]=some (.lit [tHt h]):=rfl
theorem f7D (a b c:Li):b4J 3 1 [T.sl true [],T.sl true [],T.sl true []] [(0,3,PV.t (.agg [tLi a,tLi b,tLi c]))]=some (.lit [[tLi a,tLi b,tLi c]]):=rfl
theorem f7E {α:Type} (l:List α) (i:Nat) (a b:α):(l.set i a).set i b=l.set i b:=List.set_set ..
theorem f7F {p:Int} (hk:e2X p=true) {sg:Sg} {r ri hi:Nat} {b:Bd} (hb:BS sg r ri hi p b) (ho:BdOk b) (hm:Rm b 1) {h:Ht} (ha:LiOk b.vars h.a) (hbb:LiOk b.vars h.b) (ow:Ow) :
  CallE F gl 176 [.lp r 0,.t (.agg (tHt h))] sg ow λx sg' ow'=>x=.t (tLi (f0P (foF p) h b).1)/\Gd sg ow r ri hi p (f0P (foF p) h b).2 sg' ow':=by
 obtain⟨rv,hv,h1,h2,h3⟩:=hb.ex
 have lr:=d4U h1
 have hca:=λK=>@f6Z gl b ho 1 hm (by decide) h.a ha K
 have hcb:=λK=>@f6Z gl b ho 1 hm (by decide) h.b hbb K
 have hvr:=ho.vars
 have hroom:a0M (b.hints.length+1) 64=true:=by
  have:=hm.1;have:=ho.pub;have:=ho.sec
  unfold a0M;simp only[g7L];omega
 have h3':Bf (sg++[(false,cHt h)]) r hv hi 4 b.hints.length (b.hints.flatMap cHt):=h3.get λ_ hl=>g5J hl
 have h2':Bf (sg++[(false,cHt h)]) r rv ri 3 b.rows.length (b.rows.flatMap cRw):=h2.get λ_ hl=>g5J hl
 have h1':(sg++[(false,cHt h)])[r]?=some (false,[.t (.int .u64 p),.t (.int .u64 p),.t (.int .i64 b.pub),.t (.int .i64 b.vars),rv,.t (.int .i64 b.sec),hv]):=by rw[d5I lr];exact h1
 obtain⟨v',sg1,e1,e2,e3,e4,e5,e6⟩:=Bf.apb h3' (d4U h1') (e:=tHt h) rfl (by decide) hroom
 have g1:sg1[r]?=some (false,[.t (.int .u64 p),.t (.int .u64 p),.t (.int .i64 b.pub),.t (.int .i64 b.vars),rv,.t (.int .i64 b.sec),hv]):=by
  rw[e6 r (d4U h1') (by by_cases c:r=hi;exact .inr c.symm;exact .inl c)];exact h1'
 have hw:IntKind.i64.wrap (b.vars+1)=b.vars+1:=IntWalk.i64_in _ (by have:=hm.1;have:=ho.pos;omega)
 have hw2:IntKind.i64.wrap (b.vars+1 - 1)=b.vars:=by rw[IntWalk.i64_in _ (by have:=hm.1;have:=ho.pos;omega)];omega
 have hG:=BS.hint (x:=h) ⟨LiOk.c ho hm (by decide) ha,LiOk.c ho hm (by decide) hbb⟩ hb.cl h1' h2' hb.ne e2 e3 e6 ow
 have hG':=hG
 obtain⟨_,ri',hi',hbs,_⟩:=hG'
 have ht:=λK=>RetE.iff (K:=K) (f7A (gl:=gl) hk hbs b.vars ow)
 refine XcE.of F176 rfl ?_
 simp only[c8J]
 simp only[wA,seval,d5I lr,h1,hca,hcb,f7C,e1,g1,d4T g1,wC,e4,e5,hw,hw2,f7E,ht]
 exact⟨rfl,hG.appL⟩
theorem f7G {p:Int} (hk:e2X p=true) {sg:Sg} {r ri hi:Nat} {b:Bd} (hb:BS sg r ri hi p b) (ho:BdOk b) (hm:Rm b 1) {x y z:Li} (hx:LiOk b.vars x) (hy:LiOk b.vars y) (hz:LiOk b.vars z) (ow:Ow) :
  CallE F gl 133 [.lp r 0,.t (tLi x),.t (tLi y),.t (tLi z)] sg ow λv sg' ow'=>Gd sg ow r ri hi p (f0Q x y z b) sg' ow':=by
 obtain⟨rv,hv,h1,h2,h3⟩:=hb.ex
 have lr:=d4U h1
 have hca:=λK=>@f6Z gl b ho 1 hm (by decide) x hx K
 have hcb:=λK=>@f6Z gl b ho 1 hm (by decide) y hy K
 have hcc:=λK=>@f6Z gl b ho 1 hm (by decide) z hz K
 have hroom:a0M (b.rows.length+1) 72=true:=by
  have:=hm.2
  unfold a0M;simp only[g7L];omega
 have h3':Bf (sg++[(false,cRw ⟨x,y,z⟩)]) r hv hi 4 b.hints.length (b.hints.flatMap cHt):=h3.get λ_ hl=>g5J hl
 have h2':Bf (sg++[(false,cRw ⟨x,y,z⟩)]) r rv ri 3 b.rows.length (b.rows.flatMap cRw):=h2.get λ_ hl=>g5J hl
 have h1':(sg++[(false,cRw ⟨x,y,z⟩)])[r]?=some (false,[.t (.int .u64 p),.t (.int .u64 p),.t (.int .i64 b.pub),.t (.int .i64 b.vars),rv,.t (.int .i64 b.sec),hv]):=by rw[d5I lr];exact h1
 obtain⟨v',sg1,e1,e2,e3,e4,e5,e6⟩:=Bf.apb h2' (d4U h1') (e:=tRw ⟨x,y,z⟩) rfl (by decide) hroom
 have g1:sg1[r]?=some (false,[.t (.int .u64 p),.t (.int .u64 p),.t (.int .i64 b.pub),.t (.int .i64 b.vars),rv,.t (.int .i64 b.sec),hv]):=by
  rw[e6 r (d4U h1') (by by_cases c:r=ri;exact .inr c.symm;exact .inl c)];exact h1'
 have hG:=BS.row (x:=⟨x,y,z⟩) ⟨LiOk.c ho hm (by decide) hx,LiOk.c ho hm (by decide) hy,LiOk.c ho hm (by decide) hz⟩ hb.cl h1' h3' hb.ne e2 e3 e6 ow
 refine XcE.of F133 rfl ?_
 simp only[c6O]
 simp only[wA,seval,d5I lr,h1,hca,hcb,hcc,f7D,e1,g1,d4T g1,wC,e4,e5,f7E]
 exact(hG.appL)
end Go.Proofs.YtdjcnfacjfnakaaGreat

/- Contracts: the gadgets. -/
namespace Go.Proofs.YtdjcnfacjfnakaaGreat
open Go.Pi Go.Lx Go.Ky Go.Lib
variable {gl:Nat->Option (List T)}
theorem f7H {p:Int} (hk:e2X p=true) {sg:Sg} {r ri hi:Nat} {b:Bd} (hb:BS sg r ri hi p b) (ho:BdOk b) (hm:Rm b 2) {x y:Li} (hx:LiOk b.vars x) (hy:LiOk b.vars y) (ow:Ow) :
  CallE F gl 203 [.lp r 0,.t (tLi x),.t (tLi y)] sg ow λv sg' ow'=>v=.t (tLi (f0R (foF p) x y b).1)/\Gd sg ow r ri hi p (f0R (foF p) x y b).2 sg' ow':=by
 have s1:=f1G (foF p) ⟨1,x,y,0⟩ b
 have hl:=f1W (f6I hk).nn ho ⟨1,x,y,0⟩
 refine XcE.of F203 rfl ?_
 simp only[c9V]
 simp only[wA,seval]
 refine CallE.mono (f7F hk hb ho (hm.le (by decide)) (h:=⟨1,x,y,0⟩) hx hy ow) ?_
 rintro v sg1 ow1 ⟨rfl,o1,ri1,hi1,hb1,hm1⟩
 simp only[wA,seval]
 refine CallE.mono (f7G hk hb1 (s1.ok ho) (s1.rm 1 hm (by decide) (by decide)) (hx.mono s1.le) (hy.mono s1.le) hl ow1) ?_
 intro v sg2 ow2 hG
 simp only[wA,seval]
 first|exact Gd.pre hm1 o1 hG|exact⟨rfl,Gd.pre hm1 o1 hG⟩
theorem f7I {p:Int} (hk:e2X p=true) {sg:Sg} {r ri hi:Nat} {b:Bd} (hb:BS sg r ri hi p b) (ho:BdOk b) (hm:Rm b 1) {x:Li} (hx:LiOk b.vars x) (ow:Ow) :
  CallE F gl 131 [.lp r 0,.t (tLi x)] sg ow λv sg' ow'=>Gd sg ow r ri hi p (f0T x b) sg' ow':=by
 refine XcE.of F131 rfl ?_
 simp only[c6L]
 simp only[wA,seval]
 refine CallE.mono (f7G hk hb ho hm hx hx hx ow) ?_
 intro v sg1 ow1 hG
 simp only[wA,seval]
 exact hG
theorem ok88 {p:Int} (hk:e2X p=true) {sg:Sg} {r ri hi:Nat} {b:Bd} (hb:BS sg r ri hi p b) (ho:BdOk b) (hm:Rm b 1) {v:PV} {sg1:Sg} {x y:Li} (hv:a1E sg [.t (.int .u64 p),v,.t (tLi y)]=some ([.t (.int .u64 p),.t (tLi x),.t (tLi y)],sg1)) (hb1:BS sg1 r ri hi p b) (hx:LiG x) (hxy:LiOk b.vars (f0N (foF p) x y)) (hy:LiOk b.vars y) (ow:Ow) :
  CallE F gl 88 [.lp r 0,v,.t (tLi y)] sg ow λv sg' ow'=>Gd sg1 ow r ri hi p (f0S (foF p) x y b) sg' ow':=by
 obtain⟨rv,hv1,h1,h2,h3⟩:=hb.ex
 have hs:=λK=>@f6V gl p hk x y hx (LiOk.g' ho hm (by decide) hy) K
 have ht:=λK=>RetE.iff (K:=K) (f7B (gl:=gl) hk hb1 ow)
 refine XcE.of F88 rfl ?_
 simp only[c4M]
 simp only[wA,seval,h1,hv,hs,ht,d5P]
 have e:tLi f0E=.sl true []:=rfl
 rw[<-e]
 refine CallE.mono (f7G hk hb1 ho hm hxy (.var (f6I hk).nn (Int.le_refl _) ho.pos) (.nil _) ow) ?_
 intro v sg2 ow2 hG
 simp only[wA,seval]
 exact hG
theorem f7J {p:Int} (hk:e2X p=true) {sg:Sg} {r ri hi:Nat} {b:Bd} (hb:BS sg r ri hi p b) (ho:BdOk b) (hm:Rm b 1) {x y:Li} (hx:LiOk b.vars x) (hy:LiOk b.vars y) (ow:Ow) :
  CallE F gl 88 [.lp r 0,.t (tLi x),.t (tLi y)] sg ow λv sg' ow'=>Gd sg ow r ri hi p (f0S (foF p) x y b) sg' ow' :=
 ok88 hk hb ho hm rfl hb (LiOk.g' ho hm (by decide) hx) (.sub (f6I hk).nn hx hy) hy ow
theorem f7K {p:Int} (hk:e2X p=true) {sg:Sg} {r ri hi:Nat} {b:Bd} (hb:BS sg r ri hi p b) (ho:BdOk b) (hm:Rm b 0) {x:Li} (hx:LiOk b.vars x) (ow:Ow) :
  RetE F gl 171 [.lp r 0,.t (tLi x)] sg ow (.t (tLi (f0W (foF p) x))) sg ow:=by
 obtain⟨rv,hv1,h1,h2,h3⟩:=hb.ex
 have h1v:LiOk b.vars (f0I (foF p)):=.var (f6I hk).nn (Int.le_refl _) ho.pos
 have hs:=λK=>@f6V gl p hk (f0I (foF p)) x (LiOk.g' ho hm (by decide) h1v) (LiOk.g' ho hm (by decide) hx) K
 have ht:=λK=>RetE.iff (K:=K) (f7B (gl:=gl) hk hb ow)
 refine RetE.of F171 rfl ?_
 simp only[c8E]
 simp only[wA,seval,h1,hs,ht,a1E,a1C,d5Q,d5P,d5O,d5L]
 rfl
theorem f7L {p:Int} (hk:e2X p=true) {sg:Sg} {r ri hi:Nat} {b:Bd} (hb:BS sg r ri hi p b) (ho:BdOk b) (hm:Rm b 4) {x:Li} (hx:LiOk b.vars x) (ow:Ow) :
  CallE F gl 204 [.lp r 0,.t (tLi x)] sg ow λv sg' ow'=>v=.t (tLi (f0X (foF p) x b).1)/\Gd sg ow r ri hi p (f0X (foF p) x b).2 sg' ow':=by
 have s1:=f1G (foF p) ⟨2,x,f0E,0⟩ b
 have l1:=f1W (f6I hk).nn ho ⟨2,x,f0E,0⟩
 have b1:=s1.ok ho
 have s2:=f1H (foF p) x (f0P (foF p) ⟨2,x,f0E,0⟩ b).1 (f0P (foF p) ⟨2,x,f0E,0⟩ b).2
 have l2:=f1X (f6I hk).nn b1 x (f0P (foF p) ⟨2,x,f0E,0⟩ b).1
 have b2:=s2.ok b1
 have r1:=s1.rm 3 hm (by decide) (by decide)
 have r2:=s2.rm 2 r1 (by decide) (by decide)
 have e:tLi f0E=.sl true []:=rfl
 refine XcE.of F204 rfl ?_
 simp only[c9W]
 simp only[wA,seval]
 refine CallE.mono (f7F hk hb ho (hm.le (by decide)) (h:=⟨2,x,f0E,0⟩) hx (.nil _) ow) ?_
 rintro v sg1 ow1 ⟨rfl,o1,ri1,hi1,hb1,hm1⟩
 simp only[wA,seval]
 refine CallE.mono (f7H hk hb1 b1 (r1.le (by decide)) (hx.mono s1.le) l1 ow1) ?_
 rintro v sg2 ow2 ⟨rfl,o2,ri2,hi2,hb2,hm2⟩
 have hn:=λK=>RetE.iff (K:=K) (f7K (gl:=gl) hk hb2 b2 (r2.le (by decide)) l2 ow2)
 have l3:=LiOk.not (f6I hk).nn b2.pos l2
 have xx:=hx.mono (Int.le_trans s1.le s2.le)
 have vv:=l1.mono s2.le
 have s3:=f1F x (f0W (foF p) (f0R (foF p) x (f0P (foF p) ⟨2,x,f0E,0⟩ b).1 (f0P (foF p) ⟨2,x,f0E,0⟩ b).2).1) f0E (f0R (foF p) x (f0P (foF p) ⟨2,x,f0E,0⟩ b).1 (f0P (foF p) ⟨2,x,f0E,0⟩ b).2).2
 simp only[wA,seval,hn]
 rw[<-e]
 refine CallE.mono (f7G hk hb2 b2 (r2.le (by decide)) xx l3 (.nil _) ow2) ?_
 rintro v sg3 ow3 ⟨o3,ri3,hi3,hb3,hm3⟩
 simp only[wA,seval]
 refine CallE.mono (f7G hk hb3 (s3.ok b2) (s3.rm 1 r2 (by decide) (by decide)) (vv.mono s3.le) (l3.mono s3.le) (.nil _) ow3) ?_
 intro v sg4 ow4 hG
 simp only[wA,seval]
 first|exact Gd.pre hm1 o1 (Gd.pre hm2 o2 (Gd.pre hm3 o3 hG))|exact⟨rfl,Gd.pre hm1 o1 (Gd.pre hm2 o2 (Gd.pre hm3 o3 hG))⟩
theorem f7M {p:Int} (hk:e2X p=true) {sg:Sg} {r ri hi:Nat} {b:Bd} (hb:BS sg r ri hi p b) (ho:BdOk b) (hm:Rm b 4) {x y:Li} (hx:LiOk b.vars x) (hy:LiOk b.vars y) (ow:Ow) :
  CallE F gl 175 [.lp r 0,.t (tLi x),.t (tLi y)] sg ow λv sg' ow'=>v=.t (tLi (eqB (foF p) x y b).1)/\Gd sg ow r ri hi p (eqB (foF p) x y b).2 sg' ow':=by
 obtain⟨rv,hv1,h1,h2,h3⟩:=hb.ex
 have hs:=λK=>@f6V gl p hk x y (LiOk.g' ho hm (by decide) hx) (LiOk.g' ho hm (by decide) hy) K
 refine XcE.of F175 rfl ?_
 simp only[c8I]
 simp only[wA,seval,h1,hs,a1E,d5P]
 refine CallE.mono (f7L hk hb ho hm (.sub (f6I hk).nn hx hy) ow) ?_
 rintro v sg1 ow1 ⟨rfl,hG⟩
 simp only[wA,seval]
 first|exact hG|exact⟨rfl,hG⟩
theorem f7N {p:Int} (hk:e2X p=true) {sg:Sg} {r ri hi:Nat} {b:Bd} (hb:BS sg r ri hi p b) (ho:BdOk b) (hm:Rm b 2) {x y:Li} (hx:LiOk b.vars x) (hy:LiOk b.vars y) (ow:Ow) :
  CallE F gl 173 [.lp r 0,.t (tLi x),.t (tLi y)] sg ow λv sg' ow'=>v=.t (tLi (f0R (foF p) x y b).1)/\Gd sg ow r ri hi p (f0R (foF p) x y b).2 sg' ow':=by
 refine XcE.of F173 rfl ?_
 simp only[c8G]
 simp only[wA,seval]
 refine CallE.mono (f7H hk hb ho hm hx hy ow) ?_
 rintro v sg1 ow1 ⟨rfl,hG⟩
 simp only[wA,seval]
 first|exact hG|exact⟨rfl,hG⟩
theorem f7O {p:Int} (hk:e2X p=true) {sg:Sg} {r ri hi:Nat} {b:Bd} (hb:BS sg r ri hi p b) (ho:BdOk b) (hm:Rm b 2) {x y:Li} (hx:LiOk b.vars x) (hy:LiOk b.vars y) (ow:Ow) :
  CallE F gl 174 [.lp r 0,.t (tLi x),.t (tLi y)] sg ow λv sg' ow'=>v=.t (tLi (orB (foF p) x y b).1)/\Gd sg ow r ri hi p (orB (foF p) x y b).2 sg' ow':=by
 have s1:=f1H (foF p) x y b
 have l1:=f1X (f6I hk).nn ho x y
 have b1:=s1.ok ho
 have r1:=s1.rm 0 hm (by decide) (by decide)
 have xx:=hx.mono s1.le
 have yy:=hy.mono s1.le
 have ha:=λK=>@f6T gl p hk x y (LiOk.g' ho hm (by decide) hx) (LiOk.g' ho hm (by decide) hy) K
 have hs:=λK=>@f6V gl p hk (f0M (foF p) x y) (f0R (foF p) x y b).1 (LiOk.g' b1 r1 (by decide) (.add (f6I hk).nn xx yy)) (LiOk.g' b1 r1 (by decide) l1) K
 refine XcE.of F174 rfl ?_
 simp only[c8H]
 simp only[wA,seval]
 refine CallE.mono (f7H hk hb ho hm hx hy ow) ?_
 rintro v sg1 ow1 ⟨rfl,o1,ri1,hi1,hb1,hm1⟩
 obtain⟨rv,hv1,h1,h2,h3⟩:=hb1.ex
 simp only[wA,seval,h1,ha,hs,a1E,d5P]
 first|exact⟨o1,ri1,hi1,hb1,hm1⟩|exact⟨rfl,o1,ri1,hi1,hb1,hm1⟩
theorem f7P {p:Int} (hk:e2X p=true) {sg:Sg} {r ri hi:Nat} {b:Bd} (hb:BS sg r ri hi p b) (ho:BdOk b) (hm:Rm b 2) {c x y:Li} (hc:LiOk b.vars c) (hx:LiOk b.vars x) (hy:LiOk b.vars y) (ow:Ow) :
  CallE F gl 167 [.lp r 0,.t (tLi c),.t (tLi x),.t (tLi y)] sg ow λv sg' ow'=>v=.t (tLi (f0Y (foF p) c x y b).1)/\Gd sg ow r ri hi p (f0Y (foF p) c x y b).2 sg' ow':=by
 obtain⟨rv,hv1,h1,h2,h3⟩:=hb.ex
 have hxy:LiOk b.vars (f0N (foF p) x y):=.sub (f6I hk).nn hx hy
 have s1:=f1H (foF p) c (f0N (foF p) x y) b
 have l1:=f1X (f6I hk).nn ho c (f0N (foF p) x y)
 have b1:=s1.ok ho
 have r1:=s1.rm 0 hm (by decide) (by decide)
 have yy:=hy.mono s1.le
 have hs:=λK=>@f6V gl p hk x y (LiOk.g' ho hm (by decide) hx) (LiOk.g' ho hm (by decide) hy) K
 have ha:=λK=>@f6T gl p hk y (f0R (foF p) c (f0N (foF p) x y) b).1 (LiOk.g' b1 r1 (by decide) yy) (LiOk.g' b1 r1 (by decide) l1) K
 refine XcE.of F167 rfl ?_
 simp only[c8A]
 simp only[wA,seval,h1,hs,a1E,a1C,d5Q,d5P,d5O,d5L]
 refine CallE.mono (f7H hk hb ho hm hc hxy ow) ?_
 rintro v sg1 ow1 ⟨rfl,o1,ri1,hi1,hb1,hm1⟩
 obtain⟨rv',hv',g1,g2,g3⟩:=hb1.ex
 simp only[wA,seval,h1,g1,ha,d5Q,d5P,d5O,d5M]
 first|exact⟨o1,ri1,hi1,hb1,hm1⟩|exact⟨rfl,o1,ri1,hi1,hb1,hm1⟩
end Go.Proofs.YtdjcnfacjfnakaaGreat

/- Contracts: bits, less. -/
namespace Go.Proofs.YtdjcnfacjfnakaaGreat
open Go.Pi Go.Lx Go.Ky Go.Lib
variable {gl:Nat->Option (List T)}
abbrev tL1 (l:Li):List T:=[tLi l]
abbrev tT1 (t:Int×Int):List T:=[.int .i64 t.1,.int .u64 t.2]
theorem f7Q (x:Li):(tL1 x).length=1:=rfl
theorem f7R (x:Int×Int):(tT1 x).length=2:=rfl
theorem f7S (x:Int×Int):(tT1 x).any T.isAgg=false:=rfl
theorem f7T (x:Li):(tL1 x).any T.isAgg=false:=rfl
structure Bw (sg:Sg) (r ri hi a s:Nat) (p:Int) (b:Bd) (n:Nat) (ls:List Li) (ts:List (Int×Int)):Prop where
 bs:BS sg r ri hi p b
 sa:sg[a]?=some (false,f5J tL1 [.sl true []] n ls)
 ss:sg[s]?=some (false,f5J tT1 [.int .i64 0,.int .u64 0] n ts)
 ca:a ∉ [r,ri,hi]
 ct:s ∉ [r,ri,hi]
 ne:a≠s
theorem f7U {p:Int} (hk:e2X p=true) {r a s n:Nat} {x:Li} {ri0 hi0:Nat} {sg0:Sg} {ow0:Ow} (hn:n<=62) (ha0:sg0.length<=a) (hs0:sg0.length<=s) (Q:Ex->S->Prop):∀ (k:Nat) (ls:List Li) (ts:List (Int×Int)) (b:Bd) (ri hi:Nat) (fr:List PV) (sg:Sg) (ow:Ow),ls.length=n - k->ts.length=n - k->k<=n->BdOk b->Rm b (k+1)->LiOk b.vars x->Bw sg r ri hi a s p b n ls ts->Mv [r,ri0,hi0] [r,ri,hi] sg0 sg->ow0 <+: ow ->
  b6S fr [(0,.lp r 0),(1,.t (tLi x)),(2,.t (.int .i64 n)),(7,.ls a 0 n 1),(8,.ls s 0 n 2),(21,.t (.int .i64 n)),(22,.t (.int .i64 ((n - k:Nat):Int)))] ->
  (∀ ri' hi' fr' sg' ow',Bw sg' r ri' hi' a s p (f0U (foF p) x k ((n - k:Nat):Int) ls ts b).2.2 n (f0U (foF p) x k ((n - k:Nat):Int) ls ts b).1 (f0U (foF p) x k ((n - k:Nat):Int) ls ts b).2.1->Mv [r,ri0,hi0] [r,ri',hi'] sg0 sg'->ow0 <+: ow'->b6S fr' [(0,.lp r 0),(1,.t (tLi x)),(7,.ls a 0 n 1),(8,.ls s 0 n 2)]->Q (.exit 0) ⟨fr',sg',ow'⟩) ->
  Xl F gl c6M ⟨fr,sg,ow⟩ Q ⟨⟩:=by
 intro k
 induction k with
 |zero =>
  intro ls ts b ri hi fr sg ow hl ht hkn ho hm hx hw hM hO hf k1
  simp only[b6U,b6T] at hf
  obtain⟨f0,f1,f2,f7,f8,f21,f22,-⟩:=hf
  refine Xl.step ?_
  simp only[c6M]
  have c1:¬(((n - 0:Nat):Int) < (n:Int)):=by omega
  rw[f0U] at k1
  simp only at k1
  simp only[wA,seval,f0,f1,f2,f7,f8,f21,f22,c1]
  exact k1 ri hi _ sg ow hw hM hO (by simp only[wQ,seval,f0,f1,f7,f8])
 |succ k ih =>
  intro ls ts b ri hi fr sg ow hl ht hkn ho hm hx hw hM hO hf k1
  simp only[b6U,b6T] at hf
  obtain⟨f0,f1,f2,f7,f8,f21,f22,-⟩:=hf
  obtain⟨i,hi'⟩:∃ i:Nat,i=n - (k+1):=⟨_,rfl⟩
  rw[<-hi'] at f22 k1 hl ht
  refine Xl.step ?_
  simp only[c6M]
  have hin:i < n:=by omega
  have c1:((i:Int) < (n:Int)):=by omega
  have hw1:=d5F hin (by omega)
  have s1:=f1G (foF p) ⟨3,x,f0E,(i:Int)⟩ b
  have l1:=f1W (f6I hk).nn ho ⟨3,x,f0E,(i:Int)⟩
  have b1:=s1.ok ho
  have r1:=s1.rm (k+1) hm (by omega) (by omega)
  have s2:=f1J (f0P (foF p) ⟨3,x,f0E,(i:Int)⟩ b).1 (f0P (foF p) ⟨3,x,f0E,(i:Int)⟩ b).2
  have r2:=(s1.trans s2).rm (k+1) hm (by omega) (by omega)
  rw[f0U] at k1
  simp only[wA,seval,f0,f1,f2,f7,f8,f21,f22,c1]
  refine CallE.mono (f7F hk hw.bs ho (hm.le (by omega)) (h:=⟨3,x,f0E,(i:Int)⟩) hx (.nil _) ow) ?_
  rintro v sg1 ow1 ⟨rfl,o1,ri1,hi1,hb1,hm1⟩
  have a1:=hm1.get hw.sa hw.ca
  have ca1:=hm1.cold (d4U hw.sa) hw.ca
  have t1:=hm1.get hw.ss hw.ct
  have ct1:=hm1.cold (d4U hw.ss) hw.ct
  have ma:=d4U a1
  have hset:=f5S (t:=tL1) (z:=[.sl true []]) f7Q rfl (n:=n) (l:=ls) (by omega) (f0P (foF p) ⟨3,x,f0E,(i:Int)⟩ b).1
  rw[hl,g6Z] at hset
  have hle:i+1<=(f5J tL1 [.sl true []] n ls).length:=by rw[f5R f7Q rfl (by omega)];omega
  have hget:(f5J tL1 [.sl true []] n (ls++[(f0P (foF p) ⟨3,x,f0E,(i:Int)⟩ b).1]))[i]?=some (.t (tLi (f0P (foF p) ⟨3,x,f0E,(i:Int)⟩ b).1)):=by
   have:=f5U (t:=tL1) f7Q (l:=ls++[(f0P (foF p) ⟨3,x,f0E,(i:Int)⟩ b).1]) (i:=i) (x:=(f0P (foF p) ⟨3,x,f0E,(i:Int)⟩ b).1) ((List.replicate (n - (ls++[(f0P (foF p) ⟨3,x,f0E,(i:Int)⟩ b).1]).length) [T.sl true []]).flatten.map PV.t) (by rw[g5K (by omega),hl,Nat.sub_self];rfl) 0 (by decide)
   rw[g6Z,g6R] at this
   exact this
  simp only[g6E,g6F,setRange] at hset
  have hb1':BS (sg1.set a (false,f5J tL1 [.sl true []] n (ls++[(f0P (foF p) ⟨3,x,f0E,(i:Int)⟩ b).1]))) r ri1 hi1 p (f0P (foF p) ⟨3,x,f0E,(i:Int)⟩ b).2:=hb1.set ca1 _
  simp only[wA,seval,f0,f1,f2,f7,f8,f21,f22,c1,hin,g4Z,a1,hle,wC,hset,g6Z,d4T a1,hget]
  refine CallE.mono (f7I hk hb1' b1 (r1.le (by omega)) l1 ow1) ?_
  rintro v sg2 ow2 ⟨o2,ri2,hi2,hb2,hm2⟩
  obtain⟨rv,hv,g1,g2,g3⟩:=hb2.ex
  have a2:=hm2.get (d4T a1) ca1
  have ca2:=hm2.cold (by rw[g6A];exact ma) ca1
  have t2:=hm2.get (show(sg1.set a _)[s]?=_ by rw[g5S hw.ne];exact t1) ct1
  have ct2:=hm2.cold (by rw[g6A];exact d4U t1) ct1
  have hvar:(f0T (f0P (foF p) ⟨3,x,f0E,(i:Int)⟩ b).1 (f0P (foF p) ⟨3,x,f0E,(i:Int)⟩ b).2).vars=b.vars+1:=rfl
  have hw2:IntKind.i64.wrap (b.vars+1 - 1)=b.vars:=by rw[IntWalk.i64_in _ (by have:=hm.1;have:=ho.pos;omega)];omega
  have hsn:¬((i:Int) < 0):=by omega
  have hpw:0<=IntKind.u64.wrap (1 * 2 ^ min i IntKind.u64.bits):=by
   rw[show IntKind.u64.wrap (1 * 2 ^ min i IntKind.u64.bits)=(1 * 2 ^ min i IntKind.u64.bits) % 18446744073709551616 from e0H _]
   omega
  have hred:=λK=>@e3W gl p _ hk hpw K
  have hset2:=f5S (t:=tT1) (z:=[.int .i64 0,.int .u64 0]) f7R rfl (n:=n) (l:=ts) (by omega) (b.vars,IntKind.u64.wrap (1 * 2 ^ min i IntKind.u64.bits) % p)
  rw[ht] at hset2
  simp only[g6E,g6F,setRange] at hset2
  have hle2:i * 2+2<=(f5J tT1 [.int .i64 0,.int .u64 0] n ts).length:=by rw[f5R f7R rfl (by omega)];omega
  rw[hvar] at g1
  simp only[wA,seval,f0,f1,f2,f7,f8,f21,f22,c1,hin,g4Z,g1,hw2,hsn,hred,t2,hle2,wC,hset2,hw1]
  have hrd:(foF p).red (IntKind.u64.wrap (1 * 2 ^ min (i:Int).toNat IntKind.u64.bits))=IntKind.u64.wrap (1 * 2 ^ min i IntKind.u64.bits) % p:=rfl
  rw[hrd] at k1
  have hi2:i+1=n - k:=by omega
  refine ih (ls++[(f0P (foF p) ⟨3,x,f0E,(i:Int)⟩ b).1]) (ts++[(b.vars,IntKind.u64.wrap (1 * 2 ^ min i IntKind.u64.bits) % p)]) (f0T (f0P (foF p) ⟨3,x,f0E,(i:Int)⟩ b).1 (f0P (foF p) ⟨3,x,f0E,(i:Int)⟩ b).2) ri2 _ _ _ _ (by rw[g5W,List.length_singleton];omega) (by rw[g5W,List.length_singleton];omega) (by omega) (s2.ok b1) r2 ((hx.mono s1.le).mono s2.le) ⟨hb2.set ct2 _,?_,?_,ca2,ct2,hw.ne⟩ (Mv.set (((hM.trans hm1).set (.inr ha0) _).trans hm2) (.inr hs0) _) ((hO.trans o1).trans o2) (by simp only[wQ,seval,f0,f1,f2,f7,f8,f21,hi2]) ?_
  ·rw[g5S (Ne.symm hw.ne)];exact a2
  ·rw[g5T (d4U t2)]
  ·rw[<-hi2]
   exact k1
theorem f7V (Φ:Fo) (x:Li) {n:Int} (h0:0<=n) (h1:n<=62) (b:Bd):f0V Φ x n b=((f0U Φ x n.toNat 0 [] [] b).1,f0S Φ ⟨false,(f0U Φ x n.toNat 0 [] [] b).2.1⟩ x (f0U Φ x n.toNat 0 [] [] b).2.2):=by
 unfold f0V
 rw[if_neg (by omega)]
theorem f7W {p:Int} (hk:e2X p=true) (x:Li):∀ (k:Nat) (i:Int) (ls:List Li) (ts:List (Int×Int)) (b:Bd),BdOk b->Inc 0 b.vars ts->Inc 0 (f0U (foF p) x k i ls ts b).2.2.vars (f0U (foF p) x k i ls ts b).2.1
 |0,i,ls,ts,b,_,h=>by rw[f0U];exact h
 |k+1,i,ls,ts,b,ho,h=>by
  rw[f0U]
  have s1:=(f1G (foF p) ⟨3,x,f0E,i⟩ b).trans (f1J (f0P (foF p) ⟨3,x,f0E,i⟩ b).1 (f0P (foF p) ⟨3,x,f0E,i⟩ b).2)
  refine f7W hk x k _ _ _ _ (s1.ok ho) ?_
  have hv:(f0T (f0P (foF p) ⟨3,x,f0E,i⟩ b).1 (f0P (foF p) ⟨3,x,f0E,i⟩ b).2).vars=b.vars+1:=rfl
  rw[hv]
  have:∀ (l:List (Int×Int)) (lo:Int) (c:Int),lo<=b.vars->0<=c->Inc lo b.vars l->Inc lo (b.vars+1) (l++[(b.vars,c)]):=by
   intro l
   induction l with
   |nil=>intro lo c hlo hc _;exact⟨hlo,by show b.vars < b.vars+1;omega,hc,True.intro⟩
   |cons a l ih =>
    intro lo c hlo hc hi
    exact⟨hi.1,by have:=hi.2.1;omega,hi.2.2.1,ih _ c (by have:=hi.2.1;omega) hc hi.2.2.2⟩
  exact this ts 0 _ (Int.le_of_lt ho.pos) ((f6I hk).nn.red _ (by
   rw[show IntKind.u64.wrap (1 * 2 ^ min i.toNat IntKind.u64.bits)=(1 * 2 ^ min i.toNat IntKind.u64.bits) % 18446744073709551616 from e0H _]
   omega)) h
theorem f7X {p:Int} (hk:e2X p=true) {sg:Sg} {r ri hi:Nat} {b:Bd} (hb:BS sg r ri hi p b) (ho:BdOk b) {n:Int} (h0:1<=n) (h1:n<=62) (hm:Rm b (n+1)) {x:Li} (hx:LiOk b.vars x) (ow:Ow) :
  CallE F gl 132 [.lp r 0,.t (tLi x),.t (.int .i64 n)] sg ow λv sg' ow'=>Gd sg ow r ri hi p (f0V (foF p) x n b).2 sg' ow'/\∃ a,v=.ls a 0 n.toNat 1/\sg'[a]?=some (false,cG tL1 (f0V (foF p) x n b).1):=by
 obtain⟨m,rfl⟩:∃ m:Nat,n=(m:Int):=⟨n.toNat,by omega⟩
 rw[f7V _ _ (by omega) h1]
 simp only[g4Z]
 have c1:¬((m:Int) < 0):=by omega
 have c2:¬((62:Int) < (m:Int)):=by omega
 have hr1:a0M m 24=true:=by unfold a0M;simp only[g7L];omega
 have hr2:a0M m 16=true:=by unfold a0M;simp only[g7L];omega
 have l0:=hb.lt
 refine XcE.of F132 rfl ?_
 simp only[c6N]
 obtain⟨v7,q1,ow1,e1,e2,e3⟩:=f6D tL1 [.sl true []] (sz:=1) rfl (by decide) sg ow hr1
 obtain⟨_,rfl,rfl⟩:=e3.resolve_left (by omega)
 obtain⟨v8,q2,ow2,d1,d2,d3⟩:=f6D tT1 [.int .i64 0,.int .u64 0] (sz:=2) rfl (by decide) (sg++[(false,f5J tL1 [.sl true []] m [])]) ow1 hr2
 obtain⟨_,rfl,rfl⟩:=d3.resolve_left (by omega)
 rw[g5B] at d1
 simp only[g5W,List.length_singleton,List.cons_append,List.nil_append] at d1
 have hl:(sg++[(false,f5J tL1 [.sl true []] m [])]).length=sg.length+1:=by simp
 have hq:∀ i,i∈[r,ri,hi]->i < sg.length:=by
  intro i hi
  simp only[g6H,g6N,or_false] at hi
  rcases hi with rfl|rfl|rfl
  ·exact l0.1
  ·exact l0.2.1
  ·exact l0.2.2
 simp only[wA,seval,c1,c2,e1,d1]
 refine f7U hk (r:=r) (a:=sg.length) (s:=sg.length+1) (n:=m) (x:=x) (ri0:=ri) (hi0:=hi) (sg0:=sg) (ow0:=ow) (by omega) (g6U _) (by omega) _ m [] [] b ri hi _ _ _ (by simp) (by simp) (g6U _) ho hm hx ⟨hb.app _,by simp,by rw[g5K (by omega)];simp,λh=>by have:=hq _ h;omega,λh=>by have:=hq _ h;omega,by omega⟩ (.app _ _ _) (e2.trans d2) (by simp only[wQ,seval,Nat.sub_self];first|done|exact⟨rfl,rfl⟩|rfl) ?_
 intro ri' hi' fr' sg' ow' hw hM hO hf
 simp only[b6U,b6T] at hf
 obtain⟨f0,f1,f7,f8,-⟩:=hf
 rw[Nat.sub_self] at hw
 have hz:((0:Nat):Int)=0:=rfl
 rw[hz] at hw
 have hs:=f1K (foF p) x m 0 [] [] b
 have hlen:=f2C (foF p) x m 0 [] [] b
 have hinc:=f7W hk x m 0 [] [] b ho True.intro
 have hso:=hs.ok ho
 have hsr:=hs.rm 1 hm (by omega) (by omega)
 generalize f0U (foF p) x m 0 [] [] b=q at *
 obtain⟨ls,ts,b2⟩:=q
 simp only[g5Z,g7A] at hw hs hlen hinc hso hsr ⊢
 have hA:LiOk b2.vars ⟨false,ts⟩:=⟨hinc,λh=>by cases h⟩
 have hX:=hx.mono hs.le
 have s1:=hw.ss
 rw[f5Q (by omega)] at s1
 have hfz:=f5Y (t:=tT1) (by decide) f7R f7S s1 (λe=>by rw[e] at hlen;simp at hlen;omega)
 rw[hlen.2] at hfz
 have hfl:a1E sg' [.t (.int .u64 p),.ls (sg.length+1) 0 m 2,.t (tLi x)]=some ([.t (.int .u64 p),.t (tLi ⟨false,ts⟩),.t (tLi x)],sg'.set (sg.length+1) (false,[])):=by
  simp only[a1E,hfz,g7F]
  rfl
 have a1:=hw.sa
 rw[f5Q (by omega)] at a1
 simp only[wA,seval,f0,f1,f7,f8]
 refine CallE.mono (ok88 hk hw.bs hso hsr hfl (hw.bs.set hw.ct _) (LiOk.g' hso hsr (by decide) hA) (.sub (f6I hk).nn hA hX) hX ow') ?_
 rintro v sg2 ow3 hG
 obtain⟨o2,ri2,hi2,hb2,hm2⟩:=hG
 have a2:=hm2.get (show(sg'.set (sg.length+1) (false,[]))[sg.length]?=_ by rw[g5S (by omega)];exact a1) hw.ca
 simp only[wA,seval,f7]
 exact⟨⟨hO.trans o2,ri2,hi2,hb2,(hM.set (.inr (by omega)) _).trans hm2⟩,sg.length,rfl,a2⟩
theorem f7Y {p:Int} (hk:e2X p=true) {sg:Sg} {r ri hi:Nat} {b:Bd} (hb:BS sg r ri hi p b) (ho:BdOk b) {n:Int} (h0:0<=n) (hm:Rm b 64) {x y:Li} (hx:LiOk b.vars x) (hy:LiOk b.vars y) (ow:Ow) :
  CallE F gl 172 [.lp r 0,.t (tLi x),.t (tLi y),.t (.int .i64 n)] sg ow λv sg' ow'=>v=.t (tLi (f0Z (foF p) x y n b).1)/\Gd sg ow r ri hi p (f0Z (foF p) x y n b).2 sg' ow':=by
 refine XcE.of F172 rfl ?_
 simp only[c8F]
 have c1:¬(n < 0):=by omega
 by_cases c2:62<=n
 ·unfold f0Z
  rw[if_pos (.inr c2)]
  simp only[wA,seval,c1,c2]
  exact⟨rfl,.same hb ow⟩
 ·obtain⟨m,rfl⟩:∃ m:Nat,n=(m:Int):=⟨n.toNat,by omega⟩
  obtain⟨rv,hv1,h1,h2,h3⟩:=hb.ex
  have hpw:0<=IntKind.u64.wrap (1 * 2 ^ min m IntKind.u64.bits):=by
   rw[show IntKind.u64.wrap (1 * 2 ^ min m IntKind.u64.bits)=(1 * 2 ^ min m IntKind.u64.bits) % 18446744073709551616 from e0H _]
   omega
  have hE:f0Z (foF p) x y (m:Int) b=(f0W (foF p) ((f0V (foF p) (f0N (foF p) (f0M (foF p) (f0G (foF p) (IntKind.u64.wrap (1 * 2 ^ min m IntKind.u64.bits))) x) y) ((m:Int)+1) b).1.getD m f0E),(f0V (foF p) (f0N (foF p) (f0M (foF p) (f0G (foF p) (IntKind.u64.wrap (1 * 2 ^ min m IntKind.u64.bits))) x) y) ((m:Int)+1) b).2):=by
   unfold f0Z
   rw[if_neg (by omega)]
   simp only[g4Z]
  rw[hE]
  have hc:=λK=>@f6M gl p _ hk hpw K
  have lc:LiOk b.vars (f0G (foF p) (IntKind.u64.wrap (1 * 2 ^ min m IntKind.u64.bits))):=.const (f6I hk).nn ho.pos hpw
  have la:=LiOk.add (f6I hk).nn lc hx
  have ls:=LiOk.sub (f6I hk).nn la hy
  have ha:=λK=>@f6T gl p hk (f0G (foF p) (IntKind.u64.wrap (1 * 2 ^ min m IntKind.u64.bits))) x (LiOk.g' ho hm (by decide) lc) (LiOk.g' ho hm (by decide) hx) K
  have hs:=λK=>@f6V gl p hk (f0M (foF p) (f0G (foF p) (IntKind.u64.wrap (1 * 2 ^ min m IntKind.u64.bits))) x) y (LiOk.g' ho hm (by decide) la) (LiOk.g' ho hm (by decide) hy) K
  have hw1:IntKind.i64.wrap ((m:Int)+1)=(m:Int)+1:=IntWalk.i64_in _ (by omega)
  generalize f0N (foF p) (f0M (foF p) (f0G (foF p) (IntKind.u64.wrap (1 * 2 ^ min m IntKind.u64.bits))) x) y=z at *
  have hsp:=f1L (foF p) z (n:=(m:Int)+1) (by omega) (by omega) b
  simp only[wA,seval,c1,c2,h1,hc,ha,hs,a1E,d5P,hw1,g4Z]
  refine CallE.mono (f7X hk hb ho (n:=(m:Int)+1) (by omega) (by omega) (hm.le (by omega)) ls ow) ?_
  rintro v sg1 ow1 ⟨hG,a,rfl,ha1⟩
  have hG':=hG
  obtain⟨o1,ri1,hi1,hb1,hm1⟩:=hG'
  have ho1:=hsp.ok ho
  have hlen:(f0V (foF p) z ((m:Int)+1) b).1.length=m+1:=by
   rw[f7V _ _ (by omega) (by omega)]
   have:=(f2C (foF p) z ((m:Int)+1).toNat 0 [] [] b).1
   simp only at this ⊢
   rw[this];simp
  have hli:∀ l,l∈(f0V (foF p) z ((m:Int)+1) b).1->LiOk (f0V (foF p) z ((m:Int)+1) b).2.vars l:=by
   rw[f7V _ _ (by omega) (by omega)]
   exact λl hl=>(f2B (f6I hk).nn z _ 0 [] [] b ho (λl hl=>by cases hl) l hl).mono (f1I _ _ _ _).le
  have hget:(f0V (foF p) z ((m:Int)+1) b).1[m]?=some ((f0V (foF p) z ((m:Int)+1) b).1.getD m f0E):=by
   rw[List.getD_eq_getElem?_getD,g5M (by omega)];rfl
  have hat:=f5U (t:=tL1) f7Q [] hget 0 (by decide)
  rw[g5C,g6Z,g6R] at hat
  have hat':(cG tL1 (f0V (foF p) z ((m:Int)+1) b).1)[m]?=some (.t (tLi ((f0V (foF p) z ((m:Int)+1) b).1.getD m f0E))):=hat
  have hn:=λK=>RetE.iff (K:=K) (f7K (gl:=gl) hk hb1 ho1 (hsp.rm 0 hm (by omega) (by omega)) (hli _ (g6K hget)) ow1)
  have hmt:((m:Int)+1).toNat=m+1:=by omega
  have hlt:m < m+1:=by omega
  simp only[wA,seval,hmt,hlt,g4Z,g6Z,ha1,hat',hn]
  exact hG
end Go.Proofs.YtdjcnfacjfnakaaGreat
