/- The reference: names. -/
import Derived.Test.YtdjcnfacjfnakaaGreatIrA
import Derived.Test.YtdjcnfacjfnakaaGreatKx19
import Derived.Test.YtdjcnfacjfnakaaGreatK6
set_option maxRecDepth 10000
set_option linter.unusedVariables false
set_option linter.unusedSimpArgs false
namespace Go.Proofs.YtdjcnfacjfnakaaGreat
open Go.Pi Go.Lx Go.Ky
variable {gl:Nat->Option (List T)}
def refKw:List (List UInt8):=[[102,110],[114,101,116,117,114,110],[112,117,98,108,105,99],[115,101,99,114,101,116],[102,105,101,108,100],[98,111,111,108],[117,105,110,116],[108,101,116],[97,115,115,101,114,116],[102,111,114],[105,110],[116,114,117,101],[102,97,108,115,101],[97,110,100],[111,114],[110,111,116],[104,97,115,104]]
theorem g0W (s:List UInt8):refKw.contains s=keywords.contains s:=by
 rw[Bool.eq_iff_iff,List.contains_iff_mem,List.contains_iff_mem]
 simp only[refKw,keywords,g6H,g6N,or_false]
 constructor <;> (intro h;rcases h with h|h|h|h|h|h|h|h|h|h|h|h|h|h|h|h|h <;> subst h <;> simp)
theorem g0X {s:Nm} {sg:Sg} {ow:Ow} (Q:Ex->S->Prop):∀ (l:List (List UInt8)) (i:Nat) (fr:List PV),refKw.drop i=l ->
  b6S fr [(0,.t (.str s)),(3,.lit (refKw.map λx=>[.str x])),(4,.t (.int .i64 i))] ->
  (l.contains s=true->∀ fr',a0A fr' 2=.t (.bool true)->Q .ret ⟨fr',sg,ow⟩)->(l.contains s=false->∀ fr',Q (.exit 0) ⟨fr',sg,ow⟩) ->
  Xl F gl c5S ⟨fr,sg,ow⟩ Q ⟨⟩:=by
 intro l
 have hlen:refKw.length=17:=rfl
 induction l with
 |nil =>
  intro i fr hd hf k1 k2
  have hd:=b6N hd
  simp only[b6U,b6T] at hf
  obtain⟨f0,f3,f4,-⟩:=hf
  refine Xl.step ?_
  simp only[c5S]
  have c1:¬((i:Int) < (17:Int)):=by omega
  simp only[wA,seval,f0,f3,f4,c1,g5Y,hlen]
  exact k2 rfl _
 |cons x l ih =>
  intro i fr hd hf k1 k2
  obtain⟨hx,hr,hi⟩:=b6M hd
  simp only[b6U,b6T] at hf
  obtain⟨f0,f3,f4,-⟩:=hf
  refine Xl.step ?_
  simp only[c5S]
  have c1:(i:Int) < (17:Int):=by omega
  have hw1:=d5F hi (show refKw.length<=281474976710656 by omega)
  by_cases hxs:x=s
  ·subst hxs
   simp only[wA,seval,f0,f3,f4,c1,hw1,g5Y,hlen,g4Z,g5P,hx,g7F]
   all_goals first|exact k1 (by simp) _ (by simp only[wQ,seval])|simp_all
  ·have hne:(x == s)=false:=by simpa using hxs
   have hcn:(x::l).contains s=l.contains s:=by
    rw[List.contains_cons]
    have:(s == x)=false:=by simpa using λe:s=x=>hxs e.symm
    rw[this,Bool.false_or]
   rw[hcn] at k1 k2
   simp only[wA,seval,f0,f3,f4,c1,hw1,g5Y,hlen,g4Z,g5P,hx,g7F,hne,hxs]
   all_goals exact ih (i+1) _ hr (by simp only[wQ,seval,f0,f3]) k1 k2
theorem g0Y (s:Nm) {K:PV->Prop}:XcP F gl 110 [.str s] K ⟨⟩↔K (.t (.bool (keywords.contains s))):=by
 refine Ret.iff (Ret.of F110 rfl ?_)
 simp only[c5T]
 have hb:b4J 1 17 [.str []] [(0,1,.t (.str [102,110])),(1,1,.t (.str [114,101,116,117,114,110])),(2,1,.t (.str [112,117,98,108,105,99])),(3,1,.t (.str [115,101,99,114,101,116])),(4,1,.t (.str [102,105,101,108,100])),(5,1,.t (.str [98,111,111,108])),(6,1,.t (.str [117,105,110,116])),(7,1,.t (.str [108,101,116])),(8,1,.t (.str [97,115,115,101,114,116])),(9,1,.t (.str [102,111,114])),(10,1,.t (.str [105,110])),(11,1,.t (.str [116,114,117,101])),(12,1,.t (.str [102,97,108,115,101])),(13,1,.t (.str [97,110,100])),(14,1,.t (.str [111,114])),(15,1,.t (.str [110,111,116])),(16,1,.t (.str [104,97,115,104]))]=some (.lit (refKw.map λx=>[.str x])):=rfl
 rw[<-g0W]
 simp only[wA,seval,hb]
 refine g0X _ refKw 0 _ rfl (by simp only[wQ,seval];first|done|exact⟨rfl,rfl⟩|rfl) ?_ ?_
 ·intro h fr' f2
  simp only[wA,seval,f2]
  rw[h]
 ·intro h fr'
  simp only[wA,seval]
  rw[h]
end Go.Proofs.YtdjcnfacjfnakaaGreat

/- The reference: names, types, numbers. -/
namespace Go.Proofs.YtdjcnfacjfnakaaGreat
open Go.Pi Go.Lx Go.Ky
variable {gl:Nat->Option (List T)}
theorem d1E (p:UInt8->Bool) (s:List UInt8):decide (d1D p s=s.length)=s.all p:=by
 induction s with
 |nil=>rfl
 |cons c r ih =>
  rw[List.all_cons,<-ih]
  simp only[d1D]
  by_cases h:p c=true
  ·simp [h]
  ·simp [h]
theorem g0Z {s:Nm} (hs:s.length<=B47) {sg:Sg} {ow:Ow} (Q:Ex->S->Prop):∀ (l:List UInt8) (i:Nat) (fr:List PV),s.drop i=l ->
  b6S fr [(0,.t (.str s)),(3,.t (.int .i64 i))] ->
  (l.all d1C=true->∀ fr',Q (.exit 0) ⟨fr',sg,ow⟩)->(l.all d1C=false->∀ fr',a0A fr' 2=.t (.bool false)->Q .ret ⟨fr',sg,ow⟩) ->
  Xl F gl c3P ⟨fr,sg,ow⟩ Q ⟨⟩:=by
 intro l
 induction l with
 |nil =>
  intro i fr hd hf k1 k2
  have hd:=b6N hd
  simp only[b6U,b6T] at hf
  obtain⟨f0,f3,-⟩:=hf
  refine Xl.step ?_
  simp only[c3P]
  have c1:¬((i:Int) < (s.length:Int)):=by omega
  simp only[wA,seval,f0,f3,c1]
  exact k1 rfl _
 |cons c l ih =>
  intro i fr hd hf k1 k2
  obtain⟨hx,hr,hi⟩:=b6M hd
  simp only[b6U,b6T] at hf
  obtain⟨f0,f3,-⟩:=hf
  refine Xl.step ?_
  simp only[c3P]
  have c1:(i:Int) < (s.length:Int):=by omega
  have hw1:=d5F hi (show s.length<=281474976710656 by have:B47=140737488355328:=rfl;omega)
  have c0:(0:Int)<=(i:Int):=by omega
  have hall:(c::l).all d1C=(d1C c&&l.all d1C):=rfl
  rw[hall] at k1 k2
  have hn:=d8Y c
  rw[d8T,d8U] at hn
  by_cases h95:(c.toNat:Int)=95
  ·have hnt:d1C c=true:=by rw[hn];simp [h95]
   rw[hnt,g4X] at k1 k2
   simp only[wA,seval,f0,f3,c1,c0,hw1,g4Z,hx,h95]
   all_goals exact ih (i+1) _ hr (by simp only[wQ,seval,f0]) k1 k2
  by_cases a1:(c.toNat:Int) < 97
  ·by_cases b1:(c.toNat:Int) < 48
   ·have hnt:d1C c=false:=by rw[hn];simp [h95];omega
    rw[hnt,Bool.false_and] at k1 k2
    simp only[wA,seval,f0,f3,c1,c0,hw1,g4Z,hx,h95,a1,b1]
    all_goals exact k2 rfl _ (by simp only[wQ,seval])
   ·by_cases b2:(c.toNat:Int) > 57
    ·have hnt:d1C c=false:=by rw[hn];simp [h95];omega
     rw[hnt,Bool.false_and] at k1 k2
     simp only[wA,seval,f0,f3,c1,c0,hw1,g4Z,hx,h95,a1,b1,b2]
     all_goals exact k2 rfl _ (by simp only[wQ,seval])
    ·have hnt:d1C c=true:=by rw[hn];simp [h95];omega
     rw[hnt,g4X] at k1 k2
     simp only[wA,seval,f0,f3,c1,c0,hw1,g4Z,hx,h95,a1,b1,b2]
     all_goals exact ih (i+1) _ hr (by simp only[wQ,seval,f0]) k1 k2
  ·by_cases a2:(c.toNat:Int) > 122
   ·have b1:¬(c.toNat:Int) < 48:=by omega
    have b2:(c.toNat:Int) > 57:=by omega
    have hnt:d1C c=false:=by rw[hn];simp [h95];omega
    rw[hnt,Bool.false_and] at k1 k2
    simp only[wA,seval,f0,f3,c1,c0,hw1,g4Z,hx,h95,a1,a2,b1,b2]
    all_goals exact k2 rfl _ (by simp only[wQ,seval])
   ·have hnt:d1C c=true:=by rw[hn];simp [h95];omega
    rw[hnt,g4X] at k1 k2
    simp only[wA,seval,f0,f3,c1,c0,hw1,g4Z,hx,h95,a1,a2]
    all_goals exact ih (i+1) _ hr (by simp only[wQ,seval,f0]) k1 k2
theorem g1A (s:Nm) (hs:s.length<=B47) {K:PV->Prop}:XcP F gl 65 [.str s] K ⟨⟩↔K (.t (.bool (d2Q s))):=by
 refine Ret.iff (Ret.of F65 rfl ?_)
 simp only[c3Q]
 cases s with
 |nil =>
  simp only[wA,seval,g5Z]
  all_goals simp [d2Q]
 |cons c r =>
  have hnB:d2Q (c::r)=(decide ((c::r).length<=24)&&d1A c&&(c::r).all d1C&&!keywords.contains (c::r)):=by rw[<-d1E];rfl
  rw[hnB]
  have hl:=d8T c
  have hx:(c::r)[0]?=some c:=rfl
  have hl1:¬((c::r).length:Int) < 1:=by simp;omega
  generalize hsr:c::r=s at *
  by_cases h24:(s.length:Int) > 24
  ·have:decide (s.length<=24)=false:=by simp;omega
   rw[this]
   simp only[wA,seval,hl1,h24,hx]
   all_goals simp
  have h24':decide (s.length<=24)=true:=by simp;omega
  rw[h24']
  by_cases a1:(c.toNat:Int) < 97
  ·have:d1A c=false:=by rw[hl];simp;omega
   rw[this]
   simp only[wA,seval,hl1,h24,hx,a1]
   all_goals simp
  by_cases a2:(c.toNat:Int) > 122
  ·have:d1A c=false:=by rw[hl];simp;omega
   rw[this]
   simp only[wA,seval,hl1,h24,hx,a1,a2]
   all_goals simp
  have hlt:d1A c=true:=by rw[hl];simp;omega
  rw[hlt]
  cases hk:keywords.contains s with
  |true =>
   simp only[wA,seval,hl1,h24,hx,a1,a2,g0Y,hk]
   all_goals simp
  |false =>
   simp only[wA,seval,hl1,h24,hx,a1,a2,g0Y,hk]
   refine g0Z hs _ s 0 _ rfl (by simp only[wQ,seval];first|done|exact⟨rfl,rfl⟩|rfl) ?_ ?_
   ·intro h fr'
    simp only[wA,seval]
    rw[h]
   ·intro h fr' f2
    simp only[wA,seval,f2]
    rw[h]
theorem g1B (n:Int) {K:PV->Prop}:XcP F gl 155 [.int .i64 n] K ⟨⟩↔K (.t (.bool (d2V n))):=by
 refine Ret.iff (Ret.of F155 rfl ?_)
 simp only[c7P]
 unfold d2V
 by_cases h1:0<=n
 ·by_cases h2:n<=1000000
  ·simp only[wA,seval,h1,h2]
   all_goals simp_all
  ·simp only[wA,seval,h1,h2]
   all_goals simp_all
 ·simp only[wA,seval,h1]
  all_goals simp_all
theorem g1C (t:Ty) {K:PV->Prop}:XcP F gl 66 [.agg (tTy t)] K ⟨⟩↔K (.t (.bool (tyB t))):=by
 refine Ret.iff (Ret.of F66 rfl ?_)
 simp only[c3R]
 unfold tyB
 by_cases h1:t.len < 0
 ·simp only[wA,seval,h1]
  all_goals simp [h1]
 by_cases h2:t.len > 64
 ·simp only[wA,seval,h1,h2]
  all_goals simp [h1,h2]
 have h12:¬(t.len < 0\/64 < t.len):=by omega
 rw[if_neg h12]
 by_cases k3:t.kind=3
 ·by_cases b1:t.bits>=1
  ·by_cases b2:t.bits<=62
   ·simp only[wA,seval,h1,h2,k3,b1,b2]
    all_goals simp_all
   ·simp only[wA,seval,h1,h2,k3,b1,b2]
    all_goals simp_all
  ·simp only[wA,seval,h1,h2,k3,b1]
   all_goals simp_all
 by_cases k1:t.kind=1
 ·by_cases b0:t.bits=0
  ·simp only[wA,seval,h1,h2,k3,k1,b0]
   all_goals simp_all
  ·simp only[wA,seval,h1,h2,k3,k1,b0]
   all_goals simp_all
 by_cases k2:t.kind=2
 ·by_cases b0:t.bits=0
  ·simp only[wA,seval,h1,h2,k3,k1,k2,b0]
   all_goals simp_all
  ·simp only[wA,seval,h1,h2,k3,k1,k2,b0]
   all_goals simp_all
 simp only[wA,seval,h1,h2,k3,k1,k2]
 all_goals simp_all
end Go.Proofs.YtdjcnfacjfnakaaGreat

/- The reference: expressions. -/
namespace Go.Proofs.YtdjcnfacjfnakaaGreat
open Go.Pi Go.Lx Go.Ky
variable {gl:Nat->Option (List T)}
def g1D (op n:Int):Bool :=
 if op=1 then decide (n=0) else if op=2 then decide (n=0) else if op=3 then decide (n=0) else if op=4 then decide (n=0) else if op=5 then true
 else if op=6 then decide (n > 0) else if op=7 then decide (n > 0) else if op=9 then decide (n=1) else if op=10 then decide (n=1) else if op=20 then decide (n=3)
 else decide (op>=8)&&(decide (op<=19)&&decide (n=2))
set_option maxHeartbeats 1000000 in
theorem g1E (op n:Int) {K:PV->Prop}:XcP F gl 153 [.int .i64 op,.int .i64 n] K ⟨⟩↔K (.t (.bool (g1D op n))):=by
 refine Ret.iff (Ret.of F153 rfl ?_)
 simp only[c7N]
 unfold g1D
 by_cases o1:op=1
 ·simp only[wA,seval,o1]
 by_cases o2:op=2
 ·simp only[wA,seval,o1,o2]
 by_cases o3:op=3
 ·simp only[wA,seval,o1,o2,o3]
 by_cases o4:op=4
 ·simp only[wA,seval,o1,o2,o3,o4]
 by_cases o5:op=5
 ·simp only[wA,seval,o1,o2,o3,o4,o5]
 by_cases o6:op=6
 ·simp only[wA,seval,o1,o2,o3,o4,o5,o6]
 by_cases o7:op=7
 ·simp only[wA,seval,o1,o2,o3,o4,o5,o6,o7]
 by_cases o9:op=9
 ·simp only[wA,seval,o1,o2,o3,o4,o5,o6,o7,o9]
 by_cases o10:op=10
 ·simp only[wA,seval,o1,o2,o3,o4,o5,o6,o7,o9,o10]
 by_cases o20:op=20
 ·simp only[wA,seval,o1,o2,o3,o4,o5,o6,o7,o9,o10,o20]
 by_cases h8:op>=8
 ·by_cases h19:op<=19
  ·simp only[wA,seval,o1,o2,o3,o4,o5,o6,o7,o9,o10,o20,h8,h19]
   try simp
  ·simp only[wA,seval,o1,o2,o3,o4,o5,o6,o7,o9,o10,o20,h8,h19]
   try simp
 ·simp only[wA,seval,o1,o2,o3,o4,o5,o6,o7,o9,o10,o20,h8]
  try simp
theorem g1F {e:Exp} (hsz:szE e<=B20) (hrec:∀ a,a∈e.args->∀ K:PV->Prop,XcP F gl 69 [.agg (tEx a)] K ⟨⟩↔K (.t (.int .i64 (dEx a)))) {ow:Ow} (Q:Ex->S->Prop):∀ (l:List Exp) (i:Nat) (n:Nat) (fr:List PV) (sg:Sg),e.args.drop i=l->sg[0]?=some (false,[PV.t (.int .i64 e.op),.t (.int .u64 e.val),.t (.str e.name),.t (.sl e.nl (d1H e.args))]) ->
  b6S fr [(1,.lp 0 0),(3,.t (.int .i64 n)),(4,.t (.int .i64 i))] ->
  (∀ fr' sg',a0A fr' 3=.t (.int .i64 (max n (d3A l):Nat))->Q (.exit 0) ⟨fr',sg',ow⟩) ->
  Xl F gl c3W ⟨fr,sg,ow⟩ Q ⟨⟩:=by
 intro l
 have hln:=(d6A hsz).1
 induction l with
 |nil =>
  intro i n fr sg hd h1 hf k1
  have hd:=b6N hd
  simp only[b6U,b6T] at hf
  obtain⟨f1,f3,f4,-⟩:=hf
  refine Xl.step ?_
  simp only[c3W]
  have c1:¬((i:Int) < (e.args.length:Int)):=by omega
  simp only[wA,seval,f1,f3,f4,c1,h1,d1K]
  exact k1 _ _ (by simp only[wQ,seval,f3,d3A,Nat.max_zero])
 |cons x l ih =>
  intro i n fr sg hd h1 hf k1
  obtain⟨hx,hr,hi⟩:=b6M hd
  simp only[b6U,b6T] at hf
  obtain⟨f1,f3,f4,-⟩:=hf
  refine Xl.step ?_
  simp only[c3W]
  have c1:(i:Int) < (e.args.length:Int):=by omega
  have hb:B20=1100000:=rfl
  have hw1:=d5F hi (show e.args.length<=281474976710656 by omega)
  have hq:=λK=>hrec x (g6K hx) K
  simp only[d1J] at hq
  by_cases hgt:((dEx x:Nat):Int) > (n:Int)
  ·simp only[wA,seval,f1,f3,f4,c1,hw1,h1,d1K,g4Z,hi,d1L,hx,g7F,hq,d1J,hgt]
   refine ih (i+1) (dEx x) _ _ hr h1 (by simp only[wQ,seval,f1];first|done|rfl) λfr' sg' h=>k1 fr' sg' ?_
   rw[h,d3A]
   congr 3
   omega
  ·simp only[wA,seval,f1,f3,f4,c1,hw1,h1,d1K,g4Z,hi,d1L,hx,g7F,hq,d1J,hgt]
   refine ih (i+1) n _ _ hr h1 (by simp only[wQ,seval,f1,f3];first|done|rfl) λfr' sg' h=>k1 fr' sg' ?_
   rw[h,d3A]
   congr 3
   omega
theorem ok69:∀ e,szE e<=B20->∀ K:PV->Prop,XcP F gl 69 [.agg (tEx e)] K ⟨⟩↔K (.t (.int .i64 (dEx e))):=by
 refine Exp.ind λe ih hsz K=>?_
 have hrec:=λa ha=>ih a ha ((d6A hsz).2 a ha)
 refine Ret.iff (Ret.of F69 rfl ?_)
 simp only[c3X]
 have hb:B20=1100000:=rfl
 have hd:=d3E e
 have hde:=d3C e
 simp only[wA,seval,d1J]
 refine g1F hsz hrec _ e.args 0 0 _ _ rfl rfl (by simp only[wQ,seval];first|done|exact⟨rfl,rfl⟩|rfl) ?_
 intro fr' sg' f3
 rw[Nat.zero_max] at f3
 have hw:IntKind.wrap .i64 ((d3A e.args:Nat)+1:Int)=((dEx e:Nat):Int):=by rw[d7J (by omega) (by omega)];omega
 simp only[wA,seval,f3,hw]
theorem g1G (e:Exp) {K:PV->Prop}:XcP F gl 154 [.agg (tEx e)] K ⟨⟩↔K (.t (.bool (d2U e))):=by
 have hS:∀ K:PV->Prop,XcP F gl 196 [.agg [.int .i64 e.op,.int .u64 e.val,.str e.name,.sl e.nl (d1H e.args)],.agg [.int .i64 0,.int .u64 0,.str [],.sl true []]] K ⟨⟩↔K (.t (.bool (d2U e))):=by
  intro K
  refine Ret.iff (Ret.of F196 rfl ?_)
  simp only[c9L]
  unfold d2U
  by_cases o:e.op=0
  ·by_cases v:e.val=0
   ·by_cases n:e.name=[]
    ·by_cases a:(e.args.length:Int)=0
     ·simp only[wA,seval,o,v,n,a,d1K,g5Z]
      refine Xl.step ?_
      simp only[c9K]
      simp only[wA,seval,a,d1K]
      all_goals simp_all
     ·simp only[wA,seval,o,v,n,a,d1K,g5Z]
      all_goals simp_all
    ·simp only[wA,seval,o,v,n]
     all_goals simp_all
   ·simp only[wA,seval,o,v]
    all_goals simp_all
  ·simp only[wA,seval,o]
   all_goals simp_all
 refine Ret.iff (Ret.of F154 rfl ?_)
 simp only[c7O]
 simp only[wA,seval,d1J,hS]
end Go.Proofs.YtdjcnfacjfnakaaGreat

/- The reference: well-formed expressions. -/
namespace Go.Proofs.YtdjcnfacjfnakaaGreat
open Go.Pi Go.Lx Go.Ky
variable {gl:Nat->Option (List T)}
def rhB (op n v:Int) (nm:Nm):Bool:=g1D op n&&((if op=2\/op=5 then d2Q nm else decide (nm=[]))&&(if op=1\/op=6 then true else decide (v=0)))
theorem g1H (op n v:Int) (nm:Nm) (hn:0<=n):rhB op n v nm=opB op n v nm:=by
 have e1:decide (n > 0)=decide (1<=n):=rfl
 unfold rhB g1D opB
 by_cases o1:op=1
 ·subst o1;simp
 by_cases o2:op=2
 ·subst o2;simp [Bool.and_assoc,Bool.and_comm,Bool.and_left_comm]
 by_cases o3:op=3
 ·subst o3;simp [Bool.and_assoc,Bool.and_comm,Bool.and_left_comm]
 by_cases o4:op=4
 ·subst o4;simp [Bool.and_assoc,Bool.and_comm,Bool.and_left_comm]
 by_cases o5:op=5
 ·subst o5;simp [Bool.and_assoc,Bool.and_comm,Bool.and_left_comm]
 by_cases o6:op=6
 ·subst o6;simp [e1]
  try rfl
 by_cases o7:op=7
 ·subst o7;simp [e1,Bool.and_assoc,Bool.and_comm,Bool.and_left_comm]
  try rfl
 by_cases o9:op=9
 ·subst o9;simp [Bool.and_assoc,Bool.and_comm,Bool.and_left_comm]
 by_cases o10:op=10
 ·subst o10;simp [Bool.and_assoc,Bool.and_comm,Bool.and_left_comm]
 by_cases o20:op=20
 ·subst o20;simp [Bool.and_assoc,Bool.and_comm,Bool.and_left_comm]
 have r:(decide (op>=8)&&(decide (op<=19)&&decide (n=2)))=(if op=8\/op=11\/op=12\/op=13\/op=14\/op=15\/op=16\/op=17\/op=18\/op=19 then decide (n=2) else false):=by
  by_cases h:op=8\/op=11\/op=12\/op=13\/op=14\/op=15\/op=16\/op=17\/op=18\/op=19
  ·rw[if_pos h,g7K (show op>=8 by omega),g7K (show op<=19 by omega)];rfl
  ·rw[if_neg h]
   by_cases h8:op>=8
   ·rw[g7I (show ¬op<=19 by omega)];simp
   ·rw[g7I h8];rfl
 simp only[o1,o2,o3,o4,o5,o6,o7,o9,o10,o20,if_false,or_self]
 rw[r]
 split
 ·simp [Bool.and_assoc,Bool.and_comm,Bool.and_left_comm]
 ·simp
theorem g1I {e:Exp} {o v:Int} {nm:Nm} (hsz:szE e<=B20) (hrec:∀ a,a∈e.args->∀ K:PV->Prop,XcP F gl 109 [.agg (tEx a)] K ⟨⟩↔K (.t (.bool (exB a)))) {ow:Ow} (Q:Ex->S->Prop):∀ (l:List Exp) (i:Nat) (fr:List PV) (sg:Sg),e.args.drop i=l->sg[0]?=some (false,[PV.t (.int .i64 o),.t (.int .u64 v),.t (.str nm),.t (.sl e.nl (d1H e.args))]) ->
  b6S fr [(1,.lp 0 0),(5,.t (.int .i64 i))] ->
  (l.all exB=true->∀ fr' sg',Q (.exit 0) ⟨fr',sg',ow⟩)->(l.all exB=false->∀ fr' sg',a0A fr' 2=.t (.bool false)->Q .ret ⟨fr',sg',ow⟩) ->
  Xl F gl c5Q ⟨fr,sg,ow⟩ Q ⟨⟩:=by
 intro l
 have hln:=(d6A hsz).1
 induction l with
 |nil =>
  intro i fr sg hd h1 hf k1 k2
  have hd:=b6N hd
  simp only[b6U,b6T] at hf
  obtain⟨f1,f5,-⟩:=hf
  refine Xl.step ?_
  simp only[c5Q]
  have c1:¬((i:Int) < (e.args.length:Int)):=by omega
  simp only[wA,seval,f1,f5,c1,h1,d1K]
  exact k1 rfl _ _
 |cons x l ih =>
  intro i fr sg hd h1 hf k1 k2
  obtain⟨hx,hr,hi⟩:=b6M hd
  simp only[b6U,b6T] at hf
  obtain⟨f1,f5,-⟩:=hf
  refine Xl.step ?_
  simp only[c5Q]
  have c1:(i:Int) < (e.args.length:Int):=by omega
  have hb:B20=1100000:=rfl
  have hw1:=d5F hi (show e.args.length<=281474976710656 by omega)
  have hq:=λK=>hrec x (g6K hx) K
  simp only[d1J] at hq
  have hall:(x::l).all exB=(exB x&&l.all exB):=rfl
  rw[hall] at k1 k2
  cases hxb:exB x with
  |true =>
   rw[hxb,g4X] at k1 k2
   simp only[wA,seval,f1,f5,c1,hw1,h1,d1K,g4Z,hi,d1L,hx,g7F,hq,d1J,hxb,g4V]
   exact ih (i+1) _ _ hr h1 (by simp only[wQ,seval,f1]) k1 k2
  |false =>
   rw[hxb,Bool.false_and] at k1 k2
   simp only[wA,seval,f1,f5,c1,hw1,h1,d1K,g4Z,hi,d1L,hx,g7F,hq,d1J,hxb,g4U]
   exact k2 rfl _ _ (by simp only[wQ,seval])
set_option maxHeartbeats 1000000 in
theorem g1J:∀ e,szE e<=B20->∀ K:PV->Prop,XcP F gl 109 [.agg (tEx e)] K ⟨⟩↔K (.t (.bool (exB e))):=by
 refine Exp.ind λe ih hsz K=>?_
 have hrec:=λa ha=>ih a ha ((d6A hsz).2 a ha)
 refine Ret.iff (Ret.of F109 rfl ?_)
 simp only[c5R]
 have hb:B20=1100000:=rfl
 have hnl:e.name.length<=B47:=by rw[d2H] at hsz;have:B47=140737488355328:=rfl;omega
 rw[d2T,<-g1H e.op _ e.val e.name (by omega)]
 unfold rhB
 have hN:=λK=>@g1A gl e.name hnl K
 cases hA:g1D e.op (e.args.length:Int) with
 |false =>
  by_cases n2:e.op=2
  ·rw[n2] at hA
   simp only[wA,seval,d1J,d1K,g1E,hA,g4U,g4V,hN,n2]
   try simp
  by_cases n5:e.op=5
  ·rw[n5] at hA
   simp only[wA,seval,d1J,d1K,g1E,hA,g4U,g4V,hN,n2,n5]
   try simp
  by_cases n1:e.op=1
  ·rw[n1] at hA
   simp only[wA,seval,d1J,d1K,g1E,hA,g4U,g4V,hN,n2,n5,n1]
   try simp
  by_cases n6:e.op=6
  ·rw[n6] at hA
   simp only[wA,seval,d1J,d1K,g1E,hA,g4U,g4V,hN,n2,n5,n1,n6]
   try simp
  simp only[wA,seval,d1J,d1K,g1E,hA,g4U,g4V,hN,n2,n5,n1,n6]
  try simp
 |true =>
 by_cases n2:e.op=2
 ·skip
  rw[n2] at hA
  cases hn:d2Q e.name with
  |false =>
   simp only[wA,seval,d1J,d1K,g1E,hA,g4U,g4V,hN,n2,hn]
   simp [n2,hn]
  |true =>
   by_cases v0:e.val=0
   ·skip
    simp only[wA,seval,d1J,d1K,g1E,hA,g4U,g4V,hN,n2,hn,v0]
    refine g1I hsz hrec _ e.args 0 _ _ rfl rfl (by simp only[wQ,seval];first|done|exact⟨rfl,rfl⟩|rfl) ?_ ?_
    ·intro h fr' sg'
     simp only[wA,seval]
     rw[h]
     simp [n2,hn,v0]
    ·intro h fr' sg' f2
     simp only[wA,seval,f2]
     rw[h]
     simp
   ·skip
    simp only[wA,seval,d1J,d1K,g1E,hA,g4U,g4V,hN,n2,hn,v0]
    simp [n2,hn,v0]
 by_cases n5:e.op=5
 ·skip
  rw[n5] at hA
  cases hn:d2Q e.name with
  |false =>
   simp only[wA,seval,d1J,d1K,g1E,hA,g4U,g4V,hN,n5,hn]
   simp [n5,hn]
  |true =>
   by_cases v0:e.val=0
   ·skip
    simp only[wA,seval,d1J,d1K,g1E,hA,g4U,g4V,hN,n5,hn,v0]
    refine g1I hsz hrec _ e.args 0 _ _ rfl rfl (by simp only[wQ,seval];first|done|exact⟨rfl,rfl⟩|rfl) ?_ ?_
    ·intro h fr' sg'
     simp only[wA,seval]
     rw[h]
     simp [n5,hn,v0]
    ·intro h fr' sg' f2
     simp only[wA,seval,f2]
     rw[h]
     simp
   ·skip
    simp only[wA,seval,d1J,d1K,g1E,hA,g4U,g4V,hN,n5,hn,v0]
    simp [n5,hn,v0]
 by_cases n1:e.op=1
 ·skip
  rw[n1] at hA
  by_cases m0:e.name=[]
  ·skip
   simp only[wA,seval,d1J,d1K,g1E,hA,g4U,g4V,hN,n1,m0]
   refine g1I hsz hrec _ e.args 0 _ _ rfl rfl (by simp only[wQ,seval];first|done|exact⟨rfl,rfl⟩|rfl) ?_ ?_
   ·intro h fr' sg'
    simp only[wA,seval]
    rw[h]
    simp [n1,m0]
   ·intro h fr' sg' f2
    simp only[wA,seval,f2]
    rw[h]
    simp
  ·skip
   simp only[wA,seval,d1J,d1K,g1E,hA,g4U,g4V,hN,n1,m0]
   simp [n1,m0]
 by_cases n6:e.op=6
 ·skip
  rw[n6] at hA
  by_cases m0:e.name=[]
  ·skip
   simp only[wA,seval,d1J,d1K,g1E,hA,g4U,g4V,hN,n6,m0]
   refine g1I hsz hrec _ e.args 0 _ _ rfl rfl (by simp only[wQ,seval];first|done|exact⟨rfl,rfl⟩|rfl) ?_ ?_
   ·intro h fr' sg'
    simp only[wA,seval]
    rw[h]
    simp [n6,m0]
   ·intro h fr' sg' f2
    simp only[wA,seval,f2]
    rw[h]
    simp
  ·skip
   simp only[wA,seval,d1J,d1K,g1E,hA,g4U,g4V,hN,n6,m0]
   simp [n6,m0]
 by_cases m0:e.name=[]
 ·by_cases v0:e.val=0
  ·skip
   simp only[wA,seval,d1J,d1K,g1E,hA,g4U,g4V,hN,n2,n5,n1,n6,m0,v0]
   refine g1I hsz hrec _ e.args 0 _ _ rfl rfl (by simp only[wQ,seval];first|done|exact⟨rfl,rfl⟩|rfl) ?_ ?_
   ·intro h fr' sg'
    simp only[wA,seval]
    rw[h]
    simp [n2,n5,n1,n6,m0,v0]
   ·intro h fr' sg' f2
    simp only[wA,seval,f2]
    rw[h]
    simp
  ·skip
   simp only[wA,seval,d1J,d1K,g1E,hA,g4U,g4V,hN,n2,n5,n1,n6,m0,v0]
   simp [n2,n5,n1,n6,m0,v0]
 ·skip
  simp only[wA,seval,d1J,d1K,g1E,hA,g4U,g4V,hN,n2,n5,n1,n6,m0]
  simp [n2,n5,n1,n6,m0]
end Go.Proofs.YtdjcnfacjfnakaaGreat

/- The reference: well-formed statements. -/
namespace Go.Proofs.YtdjcnfacjfnakaaGreat
open Go.Pi Go.Lx Go.Ky
variable {gl:Nat->Option (List T)}
theorem g1K {ls:List St} {nl:Bool} (hls:ls.length<=B20) (hrec:∀ s,s∈ls->∀ K:PV->Prop,XcP F gl 111 [.agg (tSt s)] K ⟨⟩↔K (.t (.bool (stB s)))) {sg:Sg} {ow:Ow} (Q:Ex->S->Prop):∀ (l:List St) (i:Nat) (fr:List PV),ls.drop i=l ->
  b6S fr [(0,.t (.sl nl (d1M ls))),(3,.t (.int .i64 i))] ->
  (l.all stB=true->∀ fr',Q (.exit 0) ⟨fr',sg,ow⟩)->(l.all stB=false->∀ fr',a0A fr' 2=.t (.bool false)->Q .ret ⟨fr',sg,ow⟩) ->
  Xl F gl c3S ⟨fr,sg,ow⟩ Q ⟨⟩:=by
 intro l
 induction l with
 |nil =>
  intro i fr hd hf k1 k2
  have hd:=b6N hd
  simp only[b6U,b6T] at hf
  obtain⟨f0,f3,-⟩:=hf
  refine Xl.step ?_
  simp only[c3S]
  have c1:¬((i:Int) < (ls.length:Int)):=by omega
  simp only[wA,seval,f0,f3,c1,d1P]
  exact k1 rfl _
 |cons x l ih =>
  intro i fr hd hf k1 k2
  obtain⟨hx,hr,hi⟩:=b6M hd
  simp only[b6U,b6T] at hf
  obtain⟨f0,f3,-⟩:=hf
  refine Xl.step ?_
  simp only[c3S]
  have c1:(i:Int) < (ls.length:Int):=by omega
  have hb:B20=1100000:=rfl
  have hw1:=d5F hi (show ls.length<=281474976710656 by omega)
  have hq:=λK=>hrec x (g6K hx) K
  simp only[d1O] at hq
  have hall:(x::l).all stB=(stB x&&l.all stB):=rfl
  rw[hall] at k1 k2
  cases hxb:stB x with
  |true =>
   rw[hxb,g4X] at k1 k2
   simp only[wA,seval,f0,f3,c1,hw1,d1P,g4Z,hi,d1Q,hx,g7F,hq,d1O,hxb,g4V]
   exact ih (i+1) _ hr (by simp only[wQ,seval,f0]) k1 k2
  |false =>
   rw[hxb,Bool.false_and] at k1 k2
   simp only[wA,seval,f0,f3,c1,hw1,d1P,g4Z,hi,d1Q,hx,g7F,hq,d1O,hxb,g4U]
   exact k2 rfl _ (by simp only[wQ,seval])
theorem g1L {ls:List St} (hls:ls.length<=B20) (hrec:∀ s,s∈ls->∀ K:PV->Prop,XcP F gl 111 [.agg (tSt s)] K ⟨⟩↔K (.t (.bool (stB s)))) (nl:Bool) (K:PV->Prop):XcP F gl 67 [.sl nl (d1M ls)] K ⟨⟩↔K (.t (.bool (ls.all stB))):=by
 refine Ret.iff (Ret.of F67 rfl ?_)
 simp only[c3T]
 simp only[wA,seval]
 refine g1K hls hrec _ ls 0 _ rfl (by simp only[wQ,seval];first|done|exact⟨rfl,rfl⟩|rfl) ?_ ?_
 ·intro h fr'
  simp only[wA,seval]
  rw[h]
 ·intro h fr' f2
  simp only[wA,seval,f2]
  rw[h]
set_option maxHeartbeats 4000000 in
theorem g1M:∀ s,szS s<=B20->∀ K:PV->Prop,XcP F gl 111 [.agg (tSt s)] K ⟨⟩↔K (.t (.bool (stB s))):=by
 refine St.ind λs ih hsz K=>?_
 have hbd:=d6L hsz
 have hrec:=λa ha=>ih a ha (hbd.2 a ha)
 have hY:=λnl K=>g1L (gl:=gl) hbd.1 hrec nl K
 refine Ret.iff (Ret.of F111 rfl ?_)
 simp only[c5U]
 have hnl:s.name.length<=B47:=by
  rw[d2J] at hsz
  have:B47=140737488355328:=rfl
  have:B20=1100000:=rfl
  omega
 have hN:=λK=>@g1A gl s.name hnl K
 have hE:=λK=>g1J (gl:=gl) s.ex (g6V (d2P s) hsz) K
 have hT:=λK=>@g1C gl s.ty K
 have hO:=λK=>@g1G gl s.ex K
 simp only[d1J] at hE hO
 have hz:(s.ty.kind == 0&&(s.ty.bits == 0&&s.ty.len == 0))=decide (s.ty=zTy):=d5C s.ty 0 0 0
 by_cases hk:s.kind=1
 ·skip
  cases c1:d2Q s.name with
  |false =>
   simp only[wA,seval,d1O,d1P,hk,hN,hE,hT,hz,g4U,g4V,c1]
   all_goals simp [d2Z,hk,c1]
  |true =>
   cases c2:exB s.ex with
   |false =>
    simp only[wA,seval,d1O,d1P,hk,hN,hE,hT,hz,g4U,g4V,c1,c2]
    all_goals simp [d2Z,hk,c1,c2]
   |true =>
    cases c3:s.typed with
    |true =>
     cases c4:tyB s.ty with
     |false =>
      simp only[wA,seval,d1O,d1P,hk,hN,hE,hT,hz,g4U,g4V,c1,c2,c3,c4]
      all_goals simp [d2Z,hk,c1,c2,c3,c4]
     |true =>
      by_cases l0:s.lo=0
      ·skip
       by_cases h0:s.hi=0
       ·skip
        by_cases b0:(s.body.length:Int)=0
        ·skip
         simp only[wA,seval,d1O,d1P,hk,hN,hE,hT,hz,g4U,g4V,c1,c2,c3,c4,l0,h0,b0]
         all_goals first|done|simp [d2Z,d2W,hk,c1,c2,c3,c4,l0,h0,b0]
         all_goals (intro e;exact b0 (by simp [e]))
        ·skip
         simp only[wA,seval,d1O,d1P,hk,hN,hE,hT,hz,g4U,g4V,c1,c2,c3,c4,l0,h0,b0]
         all_goals first|done|simp [d2Z,d2W,hk,c1,c2,c3,c4,l0,h0,b0]
         all_goals (intro e;exact b0 (by simp [e]))
       ·skip
        simp only[wA,seval,d1O,d1P,hk,hN,hE,hT,hz,g4U,g4V,c1,c2,c3,c4,l0,h0]
        all_goals first|done|simp [d2Z,d2W,hk,c1,c2,c3,c4,l0,h0]
      ·skip
       simp only[wA,seval,d1O,d1P,hk,hN,hE,hT,hz,g4U,g4V,c1,c2,c3,c4,l0]
       all_goals first|done|simp [d2Z,d2W,hk,c1,c2,c3,c4,l0]
    |false =>
     by_cases c4:s.ty=zTy
     ·have c5:decide (s.ty=zTy)=true:=g7K c4
      by_cases l0:s.lo=0
      ·skip
       by_cases h0:s.hi=0
       ·skip
        by_cases b0:(s.body.length:Int)=0
        ·skip
         simp only[wA,seval,d1O,d1P,hk,hN,hE,hT,hz,g4U,g4V,c1,c2,c3,c5,l0,h0,b0]
         all_goals first|done|simp [d2Z,d2W,hk,c1,c2,c3,c5,l0,h0,b0]
         all_goals (intro e;exact b0 (by simp [e]))
        ·skip
         simp only[wA,seval,d1O,d1P,hk,hN,hE,hT,hz,g4U,g4V,c1,c2,c3,c5,l0,h0,b0]
         all_goals first|done|simp [d2Z,d2W,hk,c1,c2,c3,c5,l0,h0,b0]
         all_goals (intro e;exact b0 (by simp [e]))
       ·skip
        simp only[wA,seval,d1O,d1P,hk,hN,hE,hT,hz,g4U,g4V,c1,c2,c3,c5,l0,h0]
        all_goals first|done|simp [d2Z,d2W,hk,c1,c2,c3,c5,l0,h0]
      ·skip
       simp only[wA,seval,d1O,d1P,hk,hN,hE,hT,hz,g4U,g4V,c1,c2,c3,c5,l0]
       all_goals first|done|simp [d2Z,d2W,hk,c1,c2,c3,c5,l0]
     ·have c5:decide (s.ty=zTy)=false:=g7I c4
      simp only[wA,seval,d1O,d1P,hk,hN,hE,hT,hz,g4U,g4V,c1,c2,c3,c5]
      all_goals simp [d2Z,hk,c1,c2,c3,c4]
 have hS1:=λK=>@g1B gl s.lo K
 have hS2:=λK=>@g1B gl s.hi K
 have hk1:=hk
 by_cases hk2:s.kind=2
 ·skip
  by_cases n0:s.name=[]
  ·skip
   cases c2:exB s.ex with
   |false =>
    simp only[wA,seval,d1O,d1P,hk2,hk1,hN,hE,hT,hz,hO,hS1,hS2,hY,g4U,g4V,n0,c2]
    all_goals first|done|simp [d2Z,d2W,hk2,hk1,n0,c2]
   |true =>
    cases c3:s.typed with
    |true =>
     simp only[wA,seval,d1O,d1P,hk2,hk1,hN,hE,hT,hz,hO,hS1,hS2,hY,g4U,g4V,n0,c2,c3]
     all_goals first|done|simp [d2Z,d2W,hk2,hk1,n0,c2,c3]
    |false =>
     by_cases c4:s.ty=zTy
     ·have c5:decide (s.ty=zTy)=true:=g7K c4
      by_cases l0:s.lo=0
      ·skip
       by_cases h0:s.hi=0
       ·skip
        by_cases b0:(s.body.length:Int)=0
        ·skip
         simp only[wA,seval,d1O,d1P,hk2,hk1,hN,hE,hT,hz,hO,hS1,hS2,hY,g4U,g4V,n0,c2,c3,c5,l0,h0,b0]
         all_goals first|done|simp [d2Z,d2W,hk2,hk1,n0,c2,c3,c5,c4,l0,h0,b0]
         all_goals (intro e;exact b0 (by simp [e]))
        ·skip
         simp only[wA,seval,d1O,d1P,hk2,hk1,hN,hE,hT,hz,hO,hS1,hS2,hY,g4U,g4V,n0,c2,c3,c5,l0,h0,b0]
         all_goals first|done|simp [d2Z,d2W,hk2,hk1,n0,c2,c3,c5,c4,l0,h0,b0]
         all_goals (intro e;exact b0 (by simp [e]))
       ·skip
        simp only[wA,seval,d1O,d1P,hk2,hk1,hN,hE,hT,hz,hO,hS1,hS2,hY,g4U,g4V,n0,c2,c3,c5,l0,h0]
        all_goals first|done|simp [d2Z,d2W,hk2,hk1,n0,c2,c3,c5,c4,l0,h0]
      ·skip
       simp only[wA,seval,d1O,d1P,hk2,hk1,hN,hE,hT,hz,hO,hS1,hS2,hY,g4U,g4V,n0,c2,c3,c5,l0]
       all_goals first|done|simp [d2Z,d2W,hk2,hk1,n0,c2,c3,c5,c4,l0]
     ·have c5:decide (s.ty=zTy)=false:=g7I c4
      simp only[wA,seval,d1O,d1P,hk2,hk1,hN,hE,hT,hz,hO,hS1,hS2,hY,g4U,g4V,n0,c2,c3,c5]
      all_goals first|done|simp [d2Z,d2W,hk2,hk1,n0,c2,c3,c5,c4]
  ·skip
   simp only[wA,seval,d1O,d1P,hk2,hk1,hN,hE,hT,hz,hO,hS1,hS2,hY,g4U,g4V,n0]
   all_goals first|done|simp [d2Z,d2W,hk2,hk1,n0]
 by_cases hk3:s.kind=3
 ·skip
  cases c1:d2Q s.name with
  |false =>
   simp only[wA,seval,d1O,d1P,hk3,hk2,hk1,hN,hE,hT,hz,hO,hS1,hS2,hY,g4U,g4V,c1]
   all_goals first|done|simp [d2Z,d2W,hk3,hk2,hk1,c1]
  |true =>
   cases c2:d2U s.ex with
   |false =>
    simp only[wA,seval,d1O,d1P,hk3,hk2,hk1,hN,hE,hT,hz,hO,hS1,hS2,hY,g4U,g4V,c1,c2]
    all_goals first|done|simp [d2Z,d2W,hk3,hk2,hk1,c1,c2]
   |true =>
    cases c3:s.typed with
    |true =>
     simp only[wA,seval,d1O,d1P,hk3,hk2,hk1,hN,hE,hT,hz,hO,hS1,hS2,hY,g4U,g4V,c1,c2,c3]
     all_goals first|done|simp [d2Z,d2W,hk3,hk2,hk1,c1,c2,c3]
    |false =>
     by_cases c4:s.ty=zTy
     ·have c5:decide (s.ty=zTy)=true:=g7K c4
      cases l0:d2V s.lo with
      |false =>
       simp only[wA,seval,d1O,d1P,hk3,hk2,hk1,hN,hE,hT,hz,hO,hS1,hS2,hY,g4U,g4V,c1,c2,c3,c5,l0]
       all_goals first|done|simp [d2Z,d2W,hk3,hk2,hk1,c1,c2,c3,c5,c4,l0]
      |true =>
       cases h0:d2V s.hi with
       |false =>
        simp only[wA,seval,d1O,d1P,hk3,hk2,hk1,hN,hE,hT,hz,hO,hS1,hS2,hY,g4U,g4V,c1,c2,c3,c5,l0,h0]
        all_goals first|done|simp [d2Z,d2W,hk3,hk2,hk1,c1,c2,c3,c5,c4,l0,h0]
       |true =>
        cases y0:s.body.all stB with
        |false =>
         simp only[wA,seval,d1O,d1P,hk3,hk2,hk1,hN,hE,hT,hz,hO,hS1,hS2,hY,g4U,g4V,c1,c2,c3,c5,l0,h0,y0]
         all_goals first|done|simp [d2Z,d2W,hk3,hk2,hk1,c1,c2,c3,c5,c4,l0,h0,y0]
        |true =>
         simp only[wA,seval,d1O,d1P,hk3,hk2,hk1,hN,hE,hT,hz,hO,hS1,hS2,hY,g4U,g4V,c1,c2,c3,c5,l0,h0,y0]
         all_goals first|done|simp [d2Z,d2W,hk3,hk2,hk1,c1,c2,c3,c5,c4,l0,h0,y0]
     ·have c5:decide (s.ty=zTy)=false:=g7I c4
      simp only[wA,seval,d1O,d1P,hk3,hk2,hk1,hN,hE,hT,hz,hO,hS1,hS2,hY,g4U,g4V,c1,c2,c3,c5]
      all_goals first|done|simp [d2Z,d2W,hk3,hk2,hk1,c1,c2,c3,c5,c4]
 ·skip
  simp only[wA,seval,d1O,d1P,hk3,hk2,hk1,hN,hE,hT,hz,hO,hS1,hS2,hY,g4U,g4V]
  all_goals first|done|simp [d2Z,d2W,hk3,hk2,hk1]
theorem ok67 {ls:List St} (h:d2G ls<=B20) (nl:Bool) (K:PV->Prop):XcP F gl 67 [.sl nl (d1M ls)] K ⟨⟩↔K (.t (.bool (ls.all stB))) :=
 g1L (g6V (d2O _) h) (λs hs=>g1M s (g6V (d2M hs) h)) nl K
end Go.Proofs.YtdjcnfacjfnakaaGreat
