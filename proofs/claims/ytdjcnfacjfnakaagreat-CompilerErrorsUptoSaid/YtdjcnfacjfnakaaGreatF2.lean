/- Contracts: the field. -/
import Derived.Test.YtdjcnfacjfnakaaGreatK19
import Derived.Test.YtdjcnfacjfnakaaGreatPi32
set_option maxRecDepth 10000
set_option linter.unusedVariables false
set_option linter.unusedSimpArgs false
namespace Go.Proofs.YtdjcnfacjfnakaaGreat
open Go.Pi Go.Lib
variable {gl:Nat->Option (List T)}
def e2X (p:Int):Bool:=decide (p=18446744069414584321\/p=17\/p=97\/p=193\/p=257\/p=12289\/p=65537)
theorem e2Y (p:Int):Ky.fieldB p=e2X p:=by
 unfold Ky.fieldB e2X
 simp only[Bool.decide_or,Bool.or_assoc]
theorem e2Z (p:Int) {K:PV->Prop}:XcP F gl 47 [.agg [.int .u64 p]] K ⟨⟩↔K (.t (.bool (e2X p))):=by
 rw[<-e2Y]
 exact ok47 p
def e3A (p:Int):Int×Int×Int:=if p=17 then (3,4,3) else if p=97 then (5,5,5) else if p=193 then (5,6,5) else if p=257 then (3,8,3) else if p=12289 then (11,12,5) else if p=65537 then (3,16,3) else if p=18446744069414584321 then (7,32,7) else (0,0,0)
theorem ok60 (p:Int) {K:PV->Prop}:XcP F gl 60 [.int .u64 p] K ⟨⟩↔K (.t (.agg [.int .u64 (e3A p).1,.int .u64 (e3A p).2.1,.int .u64 (e3A p).2.2])):=by
 refine Ret.iff (Ret.of F60 rfl ?_)
 simp only[c3G]
 simp only[wA,seval]
 repeat' ((with_reducible first|refine c0S ?_ ?_|refine c0T ?_ ?_|refine c0R ?_ ?_|refine c0Q ?_ ?_|refine c0O ?_ ?_|refine c0P ?_ ?_|refine c0N ?_ ?_|refine c0M ?_ ?_) <;> intro h <;> (try simp only[wA,seval,h]))
 all_goals simp_all [e3A]
theorem e3B (p:Int):decide (0 < (e3A p).1)=e2X p:=by
 unfold e3A e2X
 repeat' split
 all_goals simp_all
theorem ok48 (p:Int) {K:PV->Prop}:XcP F gl 48 [.int .u64 p] K ⟨⟩↔K (.t (.bool (e2X p))):=by
 refine Ret.iff (Ret.of F48 rfl ?_)
 simp only[c2T]
 simp only[wA,seval,ok60,e3B]
theorem e3C {x y:Int} (hx0:0<=x) (hx:x<=18446744073709551615) (hy0:0<=y) (hy:y<=18446744073709551615) {K:PV->Prop} :
  XcP F gl 213 [.int .u64 x,.int .u64 y] K ⟨⟩↔K (.tup [.t (.int .u64 (x * y / 18446744073709551616)),.t (.int .u64 (x * y % 18446744073709551616))]):=by
 refine Ret.iff (Ret.of F213 rfl ?_)
 obtain⟨a1,a2,a3,a4,a5,a6,a7,a8,a9,a10,a11⟩:=e0L hx0 hx hy0 hy
 have w1:=e0J hx0 hx
 have w2:=e0J hy0 hy
 have w3:IntKind.u64.wrap (x % 4294967296 * (y % 4294967296))=x % 4294967296 * (y % 4294967296):=IntWalk.u64_in _ ⟨a1,a2⟩
 have w4:IntKind.u64.wrap (x / 4294967296 * (y % 4294967296))=x / 4294967296 * (y % 4294967296):=IntWalk.u64_in _ (by omega)
 have w5:IntKind.u64.wrap (x / 4294967296 * (y % 4294967296)+x % 4294967296 * (y % 4294967296) / 4294967296)=x / 4294967296 * (y % 4294967296)+x % 4294967296 * (y % 4294967296) / 4294967296:=IntWalk.u64_in _ (by omega)
 have w6:=@e0J (x / 4294967296 * (y % 4294967296)+x % 4294967296 * (y % 4294967296) / 4294967296) (by omega) (by omega)
 have w7:IntKind.u64.wrap (x % 4294967296 * (y / 4294967296))=x % 4294967296 * (y / 4294967296):=IntWalk.u64_in _ (by omega)
 have w8:IntKind.u64.wrap ((x / 4294967296 * (y % 4294967296)+x % 4294967296 * (y % 4294967296) / 4294967296) % 4294967296+x % 4294967296 * (y / 4294967296))=(x / 4294967296 * (y % 4294967296)+x % 4294967296 * (y % 4294967296) / 4294967296) % 4294967296+x % 4294967296 * (y / 4294967296):=IntWalk.u64_in _ (by omega)
 have w9:IntKind.u64.wrap (x / 4294967296 * (y / 4294967296))=x / 4294967296 * (y / 4294967296):=IntWalk.u64_in _ (by omega)
 simp only[d0E]
 simp only[wA,seval,w1,w2,w3,w4,w5,w6,w7,w8,w9,IntKind.bits,Nat.min_def,Int.reducePow,Int.fdiv_eq_ediv_of_nonneg,Int.reduceLE]
 have w10:IntKind.u64.wrap (x / 4294967296 * (y / 4294967296)+(x / 4294967296 * (y % 4294967296)+x % 4294967296 * (y % 4294967296) / 4294967296) / 4294967296)=x / 4294967296 * (y / 4294967296)+(x / 4294967296 * (y % 4294967296)+x % 4294967296 * (y % 4294967296) / 4294967296) / 4294967296:=IntWalk.u64_in _ (by omega)
 rw[w10,e0H (x * y),IntWalk.u64_in _ (by omega),a11]
theorem e3D {x:Int} (h0:0<=x) (h1:x<=18446744073709551615) {K:PV->Prop}:XcP F gl 218 [.int .u64 x] K ⟨⟩↔K (.t (.int .i64 (64 - e0S x))):=by
 refine Ret.iff (Ret.of F218 rfl ?_)
 have hl:=e0U h0 (k:=64) (by omega)
 have hl0:0<=e0S x:=by unfold e0S;split <;> omega
 have w:IntKind.i64.wrap (64 - e0S x)=64 - e0S x:=IntWalk.i64_in _ (by omega)
 simp only[d0J]
 simp only[wA,seval,e0Z h0 h1,w]
theorem e3E (u un yn1 yn0 y:Int) (hy:y=yn1 * 4294967296+yn0) (h1:2147483648<=yn1) (h2:yn1<=4294967295) (h3:0<=yn0) (h4:yn0<=4294967295) (h5:0<=un) (h6:un<=4294967295) (h7:0<=u) (h8:u < y) (sg:Sg) (ow:Ow) (Q:Ex->S->Prop)
  (v2 v8 v11 v14:PV):∀ (n:Nat) (q r:Int) (fr:List PV),q.toNat=n->0<=q->q<=8589934592->0<=r->r<=4294967295->q * yn1+r=u->u * 4294967296+un < q * y+y ->
  b6S fr [(2,v2),(8,v8),(11,v11),(14,v14),(9,.t (.int .u64 yn1)),(10,.t (.int .u64 yn0)),(13,.t (.int .u64 un)),(15,.t (.int .u64 q)),(16,.t (.int .u64 r))] ->
  (∀ q' fr',0<=q'->q'<=4294967295->q' * y<=u * 4294967296+un->u * 4294967296+un < q' * y+y->b6S fr' [(2,v2),(8,v8),(11,v11),(14,v14),(9,.t (.int .u64 yn1)),(10,.t (.int .u64 yn0)),(13,.t (.int .u64 un)),(15,.t (.int .u64 q'))]->Q (.exit 0) ⟨fr',sg,ow⟩) ->
  Xl F gl d0G ⟨fr,sg,ow⟩ Q ⟨⟩:=by
 intro n
 induction n with
 |zero =>
  intro q r fr hn q0 q1 r0 r1 he hlt hf hQ
  simp only[b6U,b6T] at hf
  obtain⟨f2,f8,f11,f14,f9,f10,f13,f15,f16,-⟩:=hf
  obtain rfl:q=0:=by omega
  have c1:¬((4294967296:Int)<=0):=by decide
  have w1:IntKind.u64.wrap (4294967296 * r)=4294967296 * r:=IntWalk.u64_in _ (by omega)
  have w2:IntKind.u64.wrap (4294967296 * r+un)=4294967296 * r+un:=IntWalk.u64_in _ (by omega)
  have w3:IntKind.u64.wrap 0=0:=by decide
  have c2:¬(4294967296 * r+un < 0):=by omega
  refine Xl.step ?_
  simp only[d0G]
  simp only[wA,seval,f2,f8,f11,f14,f9,f10,f13,f15,f16,c1,Int.zero_mul,w1,w2,w3,c2]
  refine hQ 0 _ (by omega) (by omega) (by omega) (by omega) ?_
  simp only[wQ,seval,f2,f8,f11,f14,f9,f10,f13,f15]
 |succ n ih =>
  intro q r fr hn q0 q1 r0 r1 he hlt hf hQ
  simp only[b6U,b6T] at hf
  obtain⟨f2,f8,f11,f14,f9,f10,f13,f15,f16,-⟩:=hf
  have w1:IntKind.u64.wrap (4294967296 * r)=4294967296 * r:=IntWalk.u64_in _ (by omega)
  have w2:IntKind.u64.wrap (4294967296 * r+un)=4294967296 * r+un:=IntWalk.u64_in _ (by omega)
  have w3:IntKind.u64.wrap (q - 1)=q - 1:=IntWalk.u64_in _ (by omega)
  have w4:IntKind.u64.wrap (r+yn1)=r+yn1:=IntWalk.u64_in _ (by omega)
  have ey:(q - 1) * y+y=q * y:=by rw[Int.sub_mul,Int.one_mul];omega
  have en:(q - 1) * yn1=q * yn1 - yn1:=by rw[Int.sub_mul,Int.one_mul]
  have hdec:u * 4294967296+un < q * y->(¬(4294967296<=q)->0<=q * yn0/\q * yn0<=18446744073709551615)->(4294967296<=r+yn1->(q - 1)<=4294967295/\(q - 1) * y<=u * 4294967296+un):=by
   intro hd _ hr
   have hq1:q - 1<=4294967295:=by
    rcases Int.lt_or_le (q - 1) 4294967296 with h|h
    ·omega
    ·exfalso
     have h9:4294967296 * yn1<=(q - 1) * yn1:=Int.mul_le_mul_of_nonneg_right h (by omega)
     omega
   refine⟨hq1,?_⟩
   have h9:(q - 1) * yn0<=4294967295 * 4294967295:=Int.mul_le_mul hq1 h4 h3 (by decide)
   have:=e0M (u:=u) (un:=un) (yn1:=yn1) (yn0:=yn0) (q:=q - 1) (r:=r+yn1) (by omega) (by omega)
   rw[<-hy] at this
   exact this
  have hmul:¬(4294967296<=q)->0<=q * yn0/\q * yn0<=18446744073709551615:=by
   intro hb
   have:=Int.mul_nonneg q0 h3
   have h9:q * yn0<=4294967295 * 4294967295:=Int.mul_le_mul (by omega) h4 h3 (by decide)
   omega
  refine Xl.step ?_
  simp only[d0G]
  by_cases hb:4294967296<=q
  ·have hd:u * 4294967296+un < q * y:=e0O (by omega) h8 (by omega) hb
   simp only[wA,seval,f2,f8,f11,f14,f9,f10,f13,f15,f16,hb,w3,w4]
   repeat' ((with_reducible first|refine c0S ?_ ?_|refine c0T ?_ ?_|refine c0R ?_ ?_|refine c0Q ?_ ?_|refine c0O ?_ ?_|refine c0P ?_ ?_|refine c0N ?_ ?_|refine c0M ?_ ?_) <;> intro h <;> (try simp only[wA,seval,f2,f8,f11,f14,f9,f10,f13,f15,f16,hb,w3,w4,h]))
   ·obtain⟨k1,k2⟩:=hdec hd hmul h
    refine hQ (q - 1) _ (by omega) k1 k2 (by omega) ?_
    simp only[wQ,seval,f2,f8,f11,f14,f9,f10,f13]
   ·exact ih (q - 1) (r+yn1) _ (by omega) (by omega) (by omega) (by omega) (by omega) (by omega) (by omega) (by simp only[wQ,seval,f2,f8,f11,f14,f9,f10,f13]) hQ
  ·obtain⟨m1,m2⟩:=hmul hb
   have w5:IntKind.u64.wrap (q * yn0)=q * yn0:=IntWalk.u64_in _ ⟨m1,m2⟩
   by_cases hc:4294967296 * r+un < q * yn0
   ·have hd:u * 4294967296+un < q * y:=by rw[hy];exact e0N he hc
    simp only[wA,seval,f2,f8,f11,f14,f9,f10,f13,f15,f16,hb,w1,w2,w3,w4,w5,hc]
    repeat' ((with_reducible first|refine c0S ?_ ?_|refine c0T ?_ ?_|refine c0R ?_ ?_|refine c0Q ?_ ?_|refine c0O ?_ ?_|refine c0P ?_ ?_|refine c0N ?_ ?_|refine c0M ?_ ?_) <;> intro h <;> (try simp only[wA,seval,f2,f8,f11,f14,f9,f10,f13,f15,f16,hb,w1,w2,w3,w4,w5,hc,h]))
    ·obtain⟨k1,k2⟩:=hdec hd hmul h
     refine hQ (q - 1) _ (by omega) k1 k2 (by omega) ?_
     simp only[wQ,seval,f2,f8,f11,f14,f9,f10,f13]
    ·exact ih (q - 1) (r+yn1) _ (by omega) (by omega) (by omega) (by omega) (by omega) (by omega) (by omega) (by simp only[wQ,seval,f2,f8,f11,f14,f9,f10,f13]) hQ
   ·simp only[wA,seval,f2,f8,f11,f14,f9,f10,f13,f15,f16,hb,w1,w2,w5,hc]
    have:=e0M (un:=un) (yn0:=yn0) he (by omega)
    rw[<-hy] at this
    refine hQ q _ q0 (by omega) this hlt ?_
    simp only[wQ,seval,f2,f8,f11,f14,f9,f10,f13,f15]
theorem e3F (u un yn1 yn0 y:Int) (hy:y=yn1 * 4294967296+yn0) (h1:2147483648<=yn1) (h2:yn1<=4294967295) (h3:0<=yn0) (h4:yn0<=4294967295) (h5:0<=un) (h6:un<=4294967295) (h7:0<=u) (h8:u < y) (sg:Sg) (ow:Ow) (Q:Ex->S->Prop)
  (v2 v8 v15 v17:PV):∀ (n:Nat) (q r:Int) (fr:List PV),q.toNat=n->0<=q->q<=8589934592->0<=r->r<=4294967295->q * yn1+r=u->u * 4294967296+un < q * y+y ->
  b6S fr [(2,v2),(8,v8),(15,v15),(17,v17),(9,.t (.int .u64 yn1)),(10,.t (.int .u64 yn0)),(14,.t (.int .u64 un)),(18,.t (.int .u64 q)),(16,.t (.int .u64 r))] ->
  (∀ q' fr',0<=q'->q'<=4294967295->q' * y<=u * 4294967296+un->u * 4294967296+un < q' * y+y->b6S fr' [(2,v2),(8,v8),(15,v15),(17,v17),(9,.t (.int .u64 yn1)),(10,.t (.int .u64 yn0)),(14,.t (.int .u64 un)),(18,.t (.int .u64 q'))]->Q (.exit 2) ⟨fr',sg,ow⟩) ->
  Xl F gl d0F ⟨fr,sg,ow⟩ Q ⟨⟩:=by
 intro n
 induction n with
 |zero =>
  intro q r fr hn q0 q1 r0 r1 he hlt hf hQ
  simp only[b6U,b6T] at hf
  obtain⟨f2,f8,f15,f17,f9,f10,f14,f18,f16,-⟩:=hf
  obtain rfl:q=0:=by omega
  have c1:¬((4294967296:Int)<=0):=by decide
  have w1:IntKind.u64.wrap (4294967296 * r)=4294967296 * r:=IntWalk.u64_in _ (by omega)
  have w2:IntKind.u64.wrap (4294967296 * r+un)=4294967296 * r+un:=IntWalk.u64_in _ (by omega)
  have w3:IntKind.u64.wrap 0=0:=by decide
  have c2:¬(4294967296 * r+un < 0):=by omega
  refine Xl.step ?_
  simp only[d0F]
  simp only[wA,seval,f2,f8,f15,f17,f9,f10,f14,f18,f16,c1,Int.zero_mul,w1,w2,w3,c2]
  refine hQ 0 _ (by omega) (by omega) (by omega) (by omega) ?_
  simp only[wQ,seval,f2,f8,f15,f17,f9,f10,f14,f18]
 |succ n ih =>
  intro q r fr hn q0 q1 r0 r1 he hlt hf hQ
  simp only[b6U,b6T] at hf
  obtain⟨f2,f8,f15,f17,f9,f10,f14,f18,f16,-⟩:=hf
  have w1:IntKind.u64.wrap (4294967296 * r)=4294967296 * r:=IntWalk.u64_in _ (by omega)
  have w2:IntKind.u64.wrap (4294967296 * r+un)=4294967296 * r+un:=IntWalk.u64_in _ (by omega)
  have w3:IntKind.u64.wrap (q - 1)=q - 1:=IntWalk.u64_in _ (by omega)
  have w4:IntKind.u64.wrap (r+yn1)=r+yn1:=IntWalk.u64_in _ (by omega)
  have ey:(q - 1) * y+y=q * y:=by rw[Int.sub_mul,Int.one_mul];omega
  have en:(q - 1) * yn1=q * yn1 - yn1:=by rw[Int.sub_mul,Int.one_mul]
  have hdec:u * 4294967296+un < q * y->(¬(4294967296<=q)->0<=q * yn0/\q * yn0<=18446744073709551615)->(4294967296<=r+yn1->(q - 1)<=4294967295/\(q - 1) * y<=u * 4294967296+un):=by
   intro hd _ hr
   have hq1:q - 1<=4294967295:=by
    rcases Int.lt_or_le (q - 1) 4294967296 with h|h
    ·omega
    ·exfalso
     have h9:4294967296 * yn1<=(q - 1) * yn1:=Int.mul_le_mul_of_nonneg_right h (by omega)
     omega
   refine⟨hq1,?_⟩
   have h9:(q - 1) * yn0<=4294967295 * 4294967295:=Int.mul_le_mul hq1 h4 h3 (by decide)
   have:=e0M (u:=u) (un:=un) (yn1:=yn1) (yn0:=yn0) (q:=q - 1) (r:=r+yn1) (by omega) (by omega)
   rw[<-hy] at this
   exact this
  have hmul:¬(4294967296<=q)->0<=q * yn0/\q * yn0<=18446744073709551615:=by
   intro hb
   have:=Int.mul_nonneg q0 h3
   have h9:q * yn0<=4294967295 * 4294967295:=Int.mul_le_mul (by omega) h4 h3 (by decide)
   omega
  refine Xl.step ?_
  simp only[d0F]
  by_cases hb:4294967296<=q
  ·have hd:u * 4294967296+un < q * y:=e0O (by omega) h8 (by omega) hb
   simp only[wA,seval,f2,f8,f15,f17,f9,f10,f14,f18,f16,hb,w3,w4]
   repeat' ((with_reducible first|refine c0S ?_ ?_|refine c0T ?_ ?_|refine c0R ?_ ?_|refine c0Q ?_ ?_|refine c0O ?_ ?_|refine c0P ?_ ?_|refine c0N ?_ ?_|refine c0M ?_ ?_) <;> intro h <;> (try simp only[wA,seval,f2,f8,f15,f17,f9,f10,f14,f18,f16,hb,w3,w4,h]))
   ·obtain⟨k1,k2⟩:=hdec hd hmul h
    refine hQ (q - 1) _ (by omega) k1 k2 (by omega) ?_
    simp only[wQ,seval,f2,f8,f15,f17,f9,f10,f14]
   ·exact ih (q - 1) (r+yn1) _ (by omega) (by omega) (by omega) (by omega) (by omega) (by omega) (by omega) (by simp only[wQ,seval,f2,f8,f15,f17,f9,f10,f14]) hQ
  ·obtain⟨m1,m2⟩:=hmul hb
   have w5:IntKind.u64.wrap (q * yn0)=q * yn0:=IntWalk.u64_in _ ⟨m1,m2⟩
   by_cases hc:4294967296 * r+un < q * yn0
   ·have hd:u * 4294967296+un < q * y:=by rw[hy];exact e0N he hc
    simp only[wA,seval,f2,f8,f15,f17,f9,f10,f14,f18,f16,hb,w1,w2,w3,w4,w5,hc]
    repeat' ((with_reducible first|refine c0S ?_ ?_|refine c0T ?_ ?_|refine c0R ?_ ?_|refine c0Q ?_ ?_|refine c0O ?_ ?_|refine c0P ?_ ?_|refine c0N ?_ ?_|refine c0M ?_ ?_) <;> intro h <;> (try simp only[wA,seval,f2,f8,f15,f17,f9,f10,f14,f18,f16,hb,w1,w2,w3,w4,w5,hc,h]))
    ·obtain⟨k1,k2⟩:=hdec hd hmul h
     refine hQ (q - 1) _ (by omega) k1 k2 (by omega) ?_
     simp only[wQ,seval,f2,f8,f15,f17,f9,f10,f14]
    ·exact ih (q - 1) (r+yn1) _ (by omega) (by omega) (by omega) (by omega) (by omega) (by omega) (by omega) (by simp only[wQ,seval,f2,f8,f15,f17,f9,f10,f14]) hQ
   ·simp only[wA,seval,f2,f8,f15,f17,f9,f10,f14,f18,f16,hb,w1,w2,w5,hc]
    have:=e0M (un:=un) (yn0:=yn0) he (by omega)
    rw[<-hy] at this
    refine hQ q _ q0 (by omega) this hlt ?_
    simp only[wQ,seval,f2,f8,f15,f17,f9,f10,f14,f18]
theorem e3G {hi lo y:Int} (h0:0<=hi) (h1:hi < y) (l0:0<=lo) (l1:lo<=18446744073709551615) (y1:y<=18446744073709551615) {K:PV->Prop} :
  XcP F gl 214 [.int .u64 hi,.int .u64 lo,.int .u64 y] K ⟨⟩↔K (.tup [.t (.int .u64 ((hi * 18446744073709551616+lo) / y)),.t (.int .u64 ((hi * 18446744073709551616+lo) % y))]):=by
 refine Ret.iff (Ret.of F214 rfl ?_)
 have c1:¬(y=0):=by omega
 have c2:¬(y<=hi):=by omega
 simp only[d0H]
 by_cases hz:hi=0
 ·subst hz
  have t1:lo.tdiv y=lo / y:=Int.tdiv_eq_ediv_of_nonneg l0
  have t2:lo.tmod y=lo % y:=Int.tmod_eq_emod_of_nonneg l0
  have hd:lo / y<=lo:=Int.ediv_le_self y l0
  have hd0:0<=lo / y:=Int.ediv_nonneg l0 (by omega)
  have t3:IntKind.u64.wrap (lo / y)=lo / y:=IntWalk.u64_in _ (by omega)
  simp only[wA,seval,c1,c2,t1,t2,t3,Int.zero_mul,Int.zero_add]
 ·have hypos:0 < y:=by omega
  obtain⟨s1,s2,s3⟩:=e0T hypos
  have hl:=e0U (x:=y) (by omega) (k:=64) (by omega)
  obtain⟨S,hS⟩:∃ S:Nat,64 - e0S y=(S:Int):=⟨(64 - e0S y).toNat,by omega⟩
  have a78:=@e3D gl y (by omega) y1
  rw[hS] at a78
  have hle:S<=64:=by omega
  have hle2:64 - S<=64:=by omega
  have wS:IntKind.u64.wrap (S:Int)=(S:Int):=IntWalk.u64_in _ (by omega)
  have wS2:IntKind.u64.wrap (64 - (S:Int))=((64 - S:Nat):Int):=by rw[IntWalk.u64_in _ (by omega)];omega
  have yb:9223372036854775808<=y * 2 ^ S/\y * 2 ^ S<=18446744073709551615:=by
   have hp:(0:Int) < 2 ^ S:=Int.pow_pos (by decide)
   have e1:(2:Int) ^ (e0S y - 1).toNat * 2 ^ S=9223372036854775808:=by
    rw[<-Int.pow_add]
    have:(e0S y - 1).toNat+S=63:=by omega
    rw[this];decide
   have e2:(2:Int) ^ (e0S y).toNat * 2 ^ S=18446744073709551616:=by
    rw[<-Int.pow_add]
    have:(e0S y).toNat+S=64:=by omega
    rw[this];decide
   have b1:=Int.mul_le_mul_of_nonneg_right s1 (Int.le_of_lt hp)
   have b2:=Int.mul_lt_mul_of_pos_right s2 hp
   omega
  obtain⟨yb0,yb1⟩:=yb
  obtain⟨k1,k2,k3,k4,k5,k6⟩:=e0P h0 h1 l0 l1 hle yb0 yb1
  have wY:IntKind.u64.wrap (y * 2 ^ S)=y * 2 ^ S:=IntWalk.u64_in _ (by omega)
  have wH:IntKind.u64.wrap (hi * 2 ^ S)=hi * 2 ^ S:=IntWalk.u64_in _ (by omega)
  have wL:IntKind.u64.wrap (lo * 2 ^ S)=lo * 2 ^ S % 18446744073709551616:=e0H _
  have wZ:lo.fdiv (2 ^ (64 - S))=lo / 2 ^ (64 - S):=Int.fdiv_eq_ediv_of_nonneg _ (Int.le_of_lt (Int.pow_pos (by decide)))
  have wO:=e0K (a:=hi) (b:=lo / 2 ^ (64 - S)) (s:=S) h0 k3 k4 (by omega)
  have hend:=@e0Q hi lo y (hi * 2 ^ S+lo / 2 ^ (64 - S)) (lo * 2 ^ S % 18446744073709551616)
  generalize hYe:y * 2 ^ S=Y at *
  generalize hLe:lo * 2 ^ S % 18446744073709551616=L at *
  generalize hUe:hi * 2 ^ S+lo / 2 ^ (64 - S)=U at *
  have hL1:L<=18446744073709551615:=by omega
  have m1:=e0J (x:=Y) (by omega) (by omega)
  have m2:=e0J (x:=L) (by omega) (by omega)
  have hU0:0<=U:=by omega
  obtain⟨d1,d2,d3,d4,d5,d6⟩:=e0R (u:=U) (un:=L / 4294967296) (yn1:=Y / 4294967296) (yn0:=Y % 4294967296) (by omega) (by omega) (by omega) hU0 (by omega)
  have hYs:Y=Y / 4294967296 * 4294967296+Y % 4294967296:=by omega
  rw[<-hYs] at d6
  have n1:¬(Y / 4294967296=0):=by omega
  have t1:U.tdiv (Y / 4294967296)=U / (Y / 4294967296):=Int.tdiv_eq_ediv_of_nonneg hU0
  have t2:IntKind.u64.wrap (U / (Y / 4294967296))=U / (Y / 4294967296):=IntWalk.u64_in _ (by omega)
  have t3:IntKind.u64.wrap (U - IntKind.u64.wrap (U / (Y / 4294967296) * (Y / 4294967296)))=U % (Y / 4294967296):=by
   have hm0:0<=U / (Y / 4294967296) * (Y / 4294967296):=Int.mul_nonneg d1 (by omega)
   rw[IntWalk.u64_in (U / (Y / 4294967296) * (Y / 4294967296)) (by omega),IntWalk.u64_in _ (by omega)];omega
  simp only[wA,seval,c1,c2,hz,a78,wS,wS2,hle,hle2,hYe,wY,wH,wL,wZ,wO,hUe,m1,m2,n1,t1,t2,t3,IntKind.bits,Nat.min_def,Int.reducePow,Int.fdiv_eq_ediv_of_nonneg,Int.reduceLE]
  refine e3E U (L / 4294967296) (Y / 4294967296) (Y % 4294967296) Y hYs (by omega) (by omega) (by omega) (by omega) (by omega) (by omega) hU0 (by omega) _ _ _ (.t (.int .u64 Y)) (.t (.int .u64 S)) (.t (.int .u64 U)) (.t (.int .u64 (L % 4294967296)))
   _ (U / (Y / 4294967296)) (U % (Y / 4294967296)) _ rfl d1 d2 d3 (by omega) d5 d6 ?_ ?_
  ·simp only[wQ,seval]
  intro q1 fr qa qb qc qd hf
  simp only[b6U,b6T] at hf
  obtain⟨f2,f8,f11,f14,f9,f10,f13,f15,-⟩:=hf
  have u2:IntKind.u64.wrap (IntKind.u64.wrap (IntKind.u64.wrap (U * 4294967296)+L / 4294967296) - IntKind.u64.wrap (q1 * Y))=U * 4294967296+L / 4294967296 - q1 * Y:=by
   simp only[e0H];omega
  obtain⟨e1,e2,e3,e4,e5,e6⟩:=e0R (u:=U * 4294967296+L / 4294967296 - q1 * Y) (un:=L % 4294967296) (yn1:=Y / 4294967296) (yn0:=Y % 4294967296) (by omega) (by omega) (by omega) (by omega) (by omega)
  rw[<-hYs] at e6
  have hV0:0<=U * 4294967296+L / 4294967296 - q1 * Y:=by omega
  have hV1:U * 4294967296+L / 4294967296 - q1 * Y < Y:=by omega
  have hh1:U * 4294967296+L / 4294967296=q1 * Y+(U * 4294967296+L / 4294967296 - q1 * Y):=by omega
  generalize U * 4294967296+L / 4294967296 - q1 * Y=V at *
  have t4:V.tdiv (Y / 4294967296)=V / (Y / 4294967296):=Int.tdiv_eq_ediv_of_nonneg hV0
  have t5:IntKind.u64.wrap (V / (Y / 4294967296))=V / (Y / 4294967296):=IntWalk.u64_in _ (by omega)
  have t6:IntKind.u64.wrap (V - IntKind.u64.wrap (V / (Y / 4294967296) * (Y / 4294967296)))=V % (Y / 4294967296):=by
   have hm0:0<=V / (Y / 4294967296) * (Y / 4294967296):=Int.mul_nonneg e1 (by omega)
   rw[IntWalk.u64_in (V / (Y / 4294967296) * (Y / 4294967296)) (by omega),IntWalk.u64_in _ (by omega)];omega
  simp only[wA,seval,f2,f8,f9,f10,f11,f13,f14,f15,u2,n1,t4,t5,t6]
  refine e3F V (L % 4294967296) (Y / 4294967296) (Y % 4294967296) Y hYs (by omega) (by omega) (by omega) (by omega) (by omega) (by omega) hV0 hV1 _ _ _ (.t (.int .u64 Y)) (.t (.int .u64 S)) (.t (.int .u64 q1)) (.t (.int .u64 V))
   _ (V / (Y / 4294967296)) (V % (Y / 4294967296)) _ rfl e1 e2 e3 (by omega) e5 e6 ?_ ?_
  ·simp only[wQ,seval,f2,f8,f9,f10,f14,f15]
  intro q0 fr ra rb rc rd hf
  simp only[b6U,b6T] at hf
  obtain⟨g2,g8,g15,g17,g9,g10,g14,g18,-⟩:=hf
  obtain⟨z1,z2⟩:=@hend q1 V q0 (V * 4294967296+L % 4294967296 - q0 * Y) S hypos k6 (by rw[hYe];exact hh1) (by rw[hYe];omega) (by omega) (by rw[hYe];omega)
  have v1:IntKind.u64.wrap (IntKind.u64.wrap (IntKind.u64.wrap (V * 4294967296)+L % 4294967296) - IntKind.u64.wrap (q0 * Y))=V * 4294967296+L % 4294967296 - q0 * Y:=by
   simp only[e0H];omega
  have v2:(V * 4294967296+L % 4294967296 - q0 * Y).fdiv (2 ^ S)=(V * 4294967296+L % 4294967296 - q0 * Y) / 2 ^ S:=Int.fdiv_eq_ediv_of_nonneg _ (Int.le_of_lt (Int.pow_pos (by decide)))
  have v3:IntKind.u64.wrap (IntKind.u64.wrap (q1 * 4294967296)+q0)=q1 * 4294967296+q0:=by
   simp only[e0H];omega
  simp only[wA,seval,g2,g8,g9,g10,g14,g15,g17,g18,v1,v2,v3,hle,IntKind.bits,Nat.min_def,z1,z2]
  repeat' ((with_reducible first|refine c0S ?_ ?_|refine c0T ?_ ?_|refine c0R ?_ ?_|refine c0Q ?_ ?_|refine c0O ?_ ?_|refine c0P ?_ ?_|refine c0N ?_ ?_|refine c0M ?_ ?_) <;> intro h <;> (try simp only[wA,seval,g2,g8,g9,g10,g14,g15,g17,g18,v1,v2,v3,hle,IntKind.bits,Nat.min_def,z1,z2,h]))
theorem e3H {p:Int} (h:e2X p=true):17<=p/\p<=18446744069414584321:=by
 unfold e2X at h
 have:=g7P h
 omega
def e3I (p a b:Int):Int:=if e2X p=true then (a+b) % p else 0
def e3J (p a b:Int):Int:=if e2X p=true then a * b % p else 0
theorem e3K {p n:Int} (hp:0 < p) (hn:0<=n) {K:PV->Prop}:XcP F gl 197 [.agg [.int .u64 p],.int .u64 n] K ⟨⟩↔K (.t (.int .u64 (n % p))):=by
 refine Ret.iff (Ret.of F197 rfl ?_)
 have c:¬(p=0):=by omega
 have t:n.tmod p=n % p:=Int.tmod_eq_emod_of_nonneg hn
 simp only[c9M]
 simp only[wA,seval,c,t]
 repeat' ((with_reducible first|refine c0S ?_ ?_|refine c0T ?_ ?_|refine c0R ?_ ?_|refine c0Q ?_ ?_|refine c0O ?_ ?_|refine c0P ?_ ?_|refine c0N ?_ ?_|refine c0M ?_ ?_) <;> intro h <;> (try simp only[wA,seval,c,t,h]))
 rw[Int.emod_eq_of_lt hn (by omega)]
theorem e3L {p a b:Int} (hp:p<=18446744073709551615) (ha:0<=a) (ha1:a < p) (hb:0<=b) (hb1:b < p) {K:PV->Prop}:XcP F gl 200 [.agg [.int .u64 p],.int .u64 a,.int .u64 b] K ⟨⟩↔K (.t (.int .u64 ((a+b) % p))):=by
 refine Ret.iff (Ret.of F200 rfl ?_)
 have h01:(0:Int)<=1:=by decide
 simp only[c9O]
 have hm:(a+b) % p=if a+b < p then a+b else a+b - p:=by
  split
  ·exact Int.emod_eq_of_lt (by omega) (by assumption)
  ·rw[<-Int.sub_emod_right,Int.emod_eq_of_lt (by omega) (by omega)]
 simp only[wA,seval,a0O,ha,hb,h01,Int.add_zero,e0H]
 repeat' ((with_reducible first|refine c0S ?_ ?_|refine c0T ?_ ?_|refine c0R ?_ ?_|refine c0Q ?_ ?_|refine c0O ?_ ?_|refine c0P ?_ ?_|refine c0N ?_ ?_|refine c0M ?_ ?_) <;> intro h <;> (try simp only[wA,seval,a0O,ha,hb,h01,Int.add_zero,e0H,h]))
 all_goals rw[hm]
 all_goals split
 all_goals first|(exfalso;omega)|(congr 2;omega)
theorem e3M {p a b:Int} (ha:0<=a) (ha1:a < p) (hb:0<=b) (hb1:b < p):0<=a * b/\a * b < p * p:=by
 refine⟨Int.mul_nonneg ha hb,?_⟩
 have h1:a * b<=(p - 1) * p:=Int.mul_le_mul (by omega) (by omega) hb (by omega)
 rw[Int.sub_mul,Int.one_mul] at h1
 omega
theorem e3N {p a b:Int} (hp:p<=18446744073709551615) (ha:0<=a) (ha1:a < p) (hb:0<=b) (hb1:b < p) {K:PV->Prop}:XcP F gl 199 [.agg [.int .u64 p],.int .u64 a,.int .u64 b] K ⟨⟩↔K (.t (.int .u64 (a * b % p))):=by
 refine Ret.iff (Ret.of F199 rfl ?_)
 obtain⟨m0,m1⟩:=e3M ha ha1 hb hb1
 have m2:p * p<=p * 18446744073709551616:=Int.mul_le_mul_of_nonneg_left (by omega) (by omega)
 have hhi:a * b / 18446744073709551616 < p:=Int.ediv_lt_of_lt_mul (by decide) (by omega)
 have a62:=@e3C gl a b ha (by omega) hb (by omega)
 have a63:=@e3G gl (a * b / 18446744073709551616) (a * b % 18446744073709551616) p (by omega) hhi (by omega) (by omega) hp
 have e:a * b / 18446744073709551616 * 18446744073709551616+a * b % 18446744073709551616=a * b:=by omega
 rw[e] at a63
 simp only[c9N]
 simp only[wA,seval,a62,a63]
theorem e3O {p a b:Int} (ha:0<=a) (hb:0<=b) {K:PV->Prop}:XcP F gl 162 [.agg [.int .u64 p],.int .u64 a,.int .u64 b] K ⟨⟩↔K (.t (.int .u64 (e3I p a b))):=by
 refine Ret.iff (Ret.of F162 rfl ?_)
 simp only[c7T]
 cases hk:e2X p with
 |false =>
  simp only[wA,seval,e2Z,hk]
  simp [e3I,hk]
 |true =>
  obtain⟨b1,b2⟩:=e3H hk
  have a1:=@e3K gl p a (by omega) ha
  have a2:=@e3K gl p b (by omega) hb
  have a3:=@e3L gl p (a % p) (b % p) (by omega) (Int.emod_nonneg _ (by omega)) (Int.emod_lt_of_pos _ (by omega)) (Int.emod_nonneg _ (by omega)) (Int.emod_lt_of_pos _ (by omega))
  simp only[wA,seval,e2Z,hk,a1,a2,a3]
  simp [e3I,hk,Int.add_emod]
theorem e3P {p a b:Int} (ha:0<=a) (hb:0<=b) {K:PV->Prop}:XcP F gl 161 [.agg [.int .u64 p],.int .u64 a,.int .u64 b] K ⟨⟩↔K (.t (.int .u64 (e3J p a b))):=by
 refine Ret.iff (Ret.of F161 rfl ?_)
 simp only[c7S]
 cases hk:e2X p with
 |false =>
  simp only[wA,seval,e2Z,hk]
  simp [e3J,hk]
 |true =>
  obtain⟨b1,b2⟩:=e3H hk
  have a1:=@e3K gl p a (by omega) ha
  have a2:=@e3K gl p b (by omega) hb
  have a3:=@e3N gl p (a % p) (b % p) (by omega) (Int.emod_nonneg _ (by omega)) (Int.emod_lt_of_pos _ (by omega)) (Int.emod_nonneg _ (by omega)) (Int.emod_lt_of_pos _ (by omega))
  simp only[wA,seval,e2Z,hk,a1,a2,a3]
  simp [e3J,hk,Int.mul_emod]
theorem e3Q {p a b:Int} (ha:0<=a) (hb:0<=b):0<=e3I p a b:=by
 unfold e3I
 split
 ·rename_i h
  have:=e3H h
  exact Int.emod_nonneg _ (by omega)
 ·exact Int.le_refl _
theorem e3R {p a b:Int} (ha:0<=a) (hb:0<=b):0<=e3J p a b:=by
 unfold e3J
 split
 ·rename_i h
  have:=e3H h
  exact Int.emod_nonneg _ (by omega)
 ·exact Int.le_refl _
end Go.Proofs.YtdjcnfacjfnakaaGreat

/- Contracts: powers, the permutation. -/
namespace Go.Proofs.YtdjcnfacjfnakaaGreat
open Go.Pi Go.Lib
variable {gl:Nat->Option (List T)}
theorem e3S (p:Int) {K:PV->Prop}:XcP F gl 201 [.agg [.int .u64 p]] K ⟨⟩↔K (.tup [.t (.int .u64 (e3A p).1),.t (.int .i64 (e3A p).2.1),.t (.int .u64 (e3A p).2.2)]):=by
 refine Ret.iff (Ret.of F201 rfl ?_)
 simp only[c9P]
 simp only[wA,seval]
 repeat' ((with_reducible first|refine c0S ?_ ?_|refine c0T ?_ ?_|refine c0R ?_ ?_|refine c0Q ?_ ?_|refine c0O ?_ ?_|refine c0P ?_ ?_|refine c0N ?_ ?_|refine c0M ?_ ?_) <;> intro h <;> (try simp only[wA,seval,h]))
 all_goals simp_all [e3A]
theorem e3T (p:Int) {K:PV->Prop}:XcP F gl 165 [.agg [.int .u64 p]] K ⟨⟩↔K (.t (.int .u64 (e3A p).2.2)):=by
 refine Ret.iff (Ret.of F165 rfl ?_)
 simp only[c7W]
 simp only[wA,seval,e3S]
def pwl (p:Int):Nat->Int->Int->Int->Int
 |0,r,_,_=>r
 |n+1,r,a,e=>if e<=0 then r else pwl p n (if e % 2=1 then r * a % p else r) (a * a % p) (e / 2)
theorem e3U {p x:Int} (hp:0 < p):0<=x % p/\x % p < p:=⟨Int.emod_nonneg _ (by omega),Int.emod_lt_of_pos _ hp⟩
def e3V (p a e:Int):Int:=if e2X p=true then pwl p 64 1 (a % p) e else 0
def rc (p r i:Int):Int:=(3 * r+i+1) * 11400714819323198485 % 18446744073709551616 % p
theorem e3W {p n:Int} (hk:e2X p=true) (hn:0<=n) {K:PV->Prop}:XcP F gl 157 [.agg [.int .u64 p],.int .u64 n] K ⟨⟩↔K (.t (.int .u64 (n % p))):=by
 obtain⟨b1,b2⟩:=e3H hk
 have a1:=@e3K gl p n (by omega) hn
 refine Ret.iff (Ret.of F157 rfl ?_)
 simp only[c7Q]
 simp only[wA,seval,e2Z,hk,a1]
theorem e3X {p r i:Int} (hk:e2X p=true) (r0:0<=r) (r1:r < 8) (i0:0<=i) (i1:i<=2) {K:PV->Prop}:XcP F gl 211 [.int .u64 p,.int .i64 r,.int .i64 i] K ⟨⟩↔K (.t (.int .u64 (rc p r i))):=by
 have a:=@e3W gl p ((3 * r+i+1) * 11400714819323198485 % 18446744073709551616) hk (by omega)
 have c1:¬(r < 0):=by omega
 have c2:¬(8<=r):=by omega
 have c3:¬(i < 0):=by omega
 have c4:¬(2 < i):=by omega
 have w1:IntKind.i64.wrap (3 * r)=3 * r:=IntWalk.i64_in _ (by omega)
 have w2:IntKind.i64.wrap (3 * r+i)=3 * r+i:=IntWalk.i64_in _ (by omega)
 have w3:IntKind.i64.wrap (3 * r+i+1)=3 * r+i+1:=IntWalk.i64_in _ (by omega)
 have w4:IntKind.u64.wrap (3 * r+i+1)=3 * r+i+1:=IntWalk.u64_in _ (by omega)
 have w5:IntKind.u64.wrap ((3 * r+i+1) * 11400714819323198485)=(3 * r+i+1) * 11400714819323198485 % 18446744073709551616:=e0H _
 refine Ret.iff (Ret.of F211 rfl ?_)
 simp only[d0D]
 simp only[wA,seval,c1,c2,c3,c4,w1,w2,w3,w4,w5,a]
 simp only[rc]
abbrev Tri:=Int×Int×Int
def stC (s:Tri):List T:=[.int .u64 s.1,.int .u64 s.2.1,.int .u64 s.2.2]
def mix (p:Int) (s:Tri):Tri:=(e3I p s.1 (e3I p (e3I p s.1 s.2.1) s.2.2),e3I p s.2.1 (e3I p (e3I p s.1 s.2.1) s.2.2),e3I p s.2.2 (e3I p (e3I p s.1 s.2.1) s.2.2))
theorem e3Y {p r i:Int} (hp:0 < p):0<=rc p r i:=(e3U hp).1
def sub1 (p r:Int) (s:Tri):Tri:=(e3V p (e3I p s.1 (rc p r 0)) (e3A p).2.2,s.2.1,s.2.2)
def sub2 (p r:Int) (s:Tri):Tri:=(s.1,e3V p (e3I p s.2.1 (rc p r 1)) (e3A p).2.2,s.2.2)
def sub3 (p r:Int) (s:Tri):Tri:=(s.1,s.2.1,e3V p (e3I p s.2.2 (rc p r 2)) (e3A p).2.2)
def rnd (p r:Int) (s:Tri):Tri:=mix p (sub3 p r (sub2 p r (sub1 p r s)))
def perm (p:Int):Nat->Int->Tri->Tri
 |0,_,s=>s
 |n+1,r,s=>perm p n (r+1) (rnd p r s)
end Go.Proofs.YtdjcnfacjfnakaaGreat
