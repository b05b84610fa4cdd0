/- Contracts: the field. -/
import Derived.Test.YtdjcnfacjfnakaaGreatK19
import Derived.Test.YtdjcnfacjfnakaaGreatPi32
set_option maxRecDepth 10000
set_option linter.unusedVariables false
set_option linter.unusedSimpArgs false
namespace Go.Proofs.YtdjcnfacjfnakaaGreat
open Go.Pi Go.Lib
variable {gl:Nat→Option (List T)}
def known (p:Int):Bool:=decide (p=18446744069414584321∨p=17∨p=97∨p=193∨p=257∨p=12289∨p=65537)
theorem e5L (p:Int):Ky.fieldB p=known p:=by
 unfold Ky.fieldB known
 simp only[Bool.decide_or,Bool.or_assoc]
theorem e5M (p:Int) {K:PV→Prop}:XcP F gl 47 [.agg [.int .u64 p]] K ⟨⟩↔K (.t (.bool (known p))):=by
 rw[←e5L]
 exact ok47 p
def e5N (p:Int):Int×Int×Int:=if p=17 then (3,4,3) else if p=97 then (5,5,5) else if p=193 then (5,6,5) else if p=257 then (3,8,3) else if p=12289 then (11,12,5) else if p=65537 then (3,16,3) else if p=18446744069414584321 then (7,32,7) else (0,0,0)
theorem e5O {x y:Int} (hx0:0≤x) (hx:x≤18446744073709551615) (hy0:0≤y) (hy:y≤18446744073709551615) {K:PV→Prop} :
  XcP F gl 213 [.int .u64 x,.int .u64 y] K ⟨⟩↔K (.tup [.t (.int .u64 (x * y / 18446744073709551616)),.t (.int .u64 (x * y % 18446744073709551616))]):=by
 refine Ret.iff (Ret.of F213 rfl ?_)
 obtain⟨a1,a2,a3,a4,a5,a6,a7,a8,a9,a10,a11⟩:=e2Z hx0 hx hy0 hy
 have w1:=e2W hx0 hx
 have w2:=e2W hy0 hy
 have w3:IntKind.u64.wrap (x % 4294967296 * (y % 4294967296))=x % 4294967296 * (y % 4294967296):=IntWalk.u64_in _ ⟨a1,a2⟩
 have w4:IntKind.u64.wrap (x / 4294967296 * (y % 4294967296))=x / 4294967296 * (y % 4294967296):=IntWalk.u64_in _ (by omega)
 have w5:IntKind.u64.wrap (x / 4294967296 * (y % 4294967296)+x % 4294967296 * (y % 4294967296) / 4294967296)=x / 4294967296 * (y % 4294967296)+x % 4294967296 * (y % 4294967296) / 4294967296:=IntWalk.u64_in _ (by omega)
 have w6:=@e2W (x / 4294967296 * (y % 4294967296)+x % 4294967296 * (y % 4294967296) / 4294967296) (by omega) (by omega)
 have w7:IntKind.u64.wrap (x % 4294967296 * (y / 4294967296))=x % 4294967296 * (y / 4294967296):=IntWalk.u64_in _ (by omega)
 have w8:IntKind.u64.wrap ((x / 4294967296 * (y % 4294967296)+x % 4294967296 * (y % 4294967296) / 4294967296) % 4294967296+x % 4294967296 * (y / 4294967296))=(x / 4294967296 * (y % 4294967296)+x % 4294967296 * (y % 4294967296) / 4294967296) % 4294967296+x % 4294967296 * (y / 4294967296):=IntWalk.u64_in _ (by omega)
 have w9:IntKind.u64.wrap (x / 4294967296 * (y / 4294967296))=x / 4294967296 * (y / 4294967296):=IntWalk.u64_in _ (by omega)
 simp only[d1X]
 simp only[wA,seval,reduceCtorEq,reduceIte,w1,w2,w3,w4,w5,w6,w7,w8,w9,IntKind.bits,Nat.min_def,Int.reducePow,Int.fdiv_eq_ediv_of_nonneg,Int.reduceLE]
 have w10:IntKind.u64.wrap (x / 4294967296 * (y / 4294967296)+(x / 4294967296 * (y % 4294967296)+x % 4294967296 * (y % 4294967296) / 4294967296) / 4294967296)=x / 4294967296 * (y / 4294967296)+(x / 4294967296 * (y % 4294967296)+x % 4294967296 * (y % 4294967296) / 4294967296) / 4294967296:=IntWalk.u64_in _ (by omega)
 rw[w10,e2U (x * y),IntWalk.u64_in _ (by omega),a11]
theorem e5P {x:Int} (h0:0≤x) (h1:x≤18446744073709551615) {K:PV→Prop}:XcP F gl 218 [.int .u64 x] K ⟨⟩↔K (.t (.int .i64 (64 - e3G x))):=by
 refine Ret.iff (Ret.of F218 rfl ?_)
 have hl:=e3I h0 (k:=64) (by omega)
 have hl0:0≤e3G x:=by unfold e3G;split <;> omega
 have w:IntKind.i64.wrap (64 - e3G x)=64 - e3G x:=IntWalk.i64_in _ (by omega)
 simp only[d2D]
 simp only[wA,seval,reduceCtorEq,reduceIte,e3N h0 h1,w]
theorem e5Q (u un yn1 yn0 y:Int) (hy:y=yn1 * 4294967296+yn0) (h1:2147483648≤yn1) (h2:yn1≤4294967295) (h3:0≤yn0) (h4:yn0≤4294967295) (h5:0≤un) (h6:un≤4294967295) (h7:0≤u) (h8:u < y) (sg:Sg) (ow:Ow) (Q:Ex→S→Prop)
  (v2 v8 v11 v14:PV):∀ (n:Nat) (q r:Int) (fr:List PV),q.toNat=n→0≤q→q≤8589934592→0≤r→r≤4294967295→q * yn1+r=u→u * 4294967296+un < q * y+y →
  b9J fr [(2,v2),(8,v8),(11,v11),(14,v14),(9,.t (.int .u64 yn1)),(10,.t (.int .u64 yn0)),(13,.t (.int .u64 un)),(15,.t (.int .u64 q)),(16,.t (.int .u64 r))] →
  (∀ q' fr',0≤q'→q'≤4294967295→q' * y≤u * 4294967296+un→u * 4294967296+un < q' * y+y→b9J fr' [(2,v2),(8,v8),(11,v11),(14,v14),(9,.t (.int .u64 yn1)),(10,.t (.int .u64 yn0)),(13,.t (.int .u64 un)),(15,.t (.int .u64 q'))]→Q (.exit 0) ⟨fr',sg,ow⟩) →
  Xl F gl d1Z ⟨fr,sg,ow⟩ Q ⟨⟩:=by
 intro n
 induction n with
 |zero =>
  intro q r fr hn q0 q1 r0 r1 he hlt hf hQ
  simp only[b9L,b9K] at hf
  obtain⟨f2,f8,f11,f14,f9,f10,f13,f15,f16,-⟩:=hf
  obtain rfl:q=0:=by omega
  have c1:¬((4294967296:Int)≤0):=by decide
  have w1:IntKind.u64.wrap (4294967296 * r)=4294967296 * r:=IntWalk.u64_in _ (by omega)
  have w2:IntKind.u64.wrap (4294967296 * r+un)=4294967296 * r+un:=IntWalk.u64_in _ (by omega)
  have w3:IntKind.u64.wrap 0=0:=by decide
  have c2:¬(4294967296 * r+un < 0):=by omega
  refine Xl.step ?_
  simp only[d1Z]
  simp only[wA,seval,reduceCtorEq,reduceIte,f2,f8,f11,f14,f9,f10,f13,f15,f16,c1,Int.zero_mul,w1,w2,w3,c2]
  refine hQ 0 _ (by omega) (by omega) (by omega) (by omega) ?_
  simp only[wQ,Nat.reduceEqDiff,reduceIte,f2,f8,f11,f14,f9,f10,f13,f15]
 |succ n ih =>
  intro q r fr hn q0 q1 r0 r1 he hlt hf hQ
  simp only[b9L,b9K] at hf
  obtain⟨f2,f8,f11,f14,f9,f10,f13,f15,f16,-⟩:=hf
  have w1:IntKind.u64.wrap (4294967296 * r)=4294967296 * r:=IntWalk.u64_in _ (by omega)
  have w2:IntKind.u64.wrap (4294967296 * r+un)=4294967296 * r+un:=IntWalk.u64_in _ (by omega)
  have w3:IntKind.u64.wrap (q - 1)=q - 1:=IntWalk.u64_in _ (by omega)
  have w4:IntKind.u64.wrap (r+yn1)=r+yn1:=IntWalk.u64_in _ (by omega)
  have ey:(q - 1) * y+y=q * y:=by rw[Int.sub_mul,Int.one_mul];omega
  have en:(q - 1) * yn1=q * yn1 - yn1:=by rw[Int.sub_mul,Int.one_mul]
  have hdec:u * 4294967296+un < q * y→(¬(4294967296≤q)→0≤q * yn0∧q * yn0≤18446744073709551615)→(4294967296≤r+yn1→(q - 1)≤4294967295∧(q - 1) * y≤u * 4294967296+un):=by
   intro hd _ hr
   have hq1:q - 1≤4294967295:=by
    rcases Int.lt_or_le (q - 1) 4294967296 with h|h
    ·omega
    ·exfalso
     have h9:4294967296 * yn1≤(q - 1) * yn1:=Int.mul_le_mul_of_nonneg_right h (by omega)
     omega
   refine⟨hq1,?_⟩
   have h9:(q - 1) * yn0≤4294967295 * 4294967295:=Int.mul_le_mul hq1 h4 h3 (by decide)
   have:=e3A (u:=u) (un:=un) (yn1:=yn1) (yn0:=yn0) (q:=q - 1) (r:=r+yn1) (by omega) (by omega)
   rw[←hy] at this
   exact this
  have hmul:¬(4294967296≤q)→0≤q * yn0∧q * yn0≤18446744073709551615:=by
   intro hb
   have:=Int.mul_nonneg q0 h3
   have h9:q * yn0≤4294967295 * 4294967295:=Int.mul_le_mul (by omega) h4 h3 (by decide)
   omega
  refine Xl.step ?_
  simp only[d1Z]
  by_cases hb:4294967296≤q
  ·have hd:u * 4294967296+un < q * y:=e3C (by omega) h8 (by omega) hb
   simp only[wA,seval,reduceCtorEq,reduceIte,f2,f8,f11,f14,f9,f10,f13,f15,f16,hb,w3,w4]
   repeat' ((with_reducible first|refine c3U ?_ ?_|refine c3V ?_ ?_|refine c3T ?_ ?_|refine c3S ?_ ?_|refine c3Q ?_ ?_|refine c3R ?_ ?_|refine c3P ?_ ?_|refine c3O ?_ ?_) <;> intro h <;> (try simp only[wA,seval,reduceCtorEq,reduceIte,f2,f8,f11,f14,f9,f10,f13,f15,f16,hb,w3,w4,h]))
   ·obtain⟨k1,k2⟩:=hdec hd hmul h
    refine hQ (q - 1) _ (by omega) k1 k2 (by omega) ?_
    simp only[wQ,Nat.reduceEqDiff,reduceIte,f2,f8,f11,f14,f9,f10,f13]
   ·exact ih (q - 1) (r+yn1) _ (by omega) (by omega) (by omega) (by omega) (by omega) (by omega) (by omega) (by simp only[wQ,Nat.reduceEqDiff,reduceIte,f2,f8,f11,f14,f9,f10,f13]) hQ
  ·obtain⟨m1,m2⟩:=hmul hb
   have w5:IntKind.u64.wrap (q * yn0)=q * yn0:=IntWalk.u64_in _ ⟨m1,m2⟩
   by_cases hc:4294967296 * r+un < q * yn0
   ·have hd:u * 4294967296+un < q * y:=by rw[hy];exact e3B he hc
    simp only[wA,seval,reduceCtorEq,reduceIte,f2,f8,f11,f14,f9,f10,f13,f15,f16,hb,w1,w2,w3,w4,w5,hc]
    repeat' ((with_reducible first|refine c3U ?_ ?_|refine c3V ?_ ?_|refine c3T ?_ ?_|refine c3S ?_ ?_|refine c3Q ?_ ?_|refine c3R ?_ ?_|refine c3P ?_ ?_|refine c3O ?_ ?_) <;> intro h <;> (try simp only[wA,seval,reduceCtorEq,reduceIte,f2,f8,f11,f14,f9,f10,f13,f15,f16,hb,w1,w2,w3,w4,w5,hc,h]))
    ·obtain⟨k1,k2⟩:=hdec hd hmul h
     refine hQ (q - 1) _ (by omega) k1 k2 (by omega) ?_
     simp only[wQ,Nat.reduceEqDiff,reduceIte,f2,f8,f11,f14,f9,f10,f13]
    ·exact ih (q - 1) (r+yn1) _ (by omega) (by omega) (by omega) (by omega) (by omega) (by omega) (by omega) (by simp only[wQ,Nat.reduceEqDiff,reduceIte,f2,f8,f11,f14,f9,f10,f13]) hQ
   ·simp only[wA,seval,reduceCtorEq,reduceIte,f2,f8,f11,f14,f9,f10,f13,f15,f16,hb,w1,w2,w5,hc]
    have:=e3A (un:=un) (yn0:=yn0) he (by omega)
    rw[←hy] at this
    refine hQ q _ q0 (by omega) this hlt ?_
    simp only[wQ,Nat.reduceEqDiff,reduceIte,f2,f8,f11,f14,f9,f10,f13,f15]
theorem e5R (u un yn1 yn0 y:Int) (hy:y=yn1 * 4294967296+yn0) (h1:2147483648≤yn1) (h2:yn1≤4294967295) (h3:0≤yn0) (h4:yn0≤4294967295) (h5:0≤un) (h6:un≤4294967295) (h7:0≤u) (h8:u < y) (sg:Sg) (ow:Ow) (Q:Ex→S→Prop)
  (v2 v8 v15 v17:PV):∀ (n:Nat) (q r:Int) (fr:List PV),q.toNat=n→0≤q→q≤8589934592→0≤r→r≤4294967295→q * yn1+r=u→u * 4294967296+un < q * y+y →
  b9J fr [(2,v2),(8,v8),(15,v15),(17,v17),(9,.t (.int .u64 yn1)),(10,.t (.int .u64 yn0)),(14,.t (.int .u64 un)),(18,.t (.int .u64 q)),(16,.t (.int .u64 r))] →
  (∀ q' fr',0≤q'→q'≤4294967295→q' * y≤u * 4294967296+un→u * 4294967296+un < q' * y+y→b9J fr' [(2,v2),(8,v8),(15,v15),(17,v17),(9,.t (.int .u64 yn1)),(10,.t (.int .u64 yn0)),(14,.t (.int .u64 un)),(18,.t (.int .u64 q'))]→Q (.exit 2) ⟨fr',sg,ow⟩) →
  Xl F gl d1Y ⟨fr,sg,ow⟩ Q ⟨⟩:=by
 intro n
 induction n with
 |zero =>
  intro q r fr hn q0 q1 r0 r1 he hlt hf hQ
  simp only[b9L,b9K] at hf
  obtain⟨f2,f8,f15,f17,f9,f10,f14,f18,f16,-⟩:=hf
  obtain rfl:q=0:=by omega
  have c1:¬((4294967296:Int)≤0):=by decide
  have w1:IntKind.u64.wrap (4294967296 * r)=4294967296 * r:=IntWalk.u64_in _ (by omega)
  have w2:IntKind.u64.wrap (4294967296 * r+un)=4294967296 * r+un:=IntWalk.u64_in _ (by omega)
  have w3:IntKind.u64.wrap 0=0:=by decide
  have c2:¬(4294967296 * r+un < 0):=by omega
  refine Xl.step ?_
  simp only[d1Y]
  simp only[wA,seval,reduceCtorEq,reduceIte,f2,f8,f15,f17,f9,f10,f14,f18,f16,c1,Int.zero_mul,w1,w2,w3,c2]
  refine hQ 0 _ (by omega) (by omega) (by omega) (by omega) ?_
  simp only[wQ,Nat.reduceEqDiff,reduceIte,f2,f8,f15,f17,f9,f10,f14,f18]
 |succ n ih =>
  intro q r fr hn q0 q1 r0 r1 he hlt hf hQ
  simp only[b9L,b9K] at hf
  obtain⟨f2,f8,f15,f17,f9,f10,f14,f18,f16,-⟩:=hf
  have w1:IntKind.u64.wrap (4294967296 * r)=4294967296 * r:=IntWalk.u64_in _ (by omega)
  have w2:IntKind.u64.wrap (4294967296 * r+un)=4294967296 * r+un:=IntWalk.u64_in _ (by omega)
  have w3:IntKind.u64.wrap (q - 1)=q - 1:=IntWalk.u64_in _ (by omega)
  have w4:IntKind.u64.wrap (r+yn1)=r+yn1:=IntWalk.u64_in _ (by omega)
  have ey:(q - 1) * y+y=q * y:=by rw[Int.sub_mul,Int.one_mul];omega
  have en:(q - 1) * yn1=q * yn1 - yn1:=by rw[Int.sub_mul,Int.one_mul]
  have hdec:u * 4294967296+un < q * y→(¬(4294967296≤q)→0≤q * yn0∧q * yn0≤18446744073709551615)→(4294967296≤r+yn1→(q - 1)≤4294967295∧(q - 1) * y≤u * 4294967296+un):=by
   intro hd _ hr
   have hq1:q - 1≤4294967295:=by
    rcases Int.lt_or_le (q - 1) 4294967296 with h|h
    ·omega
    ·exfalso
     have h9:4294967296 * yn1≤(q - 1) * yn1:=Int.mul_le_mul_of_nonneg_right h (by omega)
     omega
   refine⟨hq1,?_⟩
   have h9:(q - 1) * yn0≤4294967295 * 4294967295:=Int.mul_le_mul hq1 h4 h3 (by decide)
   have:=e3A (u:=u) (un:=un) (yn1:=yn1) (yn0:=yn0) (q:=q - 1) (r:=r+yn1) (by omega) (by omega)
   rw[←hy] at this
   exact this
  have hmul:¬(4294967296≤q)→0≤q * yn0∧q * yn0≤18446744073709551615:=by
   intro hb
   have:=Int.mul_nonneg q0 h3
   have h9:q * yn0≤4294967295 * 4294967295:=Int.mul_le_mul (by omega) h4 h3 (by decide)
   omega
  refine Xl.step ?_
  simp only[d1Y]
  by_cases hb:4294967296≤q
  ·have hd:u * 4294967296+un < q * y:=e3C (by omega) h8 (by omega) hb
   simp only[wA,seval,reduceCtorEq,reduceIte,f2,f8,f15,f17,f9,f10,f14,f18,f16,hb,w3,w4]
   repeat' ((with_reducible first|refine c3U ?_ ?_|refine c3V ?_ ?_|refine c3T ?_ ?_|refine c3S ?_ ?_|refine c3Q ?_ ?_|refine c3R ?_ ?_|refine c3P ?_ ?_|refine c3O ?_ ?_) <;> intro h <;> (try simp only[wA,seval,reduceCtorEq,reduceIte,f2,f8,f15,f17,f9,f10,f14,f18,f16,hb,w3,w4,h]))
   ·obtain⟨k1,k2⟩:=hdec hd hmul h
    refine hQ (q - 1) _ (by omega) k1 k2 (by omega) ?_
    simp only[wQ,Nat.reduceEqDiff,reduceIte,f2,f8,f15,f17,f9,f10,f14]
   ·exact ih (q - 1) (r+yn1) _ (by omega) (by omega) (by omega) (by omega) (by omega) (by omega) (by omega) (by simp only[wQ,Nat.reduceEqDiff,reduceIte,f2,f8,f15,f17,f9,f10,f14]) hQ
  ·obtain⟨m1,m2⟩:=hmul hb
   have w5:IntKind.u64.wrap (q * yn0)=q * yn0:=IntWalk.u64_in _ ⟨m1,m2⟩
   by_cases hc:4294967296 * r+un < q * yn0
   ·have hd:u * 4294967296+un < q * y:=by rw[hy];exact e3B he hc
    simp only[wA,seval,reduceCtorEq,reduceIte,f2,f8,f15,f17,f9,f10,f14,f18,f16,hb,w1,w2,w3,w4,w5,hc]
    repeat' ((with_reducible first|refine c3U ?_ ?_|refine c3V ?_ ?_|refine c3T ?_ ?_|refine c3S ?_ ?_|refine c3Q ?_ ?_|refine c3R ?_ ?_|refine c3P ?_ ?_|refine c3O ?_ ?_) <;> intro h <;> (try simp only[wA,seval,reduceCtorEq,reduceIte,f2,f8,f15,f17,f9,f10,f14,f18,f16,hb,w1,w2,w3,w4,w5,hc,h]))
    ·obtain⟨k1,k2⟩:=hdec hd hmul h
     refine hQ (q - 1) _ (by omega) k1 k2 (by omega) ?_
     simp only[wQ,Nat.reduceEqDiff,reduceIte,f2,f8,f15,f17,f9,f10,f14]
    ·exact ih (q - 1) (r+yn1) _ (by omega) (by omega) (by omega) (by omega) (by omega) (by omega) (by omega) (by simp only[wQ,Nat.reduceEqDiff,reduceIte,f2,f8,f15,f17,f9,f10,f14]) hQ
   ·simp only[wA,seval,reduceCtorEq,reduceIte,f2,f8,f15,f17,f9,f10,f14,f18,f16,hb,w1,w2,w5,hc]
    have:=e3A (un:=un) (yn0:=yn0) he (by omega)
    rw[←hy] at this
    refine hQ q _ q0 (by omega) this hlt ?_
    simp only[wQ,Nat.reduceEqDiff,reduceIte,f2,f8,f15,f17,f9,f10,f14,f18]
theorem e5S {hi lo y:Int} (h0:0≤hi) (h1:hi < y) (l0:0≤lo) (l1:lo≤18446744073709551615) (y1:y≤18446744073709551615) {K:PV→Prop} :
  XcP F gl 214 [.int .u64 hi,.int .u64 lo,.int .u64 y] K ⟨⟩↔K (.tup [.t (.int .u64 ((hi * 18446744073709551616+lo) / y)),.t (.int .u64 ((hi * 18446744073709551616+lo) % y))]):=by
 refine Ret.iff (Ret.of F214 rfl ?_)
 have c1:¬(y=0):=by omega
 have c2:¬(y≤hi):=by omega
 simp only[d2A]
 by_cases hz:hi=0
 ·subst hz
  have t1:lo.tdiv y=lo / y:=Int.tdiv_eq_ediv_of_nonneg l0
  have t2:lo.tmod y=lo % y:=Int.tmod_eq_emod_of_nonneg l0
  have hd:lo / y≤lo:=Int.ediv_le_self y l0
  have hd0:0≤lo / y:=Int.ediv_nonneg l0 (by omega)
  have t3:IntKind.u64.wrap (lo / y)=lo / y:=IntWalk.u64_in _ (by omega)
  simp only[wA,seval,reduceCtorEq,reduceIte,c1,c2,t1,t2,t3,Int.zero_mul,Int.zero_add]
 ·have hypos:0 < y:=by omega
  obtain⟨s1,s2,s3⟩:=e3H hypos
  have hl:=e3I (x:=y) (by omega) (k:=64) (by omega)
  obtain⟨S,hS⟩:∃ S:Nat,64 - e3G y=(S:Int):=⟨(64 - e3G y).toNat,by omega⟩
  have a78:=@e5P gl y (by omega) y1
  rw[hS] at a78
  have hle:S≤64:=by omega
  have hle2:64 - S≤64:=by omega
  have wS:IntKind.u64.wrap (S:Int)=(S:Int):=IntWalk.u64_in _ (by omega)
  have wS2:IntKind.u64.wrap (64 - (S:Int))=((64 - S:Nat):Int):=by rw[IntWalk.u64_in _ (by omega)];omega
  have yb:9223372036854775808≤y * 2 ^ S∧y * 2 ^ S≤18446744073709551615:=by
   have hp:(0:Int) < 2 ^ S:=Int.pow_pos (by decide)
   have e1:(2:Int) ^ (e3G y - 1).toNat * 2 ^ S=9223372036854775808:=by
    rw[←Int.pow_add]
    have:(e3G y - 1).toNat+S=63:=by omega
    rw[this];decide
   have e2:(2:Int) ^ (e3G y).toNat * 2 ^ S=18446744073709551616:=by
    rw[←Int.pow_add]
    have:(e3G y).toNat+S=64:=by omega
    rw[this];decide
   have b1:=Int.mul_le_mul_of_nonneg_right s1 (Int.le_of_lt hp)
   have b2:=Int.mul_lt_mul_of_pos_right s2 hp
   omega
  obtain⟨yb0,yb1⟩:=yb
  obtain⟨k1,k2,k3,k4,k5,k6⟩:=e3D h0 h1 l0 l1 hle yb0 yb1
  have wY:IntKind.u64.wrap (y * 2 ^ S)=y * 2 ^ S:=IntWalk.u64_in _ (by omega)
  have wH:IntKind.u64.wrap (hi * 2 ^ S)=hi * 2 ^ S:=IntWalk.u64_in _ (by omega)
  have wL:IntKind.u64.wrap (lo * 2 ^ S)=lo * 2 ^ S % 18446744073709551616:=e2U _
  have wZ:lo.fdiv (2 ^ (64 - S))=lo / 2 ^ (64 - S):=Int.fdiv_eq_ediv_of_nonneg _ (Int.le_of_lt (Int.pow_pos (by decide)))
  have wO:=e2Y (a:=hi) (b:=lo / 2 ^ (64 - S)) (s:=S) h0 k3 k4 (by omega)
  have hend:=@e3E hi lo y (hi * 2 ^ S+lo / 2 ^ (64 - S)) (lo * 2 ^ S % 18446744073709551616)
  generalize hYe:y * 2 ^ S=Y at *
  generalize hLe:lo * 2 ^ S % 18446744073709551616=L at *
  generalize hUe:hi * 2 ^ S+lo / 2 ^ (64 - S)=U at *
  have hL1:L≤18446744073709551615:=by omega
  have m1:=e2W (x:=Y) (by omega) (by omega)
  have m2:=e2W (x:=L) (by omega) (by omega)
  have hU0:0≤U:=by omega
  obtain⟨d1,d2,d3,d4,d5,d6⟩:=e3F (u:=U) (un:=L / 4294967296) (yn1:=Y / 4294967296) (yn0:=Y % 4294967296) (by omega) (by omega) (by omega) hU0 (by omega)
  have hYs:Y=Y / 4294967296 * 4294967296+Y % 4294967296:=by omega
  rw[←hYs] at d6
  have n1:¬(Y / 4294967296=0):=by omega
  have t1:U.tdiv (Y / 4294967296)=U / (Y / 4294967296):=Int.tdiv_eq_ediv_of_nonneg hU0
  have t2:IntKind.u64.wrap (U / (Y / 4294967296))=U / (Y / 4294967296):=IntWalk.u64_in _ (by omega)
  have t3:IntKind.u64.wrap (U - IntKind.u64.wrap (U / (Y / 4294967296) * (Y / 4294967296)))=U % (Y / 4294967296):=by
   have hm0:0≤U / (Y / 4294967296) * (Y / 4294967296):=Int.mul_nonneg d1 (by omega)
   rw[IntWalk.u64_in (U / (Y / 4294967296) * (Y / 4294967296)) (by omega),IntWalk.u64_in _ (by omega)];omega
  simp only[wA,seval,reduceCtorEq,reduceIte,c1,c2,hz,a78,wS,wS2,hle,hle2,hYe,wY,wH,wL,wZ,wO,hUe,m1,m2,n1,t1,t2,t3,IntKind.bits,Nat.min_def,Int.reducePow,Int.fdiv_eq_ediv_of_nonneg,Int.reduceLE]
  refine e5Q U (L / 4294967296) (Y / 4294967296) (Y % 4294967296) Y hYs (by omega) (by omega) (by omega) (by omega) (by omega) (by omega) hU0 (by omega) _ _ _ (.t (.int .u64 Y)) (.t (.int .u64 S)) (.t (.int .u64 U)) (.t (.int .u64 (L % 4294967296)))
   _ (U / (Y / 4294967296)) (U % (Y / 4294967296)) _ rfl d1 d2 d3 (by omega) d5 d6 ?_ ?_
  ·simp only[wQ,Nat.reduceEqDiff,reduceIte]
  intro q1 fr qa qb qc qd hf
  simp only[b9L,b9K] at hf
  obtain⟨f2,f8,f11,f14,f9,f10,f13,f15,-⟩:=hf
  have u2:IntKind.u64.wrap (IntKind.u64.wrap (IntKind.u64.wrap (U * 4294967296)+L / 4294967296) - IntKind.u64.wrap (q1 * Y))=U * 4294967296+L / 4294967296 - q1 * Y:=by
   simp only[e2U];omega
  obtain⟨e1,e2,e3,e4,e5,e6⟩:=e3F (u:=U * 4294967296+L / 4294967296 - q1 * Y) (un:=L % 4294967296) (yn1:=Y / 4294967296) (yn0:=Y % 4294967296) (by omega) (by omega) (by omega) (by omega) (by omega)
  rw[←hYs] at e6
  have hV0:0≤U * 4294967296+L / 4294967296 - q1 * Y:=by omega
  have hV1:U * 4294967296+L / 4294967296 - q1 * Y < Y:=by omega
  have hh1:U * 4294967296+L / 4294967296=q1 * Y+(U * 4294967296+L / 4294967296 - q1 * Y):=by omega
  generalize U * 4294967296+L / 4294967296 - q1 * Y=V at *
  have t4:V.tdiv (Y / 4294967296)=V / (Y / 4294967296):=Int.tdiv_eq_ediv_of_nonneg hV0
  have t5:IntKind.u64.wrap (V / (Y / 4294967296))=V / (Y / 4294967296):=IntWalk.u64_in _ (by omega)
  have t6:IntKind.u64.wrap (V - IntKind.u64.wrap (V / (Y / 4294967296) * (Y / 4294967296)))=V % (Y / 4294967296):=by
   have hm0:0≤V / (Y / 4294967296) * (Y / 4294967296):=Int.mul_nonneg e1 (by omega)
   rw[IntWalk.u64_in (V / (Y / 4294967296) * (Y / 4294967296)) (by omega),IntWalk.u64_in _ (by omega)];omega
  simp only[wA,seval,reduceCtorEq,reduceIte,f2,f8,f9,f10,f11,f13,f14,f15,u2,n1,t4,t5,t6]
  refine e5R V (L % 4294967296) (Y / 4294967296) (Y % 4294967296) Y hYs (by omega) (by omega) (by omega) (by omega) (by omega) (by omega) hV0 hV1 _ _ _ (.t (.int .u64 Y)) (.t (.int .u64 S)) (.t (.int .u64 q1)) (.t (.int .u64 V))
   _ (V / (Y / 4294967296)) (V % (Y / 4294967296)) _ rfl e1 e2 e3 (by omega) e5 e6 ?_ ?_
  ·simp only[wQ,Nat.reduceEqDiff,reduceIte,f2,f8,f9,f10,f14,f15]
  intro q0 fr ra rb rc rd hf
  simp only[b9L,b9K] at hf
  obtain⟨g2,g8,g15,g17,g9,g10,g14,g18,-⟩:=hf
  obtain⟨z1,z2⟩:=@hend q1 V q0 (V * 4294967296+L % 4294967296 - q0 * Y) S hypos k6 (by rw[hYe];exact hh1) (by rw[hYe];omega) (by omega) (by rw[hYe];omega)
  have v1:IntKind.u64.wrap (IntKind.u64.wrap (IntKind.u64.wrap (V * 4294967296)+L % 4294967296) - IntKind.u64.wrap (q0 * Y))=V * 4294967296+L % 4294967296 - q0 * Y:=by
   simp only[e2U];omega
  have v2:(V * 4294967296+L % 4294967296 - q0 * Y).fdiv (2 ^ S)=(V * 4294967296+L % 4294967296 - q0 * Y) / 2 ^ S:=Int.fdiv_eq_ediv_of_nonneg _ (Int.le_of_lt (Int.pow_pos (by decide)))
  have v3:IntKind.u64.wrap (IntKind.u64.wrap (q1 * 4294967296)+q0)=q1 * 4294967296+q0:=by
   simp only[e2U];omega
  simp only[wA,seval,reduceCtorEq,reduceIte,g2,g8,g9,g10,g14,g15,g17,g18,v1,v2,v3,hle,IntKind.bits,Nat.min_def,z1,z2]
  repeat' ((with_reducible first|refine c3U ?_ ?_|refine c3V ?_ ?_|refine c3T ?_ ?_|refine c3S ?_ ?_|refine c3Q ?_ ?_|refine c3R ?_ ?_|refine c3P ?_ ?_|refine c3O ?_ ?_) <;> intro h <;> (try simp only[wA,seval,reduceCtorEq,reduceIte,g2,g8,g9,g10,g14,g15,g17,g18,v1,v2,v3,hle,IntKind.bits,Nat.min_def,z1,z2,h]))
theorem e5T {p:Int} (h:known p=true):17≤p∧p≤18446744069414584321:=by
 unfold known at h
 have:=g6F h
 omega
def e5U (p a b:Int):Int:=if known p=true then (a+b) % p else 0
def e5V (p a b:Int):Int:=if known p=true then a * b % p else 0
theorem e5W {p n:Int} (hp:0 < p) (hn:0≤n) {K:PV→Prop}:XcP F gl 197 [.agg [.int .u64 p],.int .u64 n] K ⟨⟩↔K (.t (.int .u64 (n % p))):=by
 refine Ret.iff (Ret.of F197 rfl ?_)
 have c:¬(p=0):=by omega
 have t:n.tmod p=n % p:=Int.tmod_eq_emod_of_nonneg hn
 simp only[d1I]
 simp only[wA,seval,reduceCtorEq,reduceIte,c,t]
 repeat' ((with_reducible first|refine c3U ?_ ?_|refine c3V ?_ ?_|refine c3T ?_ ?_|refine c3S ?_ ?_|refine c3Q ?_ ?_|refine c3R ?_ ?_|refine c3P ?_ ?_|refine c3O ?_ ?_) <;> intro h <;> (try simp only[wA,seval,reduceCtorEq,reduceIte,c,t,h]))
 rw[Int.emod_eq_of_lt hn (by omega)]
theorem e5X {p a b:Int} (hp:p≤18446744073709551615) (ha:0≤a) (ha1:a < p) (hb:0≤b) (hb1:b < p) {K:PV→Prop}:XcP F gl 200 [.agg [.int .u64 p],.int .u64 a,.int .u64 b] K ⟨⟩↔K (.t (.int .u64 ((a+b) % p))):=by
 refine Ret.iff (Ret.of F200 rfl ?_)
 have h01:(0:Int)≤1:=by decide
 simp only[d1N]
 have hm:(a+b) % p=if a+b < p then a+b else a+b - p:=by
  split
  ·exact Int.emod_eq_of_lt (by omega) (by assumption)
  ·rw[←Int.sub_emod_right,Int.emod_eq_of_lt (by omega) (by omega)]
 simp only[wA,seval,reduceCtorEq,reduceIte,a0Q,ha,hb,h01,Int.add_zero,e2U]
 repeat' ((with_reducible first|refine c3U ?_ ?_|refine c3V ?_ ?_|refine c3T ?_ ?_|refine c3S ?_ ?_|refine c3Q ?_ ?_|refine c3R ?_ ?_|refine c3P ?_ ?_|refine c3O ?_ ?_) <;> intro h <;> (try simp only[wA,seval,reduceCtorEq,reduceIte,a0Q,ha,hb,h01,Int.add_zero,e2U,h]))
 all_goals rw[hm]
 all_goals split
 all_goals first|(exfalso;omega)|(congr 2;omega)
theorem e5Y {p a b:Int} (ha:0≤a) (ha1:a < p) (hb:0≤b) (hb1:b < p):0≤a * b∧a * b < p * p:=by
 refine⟨Int.mul_nonneg ha hb,?_⟩
 have h1:a * b≤(p - 1) * p:=Int.mul_le_mul (by omega) (by omega) hb (by omega)
 rw[Int.sub_mul,Int.one_mul] at h1
 omega
theorem e5Z {p a b:Int} (hp:p≤18446744073709551615) (ha:0≤a) (ha1:a < p) (hb:0≤b) (hb1:b < p) {K:PV→Prop}:XcP F gl 199 [.agg [.int .u64 p],.int .u64 a,.int .u64 b] K ⟨⟩↔K (.t (.int .u64 (a * b % p))):=by
 refine Ret.iff (Ret.of F199 rfl ?_)
 obtain⟨m0,m1⟩:=e5Y ha ha1 hb hb1
 have m2:p * p≤p * 18446744073709551616:=Int.mul_le_mul_of_nonneg_left (by omega) (by omega)
 have hhi:a * b / 18446744073709551616 < p:=Int.ediv_lt_of_lt_mul (by decide) (by omega)
 have a62:=@e5O gl a b ha (by omega) hb (by omega)
 have a63:=@e5S gl (a * b / 18446744073709551616) (a * b % 18446744073709551616) p (by omega) hhi (by omega) (by omega) hp
 have e:a * b / 18446744073709551616 * 18446744073709551616+a * b % 18446744073709551616=a * b:=by omega
 rw[e] at a63
 simp only[d1M]
 simp only[wA,seval,reduceCtorEq,reduceIte,a62,a63]
theorem e6A {p a b:Int} (ha:0≤a) (hb:0≤b) {K:PV→Prop}:XcP F gl 162 [.agg [.int .u64 p],.int .u64 a,.int .u64 b] K ⟨⟩↔K (.t (.int .u64 (e5U p a b))):=by
 refine Ret.iff (Ret.of F162 rfl ?_)
 simp only[d0D]
 cases hk:known p with
 |false =>
  simp only[wA,seval,reduceCtorEq,reduceIte,e5M,hk]
  simp [e5U,hk]
 |true =>
  obtain⟨b1,b2⟩:=e5T hk
  have a1:=@e5W gl p a (by omega) ha
  have a2:=@e5W gl p b (by omega) hb
  have a3:=@e5X gl p (a % p) (b % p) (by omega) (Int.emod_nonneg _ (by omega)) (Int.emod_lt_of_pos _ (by omega)) (Int.emod_nonneg _ (by omega)) (Int.emod_lt_of_pos _ (by omega))
  simp only[wA,seval,reduceCtorEq,reduceIte,e5M,hk,a1,a2,a3]
  simp [e5U,hk,Int.add_emod]
theorem e6B {p a b:Int} (ha:0≤a) (hb:0≤b) {K:PV→Prop}:XcP F gl 161 [.agg [.int .u64 p],.int .u64 a,.int .u64 b] K ⟨⟩↔K (.t (.int .u64 (e5V p a b))):=by
 refine Ret.iff (Ret.of F161 rfl ?_)
 simp only[d0C]
 cases hk:known p with
 |false =>
  simp only[wA,seval,reduceCtorEq,reduceIte,e5M,hk]
  simp [e5V,hk]
 |true =>
  obtain⟨b1,b2⟩:=e5T hk
  have a1:=@e5W gl p a (by omega) ha
  have a2:=@e5W gl p b (by omega) hb
  have a3:=@e5Z gl p (a % p) (b % p) (by omega) (Int.emod_nonneg _ (by omega)) (Int.emod_lt_of_pos _ (by omega)) (Int.emod_nonneg _ (by omega)) (Int.emod_lt_of_pos _ (by omega))
  simp only[wA,seval,reduceCtorEq,reduceIte,e5M,hk,a1,a2,a3]
  simp [e5V,hk,Int.mul_emod]
def tU (l:List Int):List (List T):=l.map fun n=>[.int .u64 n]
theorem e6C {w:List Int}:(tU w).length=w.length:=by simp [tU]
theorem e6D {p a b:Int} (ha:0≤a) (hb:0≤b):0≤e5U p a b:=by
 unfold e5U
 split
 ·rename_i h
  have:=e5T h
  exact Int.emod_nonneg _ (by omega)
 ·exact Int.le_refl _
theorem e6E {p a b:Int} (ha:0≤a) (hb:0≤b):0≤e5V p a b:=by
 unfold e5V
 split
 ·rename_i h
  have:=e5T h
  exact Int.emod_nonneg _ (by omega)
 ·exact Int.le_refl _
end Go.Proofs.YtdjcnfacjfnakaaGreat

/- Contracts: powers, the permutation. -/
namespace Go.Proofs.YtdjcnfacjfnakaaGreat
open Go.Pi Go.Lib
variable {gl:Nat→Option (List T)}
theorem e6F (p:Int) {K:PV→Prop}:XcP F gl 201 [.agg [.int .u64 p]] K ⟨⟩↔K (.tup [.t (.int .u64 (e5N p).1),.t (.int .i64 (e5N p).2.1),.t (.int .u64 (e5N p).2.2)]):=by
 refine Ret.iff (Ret.of F201 rfl ?_)
 simp only[d1O]
 simp only[wA,seval,reduceCtorEq,reduceIte]
 repeat' ((with_reducible first|refine c3U ?_ ?_|refine c3V ?_ ?_|refine c3T ?_ ?_|refine c3S ?_ ?_|refine c3Q ?_ ?_|refine c3R ?_ ?_|refine c3P ?_ ?_|refine c3O ?_ ?_) <;> intro h <;> (try simp only[wA,seval,reduceCtorEq,reduceIte,h]))
 all_goals simp_all [e5N]
theorem e6G (p:Int) {K:PV→Prop}:XcP F gl 165 [.agg [.int .u64 p]] K ⟨⟩↔K (.t (.int .u64 (e5N p).2.2)):=by
 refine Ret.iff (Ret.of F165 rfl ?_)
 simp only[d0H]
 simp only[wA,seval,reduceCtorEq,reduceIte,e6F]
theorem e6H {p:Int}:0≤(e5N p).2.2∧(e5N p).2.2≤7:=by
 unfold e5N
 repeat' split
 all_goals decide
def pwl (p:Int):Nat→Int→Int→Int→Int
 |0,r,_,_=>r
 |n+1,r,a,e=>if e≤0 then r else pwl p n (if e % 2=1 then r * a % p else r) (a * a % p) (e / 2)
theorem e6I {p:Int} (n:Nat) (r a:Int) {e:Int} (he:e≤0):pwl p n r a e=r:=by
 cases n with
 |zero=>rfl
 |succ n=>simp only[pwl];rw[if_pos he]
theorem e6J {p x:Int} (hp:0 < p):0≤x % p∧x % p < p:=⟨Int.emod_nonneg _ (by omega),Int.emod_lt_of_pos _ hp⟩
theorem e6K {p:Int} (hp:0 < p):∀ (n:Nat) (r a e:Int),0≤r→r < p→0≤pwl p n r a e∧pwl p n r a e < p:=by
 intro n
 induction n with
 |zero=>intro r a e h0 h1;exact⟨h0,h1⟩
 |succ n ih =>
  intro r a e h0 h1
  simp only[pwl]
  split
  ·exact⟨h0,h1⟩
  ·apply ih
   ·split
    ·exact(e6J hp).1
    ·exact h0
   ·split
    ·exact(e6J hp).2
    ·exact h1
theorem e6L (p:Int) (hp0:0 < p) (hp:p≤18446744073709551615) (ow:Ow) (Q:Ex→S→Prop):∀ (n:Nat) (r a e:Int) (fr:List PV),e < 2 ^ n→0≤e→e≤18446744073709551615→0≤r→r < p→0≤a→a < p →
  b9J fr [(1,.t (.int .u64 a)),(2,.t (.int .u64 e)),(3,.lp 0 0),(7,.t (.int .u64 r))] →
  (∀ fr',a0A fr' 7=.t (.int .u64 (pwl p n r a e))→Q (.exit 0) ⟨fr',[(false,[.t (.int .u64 p)])],ow⟩) →
  Xl F gl d2B ⟨fr,[(false,[.t (.int .u64 p)])],ow⟩ Q ⟨⟩:=by
 intro n
 induction n with
 |zero =>
  intro r a e fr he he0 he1 r0 r1 a0 a1 hf h1
  simp only[b9L,b9K] at hf
  obtain⟨f1,f2,f3,f7,-⟩:=hf
  refine Xl.step ?_
  simp only[d2B]
  have c:¬(0 < e):=by omega
  simp only[wA,seval,reduceCtorEq,reduceIte,f1,f2,f3,f7,c]
  exact h1 _ (by simp only[wQ,Nat.reduceEqDiff,reduceIte,f7,pwl])
 |succ n ih =>
  intro r a e fr he he0 he1 r0 r1 a0 a1 hf h1
  simp only[b9L,b9K] at hf
  obtain⟨f1,f2,f3,f7,-⟩:=hf
  refine Xl.step ?_
  simp only[d2B]
  by_cases c:0 < e
  ·have ce:¬(e≤0):=by omega
   have m1:=e2X he0 he1
   have hn:e / 2 < 2 ^ n:=by
    have:(2:Int) ^ (n+1)=2 ^ n * 2:=Int.pow_succ 2 n
    omega
   have a1':=@e5Z gl p r a hp r0 r1 a0 a1
   have a2':=@e5Z gl p a a hp a0 a1 a0 a1
   simp only[pwl,if_neg ce] at h1
   by_cases c2:e % 2=1
   ·simp only[c2,if_true] at h1
    by_cases c3:0 < e / 2
    ·simp only[wA,seval,reduceCtorEq,reduceIte,f1,f2,f3,f7,c,m1,c2,c3,a1',a2',IntKind.bits,Nat.min_def,Int.reducePow,Int.fdiv_eq_ediv_of_nonneg,Int.reduceLE]
     exact ih _ _ _ _ hn (by omega) (by omega) (e6J hp0).1 (e6J hp0).2 (e6J hp0).1 (e6J hp0).2 (by simp only[wQ,Nat.reduceEqDiff,reduceIte,f3]) h1
    ·simp only[wA,seval,reduceCtorEq,reduceIte,f1,f2,f3,f7,c,m1,c2,c3,a1',a2',IntKind.bits,Nat.min_def,Int.reducePow,Int.fdiv_eq_ediv_of_nonneg,Int.reduceLE]
     rw[e6I _ _ _ (by omega)] at h1
     refine ih (r * a % p) a (e / 2) _ hn (by omega) (by omega) (e6J hp0).1 (e6J hp0).2 a0 a1 (by simp only[wQ,Nat.reduceEqDiff,reduceIte,f1,f3]) fun fr' hf'=>h1 fr' ?_
     rw[e6I _ _ _ (by omega)] at hf'
     exact hf'
   ·simp only[c2,if_false] at h1
    by_cases c3:0 < e / 2
    ·simp only[wA,seval,reduceCtorEq,reduceIte,f1,f2,f3,f7,c,m1,c2,c3,a1',a2',IntKind.bits,Nat.min_def,Int.reducePow,Int.fdiv_eq_ediv_of_nonneg,Int.reduceLE]
     exact ih _ _ _ _ hn (by omega) (by omega) r0 r1 (e6J hp0).1 (e6J hp0).2 (by simp only[wQ,Nat.reduceEqDiff,reduceIte,f3,f7]) h1
    ·exfalso;omega
  ·simp only[wA,seval,reduceCtorEq,reduceIte,f1,f2,f3,f7,c]
   exact h1 _ (by simp only[wQ,Nat.reduceEqDiff,reduceIte,f7];rw[e6I _ _ _ (by omega)])
def e6M (p a e:Int):Int:=if known p=true then pwl p 64 1 (a % p) e else 0
theorem e6N {p a e:Int} (hp0:1 < p) (hp:p≤18446744073709551615) (a0:0≤a) (a1:a < p) (e0:0≤e) (e1:e≤18446744073709551615) {K:PV→Prop}:XcP F gl 217 [.agg [.int .u64 p],.int .u64 a,.int .u64 e] K ⟨⟩↔K (.t (.int .u64 (pwl p 64 1 a e))):=by
 refine Ret.iff (Ret.of F217 rfl ?_)
 simp only[d2C]
 simp only[wA,seval,reduceCtorEq,reduceIte]
 refine e6L p (by omega) hp _ _ 64 1 a e _ (by omega) e0 e1 (by omega) (by omega) a0 a1 ?_ ?_
 ·simp only[wQ,Nat.reduceEqDiff,reduceIte]
 ·intro fr' hf
  simp only[wA,seval,reduceCtorEq,reduceIte,hf]
theorem e6O {p a e:Int} (a0:0≤a) (e0:0≤e) (e1:e≤18446744073709551615) {K:PV→Prop}:XcP F gl 210 [.agg [.int .u64 p],.int .u64 a,.int .u64 e] K ⟨⟩↔K (.t (.int .u64 (e6M p a e))):=by
 refine Ret.iff (Ret.of F210 rfl ?_)
 simp only[d1U]
 cases hk:known p with
 |false =>
  simp only[wA,seval,reduceCtorEq,reduceIte,e5M,hk]
  simp [e6M,hk]
 |true =>
  obtain⟨b1,b2⟩:=e5T hk
  have a1:=@e5W gl p a (by omega) a0
  have a2:=@e6N gl p (a % p) e (by omega) (by omega) (e6J (by omega)).1 (e6J (by omega)).2 e0 e1
  simp only[wA,seval,reduceCtorEq,reduceIte,e5M,hk,a1,a2]
  simp [e6M,hk]
def rc (p r i:Int):Int:=(3 * r+i+1) * 11400714819323198485 % 18446744073709551616 % p
theorem e6P {p n:Int} (hk:known p=true) (hn:0≤n) {K:PV→Prop}:XcP F gl 157 [.agg [.int .u64 p],.int .u64 n] K ⟨⟩↔K (.t (.int .u64 (n % p))):=by
 obtain⟨b1,b2⟩:=e5T hk
 have a1:=@e5W gl p n (by omega) hn
 refine Ret.iff (Ret.of F157 rfl ?_)
 simp only[c9X]
 simp only[wA,seval,reduceCtorEq,reduceIte,e5M,hk,a1]
theorem e6Q {p r i:Int} (hk:known p=true) (r0:0≤r) (r1:r < 8) (i0:0≤i) (i1:i≤2) {K:PV→Prop}:XcP F gl 211 [.int .u64 p,.int .i64 r,.int .i64 i] K ⟨⟩↔K (.t (.int .u64 (rc p r i))):=by
 have a:=@e6P gl p ((3 * r+i+1) * 11400714819323198485 % 18446744073709551616) hk (by omega)
 have c1:¬(r < 0):=by omega
 have c2:¬(8≤r):=by omega
 have c3:¬(i < 0):=by omega
 have c4:¬(2 < i):=by omega
 have w1:IntKind.i64.wrap (3 * r)=3 * r:=IntWalk.i64_in _ (by omega)
 have w2:IntKind.i64.wrap (3 * r+i)=3 * r+i:=IntWalk.i64_in _ (by omega)
 have w3:IntKind.i64.wrap (3 * r+i+1)=3 * r+i+1:=IntWalk.i64_in _ (by omega)
 have w4:IntKind.u64.wrap (3 * r+i+1)=3 * r+i+1:=IntWalk.u64_in _ (by omega)
 have w5:IntKind.u64.wrap ((3 * r+i+1) * 11400714819323198485)=(3 * r+i+1) * 11400714819323198485 % 18446744073709551616:=e2U _
 refine Ret.iff (Ret.of F211 rfl ?_)
 simp only[d1V]
 simp only[wA,seval,reduceCtorEq,reduceIte,c1,c2,c3,c4,w1,w2,w3,w4,w5,a]
 simp only[rc]
abbrev Tri:=Int×Int×Int
def stC (s:Tri):List T:=[.int .u64 s.1,.int .u64 s.2.1,.int .u64 s.2.2]
def stN (s:Tri):Prop:=0≤s.1∧0≤s.2.1∧0≤s.2.2
def mix (p:Int) (s:Tri):Tri:=(e5U p s.1 (e5U p (e5U p s.1 s.2.1) s.2.2),e5U p s.2.1 (e5U p (e5U p s.1 s.2.1) s.2.2),e5U p s.2.2 (e5U p (e5U p s.1 s.2.1) s.2.2))
theorem e6R {p:Int} {s:Tri} (h:stN s):stN (mix p s):=by
 obtain⟨h1,h2,h3⟩:=h
 have h4:=e6D (p:=p) (e6D (p:=p) h1 h2) h3
 exact⟨e6D h1 h4,e6D h2 h4,e6D h3 h4⟩
theorem e6S {p:Int} {s:Tri} (h:stN s) {K:PV→Prop}:XcP F gl 212 [.int .u64 p,.agg (stC s)] K ⟨⟩↔K (.t (.agg (stC (mix p s)))):=by
 obtain⟨h1,h2,h3⟩:=h
 have a1:=@e6A gl p s.1 s.2.1 h1 h2
 have h12:=e6D (p:=p) h1 h2
 have a2:=@e6A gl p (e5U p s.1 s.2.1) s.2.2 h12 h3
 have h4:=e6D (p:=p) h12 h3
 have a3:=@e6A gl p s.1 (e5U p (e5U p s.1 s.2.1) s.2.2) h1 h4
 have a4:=@e6A gl p s.2.1 (e5U p (e5U p s.1 s.2.1) s.2.2) h2 h4
 have a5:=@e6A gl p s.2.2 (e5U p (e5U p s.1 s.2.1) s.2.2) h3 h4
 refine Ret.iff (Ret.of F212 rfl ?_)
 simp only[d1W]
 simp only[wA,seval,reduceCtorEq,reduceIte,stC,a1,a2,a3,a4,a5,Int.reduceMul]
 simp only[mix]
theorem e6T {p a e:Int}:0≤e6M p a e:=by
 unfold e6M
 split
 ·rename_i h
  have:=e5T h
  exact(e6K (by omega) 64 1 _ _ (by omega) (by omega)).1
 ·omega
theorem e6U {p r i:Int} (hp:0 < p):0≤rc p r i:=(e6J hp).1
def e6V (p r:Int) (s:Tri):Tri:=(e6M p (e5U p s.1 (rc p r 0)) (e5N p).2.2,s.2.1,s.2.2)
def e6W (p r:Int) (s:Tri):Tri:=(s.1,e6M p (e5U p s.2.1 (rc p r 1)) (e5N p).2.2,s.2.2)
def e6X (p r:Int) (s:Tri):Tri:=(s.1,s.2.1,e6M p (e5U p s.2.2 (rc p r 2)) (e5N p).2.2)
def rnd (p r:Int) (s:Tri):Tri:=mix p (e6X p r (e6W p r (e6V p r s)))
def e6Y (p:Int):Nat→Int→Tri→Tri
 |0,_,s=>s
 |n+1,r,s=>e6Y p n (r+1) (rnd p r s)
theorem e6Z {p r:Int} {s:Tri} (h:stN s):stN (e6X p r (e6W p r (e6V p r s))):=⟨e6T,e6T,e6T⟩
theorem e7A {p r:Int} {s:Tri} (h:stN s):stN (rnd p r s):=e6R (e6Z h)
theorem e7B {p:Int}:∀ (n:Nat) (r:Int) (s:Tri),stN s→stN (e6Y p n r s):=by
 intro n
 induction n with
 |zero=>intro r s h;exact h
 |succ n ih=>intro r s h;exact ih _ _ (e7A h)
theorem e7C {p r:Int} (hk:known p=true) (r0:0≤r) (r1:r < 8) {s:Tri} (hs:stN s) {R:List PV} {ow:Ow} {Q:Ex→S→Prop} {fr:List PV}
  (hf:b9J fr [(0,.t (.int .u64 p)),(3,.lp 0 0),(4,.lp 1 0),(5,.lp 2 0),(6,.t (.int .u64 (e5N p).2.2)),(7,.t (.int .i64 r)),(17,.t (.int .i64 r)),(20,.t (.int .i64 0))])
  (hQ:∀ fr',b9J fr' [(0,.t (.int .u64 p)),(3,.lp 0 0),(4,.lp 1 0),(5,.lp 2 0),(6,.t (.int .u64 (e5N p).2.2)),(7,.t (.int .i64 r)),(17,.t (.int .i64 r))] →
   Q (.exit 2) ⟨fr',[(false,(stC (e6X p r (e6W p r (e6V p r s)))).map .t),(false,R),(false,[.t (.int .u64 p)])],ow⟩) :
  Xl F gl d1J ⟨fr,[(false,(stC s).map .t),(false,R),(false,[.t (.int .u64 p)])],ow⟩ Q ⟨⟩:=by
 obtain⟨b1,b2⟩:=e5T hk
 obtain⟨s1,s2,s3⟩:=hs
 obtain⟨x0,x1⟩:=@e6H p
 have q0:=@e6U p r 0 (by omega)
 have q1:=@e6U p r 1 (by omega)
 have q2:=@e6U p r 2 (by omega)
 have k0:=@e6Q gl p r 0 hk r0 r1 (by omega) (by omega)
 have k1:=@e6Q gl p r 1 hk r0 r1 (by omega) (by omega)
 have k2:=@e6Q gl p r 2 hk r0 r1 (by omega) (by omega)
 have d0:=@e6A gl p s.1 (rc p r 0) s1 q0
 have d1:=@e6A gl p s.2.1 (rc p r 1) s2 q1
 have d2:=@e6A gl p s.2.2 (rc p r 2) s3 q2
 have e0:=@e6O gl p (e5U p s.1 (rc p r 0)) (e5N p).2.2 (e6D s1 q0) x0 (by omega)
 have e1:=@e6O gl p (e5U p s.2.1 (rc p r 1)) (e5N p).2.2 (e6D s2 q1) x0 (by omega)
 have e2:=@e6O gl p (e5U p s.2.2 (rc p r 2)) (e5N p).2.2 (e6D s3 q2) x0 (by omega)
 have w1:IntKind.i64.wrap 1=1:=by decide
 have w2:IntKind.i64.wrap 2=2:=by decide
 have w3:IntKind.i64.wrap 3=3:=by decide
 simp only[b9L,b9K] at hf
 obtain⟨f0,f3,f4,f5,f6,f7,f17,f20,-⟩:=hf
 refine Xl.step ?_
 try simp only[d1J]
 simp only[wA,seval,reduceCtorEq,reduceIte,stC,f0,f3,f4,f5,f6,f7,f17,f20,k0,k1,k2,d0,d1,d2,e0,e1,e2,w1,w2,w3,Int.zero_add]
 refine Xl.step ?_
 try simp only[d1J]
 simp only[wA,seval,reduceCtorEq,reduceIte,stC,f0,f3,f4,f5,f6,f7,f17,f20,k0,k1,k2,d0,d1,d2,e0,e1,e2,w1,w2,w3]
 refine Xl.step ?_
 try simp only[d1J]
 simp only[wA,seval,reduceCtorEq,reduceIte,stC,f0,f3,f4,f5,f6,f7,f17,f20,k0,k1,k2,d0,d1,d2,e0,e1,e2,w1,w2,w3]
 refine Xl.step ?_
 try simp only[d1J]
 simp only[wA,seval,reduceCtorEq,reduceIte,stC,f0,f3,f4,f5,f6,f7,f17,f20,k0,k1,k2,d0,d1,d2,e0,e1,e2,w1,w2,w3]
 exact hQ _ (by simp only[wQ,Nat.reduceEqDiff,reduceIte,f0,f3,f4,f5,f6,f7,f17])
theorem e7D {p:Int} (hk:known p=true) {R:List PV} {ow:Ow} {Q:Ex→S→Prop}:∀ (n:Nat) (r:Int) (s:Tri) (fr:List PV),r+n=8→0≤r→stN s →
  b9J fr [(0,.t (.int .u64 p)),(3,.lp 0 0),(4,.lp 1 0),(5,.lp 2 0),(6,.t (.int .u64 (e5N p).2.2)),(17,.t (.int .i64 r))] →
  (∀ fr',b9J fr' [(3,.lp 0 0),(4,.lp 1 0)]→Q (.exit 0) ⟨fr',[(false,(stC (e6Y p n r s)).map .t),(false,R),(false,[.t (.int .u64 p)])],ow⟩) →
  Xl F gl d1K ⟨fr,[(false,(stC s).map .t),(false,R),(false,[.t (.int .u64 p)])],ow⟩ Q ⟨⟩:=by
 intro n
 induction n with
 |zero =>
  intro r s fr hr r0 hs hf hQ
  simp only[b9L,b9K] at hf
  obtain⟨f0,f3,f4,f5,f6,f17,-⟩:=hf
  have c:¬(r < 8):=by omega
  refine Xl.step ?_
  simp only[d1K]
  simp only[wA,seval,reduceCtorEq,reduceIte,f17,c]
  exact hQ _ (by simp only[wQ,Nat.reduceEqDiff,reduceIte,f3,f4])
 |succ n ih =>
  intro r s fr hr r0 hs hf hQ
  simp only[b9L,b9K] at hf
  obtain⟨f0,f3,f4,f5,f6,f17,-⟩:=hf
  have c:r < 8:=by omega
  have w:IntKind.i64.wrap (r+1)=r+1:=IntWalk.i64_in _ (by omega)
  refine Xl.step ?_
  simp only[d1K]
  simp only[wA,seval,reduceCtorEq,reduceIte,f17,c]
  refine e7C hk r0 c hs ?_ ?_
  ·simp only[wQ,Nat.reduceEqDiff,reduceIte,f0,f3,f4,f5,f6,f17]
  ·intro fr' hf'
   simp only[b9L,b9K] at hf'
   obtain⟨g0,g3,g4,g5,g6,g7,g17,-⟩:=hf'
   have a:=@e6S gl p (e6X p r (e6W p r (e6V p r s))) (e6Z hs)
   simp only[stC] at a
   simp only[wA,seval,reduceCtorEq,reduceIte,stC,g0,g3,g4,g5,g6,g7,g17,a,w]
   exact ih (r+1) (rnd p r s) _ (by omega) (by omega) (e7A hs) (by simp only[wQ,Nat.reduceEqDiff,reduceIte,g0,g3,g4,g5,g6]) hQ
theorem e7E {p:Int} (hk:known p=true) {s:Tri} (hs:stN s) {K:PV→Prop}:XcP F gl 198 [.int .u64 p,.agg (stC s)] K ⟨⟩↔K (.t (.agg (stC (e6Y p 8 0 s)))):=by
 refine Ret.iff (Ret.of F198 rfl ?_)
 simp only[d1L]
 simp only[wA,seval,reduceCtorEq,reduceIte,stC,e5M,hk,e6G]
 refine e7D hk 8 0 s _ (by omega) (by omega) hs ?_ ?_
 ·simp only[wQ,Nat.reduceEqDiff,reduceIte]
 ·intro fr' hf'
  simp only[b9L,b9K] at hf'
  obtain⟨g3,g4,-⟩:=hf'
  simp only[wA,seval,reduceCtorEq,reduceIte,stC,g3,g4]
end Go.Proofs.YtdjcnfacjfnakaaGreat

/- Contracts: the sponge. -/
namespace Go.Proofs.YtdjcnfacjfnakaaGreat
open Go.Pi Go.Lib
variable {gl:Nat→Option (List T)}
def ab (p:Int):Tri→List Int→Tri
 |s,[]=>s
 |s,[x]=>e6Y p 8 0 (e5U p s.1 x,s.2.1,s.2.2)
 |s,x::y::r=>ab p (e6Y p 8 0 (e5U p s.1 x,e5U p s.2.1 y,s.2.2)) r
theorem e7F {w:List Int} {i:Nat} {x:Int} (h:w[i]?=some x):(tU w)[i]?=some [.int .u64 x]:=by
 unfold tU
 rw[g4B,h]
 rfl
theorem e7G {p:Int} (hk:known p=true) {nl:Bool} {l:List Int} (hl:l.length≤281474976710656) (hu:∀ n,n∈l→0≤n) {R:List PV} {ow:Ow} {Q:Ex→S→Prop}:∀ (n:Nat) (rest:List Int) (i:Nat) (s:Tri) (fr:List PV),rest.length≤n→l.drop i=rest→stN s →
  b9J fr [(0,.t (.int .u64 p)),(2,.t (.sl nl (tU l))),(6,.lp 0 0),(7,.lp 1 0),(8,.lp 2 0),(9,.t (.int .i64 i))] →
  (∀ fr',b9J fr' [(6,.lp 0 0),(8,.lp 2 0)]→Q (.exit 0) ⟨fr',[(false,R),(false,[.t (.int .u64 p)]),(false,(stC (ab p s rest)).map .t)],ow⟩) →
  Xl F gl c9Y ⟨fr,[(false,R),(false,[.t (.int .u64 p)]),(false,(stC s).map .t)],ow⟩ Q ⟨⟩:=by
 intro n
 induction n with
 |zero =>
  intro rest i s fr hn hd hs hf hQ
  match rest,hn with
  |[],_ =>
   have hd:=b9E hd
   simp only[b9L,b9K] at hf
   obtain⟨f0,f2,f6,f7,f8,f9,-⟩:=hf
   refine Xl.step ?_
   simp only[c9Y]
   have c1:¬((i:Int) < (l.length:Int)):=by omega
   simp only[wA,seval,reduceCtorEq,reduceIte,f2,f9,c1,e6C]
   exact hQ _ (by simp only[wQ,Nat.reduceEqDiff,reduceIte,f6,f8])
 |succ n ih =>
  intro rest i s fr hn hd hs hf hQ
  simp only[b9L,b9K] at hf
  obtain⟨f0,f2,f6,f7,f8,f9,-⟩:=hf
  match rest,hn,hd,hQ with
  |[],_,hd,hQ =>
   have hd:=b9E hd
   refine Xl.step ?_
   simp only[c9Y]
   have c1:¬((i:Int) < (l.length:Int)):=by omega
   simp only[wA,seval,reduceCtorEq,reduceIte,f2,f9,c1,e6C]
   exact hQ _ (by simp only[wQ,Nat.reduceEqDiff,reduceIte,f6,f8])
  |[x],_,hd,hQ =>
   obtain⟨hx,hr,hi⟩:=b9D hd
   have hr':=b9E hr
   have hx0:=hu x (g4Y hx)
   obtain⟨s1,s2,s3⟩:=hs
   have e1:=e7F hx
   have a1:=@e6A gl p s.1 x s1 hx0
   have hs2:stN (e5U p s.1 x,s.2.1,s.2.2):=⟨e6D s1 hx0,s2,s3⟩
   have a3:=@e7E gl p hk (e5U p s.1 x,s.2.1,s.2.2) hs2
   simp only[stC] at a3
   have c1:(i:Int) < (l.length:Int):=by omega
   have hw1:IntKind.wrap .i64 ((i:Int)+1)=((i+1:Nat):Int):=by rw[IntWalk.i64_in _ (by omega)];omega
   have hw2:IntKind.wrap .i64 ((i:Int)+2)=((i+2:Nat):Int):=by rw[IntWalk.i64_in _ (by omega)];omega
   have c2:¬(((i+1:Nat):Int) < (l.length:Int)):=by omega
   refine Xl.step ?_
   simp only[c9Y]
   simp only[wA,seval,reduceCtorEq,reduceIte,stC,f0,f2,f6,f7,f8,f9,c1,c2,e6C,e1,a1,a3,hw1,hw2,Int.reduceMul]
   exact ih [] (i+2) (e6Y p 8 0 (e5U p s.1 x,s.2.1,s.2.2)) _ (by simp) (List.drop_eq_nil_of_le (by omega)) (e7B _ _ _ hs2) (by simp only[wQ,Nat.reduceEqDiff,reduceIte,f0,f2,f6,f7,f8]) hQ
  |x::y::r,hn,hd,hQ =>
   obtain⟨hx,hr,hi⟩:=b9D hd
   obtain⟨hy,hr2,hi2⟩:=b9D hr
   have hx0:=hu x (g4Y hx)
   have hy0:=hu y (g4Y hy)
   obtain⟨s1,s2,s3⟩:=hs
   have e1:=e7F hx
   have e2:=e7F hy
   have a1:=@e6A gl p s.1 x s1 hx0
   have a2:=@e6A gl p s.2.1 y s2 hy0
   have hs2:stN (e5U p s.1 x,e5U p s.2.1 y,s.2.2):=⟨e6D s1 hx0,e6D s2 hy0,s3⟩
   have a3:=@e7E gl p hk (e5U p s.1 x,e5U p s.2.1 y,s.2.2) hs2
   simp only[stC] at a3
   have c1:(i:Int) < (l.length:Int):=by omega
   have hw1:IntKind.wrap .i64 ((i:Int)+1)=((i+1:Nat):Int):=by rw[IntWalk.i64_in _ (by omega)];omega
   have hw2:IntKind.wrap .i64 ((i:Int)+2)=((i+2:Nat):Int):=by rw[IntWalk.i64_in _ (by omega)];omega
   have c2:((i+1:Nat):Int) < (l.length:Int):=by omega
   refine Xl.step ?_
   simp only[c9Y]
   simp only[wA,seval,reduceCtorEq,reduceIte,stC,f0,f2,f6,f7,f8,f9,c1,c2,e6C,e1,e2,a1,a2,a3,hw1,hw2,Int.reduceMul]
   exact ih r (i+2) (e6Y p 8 0 (e5U p s.1 x,e5U p s.2.1 y,s.2.2)) _ (by simp at hn;omega) hr2 (e7B _ _ _ hs2) (by simp only[wQ,Nat.reduceEqDiff,reduceIte,f0,f2,f6,f7,f8]) hQ
def s0 (p label:Int) (n:Nat):Tri:=(0,0,e5U p (e5V p label 65536) n)
def e7H (p label:Int) (l:List Int):Tri:=if l=[] then e6Y p 8 0 (s0 p label 0) else ab p (s0 p label l.length) l
theorem e7I {p label:Int} {n:Nat} (h:0≤label):stN (s0 p label n):=⟨Int.le_refl _,Int.le_refl _,e6D (e6E h (by decide)) (by omega)⟩
theorem e7J {p label:Int} (hk:known p=true) {nl:Bool} {l:List Int} (h0:0≤label) (hl:l.length≤281474976710656) (hu:∀ n,n∈l→0≤n) {K:PV→Prop}:XcP F gl 158 [.int .u64 p,.int .u64 label,.sl nl (tU l)] K ⟨⟩↔K (.t (.agg (stC (e7H p label l)))):=by
 have a1:=@e6B gl p label 65536 h0 (by decide)
 have a2:=@e6A gl p (e5V p label 65536) (l.length:Int) (e6E h0 (by decide)) (by omega)
 have w:IntKind.u64.wrap (l.length:Int)=l.length:=IntWalk.u64_in _ (by omega)
 refine Ret.iff (Ret.of F158 rfl ?_)
 simp only[c9Z]
 by_cases hz:l=[]
 ·subst hz
  have a3:=@e7E gl p hk (s0 p label 0) (e7I h0)
  simp only[stC,s0,c3M] at a3
  have w0:IntKind.u64.wrap 0=0:=by decide
  simp only[g4M,c3M] at a2 w
  simp only[wA,seval,reduceCtorEq,reduceIte,a1,a2,a3,w0,tU,stC]
  simp [e7H,s0]
 ·have c:¬((l.length:Int)=0):=by
   have:l.length≠0:=fun h=>hz (List.length_eq_zero_iff.1 h)
   omega
  simp only[wA,seval,reduceCtorEq,reduceIte,a1,a2,w,e6C,c]
  refine e7G (nl:=nl) hk hl hu l.length l 0 (s0 p label l.length) _ (g5K _) rfl (e7I h0) ?_ ?_
  ·simp only[wQ,Nat.reduceEqDiff,reduceIte]
  ·intro fr' hf'
   simp only[b9L,b9K] at hf'
   obtain⟨g6,g8,-⟩:=hf'
   simp only[wA,seval,reduceCtorEq,reduceIte,stC,g6,g8]
   simp [e7H,hz]
def hash (p label:Int) (l:List Int):Int:=if known p=true then (e7H p label l).1 else 0
theorem e7K {p label:Int} {nl:Bool} {l:List Int} (h0:0≤label) (hl:l.length≤281474976710656) (hu:∀ n,n∈l→0≤n) {K:PV→Prop}:XcP F gl 117 [.int .u64 p,.int .u64 label,.sl nl (tU l)] K ⟨⟩↔K (.t (.int .u64 (hash p label l))):=by
 refine Ret.iff (Ret.of F117 rfl ?_)
 simp only[c8W]
 cases hk:known p with
 |false =>
  simp only[wA,seval,reduceCtorEq,reduceIte,e5M,hk]
  simp [hash,hk]
 |true =>
  have a:=@e7J gl p label hk nl l h0 hl hu
  simp only[stC] at a
  simp only[wA,seval,reduceCtorEq,reduceIte,e5M,hk,a,Int.reduceMul]
  simp [hash,hk]
end Go.Proofs.YtdjcnfacjfnakaaGreat
