/- Contracts: does a program hold? -/
import Derived.Test.YtdjcnfacjfnakaaGreatU12
import Derived.Test.YtdjcnfacjfnakaaGreatKx81
import Derived.Test.YtdjcnfacjfnakaaGreatQ20
import Derived.Test.YtdjcnfacjfnakaaGreatKx81
set_option maxRecDepth 10000
set_option linter.unusedVariables false
set_option linter.unusedSimpArgs false
namespace Go.Proofs.YtdjcnfacjfnakaaGreat
open Go.Pi Go.Lx Go.Ky Go.Lib
variable {gl:Nat→Option (List T)}
theorem PgB.g {p:Pg} (h:PgB p):PG p:=⟨h.ok,fun f hf=>(h.fs f hf).2,h.bs⟩
theorem g0C {p:Pg} (hp:PgB p) (he:(d6N p).2.2=0):0≤(d6N p).1∧(d6N p).1≤63:=by
 obtain⟨s1,s2,s3⟩:=f1M hp.g
 obtain⟨t1,t2,t3,t4⟩:=s2 (s1.1 he)
 omega
def g0D (p:Pg) (n:Int):Bool:=decide ((d6N p).2.2=0)&&(known n&&decide (n > 2 ^ (d6N p).1.toNat))
theorem g0E {p:Pg} (hp:PgB p) (n:Int) {K:PV→Prop}:XcP F gl 14 [.agg (tPg p),.int .u64 n] K ⟨⟩↔K (.t (.bool (g0D p n))):=by
 refine Ret.iff (Ret.of F14 rfl ?_)
 simp only[c4M]
 have he2:=fun K=>@ok37 gl p hp K
 have hfv:=fun K=>@ok47 gl n K
 unfold g0D
 by_cases he:(d6N p).2.2=0
 ·have he':((d6N p).2.2=0)=True:=g6D he
  obtain⟨b1,b2⟩:=g0C hp he
  have hn:¬((d6N p).1 < 0):=by omega
  have hsh:=f6F b1 b2
  rw[←e5L]
  cases hb:fieldB n with
  |false =>
   simp only[wA,seval,reduceCtorEq,reduceIte,he2,hfv,hb,he']
   all_goals simp
  |true =>
   simp only[wA,seval,reduceCtorEq,reduceIte,he2,hfv,hb,he',hn,hsh]
   all_goals simp
 ·have he':((d6N p).2.2=0)=False:=g6C he
  simp only[wA,seval,reduceCtorEq,reduceIte,he2,hfv,he']
  all_goals simp
theorem ok78 {p:Pg} (hp:PgB p) (n:Int) {K:PV→Prop}:XcP F gl 78 [.agg (tPg p),.int .u64 n] K ⟨⟩↔K (.t (.int .i64 (f2O p n (known n)))):=by
 refine Ret.iff (Ret.of F78 rfl ?_)
 simp only[c7C]
 have he:=fun K=>@ok32 gl p hp K
 have hf:=fun K=>@g0E gl p hp n K
 unfold f2O
 unfold g0D at hf
 by_cases h0:(d6N p).2.2=0
 ·have h0':((d6N p).2.2=0)=True:=g6D h0
  rw[if_neg (by simpa using h0)]
  by_cases h1:known n=true∧n > 2 ^ (d6N p).1.toNat
  ·rw[if_pos h1]
   have e1:=h1.1
   have e2:decide (n > 2 ^ (d6N p).1.toNat)=true:=g6A h1.2
   simp only[h0,decide_true,e1,e2,Bool.and_self] at hf
   simp only[wA,seval,reduceCtorEq,reduceIte,he,hf,h0']
  ·rw[if_neg h1]
   have e3:(decide ((d6N p).2.2=0)&&(known n&&decide (n > 2 ^ (d6N p).1.toNat)))=false:=by
    cases hk:known n with
    |false=>simp
    |true =>
     have:¬n > 2 ^ (d6N p).1.toNat:=fun h=>h1 ⟨hk,h⟩
     rw[g5Y this];simp
   rw[e3] at hf
   simp only[wA,seval,reduceCtorEq,reduceIte,he,hf,h0']
 ·have h0':((d6N p).2.2=0)=False:=g6C h0
  rw[if_pos (by simpa using h0)]
  simp only[wA,seval,reduceCtorEq,reduceIte,he,h0']
theorem g0F {ds:List De} {nl:Bool} (hls:ds.length≤B20) (hty:∀ d,d∈ds→tyB d.ty=true) {r b4 m:Nat} {sg0:Sg} {ow:Ow} (Q:Ex→S→Prop):∀ (l:List De) (i:Nat) (pu se:List Int) (sc:Sc) (fr:List PV) (sg:Sg),ds.drop i=l→Fr m sg0 sg→sg[m]?=some (true,iV sc)→(∀ x,x∈pu→0≤x)→(∀ x,x∈se→0≤x)→f3W l true≤pu.length→f3W l false≤se.length →
  b9J fr [(2,.t (.sl false (uL pu))),(3,.t (.sl false (uL se))),(4,.lp b4 0),(13,.lp r 0),(14,.mp m),(57,.t (.sl nl (ds.map fun d=>tDe d))),(58,.t (.int .i64 ds.length)),(59,.t (.int .i64 i))] →
  (∀ sc',inV l pu se sc=some sc'→∀ fr' sg',Fr m sg0 sg'→sg'[m]?=some (true,iV sc')→b9J fr' [(4,.lp b4 0),(13,.lp r 0),(14,.mp m)]→Q (.exit 0) ⟨fr',sg',ow⟩) →
  (inV l pu se sc=none→∀ fr' sg',b9J fr' [(8,.t (.bool false)),(9,.t (.int .i64 0))]→Q .ret ⟨fr',sg',ow⟩) →
  Xl F gl c5U ⟨fr,sg,ow⟩ Q ⟨⟩:=by
 intro l
 induction l with
 |nil =>
  intro i pu se sc fr sg hd hg hm hpu hse hs1 hs2 hf k1 k2
  have hd:=b9E hd
  simp only[b9L,b9K] at hf
  obtain⟨f2,f3,f4,f13,f14,f57,f58,f59,-⟩:=hf
  refine Xl.step ?_
  simp only[c5U]
  have c1:¬((i:Int) < (ds.length:Int)):=by omega
  rw[inV] at k1
  simp only[wA,seval,reduceCtorEq,reduceIte,f2,f3,f4,f13,f14,f57,f58,f59,c1]
  exact k1 sc rfl _ _ hg hm (by simp only[wQ,Nat.reduceEqDiff,reduceIte,f4,f13,f14])
 |cons x l ih =>
  intro i pu se sc fr sg hd hg hm hpu hse hs1 hs2 hf k1 k2
  obtain⟨hx,hr,hi⟩:=b9D hd
  simp only[b9L,b9K] at hf
  obtain⟨f2,f3,f4,f13,f14,f57,f58,f59,-⟩:=hf
  refine Xl.step ?_
  simp only[c5U]
  have c1:(i:Int) < (ds.length:Int):=by omega
  have hB20:B20=1100000:=rfl
  have hw1:=d7A hi (show ds.length≤281474976710656 by omega)
  have hxt:=hty x (g4Y hx)
  obtain⟨t1,t2⟩:=f3M hxt
  have hl2:1≤f2K x.ty.len∧f2K x.ty.len≤64:=by unfold f2K;split <;> omega
  obtain⟨n,hn⟩:∃ n:Nat,f2K x.ty.len=(n:Int):=⟨(f2K x.ty.len).toNat,by omega⟩
  have hmx:mxT true (.t (.int .i64 x.ty.len)) (.t (.int .i64 1))=some (.int .i64 (n:Int)):=by rw[←hn];rfl
  have hne:(!decide (x.ty.len=0))=decide (x.ty.len≠0):=by simp
  rw[f3W] at hs1 hs2
  rw[f6E] at k1 k2
  simp only[hn,g3K] at k1 k2 hs1 hs2
  have lm:=d6P hm
  have hbz:∀ b,fillP [PV.t (T.sl true []),.t (.bool false),.t (.int .i64 0)] [(1,1,PV.t (.bool b))]=some [PV.t (T.sl true []),.t (.bool b),.t (.int .i64 0)]:=fun b=>rfl
  have hbm:∀ b,mkAgg [PV.t (T.sl true []),.t (.bool b),.t (.int .i64 0)]=.t (.agg [.sl true [],.bool b,.int .i64 0]):=fun b=>rfl
  cases hpub:x.pub with
  |true =>
   rw[hpub] at k1 k2 hs1 hs2
   simp only[if_true] at k1 k2 hs1 hs2
   try simp only[reduceCtorEq,if_false] at hs1 hs2
   have hk:n≤pu.length:=by omega
   have hst:=f6C pu n hk
   have hsd:=f6D pu n hk
   have hlen:(pu.take n).length≤B20:=by rw[g4N];omega
   have hir:=fun K=>f6S (gl:=gl) (v:=⟨pu.take n,decide (x.ty.len≠0),0⟩) hlen (fun y hy=>hpu y (List.mem_of_mem_take hy)) (f5V hxt) (K:=K)
   have hmp:a1B 2 (T.str x.name) (T.agg [T.sl false (uL (pu.take n)),T.bool (decide (x.ty.len≠0)),T.int .i64 0]) (iV sc)=iV (f1Z x.name ⟨pu.take n,decide (x.ty.len≠0),0⟩ sc):=f5C (fun v=>T.agg (tV v)) x.name ⟨pu.take n,decide (x.ty.len≠0),0⟩ sc
   cases hin:inR (pu.take n) x.ty with
   |true =>
    rw[hin] at k1 k2
    simp only[reduceCtorEq,if_false] at k1 k2
    simp only[wA,seval,reduceCtorEq,reduceIte,f2,f3,f4,f13,f14,f57,f58,f59,c1,hw1,g3K,hi,g4B,hx,g5V,hpub,hmx,hne,hst,hsd,hbz,hbm,List.zip_nil_left,List.zip_cons_cons,a1K,a1J,hir,hin,a1E,d7D lm,hm,d6S,hmp]
    refine ih (i+1) _ _ _ _ _ hr ((hg.trans (Fr.of (.app _ _))).set _) (by rw[g4F (by rw[g4I];omega)]) (fun y hy=>hpu y (g4Z hy)) hse (by first|omega|(rw[g4K];omega)) (by first|omega|(rw[g4K];omega)) (by simp only[wQ,Nat.reduceEqDiff,reduceIte,f2,f3,f4,f13,f14,f57,f58];first|done|rfl) k1 k2
   |false =>
    rw[hin] at k1 k2
    simp only[if_true] at k1 k2
    simp only[wA,seval,reduceCtorEq,reduceIte,f2,f3,f4,f13,f14,f57,f58,f59,c1,hw1,g3K,hi,g4B,hx,g5V,hpub,hmx,hne,hst,hsd,hbz,hbm,List.zip_nil_left,List.zip_cons_cons,a1K,a1J,hir,hin]
    exact k2 trivial _ _ (by simp only[wQ,Nat.reduceEqDiff,reduceIte];first|done|exact⟨rfl,rfl⟩|rfl)
  |false =>
   rw[hpub] at k1 k2 hs1 hs2
   simp only[g3D,if_true,if_false] at k1 k2 hs1 hs2
   try simp only[reduceCtorEq,if_false] at hs1 hs2
   have hk:n≤se.length:=by omega
   have hst:=f6C se n hk
   have hsd:=f6D se n hk
   have hlen:(se.take n).length≤B20:=by rw[g4N];omega
   have hir:=fun K=>f6S (gl:=gl) (v:=⟨se.take n,decide (x.ty.len≠0),0⟩) hlen (fun y hy=>hse y (List.mem_of_mem_take hy)) (f5V hxt) (K:=K)
   have hmp:a1B 2 (T.str x.name) (T.agg [T.sl false (uL (se.take n)),T.bool (decide (x.ty.len≠0)),T.int .i64 0]) (iV sc)=iV (f1Z x.name ⟨se.take n,decide (x.ty.len≠0),0⟩ sc):=f5C (fun v=>T.agg (tV v)) x.name ⟨se.take n,decide (x.ty.len≠0),0⟩ sc
   cases hin:inR (se.take n) x.ty with
   |true =>
    rw[hin] at k1 k2
    simp only[reduceCtorEq,if_false] at k1 k2
    simp only[wA,seval,reduceCtorEq,reduceIte,f2,f3,f4,f13,f14,f57,f58,f59,c1,hw1,g3K,hi,g4B,hx,g5V,hpub,hmx,hne,hst,hsd,hbz,hbm,List.zip_nil_left,List.zip_cons_cons,a1K,a1J,hir,hin,a1E,d7D lm,hm,d6S,hmp]
    refine ih (i+1) _ _ _ _ _ hr ((hg.trans (Fr.of (.app _ _))).set _) (by rw[g4F (by rw[g4I];omega)]) hpu (fun y hy=>hse y (g4Z hy)) (by first|omega|(rw[g4K];omega)) (by first|omega|(rw[g4K];omega)) (by simp only[wQ,Nat.reduceEqDiff,reduceIte,f2,f3,f4,f13,f14,f57,f58];first|done|rfl) k1 k2
   |false =>
    rw[hin] at k1 k2
    simp only[if_true] at k1 k2
    simp only[wA,seval,reduceCtorEq,reduceIte,f2,f3,f4,f13,f14,f57,f58,f59,c1,hw1,g3K,hi,g4B,hx,g5V,hpub,hmx,hne,hst,hsd,hbz,hbm,List.zip_nil_left,List.zip_cons_cons,a1K,a1J,hir,hin]
    exact k2 trivial _ _ (by simp only[wQ,Nat.reduceEqDiff,reduceIte];first|done|exact⟨rfl,rfl⟩|rfl)
theorem g0G {p:Int} {fa:Fs}:f7L gl p fa [] fi0:=fun nm f h=>by cases h
theorem g0H {q:Pg} (hp:PgB q) (k:Int) {pu se:List Int} (l1:pu.length≤B20) (l2:se.length≤B20) (hpu:∀ x,x∈pu→0≤x) (hse:∀ x,x∈se→0≤x) {K:PV→Prop}:XcP F gl 49 [.agg (tPg q),.int .u64 k,.sl false (uL pu),.sl false (uL se)] K ⟨⟩↔K (.tup [.t (.bool (f2P (oF k) q k (known k) pu se).1),.t (.int .i64 (f2P (oF k) q k (known k) pu se).2)]):=by
 refine Ret.iff (Ret.of F49 rfl ?_)
 simp only[c5V]
 have hex:=fun K=>@ok78 gl q hp k K
 have hin:=fun K=>@ok13 gl q hp K
 have hb1:=fun K=>@ok79 gl pu l1 false k K
 have hb2:=fun K=>@ok79 gl se l2 false k K
 unfold f2P
 by_cases c0:f2O q k (known k)=0
 ·have c0':(f2O q k (known k)=0)=True:=g6D c0
  rw[if_neg (by simpa using c0)]
  by_cases c1:(pu.length:Int)=(d9P q).1
  ·have c1':((pu.length:Int)=(d9P q).1)=True:=g6D c1
   by_cases c2:(se.length:Int)=(d9P q).2
   ·have c2':((se.length:Int)=(d9P q).2)=True:=g6D c2
    cases c3:pu.all (fun n=>decide (n < k)) with
    |true =>
     rw[c3] at hb1
     cases c4:se.all (fun n=>decide (n < k)) with
     |true =>
      rw[c4] at hb2
      rw[if_neg (by rintro(h|h|h|h);exact h c1;exact h c2;cases h;cases h)]
      obtain⟨e1,e2,e3⟩:=exmV_zero.1 c0
      obtain⟨v0,v2,v3⟩:=exam_ok.1 e1
      obtain⟨g1,g2,g3⟩:=prog_ok.1 v2
      obtain⟨w1,w2,w3,w4,w5⟩:=valid_zero.1 v0
      have hfl:=hp.fl
      have hnr:=fun sg ow=>ok80 (gl:=gl) (p:=q) hfl k sg ow
      rw[f5F _ _ _ g1] at hnr
      have hdt:∀ d,d∈q.decls→tyB d.ty=true:=fun d hd=>by
       have:=g3L.1 w2 d hd
       unfold deB at this
       simp only[g3C] at this
       exact this.2
      have hfu:∀ f,f∈q.funcs→FuOk f∧fuB f=true∧f.params.length≤B20∧d4B f.body≤B20∧szE f.ret≤B20:=fun f hf=>⟨hp.ok.fo f hf,g3L.1 w1 f hf,hp.fs f hf⟩
      have hΦ:=f3V (f6Z e2) q.funcs fi0 [] 0 .nil (fun f hf=>⟨(hfu f hf).1,(hfu f hf).2.1⟩) g1
      have hR:=f7Z (gl:=gl) e2 (fa:=(d6C q.funcs [] 0).2.1) q.funcs fi0 [] 0 .nil g0G hfu g1 (fun _ _ h=>h)
      have hB20:B20=1100000:=rfl
      have hsum:=f3Y q.decls 0 0 hdt (Int.le_refl _) (Int.le_refl _) (by have:=hp.dl;omega) (by have:=hp.dl;omega)
      have hinp:d9P q=d9O q.decls 0 0:=by unfold d9P;rw[if_neg (by simpa using e1)]
      rw[hinp,hsum] at c1 c2
      simp only[Int.zero_add] at c1 c2
      have hst:∀ s,s∈q.body→StOk s∧stB s=true∧szS s≤B20:=fun s hs=>⟨hp.ok.bo s hs,g3L.1 w3 s hs,g5L (d4H hs) hp.bs⟩
      have hbl:q.body.length≤B20:=g5L (d4J _) hp.bs
      simp only[wA,seval,reduceCtorEq,reduceIte,hex,hin,hb1,hb2,c0',c1',c2',f4P,g4L]
      refine CallE.mono (hnr _ _) ?_
      rintro y sg1 ow1 ⟨rfl,hg1,rfl,hr1,hf1⟩
      have j4:=hg1.get (i:=0) (x:=(false,[PV.t (.sl q.fnl (q.funcs.map fun f=>tFu f)),.t (.sl q.dnl (q.decls.map fun d=>tDe d)),.t (.sl q.bnl (d3G q.body))])) rfl
      have m4:=d6P j4
      simp only[g4J,g4M] at hr1 hf1
      have lr:=d6P hr1
      have lf:=d6P hf1
      simp only[wA,seval,reduceCtorEq,reduceIte,hex,hin,hb1,hb2,c0',c1',c2',f4P,g4L,d7D m4,j4]
      have hrv:f2N (oF k) q pu se=match inV q.decls pu se [] with
       |none=>false
       |some sc=>!(f2H (oF k) (f2M (oF k) q.funcs fi0) q.body sc false).2:=rfl
      rw[hrv]
      have j4a:=b1U (r:=[(true,[])]) j4
      refine g0F (ds:=q.decls) (nl:=q.dnl) (r:=3) (b4:=0) (m:=sg1.length) (sg0:=sg1++[(true,[])]) hp.dl hdt _ q.decls 0 pu se [] _ _ rfl (Fr.refl _ _) (by simp [iV,d6Q]) hpu hse (by omega) (by omega) (by simp only[wQ,Nat.reduceEqDiff,reduceIte];first|done|exact⟨rfl,rfl⟩|rfl) ?_ ?_
      ·intro sc' hsc' fr' sg2 hg2 hm2 hf2
       simp only[b9L,b9K] at hf2
       obtain⟨f4,f13,f14,-⟩:=hf2
       have hr2:=hg2.get (b1U hr1) (by omega)
       have hf2:=hg2.get (b1U hf1) (by omega)
       have j42:=hg2.get j4a (by omega)
       have hsc:=f3Z q.decls pu se [] [] sc' _ hdt .nil g2 hpu hse (by omega) (by omega) hsc'
       have hx2:=fun ow=>f7W (gl:=gl) (nl:=q.bnl) e2 hΦ hR hbl hst _ _ sg2 3 2 sg1.length false sc' ow hr2 hf2 (by omega) hm2 (fun _=>hsc) g3
       rw[hsc']
       simp only[wA,seval,reduceCtorEq,reduceIte,f4,f13,f14,j42]
       refine CallE.mono (hx2 _) ?_
       rintro y sg3 ow3 ⟨rfl,hc3,hm3,hfr3⟩
       simp only[wA,seval,reduceCtorEq,reduceIte]
      ·intro hsc' fr' sg2 hf2
       simp only[b9L,b9K] at hf2
       obtain⟨f8,f9,-⟩:=hf2
       rw[hsc']
       simp only[wA,seval,reduceCtorEq,reduceIte,f8,f9]
     |false =>
      rw[c4] at hb2
      rw[if_pos (.inr (.inr (.inr rfl)))]
      simp only[wA,seval,reduceCtorEq,reduceIte,hex,hin,hb1,hb2,c0',c1',c2',f4P]
    |false =>
     rw[c3] at hb1
     rw[if_pos (.inr (.inr (.inl rfl)))]
     simp only[wA,seval,reduceCtorEq,reduceIte,hex,hin,hb1,c0',c1',c2',f4P]
   ·have c2':((se.length:Int)=(d9P q).2)=False:=g6C c2
    rw[if_pos (.inr (.inl c2))]
    simp only[wA,seval,reduceCtorEq,reduceIte,hex,hin,c0',c1',c2',f4P]
  ·have c1':((pu.length:Int)=(d9P q).1)=False:=g6C c1
   rw[if_pos (.inl c1)]
   simp only[wA,seval,reduceCtorEq,reduceIte,hex,hin,c0',c1',f4P]
 ·have c0':(f2O q k (known k)=0)=False:=g6C c0
  rw[if_pos c0]
  simp only[wA,seval,reduceCtorEq,reduceIte,hex,c0']
end Go.Proofs.YtdjcnfacjfnakaaGreat

/- Contracts: rounds of loops; small programs. -/
namespace Go.Proofs.YtdjcnfacjfnakaaGreat
open Go.Pi Go.Lx Go.Ky Go.Lib
variable {gl:Nat→Option (List T)}
theorem g0I (x:Int):mxT false (.t (.int .i64 x)) (.t (.int .i64 1000000))=some (.int .i64 (mn6 x)):=rfl
theorem g0J {ls:List St} {nl:Bool} (hls:ls.length≤B20) (hrec:∀ s,s∈ls→∀ (nl:Bool) (K:PV→Prop),XcP F gl 55 [.sl nl (d3G s.body)] K ⟨⟩↔K (.t (.int .i64 (rdM s.body 0)))) {sg:Sg} {ow:Ow} (Q:Ex→S→Prop):∀ (l:List St) (i:Nat) (n:Int) (fr:List PV),ls.drop i=l →
  b9J fr [(0,.t (.sl nl (d3G ls))),(3,.t (.int .i64 n)),(4,.t (.int .i64 i))] →
  (∀ fr',a0A fr' 3=.t (.int .i64 (rdM l n))→Q (.exit 0) ⟨fr',sg,ow⟩) →
  Xl F gl c5Z ⟨fr,sg,ow⟩ Q ⟨⟩:=by
 intro l
 induction l with
 |nil =>
  intro i n fr hd hf k1
  have hd:=b9E hd
  simp only[b9L,b9K] at hf
  obtain⟨f0,f3,f4,-⟩:=hf
  refine Xl.step ?_
  simp only[c5Z]
  have c1:¬((i:Int) < (ls.length:Int)):=by omega
  rw[rdM] at k1
  simp only[wA,seval,reduceCtorEq,reduceIte,f0,f3,f4,c1,d3J]
  exact k1 _ (by simp only[wQ,Nat.reduceEqDiff,reduceIte,f3])
 |cons x l ih =>
  intro i n fr hd hf k1
  obtain⟨hx,hr,hi⟩:=b9D hd
  simp only[b9L,b9K] at hf
  obtain⟨f0,f3,f4,-⟩:=hf
  refine Xl.step ?_
  simp only[c5Z]
  have c1:(i:Int) < (ls.length:Int):=by omega
  have hw1:=d7A hi (show ls.length≤281474976710656 by have:B20=1100000:=rfl;omega)
  have hm:=g4Y hx
  have hq:=fun nl K=>hrec x hm nl K
  rw[f6H,f6G] at k1
  by_cases h3:x.kind=3
  ·by_cases hlh:x.hi≤x.lo
   ·rw[if_pos (.inr hlh)] at k1
    simp only[wA,seval,reduceCtorEq,reduceIte,f0,f3,f4,c1,hw1,d3J,g3K,hi,d3K,hx,g5V,d3I,h3,hlh]
    exact ih (i+1) n _ hr (by simp only[wQ,Nat.reduceEqDiff,reduceIte,f0,f3];first|done|rfl) k1
   ·rw[if_neg (by rintro(h|h);exact h h3;exact hlh h)] at k1
    unfold tmV at k1
    by_cases ct:1000000 < IntKind.u64.wrap (IntKind.u64.wrap x.hi - IntKind.u64.wrap x.lo)
    ·rw[if_pos ct] at k1
     simp only[wA,seval,reduceCtorEq,reduceIte,f0,f3,f4,c1,hw1,d3J,g3K,hi,d3K,hx,g5V,d3I,h3,hlh,ct,hq,g0I]
     exact ih (i+1) _ _ hr (by simp only[wQ,Nat.reduceEqDiff,reduceIte,f0,f3];first|done|rfl) k1
    ·rw[if_neg ct] at k1
     simp only[wA,seval,reduceCtorEq,reduceIte,f0,f3,f4,c1,hw1,d3J,g3K,hi,d3K,hx,g5V,d3I,h3,hlh,ct,hq,g0I]
     exact ih (i+1) _ _ hr (by simp only[wQ,Nat.reduceEqDiff,reduceIte,f0,f3];first|done|rfl) k1
  ·rw[if_pos (.inl h3)] at k1
   simp only[wA,seval,reduceCtorEq,reduceIte,f0,f3,f4,c1,hw1,d3J,g3K,hi,d3K,hx,g5V,d3I,h3]
   exact ih (i+1) n _ hr (by simp only[wQ,Nat.reduceEqDiff,reduceIte,f0,f3];first|done|rfl) k1
theorem g0K {ls:List St} (hls:ls.length≤B20) (hrec:∀ s,s∈ls→∀ (nl:Bool) (K:PV→Prop),XcP F gl 55 [.sl nl (d3G s.body)] K ⟨⟩↔K (.t (.int .i64 (rdM s.body 0)))) (nl:Bool) (K:PV→Prop):XcP F gl 55 [.sl nl (d3G ls)] K ⟨⟩↔K (.t (.int .i64 (rdM ls 0))):=by
 refine Ret.iff (Ret.of F55 rfl ?_)
 simp only[c6A]
 simp only[wA,seval,reduceCtorEq,reduceIte]
 refine g0J (nl:=nl) hls hrec _ ls 0 0 _ rfl (by simp only[wQ,Nat.reduceEqDiff,reduceIte];first|done|exact⟨rfl,rfl⟩|rfl) ?_
 intro fr' f3
 simp only[wA,seval,reduceCtorEq,reduceIte,f3]
theorem g0L:∀ s,szS s≤B20→∀ (nl:Bool) (K:PV→Prop),XcP F gl 55 [.sl nl (d3G s.body)] K ⟨⟩↔K (.t (.int .i64 (rdM s.body 0))):=by
 refine St.ind fun s ih hsz=>?_
 have hb:=d8E hsz
 exact g0K hb.1 (fun x hx=>ih x hx (hb.2 x hx))
theorem ok55 {ls:List St} (h:d4B ls≤B20) (nl:Bool) {K:PV→Prop}:XcP F gl 55 [.sl nl (d3G ls)] K ⟨⟩↔K (.t (.int .i64 (rdM ls 0))) :=
 g0K (g5L (d4J _) h) (fun x hx=>g0L x (g5L (d4H hx) h)) nl K
theorem g0M {p:Pg} (hp:PgB p) {sg:Sg} (h0:sg[0]?=some (false,[PV.t (.sl p.fnl (p.funcs.map fun f=>tFu f)),.t (.sl p.dnl (p.decls.map fun d=>tDe d)),.t (.sl p.bnl (d3G p.body))])) {ow:Ow} (Q:Ex→S→Prop):∀ (l:List Fu) (i:Nat) (n:Int) (fr:List PV),p.funcs.drop i=l →
  b9J fr [(1,.lp 0 0),(3,.t (.int .i64 n)),(4,.t (.int .i64 i))] →
  (∀ fr',a0A fr' 3=.t (.int .i64 (rdG l n))→Q (.exit 0) ⟨fr',sg,ow⟩) →
  Xl F gl c4T ⟨fr,sg,ow⟩ Q ⟨⟩:=by
 intro l
 induction l with
 |nil =>
  intro i n fr hd hf k1
  have hd:=b9E hd
  simp only[b9L,b9K] at hf
  obtain⟨f1,f3,f4,-⟩:=hf
  refine Xl.step ?_
  simp only[c4T]
  have c1:¬((i:Int) < (p.funcs.length:Int)):=by omega
  rw[rdG] at k1
  simp only[wA,seval,reduceCtorEq,reduceIte,f1,f3,f4,c1,h0,g4L]
  exact k1 _ (by simp only[wQ,Nat.reduceEqDiff,reduceIte,f3])
 |cons x l ih =>
  intro i n fr hd hf k1
  obtain⟨hx,hr,hi⟩:=b9D hd
  simp only[b9L,b9K] at hf
  obtain⟨f1,f3,f4,-⟩:=hf
  refine Xl.step ?_
  simp only[c4T]
  have c1:(i:Int) < (p.funcs.length:Int):=by omega
  have hw1:=d7A hi (show p.funcs.length≤281474976710656 by have:B20=1100000:=rfl;have:=hp.fl;omega)
  have hq:=fun K=>ok55 (gl:=gl) (hp.fs x (g4Y hx)).2.1 x.bnl (K:=K)
  have hmx:∀ y:Int,mxT true (.t (.int .i64 n)) (.t (.int .i64 y))=some (.int .i64 (if y > n then y else n)):=fun y=>rfl
  rw[rdG] at k1
  simp only[wA,seval,reduceCtorEq,reduceIte,f1,f3,f4,c1,h0,hw1,g4L,g3K,hi,g4B,hx,g5V,hq,hmx]
  exact ih (i+1) _ _ hr (by simp only[wQ,Nat.reduceEqDiff,reduceIte,f1];first|done|rfl) k1
theorem ok23 {p:Pg} (hp:PgB p) {K:PV→Prop}:XcP F gl 23 [.agg (tPg p)] K ⟨⟩↔K (.t (.int .i64 (rdP p))):=by
 refine Ret.iff (Ret.of F23 rfl ?_)
 simp only[c4U]
 have hq:=fun K=>ok55 (gl:=gl) hp.bs p.bnl (K:=K)
 simp only[wA,seval,reduceCtorEq,reduceIte,hq]
 refine g0M hp rfl _ p.funcs 0 _ _ rfl (by simp only[wQ,Nat.reduceEqDiff,reduceIte];first|done|exact⟨rfl,rfl⟩|rfl) ?_
 intro fr' f3
 simp only[wA,seval,reduceCtorEq,reduceIte,f3,rdP]
def g0N (p:Pg):Bool:=d9N p&&decide ((e8Q p).steps≤600)&&decide (rdP p≤1000)
theorem PgB.q {p:Pg} (h:PgB p):PgQ p:=⟨h.ok,h.fl,h.dl,h.fs,h.bs⟩
theorem ok20 {p:Pg} (hp:PgB p) {K:PV→Prop}:XcP F gl 20 [.agg (tPg p)] K ⟨⟩↔K (.t (.bool (g0N p))):=by
 refine Ret.iff (Ret.of F20 rfl ?_)
 simp only[c4R]
 have h1:=fun K=>@ok10 gl p hp K
 have h2:=fun K=>@ok12 gl p hp.q K
 have h3:=fun K=>@ok23 gl p hp K
 unfold g0N
 cases c1:d9N p with
 |false =>
  rw[c1] at h1
  simp only[wA,seval,reduceCtorEq,reduceIte,h1]
  all_goals simp
 |true =>
  rw[c1] at h1
  by_cases c2:(e8Q p).steps≤600
  ·simp only[wA,seval,reduceCtorEq,reduceIte,h1,h2,h3,c2]
   all_goals simp
  ·simp only[wA,seval,reduceCtorEq,reduceIte,h1,h2,c2]
   all_goals simp
end Go.Proofs.YtdjcnfacjfnakaaGreat

/- Contracts: the law's helpers. -/
namespace Go.Proofs.YtdjcnfacjfnakaaGreat
open Go.Pi Go.Lx Go.Ky Go.Lib
variable {gl:Nat→Option (List T)}
theorem g0O {p:Pg} {l:List St} (hbl:p.body.length+l.length≤B20) (hl:l≠[]) (nl:Bool) {K:PV→Prop}:XcP F gl 18 [.agg (tPg p),.sl nl (d3G l)] K ⟨⟩↔K (.t (.agg (tPg (Ky.wb p (p.body++l))))):=by
 refine Ret.iff (Ret.of F18 rfl ?_)
 simp only[c4P]
 by_cases h0:p.body=[]
 ·have e1:∀ dr sg ow,a0V dr sg ow 13 152 (.lit []) (.t (.sl p.bnl (d3G p.body)))=some (.lit [],ow):=fun dr sg ow=>by rw[h0];rfl
  have e2:∀ dr sg ow,a0V dr sg ow 13 152 (.lit []) (.t (.sl nl (d3G l)))=some (.own ow.length 13 (d3G l),ow++[l.length]):=fun dr sg ow=>by
   rcases e0V dr sg ow nl l (by omega) with⟨h,_⟩|⟨_,h⟩
   ·exact absurd h hl
   ·exact h
  have hw:tPg (Ky.wb p (p.body++l))=[.sl p.fnl (p.funcs.map fun f=>tFu f),.sl p.dnl (p.decls.map fun d=>tDe d),.sl false (d3G l)]:=by rw[h0];rfl
  rw[hw]
  simp only[wA,seval,reduceCtorEq,reduceIte,f6K,e1,e2]
  all_goals rfl
 ·have e1:∀ dr sg ow,a0V dr sg ow 13 152 (.lit []) (.t (.sl p.bnl (d3G p.body)))=some (.own ow.length 13 (d3G p.body),ow++[p.body.length]):=fun dr sg ow=>by
   rcases e0V dr sg ow p.bnl p.body (by omega) with⟨h,_⟩|⟨_,h⟩
   ·exact absurd h h0
   ·exact h
  have e2:∀ dr sg,a0V dr sg [p.body.length] 13 152 (.own 0 13 (d3G p.body)) (.t (.sl nl (d3G l)))=some (.own 0 13 (d3G (p.body++l)),[p.body.length+l.length]):=fun dr sg=>f6J dr sg [p.body.length] 0 nl p.body l rfl hbl hl
  simp only[wA,seval,reduceCtorEq,reduceIte,f6K,e1,e2]
  all_goals rfl
def knownL:List Int:=[17,97,193,257,12289,65537,18446744069414584321]
theorem ok16 {K:PV→Prop}:XcP F gl 16 [] K ⟨⟩↔K (.t (.sl false (uL knownL))):=by
 refine Ret.iff (Ret.of F16 rfl ?_)
 simp only[c4N]
 simp only[wA,seval,reduceCtorEq,reduceIte,b6Q,a0C,a0M,T.isAgg,List.replicate,g3S,g3T,g3O]
 try rfl
def g0P (n:Int):Int:=knownL.getD (n.tmod 7).toNat 0
theorem ok26 {n:Int} (h0:0≤n) (h1:n≤255) {K:PV→Prop}:XcP F gl 26 [.int .u8 n] K ⟨⟩↔K (.t (.int .u64 (g0P n))):=by
 refine Ret.iff (Ret.of F26 rfl ?_)
 simp only[c4V]
 have hw:IntKind.i64.wrap n=n:=IntWalk.i64_in _ (by omega)
 have t0:0≤n.tmod 7:=Int.tmod_nonneg _ h0
 have t1:n.tmod 7 < 7:=Int.tmod_lt_of_pos _ (by decide)
 have hw2:IntKind.i64.wrap (n.tmod 7)=n.tmod 7:=IntWalk.i64_in _ (by omega)
 have hg:knownL[(n.tmod 7).toNat]?=some (g0P n):=by
  unfold g0P
  rw[List.getD_eq_getElem?_getD,g3Y (by show(n.tmod 7).toNat < 7;omega)];rfl
 have hl:n.tmod 7 < (knownL.length:Int):=t1
 have hl2:(n.tmod 7).toNat < knownL.length:=by show(n.tmod 7).toNat < 7;omega
 simp only[wA,seval,reduceCtorEq,reduceIte,ok16,hw,hw2,f4O,f4P,hg,hl,hl2,t0,g5V]
structure Cas where
 p:Pg
 k:Int
 q:Int
 pl:Bool
 pu:List Int
 sl:Bool
 se:List Int
abbrev g0Q (c:Cas):List T:=[.sl c.p.fnl (c.p.funcs.map fun f=>tFu f),.sl c.p.dnl (c.p.decls.map fun d=>tDe d),.sl c.p.bnl (d3G c.p.body),.int .u8 c.k,.int .u64 c.q,.sl c.pl (uL c.pu),.sl c.sl (uL c.se)]
structure CasOk (c:Cas):Prop where
 p:PgB c.p
 k0:0≤c.k
 k1:c.k≤255
 pl:c.pu.length≤B20
 sl:c.se.length≤B20
 pu:∀ x,x∈c.pu→0≤x
 se:∀ x,x∈c.se→0≤x
def prV (c:Cas):Int:=if c.k.tmod 8=0 then c.q else g0P (c.k.tmod 8)
theorem ok53 {c:Cas} (hc:CasOk c) {K:PV→Prop}:XcP F gl 53 [.agg (g0Q c)] K ⟨⟩↔K (.t (.int .u64 (prV c))):=by
 refine Ret.iff (Ret.of F53 rfl ?_)
 simp only[c5Y]
 have h0:=hc.k0
 have h1:=hc.k1
 have t0:0≤c.k.tmod 8:=Int.tmod_nonneg _ h0
 have t1:c.k.tmod 8 < 8:=Int.tmod_lt_of_pos _ (by decide)
 have hw:IntKind.u8.wrap (c.k.tmod 8)=c.k.tmod 8:=by rw[show IntKind.u8.wrap (c.k.tmod 8)=(c.k.tmod 8) % 256 from rfl];omega
 have hp:=fun K=>ok26 (gl:=gl) t0 (by omega) (K:=K)
 unfold prV
 by_cases h:c.k.tmod 8=0
 ·rw[if_pos h]
  simp only[wA,seval,reduceCtorEq,reduceIte,hw,h]
 ·rw[if_neg h]
  simp only[wA,seval,reduceCtorEq,reduceIte,hw,h,hp]
def hoV (c:Cas) (q:Pg):Bool×Int:=f2P (oF (prV c)) q (prV c) (known (prV c)) c.pu c.se
theorem g0R {c:Cas} (hc:CasOk c) {q:Pg} (hq:PgB q) {K:PV→Prop}:XcP F gl 21 [.agg (g0Q c),.agg (tPg q)] K ⟨⟩↔K (.tup [.t (.bool (hoV c q).1),.t (.int .i64 (hoV c q).2)]):=by
 refine Ret.iff (Ret.of F21 rfl ?_)
 simp only[c4S]
 have hpr:=fun K=>@ok53 gl c hc K
 have hho:=fun K=>g0H (gl:=gl) hq (prV c) hc.pl hc.sl hc.pu hc.se (K:=K)
 by_cases h1:c.pu=[]
 ·have e1:∀ dr sg ow,a0V dr sg ow 1 8 (.lit []) (.t (.sl c.pl (uL c.pu)))=some (.lit [],ow):=fun dr sg ow=>by rw[h1];rfl
  by_cases h2:c.se=[]
  ·have e2:∀ dr sg ow,a0V dr sg ow 1 8 (.lit []) (.t (.sl c.sl (uL c.se)))=some (.lit [],ow):=fun dr sg ow=>by rw[h2];rfl
   rw[h1,h2] at hho
   replace hho:=fun K=>(show XcP F gl 49 [.agg (tPg q),.int .u64 (prV c),.sl false [],.sl false []] K ⟨⟩↔_ from hho K)
   simp only[wA,seval,reduceCtorEq,reduceIte,f6L,e1,e2,hpr,hho]
   all_goals (unfold hoV;rw[h1,h2])
  ·have e2:=fun dr sg ow=>f6I dr sg ow c.sl c.se hc.sl h2
   rw[h1] at hho
   replace hho:=fun K=>(show XcP F gl 49 [.agg (tPg q),.int .u64 (prV c),.sl false [],.sl false (uL c.se)] K ⟨⟩↔_ from hho K)
   simp only[wA,seval,reduceCtorEq,reduceIte,f6L,e1,e2,hpr,hho]
   all_goals (unfold hoV;rw[h1])
 ·have e1:=fun dr sg ow=>f6I dr sg ow c.pl c.pu hc.pl h1
  by_cases h2:c.se=[]
  ·have e2:∀ dr sg ow,a0V dr sg ow 1 8 (.lit []) (.t (.sl c.sl (uL c.se)))=some (.lit [],ow):=fun dr sg ow=>by rw[h2];rfl
   rw[h2] at hho
   replace hho:=fun K=>(show XcP F gl 49 [.agg (tPg q),.int .u64 (prV c),.sl false (uL c.pu),.sl false []] K ⟨⟩↔_ from hho K)
   simp only[wA,seval,reduceCtorEq,reduceIte,f6L,e1,e2,hpr,hho]
   all_goals (unfold hoV;rw[h2])
  ·have e2:=fun dr sg ow=>f6I dr sg ow c.sl c.se hc.sl h2
   simp only[wA,seval,reduceCtorEq,reduceIte,f6L,e1,e2,hpr,hho]
   all_goals (unfold hoV;rfl)
end Go.Proofs.YtdjcnfacjfnakaaGreat
