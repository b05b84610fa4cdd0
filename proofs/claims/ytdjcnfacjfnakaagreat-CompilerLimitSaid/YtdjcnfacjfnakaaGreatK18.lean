/- Contracts: statements. -/
import Derived.Test.YtdjcnfacjfnakaaGreatK13
import Derived.Test.YtdjcnfacjfnakaaGreatKx19
import Derived.Test.YtdjcnfacjfnakaaGreatKx19
import Derived.Test.YtdjcnfacjfnakaaGreatKx19
set_option maxRecDepth 10000
set_option linter.unusedVariables false
set_option linter.unusedSimpArgs false
namespace Go.Proofs.YtdjcnfacjfnakaaGreat
open Go.Pi Go.Lx Go.Ky Go.Lib
variable {gl:Nat→Option (List T)}
def e1T (gl:Nat→Option (List T)) (fs:Fs) (s:St):Prop :=
 ∀ (sg:Sg) (c f n:Nat) (ns:Ns) (od:PV) (w:Int) (ow:Ow),Cs sg c f n fs ns od w→ns.length+szS s≤2 * B20→CallE F gl 149 [.lp c 0,.t (.agg (tSt s))] sg ow fun v sg' ow'=>d6F c f n fs od sg (stM fs s ns w) v sg'
theorem e1U {fs:Fs} {ls:List St} {nl:Bool} (hls:ls.length≤B20) (hrec:∀ s,s∈ls→e1T gl fs s) {c f n:Nat} {m:Nat} {od0:PV} {sg0:Sg} (Q:Ex→S→Prop):∀ (l:List St) (i:Nat) (ns:Ns) (od:PV) (w:Int) (fr:List PV) (sg:Sg) (ow:Ow),ls.drop i=l→Cs sg c f n fs ns od w→Fq c n od0 od sg0 sg→ns.length+d2K l≤2 * B20 →
  b9P fr [(0,.lp c 0),(5,.t (.int .i64 m)),(14,.t (.sl nl (d2C ls))),(15,.t (.int .i64 ls.length)),(16,.t (.int .i64 i))] →
  ((d4G fs l ns w).1=0→∀ fr' sg' ow' od',Cs sg' c f n fs (d4G fs l ns w).2.1 od' (d4G fs l ns w).2.2→Fq c n od0 od' sg0 sg'→b9P fr' [(0,.lp c 0),(5,.t (.int .i64 m))]→Q (.exit 0) ⟨fr',sg',ow'⟩) →
  ((d4G fs l ns w).1≠0→∀ fr' sg' ow',a0A fr' 4=.t (.int .i64 (d4G fs l ns w).1)→Q .ret ⟨fr',sg',ow'⟩) →
  Xl F gl c6S ⟨fr,sg,ow⟩ Q ⟨⟩:=by
 intro l
 induction l with
 |nil =>
  intro i ns od w fr sg ow hd hk hq hsz hf k1 k2
  have hd:=b9K hd
  simp only[b9R,b9Q] at hf
  obtain⟨f0,f5,f14,f15,f16,-⟩:=hf
  refine Xl.step ?_
  simp only[c6S]
  have c1:¬((i:Int) < (ls.length:Int)):=by omega
  have hem:d4G fs [] ns w=(0,ns,w):=by rw[d4G]
  rw[hem] at k1
  simp only[wA,seval,reduceCtorEq,reduceIte,f0,f5,f14,f15,f16,c1]
  exact k1 rfl _ _ _ od hk hq (by simp only[wQ,Nat.reduceEqDiff,reduceIte,f0,f5])
 |cons x l ih =>
  intro i ns od w fr sg ow hd hk hq hsz hf k1 k2
  obtain⟨hx,hr,hi⟩:=b9J hd
  simp only[b9R,b9Q] at hf
  obtain⟨f0,f5,f14,f15,f16,-⟩:=hf
  refine Xl.step ?_
  simp only[c6S]
  have c1:(i:Int) < (ls.length:Int):=by omega
  have hw1:=d5J hi (show ls.length≤281474976710656 by have:B20=1100000:=rfl;omega)
  rw[d6K] at k1 k2
  rw[d2O] at hsz
  have hs:=fun r=>hrec x (g4K hx) (sg++r) c f n ns od w ow (hk.grow (.app _ _)) (by omega)
  simp only[d2E] at hs
  simp only[wA,seval,reduceCtorEq,reduceIte,f0,f5,f14,f15,f16,c1,hw1,g2X,hi,d2G,hx,g5F,d2E]
  refine CallE.mono (hs _) ?_
  rintro v sg' ow' ⟨rfl,hp⟩
  by_cases he:(stM fs x ns w).1=0
  ·obtain⟨od',hk',hq'⟩:=hp he
   rw[if_neg (by simpa using he)] at k1 k2
   simp only[wA,seval,reduceCtorEq,reduceIte,f0,f5,f14,f15,f16,hw1,he]
   obtain⟨r,hr1,hr2⟩:=d6J fs x ns w he
   have hsx:1≤szS x:=by rw[d2N];omega
   refine ih (i+1) _ od' _ _ _ _ hr hk' (hq.trans ((Fq.of (Fr.of (.app _ _))).trans hq')) (by rw[hr1,g3V];omega) (by simp only[wQ,Nat.reduceEqDiff,reduceIte,f0,f5,f14,f15]) k1 k2
  ·rw[if_pos (by simpa using he)] at k1 k2
   simp only[wA,seval,reduceCtorEq,reduceIte,f0,f5,f14,f15,f16,he]
   exact k2 he _ _ _ (by simp only[wQ,Nat.reduceEqDiff,reduceIte])
theorem e1V {fs:Fs} {ls:List St} {nl:Bool} (hls:ls.length≤B20) (hrec:∀ s,s∈ls→e1T gl fs s) {c f n:Nat} {ns:Ns} {od:PV} {w:Int} {sg:Sg} (hk:Cs sg c f n fs ns od w) (hsz:ns.length+d2K ls≤2 * B20) (ow:Ow) :
  CallE F gl 106 [.lp c 0,.t (.sl nl (d2C ls))] sg ow fun v sg' ow'=>d6F c f n fs od sg (d4H fs ls ns w) v sg':=by
 refine XcE.of F106 rfl ?_
 simp only[c6T]
 have hc:=hk.ck.c
 have hol:=hk.od.len
 have hb:B20=1100000:=rfl
 have hb2:B47=140737488355328:=rfl
 rw[d6M]
 have hn0:ns.length≤2 * B20:=by omega
 rcases hk.od.2 with⟨rfl,rfl⟩|⟨oid,cs,rfl,o1,o2,o3⟩
 ·simp only[wA,seval,reduceCtorEq,reduceIte,hc,d2F,g3Y]
  refine e1U hls hrec (m:=0) (od0:=(.t (.sl true []))) (sg0:=sg) _ ls 0 [] (.t (.sl true [])) w _ _ _ rfl hk (Fq.refl _ _ _ _) hsz (by simp only[wQ,Nat.reduceEqDiff,reduceIte,g3Y];first|done|exact⟨rfl,rfl⟩|rfl) ?_ ?_
  ·intro h0 fr' sg' ow' od' hk' hq' hf
   rw[if_neg (by simpa using h0)]
   simp only[b9R,b9Q] at hf
   obtain⟨f0,f5,-⟩:=hf
   obtain⟨r,hr1,hr2⟩:=d6L fs ls [] w h0
   rw[hr1] at hk'
   simp only[wA,seval,reduceCtorEq,reduceIte,f0,f5]
   refine CallE.mono (e1S hk' (by rw[g3V];have:=@List.length_nil (Nm×Sy);omega) (m:=0) (by rw[g3V];have:=@List.length_nil (Nm×Sy);omega) ow') ?_
   rintro v2 sg2 ow2 ⟨od2,hk2,hq2⟩
   rw[List.take_zero] at hk2
   simp only[wA,seval,reduceCtorEq,reduceIte,f0,f5]
   exact⟨rfl,fun _=>⟨od2,hk2,hq'.trans hq2⟩⟩
  ·intro h0 fr' sg' ow' f4
   rw[if_pos (by simpa using h0)]
   simp only[wA,seval,reduceCtorEq,reduceIte,f4]
   exact⟨rfl,fun e=>absurd e h0⟩
 ·simp only[wA,seval,reduceCtorEq,reduceIte,hc,d2F,g3Y]
  refine e1U hls hrec (m:=ns.length) (od0:=(.bf oid ns.length 1)) (sg0:=sg) _ ls 0 ns (.bf oid ns.length 1) w _ _ _ rfl hk (Fq.refl _ _ _ _) hsz (by simp only[wQ,Nat.reduceEqDiff,reduceIte,g3Y];first|done|exact⟨rfl,rfl⟩|rfl) ?_ ?_
  ·intro h0 fr' sg' ow' od' hk' hq' hf
   rw[if_neg (by simpa using h0)]
   simp only[b9R,b9Q] at hf
   obtain⟨f0,f5,-⟩:=hf
   obtain⟨r,hr1,hr2⟩:=d6L fs ls ns w h0
   rw[hr1] at hk'
   simp only[wA,seval,reduceCtorEq,reduceIte,f0,f5]
   refine CallE.mono (e1S hk' (by rw[g3V];have:=hn0;omega) (m:=ns.length) (by rw[g3V];have:=hn0;omega) ow') ?_
   rintro v2 sg2 ow2 ⟨od2,hk2,hq2⟩
   rw[List.take_left] at hk2
   simp only[wA,seval,reduceCtorEq,reduceIte,f0,f5]
   exact⟨rfl,fun _=>⟨od2,hk2,hq'.trans hq2⟩⟩
  ·intro h0 fr' sg' ow' f4
   rw[if_pos (by simpa using h0)]
   simp only[wA,seval,reduceCtorEq,reduceIte,f4]
   exact⟨rfl,fun e=>absurd e h0⟩
theorem e1W {fs:Fs} {s:St} (h3:s.kind=3) (hsz0:szS s≤B20) (hrec:∀ b,b∈s.body→e1T gl fs b) {c f n:Nat} {ns:Ns} {od:PV} {w:Int} {sg:Sg} (hk:Cs sg c f n fs ns od w) (hsz:ns.length+szS s≤2 * B20) (ow:Ow) :
  CallE F gl 185 [.lp c 0,.t (.agg (tSt s))] sg ow fun v sg' ow'=>d6F c f n fs od sg (stM fs s ns w) v sg':=by
 refine XcE.of F185 rfl ?_
 simp only[c9V]
 have hcl:=d4Y hk.ck.c
 have hc:=hk.ck.c
 have hb:B20=1100000:=rfl
 have hb2:B47=140737488355328:=rfl
 have hsz2:=hsz0
 rw[d2N] at hsz hsz2
 have hbl:s.body.length≤B20:=by have:=d2S s.body;omega
 by_cases hlh:s.lo > s.hi
 ·rw[d6N h3,if_pos hlh]
  simp only[wA,seval,reduceCtorEq,reduceIte,d2E,hlh]
  exact⟨rfl,fun h=>by cases h⟩
 have hdec:=fun r o=>e1P (gl:=gl) (hk.grow (.app sg r)) s.name ⟨d1V,true,s.lo,s.hi⟩ (by omega) o
 rcases hk.od.2 with⟨rfl,rfl⟩|⟨oid,cs,rfl,o1,o2,o3⟩
 ·simp only[wA,seval,reduceCtorEq,reduceIte,d2E,hlh,d5M hcl,hc,e0W,g3Y]
  refine CallE.mono (hdec _ _) ?_
  rintro v sg1 ow1 ⟨rfl,hp1⟩
  by_cases hd:(d4E s.name ⟨d1V,true,s.lo,s.hi⟩ [] w).1=0
  ·obtain⟨od1,hk1,hq1⟩:=hp1 hd
   have hqe:=d6I hd
   rw[hqe] at hk1
   have j3:=hq1.get (i:=sg.length) (v:=(false,[.t (.int .i64 s.kind),.t (.str s.name),.t (.bool s.typed),.t (.int .i64 s.ty.kind),.t (.int .i64 s.ty.bits),.t (.int .i64 s.ty.len),.t (.int .i64 s.ex.op),.t (.int .u64 s.ex.val),.t (.str s.ex.name),.t (.sl s.ex.nl (d1X s.ex.args)),.t (.int .i64 s.lo),.t (.int .i64 s.hi),.t (.sl s.nl (d2C s.body))])) (by simp) (by omega) (by have:=d4Y hk.ck.n;omega) (hk.notB2 (g4U _))
   simp only[wA,seval,reduceCtorEq,reduceIte,j3,g3Y,hd]
   refine CallE.mono (e1V hbl hrec hk1 (by simp only[g3V,g3W,g3Y];simp only[g3Y] at hsz;omega) _) ?_
   rintro v sg2 ow2 ⟨rfl,hp2⟩
   by_cases hb0:(d4G fs s.body ([]++[(s.name,⟨d1V,true,s.lo,s.hi⟩)]) w).1=0
   ·have hM:stM fs s [] w=(0,[],(d4G fs s.body ([]++[(s.name,⟨d1V,true,s.lo,s.hi⟩)]) w).2.2):=by
     rw[d6N h3,if_neg hlh,if_neg (by simpa using hd),hqe,if_neg (by simpa using hb0)]
    rw[hM]
    have hB:d4H fs s.body ([]++[(s.name,⟨d1V,true,s.lo,s.hi⟩)]) w=(0,[]++[(s.name,⟨d1V,true,s.lo,s.hi⟩)],(d4G fs s.body ([]++[(s.name,⟨d1V,true,s.lo,s.hi⟩)]) w).2.2):=by
     rw[d6M,if_neg (by simpa using hb0)]
    rw[hB] at hp2 ⊢
    obtain⟨od2,hk2,hq2⟩:=hp2 rfl
    simp only[wA,seval,reduceCtorEq,reduceIte,hb0]
    refine CallE.mono (e1S hk2 (m:=0) (by simp only[g3V,g3W,g3Y];simp only[g3Y] at hsz;omega) (by simp) ow2) ?_
    rintro v sg3 ow3 ⟨od3,hk3,hq3⟩
    rw[List.take_zero] at hk3
    simp only[wA,seval,reduceCtorEq,reduceIte]
    exact⟨rfl,fun _=>⟨od3,hk3,((Fq.of (Fr.of (.app _ _))).trans hq1).trans (hq2.trans hq3)⟩⟩
   ·have hM:stM fs s [] w=d4G fs s.body ([]++[(s.name,⟨d1V,true,s.lo,s.hi⟩)]) w:=by
     rw[d6N h3,if_neg hlh,if_neg (by simpa using hd),hqe,if_pos (by simpa using hb0)]
    rw[hM]
    have hB:d4H fs s.body ([]++[(s.name,⟨d1V,true,s.lo,s.hi⟩)]) w=d4G fs s.body ([]++[(s.name,⟨d1V,true,s.lo,s.hi⟩)]) w:=by
     rw[d6M,if_pos (by simpa using hb0)]
    rw[hB]
    generalize d4G fs s.body ([]++[(s.name,⟨d1V,true,s.lo,s.hi⟩)]) w=qq at hb0 ⊢
    simp only[wA,seval,reduceCtorEq,reduceIte,hb0]
    exact⟨rfl,fun e=>absurd e hb0⟩
  ·have hM:stM fs s [] w=d4E s.name ⟨d1V,true,s.lo,s.hi⟩ [] w:=by
    rw[d6N h3,if_neg hlh,if_pos (by simpa using hd)]
   rw[hM]
   simp only[wA,seval,reduceCtorEq,reduceIte,hd]
   exact⟨rfl,fun e=>absurd e hd⟩
 ·simp only[wA,seval,reduceCtorEq,reduceIte,d2E,hlh,d5M hcl,hc,e0W,g3Y]
  refine CallE.mono (hdec _ _) ?_
  rintro v sg1 ow1 ⟨rfl,hp1⟩
  by_cases hd:(d4E s.name ⟨d1V,true,s.lo,s.hi⟩ ns w).1=0
  ·obtain⟨od1,hk1,hq1⟩:=hp1 hd
   have hqe:=d6I hd
   rw[hqe] at hk1
   have j3:=hq1.get (i:=sg.length) (v:=(false,[.t (.int .i64 s.kind),.t (.str s.name),.t (.bool s.typed),.t (.int .i64 s.ty.kind),.t (.int .i64 s.ty.bits),.t (.int .i64 s.ty.len),.t (.int .i64 s.ex.op),.t (.int .u64 s.ex.val),.t (.str s.ex.name),.t (.sl s.ex.nl (d1X s.ex.args)),.t (.int .i64 s.lo),.t (.int .i64 s.hi),.t (.sl s.nl (d2C s.body))])) (by simp) (by omega) (by have:=d4Y hk.ck.n;omega) (hk.notB2 (g4U _))
   simp only[wA,seval,reduceCtorEq,reduceIte,j3,g3Y,hd]
   refine CallE.mono (e1V hbl hrec hk1 (by simp only[g3V,g3W,g3Y];omega) _) ?_
   rintro v sg2 ow2 ⟨rfl,hp2⟩
   by_cases hb0:(d4G fs s.body (ns++[(s.name,⟨d1V,true,s.lo,s.hi⟩)]) w).1=0
   ·have hM:stM fs s ns w=(0,ns,(d4G fs s.body (ns++[(s.name,⟨d1V,true,s.lo,s.hi⟩)]) w).2.2):=by
     rw[d6N h3,if_neg hlh,if_neg (by simpa using hd),hqe,if_neg (by simpa using hb0)]
    rw[hM]
    have hB:d4H fs s.body (ns++[(s.name,⟨d1V,true,s.lo,s.hi⟩)]) w=(0,ns++[(s.name,⟨d1V,true,s.lo,s.hi⟩)],(d4G fs s.body (ns++[(s.name,⟨d1V,true,s.lo,s.hi⟩)]) w).2.2):=by
     rw[d6M,if_neg (by simpa using hb0)]
    rw[hB] at hp2 ⊢
    obtain⟨od2,hk2,hq2⟩:=hp2 rfl
    simp only[wA,seval,reduceCtorEq,reduceIte,hb0]
    refine CallE.mono (e1S hk2 (m:=ns.length) (by simp only[g3V,g3W,g3Y];omega) (by simp) ow2) ?_
    rintro v sg3 ow3 ⟨od3,hk3,hq3⟩
    rw[List.take_left] at hk3
    simp only[wA,seval,reduceCtorEq,reduceIte]
    exact⟨rfl,fun _=>⟨od3,hk3,((Fq.of (Fr.of (.app _ _))).trans hq1).trans (hq2.trans hq3)⟩⟩
   ·have hM:stM fs s ns w=d4G fs s.body (ns++[(s.name,⟨d1V,true,s.lo,s.hi⟩)]) w:=by
     rw[d6N h3,if_neg hlh,if_neg (by simpa using hd),hqe,if_pos (by simpa using hb0)]
    rw[hM]
    have hB:d4H fs s.body (ns++[(s.name,⟨d1V,true,s.lo,s.hi⟩)]) w=d4G fs s.body (ns++[(s.name,⟨d1V,true,s.lo,s.hi⟩)]) w:=by
     rw[d6M,if_pos (by simpa using hb0)]
    rw[hB]
    generalize d4G fs s.body (ns++[(s.name,⟨d1V,true,s.lo,s.hi⟩)]) w=qq at hb0 ⊢
    simp only[wA,seval,reduceCtorEq,reduceIte,hb0]
    exact⟨rfl,fun e=>absurd e hb0⟩
  ·have hM:stM fs s ns w=d4E s.name ⟨d1V,true,s.lo,s.hi⟩ ns w:=by
    rw[d6N h3,if_neg hlh,if_pos (by simpa using hd)]
   rw[hM]
   simp only[wA,seval,reduceCtorEq,reduceIte,hd]
   exact⟨rfl,fun e=>absurd e hd⟩
theorem e1X {fs:Fs}:∀ s,StOk s→stB s=true→szS s≤B20→e1T gl fs s:=by
 refine St.ind fun s ih hok hB hsz0=>?_
 intro sg c f n ns od w ow hk hsz
 refine XcE.of F149 rfl ?_
 simp only[c8J]
 have hcl:=d4Y hk.ck.c
 have hb:B20=1100000:=rfl
 have hb2:B47=140737488355328:=rfl
 by_cases h3:s.kind=3
 ·have hrec:∀ b,b∈s.body→e1T gl fs b:=fun b hb=>ih b hb (d6T hok b hb) (d6R hB h3 b hb) ((d6P hsz0).2 b hb)
  have hq:=fun r=>e1W (gl:=gl) h3 hsz0 hrec (hk.grow (.app sg r)) hsz ow
  simp only[d2E,h3] at hq
  simp only[wA,seval,reduceCtorEq,reduceIte,d2E,h3]
  refine CallE.mono (hq _) ?_
  rintro v sg1 ow1 ⟨rfl,hp⟩
  simp only[wA,seval,reduceCtorEq,reduceIte]
  exact⟨rfl,fun e=>by obtain⟨od',h1,h2⟩:=hp e;exact⟨od',h1,(Fq.of (Fr.of (.app _ _))).trans h2⟩⟩
 have hex:=fun r=>e1O (gl:=gl) (fs:=fs) (ns:=ns) s.ex (d6S hok) (g4V (d2T s) hsz0) (d6Q hB h3) (sg++r) c f n od w ow (hk.ck.grow (.app _ _))
 simp only[d1Z] at hex
 simp only[wA,seval,reduceCtorEq,reduceIte,d2E,h3]
 refine CallE.mono (hex _) ?_
 rintro v sg1 ow1 ⟨rfl,hc1,hfr1⟩
 have hF:Fr c sg sg1:=(Fr.of (.app _ _)).trans hfr1
 have hk1:=hk.fr hF hc1
 have j3:=hfr1.get (i:=sg.length) (x:=(false,[.t (.int .i64 s.kind),.t (.str s.name),.t (.bool s.typed),.t (.int .i64 s.ty.kind),.t (.int .i64 s.ty.bits),.t (.int .i64 s.ty.len),.t (.int .i64 s.ex.op),.t (.int .u64 s.ex.val),.t (.str s.ex.name),.t (.sl s.ex.nl (d1X s.ex.args)),.t (.int .i64 s.lo),.t (.int .i64 s.hi),.t (.sl s.nl (d2C s.body))])) (by simp) (by omega)
 have m3:=d4Y j3
 rw[d6O h3]
 generalize exM fs ns s.ex w=q at *
 obtain⟨⟨t,er⟩,w1⟩:=q
 simp only at hc1 hk1 ⊢
 by_cases he:er=0
 ·subst he
  rw[if_neg (by simp)]
  by_cases h2:s.kind=2
  ·rw[if_pos h2]
   simp only[wA,seval,reduceCtorEq,reduceIte,h2,d5M m3,j3,e0W]
   repeat' ((with_reducible first|refine c4A ?_ ?_|refine c4B ?_ ?_|refine c3Z ?_ ?_|refine c3Y ?_ ?_|refine c3W ?_ ?_|refine c3X ?_ ?_|refine c3V ?_ ?_|refine c3U ?_ ?_) <;> intro h <;> (try simp only[wA,seval,reduceCtorEq,reduceIte,h2,d5M m3,j3,e0W,h]))
   ·rw[d5G] at h
    rw[if_neg (fun e=>e (g5N h))]
    exact⟨rfl,fun _=>⟨od,hk1.grow (.app _ _),Fq.of (hF.app _)⟩⟩
   ·rw[d5G] at h
    rw[if_pos (show t≠d1W from g5M h)]
    exact⟨rfl,fun e=>by cases e⟩
  ·rw[if_neg h2]
   cases hty:s.typed with
   |false =>
    have hdec:=fun r=>e1P (gl:=gl) (hk1.grow (.app sg1 r)) s.name ⟨t,false,0,0⟩ (by omega) ow1
    rw[if_neg (by simp)]
    simp only[wA,seval,reduceCtorEq,reduceIte,h2,d5M m3,j3,hty]
    refine CallE.mono (hdec _) ?_
    rintro v sg2 ow2 ⟨rfl,hp⟩
    simp only[wA,seval,reduceCtorEq,reduceIte]
    exact⟨rfl,fun e=>by obtain⟨od',x1,x2⟩:=hp e;exact⟨od',x1,(Fq.of (hF.app _)).trans x2⟩⟩
   |true =>
    rw[if_pos rfl]
    by_cases tl:s.ty.len=0
    ·have tl':(s.ty.len=0)=True:=eq_true tl
     by_cases t0:t.len=0
     ·have hnt:=fun r=>e1Q (gl:=gl) (hk1.ck.grow (.app sg1 r)) s.ty ow1
      have t0':(t.len=0)=True:=eq_true t0
      rw[if_neg (by simp [tl,t0])]
      simp only[wA,seval,reduceCtorEq,reduceIte,h2,d5M m3,j3,hty,tl',t0',e0Y]
      refine CallE.mono (hnt _) ?_
      rintro v sg2 ow2 ⟨hc2,hfr2⟩
      have hF2:Fr c sg sg2:=hF.trans ((Fr.of (.app _ _)).trans hfr2)
      have hk2:=hk.fr hF2 hc2
      have k3:=hfr2.get (i:=sg.length) (x:=(false,[.t (.int .i64 s.kind),.t (.str s.name),.t (.bool true),.t (.int .i64 s.ty.kind),.t (.int .i64 s.ty.bits),.t (.int .i64 s.ty.len),.t (.int .i64 s.ex.op),.t (.int .u64 s.ex.val),.t (.str s.ex.name),.t (.sl s.ex.nl (d1X s.ex.args)),.t (.int .i64 s.lo),.t (.int .i64 s.hi),.t (.sl s.nl (d2C s.body))])) (by rw[d5M m3];exact hty ▸ j3) (by omega)
      have k5:=hfr2.get (i:=sg1.length) (x:=(false,cTy t)) (by simp) (by have:=d4Y hc1;omega)
      have mc2:=d4Y hc2
      have hse:∀ x,Fr c sg (sg2.set sg1.length x):=fun x=>Fr2.fr (a:=sg1.length) (Fr.refl c sg) ((Fr2.of hF2).set _) hF.1
      have hk3:∀ x,Cs (sg2.set sg1.length x) c f n fs ns od (d4F s.ty w1):=fun x=>hk.fr (hse x) (by rw[g3R (by have:=d4Y hc1;omega)];exact hc2)
      have hdec:=fun x=>e1P (gl:=gl) (hk3 x) s.name ⟨s.ty,false,0,0⟩ (by omega) ow2
      have e3:∀ x,(sg2.set sg1.length x)[sg.length]?=sg2[sg.length]?:=fun x=>g3R (by have:=d4Y j3;omega)
      simp only[wA,seval,reduceCtorEq,reduceIte,k3,k5,d4X k5,e3]
      refine CallE.mono (hdec _) ?_
      rintro v sg3 ow3 ⟨rfl,hp⟩
      simp only[wA,seval,reduceCtorEq,reduceIte]
      exact⟨rfl,fun e=>by obtain⟨od',x1,x2⟩:=hp e;exact⟨od',x1,(Fq.of (hse _)).trans x2⟩⟩
     ·have t0':(t.len=0)=False:=eq_false t0
      rw[if_pos (by simp [tl,t0])]
      simp only[wA,seval,reduceCtorEq,reduceIte,h2,d5M m3,j3,hty,tl',t0',e0Y]
      exact⟨rfl,fun e=>by cases e⟩
    ·cases hfi:d3O t s.ty with
     |true =>
      have hnt:=fun r=>e1Q (gl:=gl) (hk1.ck.grow (.app sg1 r)) s.ty ow1
      rw[if_neg (by simp [tl,hfi])]
      simp only[wA,seval,reduceCtorEq,reduceIte,h2,d5M m3,j3,hty,tl,hfi,e0Y]
      refine CallE.mono (hnt _) ?_
      rintro v sg2 ow2 ⟨hc2,hfr2⟩
      have hF2:Fr c sg sg2:=hF.trans ((Fr.of (.app _ _)).trans hfr2)
      have hk2:=hk.fr hF2 hc2
      have k3:=hfr2.get (i:=sg.length) (x:=(false,[.t (.int .i64 s.kind),.t (.str s.name),.t (.bool true),.t (.int .i64 s.ty.kind),.t (.int .i64 s.ty.bits),.t (.int .i64 s.ty.len),.t (.int .i64 s.ex.op),.t (.int .u64 s.ex.val),.t (.str s.ex.name),.t (.sl s.ex.nl (d1X s.ex.args)),.t (.int .i64 s.lo),.t (.int .i64 s.hi),.t (.sl s.nl (d2C s.body))])) (by rw[d5M m3];exact hty ▸ j3) (by omega)
      have k5:=hfr2.get (i:=sg1.length) (x:=(false,cTy t)) (by simp) (by have:=d4Y hc1;omega)
      have mc2:=d4Y hc2
      have hse:∀ x,Fr c sg (sg2.set sg1.length x):=fun x=>Fr2.fr (a:=sg1.length) (Fr.refl c sg) ((Fr2.of hF2).set _) hF.1
      have hk3:∀ x,Cs (sg2.set sg1.length x) c f n fs ns od (d4F s.ty w1):=fun x=>hk.fr (hse x) (by rw[g3R (by have:=d4Y hc1;omega)];exact hc2)
      have hdec:=fun x=>e1P (gl:=gl) (hk3 x) s.name ⟨s.ty,false,0,0⟩ (by omega) ow2
      have e3:∀ x,(sg2.set sg1.length x)[sg.length]?=sg2[sg.length]?:=fun x=>g3R (by have:=d4Y j3;omega)
      simp only[wA,seval,reduceCtorEq,reduceIte,k3,k5,d4X k5,e3]
      refine CallE.mono (hdec _) ?_
      rintro v sg3 ow3 ⟨rfl,hp⟩
      simp only[wA,seval,reduceCtorEq,reduceIte]
      exact⟨rfl,fun e=>by obtain⟨od',x1,x2⟩:=hp e;exact⟨od',x1,(Fq.of (hse _)).trans x2⟩⟩
     |false =>
      rw[if_pos (by simp [tl,hfi])]
      simp only[wA,seval,reduceCtorEq,reduceIte,h2,d5M m3,j3,hty,tl,hfi,e0Y]
      exact⟨rfl,fun e=>by cases e⟩
 ·rw[if_pos (by simpa using he)]
  simp only[wA,seval,reduceCtorEq,reduceIte,he]
  exact⟨rfl,fun e=>absurd e he⟩
end Go.Proofs.YtdjcnfacjfnakaaGreat

/- Contracts: functions. -/
namespace Go.Proofs.YtdjcnfacjfnakaaGreat
open Go.Pi Go.Lx Go.Ky Go.Lib
variable {gl:Nat→Option (List T)}
theorem e1Y {fs:Fs} {ls:List St} {nl:Bool} (hls:ls.length≤B20) (hrec:∀ s,s∈ls→e1T gl fs s) {c f n:Nat} {b3:Nat} {m:Nat} {od0:PV} {sg0:Sg} (Q:Ex→S→Prop):∀ (l:List St) (i:Nat) (ns:Ns) (od:PV) (w:Int) (fr:List PV) (sg:Sg) (ow:Ow),ls.drop i=l→Cs sg c f n fs ns od w→Fq c n od0 od sg0 sg→ns.length+d2K l≤2 * B20 →
  b9P fr [(0,.lp c 0),(3,.lp b3 0),(7,.t (.int .i64 m)),(51,.t (.sl nl (d2C ls))),(52,.t (.int .i64 ls.length)),(53,.t (.int .i64 i))] →
  ((d4G fs l ns w).1=0→∀ fr' sg' ow' od',Cs sg' c f n fs (d4G fs l ns w).2.1 od' (d4G fs l ns w).2.2→Fq c n od0 od' sg0 sg'→b9P fr' [(0,.lp c 0),(3,.lp b3 0),(7,.t (.int .i64 m))]→Q (.exit 2) ⟨fr',sg',ow'⟩) →
  ((d4G fs l ns w).1≠0→∀ fr' sg' ow',a0A fr' 4=.t (.int .i64 (d4G fs l ns w).1)→Q .ret ⟨fr',sg',ow'⟩) →
  Xl F gl c6N ⟨fr,sg,ow⟩ Q ⟨⟩:=by
 intro l
 induction l with
 |nil =>
  intro i ns od w fr sg ow hd hk hq hsz hf k1 k2
  have hd:=b9K hd
  simp only[b9R,b9Q] at hf
  obtain⟨f0,f3,f7,f14,f15,f16,-⟩:=hf
  refine Xl.step ?_
  simp only[c6N]
  have c1:¬((i:Int) < (ls.length:Int)):=by omega
  have hem:d4G fs [] ns w=(0,ns,w):=by rw[d4G]
  rw[hem] at k1
  simp only[wA,seval,reduceCtorEq,reduceIte,f0,f3,f7,f14,f15,f16,c1]
  exact k1 rfl _ _ _ od hk hq (by simp only[wQ,Nat.reduceEqDiff,reduceIte,f0,f3,f7])
 |cons x l ih =>
  intro i ns od w fr sg ow hd hk hq hsz hf k1 k2
  obtain⟨hx,hr,hi⟩:=b9J hd
  simp only[b9R,b9Q] at hf
  obtain⟨f0,f3,f7,f14,f15,f16,-⟩:=hf
  refine Xl.step ?_
  simp only[c6N]
  have c1:(i:Int) < (ls.length:Int):=by omega
  have hw1:=d5J hi (show ls.length≤281474976710656 by have:B20=1100000:=rfl;omega)
  rw[d6K] at k1 k2
  rw[d2O] at hsz
  have hs:=fun r=>hrec x (g4K hx) (sg++r) c f n ns od w ow (hk.grow (.app _ _)) (by omega)
  simp only[d2E] at hs
  simp only[wA,seval,reduceCtorEq,reduceIte,f0,f3,f7,f14,f15,f16,c1,hw1,g2X,hi,d2G,hx,g5F,d2E]
  refine CallE.mono (hs _) ?_
  rintro v sg' ow' ⟨rfl,hp⟩
  by_cases he:(stM fs x ns w).1=0
  ·obtain⟨od',hk',hq'⟩:=hp he
   rw[if_neg (by simpa using he)] at k1 k2
   simp only[wA,seval,reduceCtorEq,reduceIte,f0,f3,f7,f14,f15,f16,hw1,he]
   obtain⟨r,hr1,hr2⟩:=d6J fs x ns w he
   have hsx:1≤szS x:=by rw[d2N];omega
   refine ih (i+1) _ od' _ _ _ _ hr hk' (hq.trans ((Fq.of (Fr.of (.app _ _))).trans hq')) (by rw[hr1,g3V];omega) (by simp only[wQ,Nat.reduceEqDiff,reduceIte,f0,f3,f7,f14,f15]) k1 k2
  ·rw[if_pos (by simpa using he)] at k1 k2
   simp only[wA,seval,reduceCtorEq,reduceIte,f0,f3,f7,f14,f15,f16,he]
   exact k2 he _ _ _ (by simp only[wQ,Nat.reduceEqDiff,reduceIte])
theorem e1Z {fs:Fs} {ls:List Pa} {nl:Bool} (hls:ls.length≤B20) {c f n:Nat} {b3:Nat} {m:Nat} {od0:PV} {sg0:Sg} (Q:Ex→S→Prop):∀ (l:List Pa) (i:Nat) (ns:Ns) (od:PV) (w:Int) (fr:List PV) (sg:Sg) (ow:Ow),ls.drop i=l→Cs sg c f n fs ns od w→Fq c n od0 od sg0 sg→ns.length+l.length≤2 * B20 →
  b9P fr [(0,.lp c 0),(3,.lp b3 0),(7,.t (.int .i64 m)),(33,.t (.sl nl (ls.map tPa))),(34,.t (.int .i64 ls.length)),(35,.t (.int .i64 i))] →
  ((d4J l ns w).1=0→∀ fr' sg' ow' od',Cs sg' c f n fs (d4J l ns w).2.1 od' (d4J l ns w).2.2→Fq c n od0 od' sg0 sg'→b9P fr' [(0,.lp c 0),(3,.lp b3 0),(7,.t (.int .i64 m))]→Q (.exit 0) ⟨fr',sg',ow'⟩) →
  ((d4J l ns w).1≠0→∀ fr' sg' ow',a0A fr' 4=.t (.int .i64 (d4J l ns w).1)→Q .ret ⟨fr',sg',ow'⟩) →
  Xl F gl c6O ⟨fr,sg,ow⟩ Q ⟨⟩:=by
 intro l
 induction l with
 |nil =>
  intro i ns od w fr sg ow hd hk hq hsz hf k1 k2
  have hd:=b9K hd
  simp only[b9R,b9Q] at hf
  obtain⟨f0,f3,f7,f14,f15,f16,-⟩:=hf
  refine Xl.step ?_
  simp only[c6O]
  have c1:¬((i:Int) < (ls.length:Int)):=by omega
  have hem:d4J [] ns w=(0,ns,w):=by rw[d4J]
  rw[hem] at k1
  simp only[wA,seval,reduceCtorEq,reduceIte,f0,f3,f7,f14,f15,f16,c1]
  exact k1 rfl _ _ _ od hk hq (by simp only[wQ,Nat.reduceEqDiff,reduceIte,f0,f3,f7])
 |cons x l ih =>
  intro i ns od w fr sg ow hd hk hq hsz hf k1 k2
  obtain⟨hx,hr,hi⟩:=b9J hd
  simp only[b9R,b9Q] at hf
  obtain⟨f0,f3,f7,f14,f15,f16,-⟩:=hf
  refine Xl.step ?_
  simp only[c6O]
  have c1:(i:Int) < (ls.length:Int):=by omega
  have hb:B20=1100000:=rfl
  have hb2:B47=140737488355328:=rfl
  have hw1:=d5J hi (show ls.length≤281474976710656 by omega)
  rw[d6U] at k1 k2
  rw[g3W] at hsz
  have hs:=fun r=>e1P (gl:=gl) (hk.grow (.app sg r)) x.name ⟨x.ty,false,0,0⟩ (by omega) ow
  simp only[wA,seval,reduceCtorEq,reduceIte,f0,f3,f7,f14,f15,f16,c1,hw1,g2X,hi,g3O,hx,g5F]
  refine CallE.mono (hs _) ?_
  rintro v sg' ow' ⟨rfl,hp⟩
  by_cases he:(d4E x.name ⟨x.ty,false,0,0⟩ ns w).1=0
  ·obtain⟨od',hk',hq'⟩:=hp he
   rw[if_neg (by simpa using he)] at k1 k2
   simp only[wA,seval,reduceCtorEq,reduceIte,f0,f3,f7,f14,f15,f16,hw1,he]
   refine ih (i+1) _ od' _ _ _ _ hr hk' (hq.trans ((Fq.of (Fr.of (.app _ _))).trans hq')) (by rw[d6I he];simp;omega) (by simp only[wQ,Nat.reduceEqDiff,reduceIte,f0,f3,f7,f14,f15]) k1 k2
  ·rw[if_pos (by simpa using he)] at k1 k2
   simp only[wA,seval,reduceCtorEq,reduceIte,f0,f3,f7,f14,f15,f16,he]
   exact k2 he _ _ _ (by simp only[wQ,Nat.reduceEqDiff,reduceIte])
theorem e2A {fs:Fs} {fu:Fu} (hok:FuOk fu) (hB:fuB fu=true) (hpl:fu.params.length≤B20) (hbs:d2K fu.body≤B20) (hrs:szE fu.ret≤B20) {c f n:Nat} {od:PV} {w:Int} {sg:Sg} (hk:Cs sg c f n fs [] od w) (ow:Ow) :
  CallE F gl 103 [.lp c 0,.t (.agg (tFu fu))] sg ow fun v sg' ow'=>v=.t (.int .i64 (d4K fs fu w).1)∧((d4K fs fu w).1=0→∃ od',Cs sg' c f n (d4K fs fu w).2.1 [] od' (d4K fs fu w).2.2∧Fg c f n od od' sg sg'):=by
 refine XcE.of F103 rfl ?_
 simp only[c6P]
 have hcl:=d4Y hk.ck.c
 have hfl:=d4Y hk.ck.f
 have hc:=hk.ck.c
 have hf:=hk.ck.f
 have hb:B20=1100000:=rfl
 have hb2:B47=140737488355328:=rfl
 have hbl:fu.body.length≤B20:=g4V (d2S _) hbs
 have hB2:=hB
 unfold fuB at hB2
 simp only[g2R,g2Y] at hB2
 have hrec:∀ s,s∈fu.body→e1T gl fs s:=fun s hs=>e1X s (hok.bo s hs) (hB2.1.2 s hs) (g4V (d2Q hs) hbs)
 cases hl:Ky.look fu.name fs with
 |some x =>
  rw[d6Z _ _ _ hl]
  simp only[wA,seval,reduceCtorEq,reduceIte,d5M hcl,d5M hfl,hc,hf,a1C,d5B,hl,g5D,Option.isSome_some]
  simp
 |none =>
  rw[d6Y _ _ _ hl]
  have hod:(∃ oid cs,od=.bf oid 0 1∧oid≠c∧sg[oid]?=some (false,cs))∨od=.t (.sl true []):=by
   rcases hk.od.2 with⟨_,h⟩|⟨oid,cs,h1,h2,h3,_⟩
   ·exact .inr h
   ·exact .inl ⟨oid,cs,h1,h2,h3⟩
  have hlen:True:=trivial
  rcases hod with⟨oid,cs,rfl,o1,o2⟩|rfl
  ·simp only[wA,seval,reduceCtorEq,reduceIte,d5M hcl,d5M hfl,hc,hf,a1C,d5B,hl,Option.getD_none,Option.isSome_none,g3X,g3Y]
   refine e1Z (fs:=fs) hpl (m:=0) (b3:=sg.length) _ fu.params 0 [] (.bf oid 0 1) w _ _ _ rfl (hk.grow (.app _ _)) (Fq.refl _ _ _ _) (by simp only[g3Y];omega) (by simp only[wQ,Nat.reduceEqDiff,reduceIte];first|done|exact⟨rfl,rfl⟩|rfl) ?_ ?_
   ·intro h0 fr1 sg1 ow1 od1 hk1 hq1 hf1
    have hpe:=d6V _ _ _ h0
    rw[if_neg (by simpa using h0)]
    generalize d4J fu.params [] w=P at *
    obtain⟨d,ns1,w1⟩:=P
    simp only[g3Y,g5A] at h0 hpe hk1 ⊢
    simp only[b9R,b9Q] at hf1
    obtain⟨f0,f3,f7,-⟩:=hf1
    have i3:=fun r:Sg=>show(sg++(false,cFu fu)::r)[sg.length]?=some (false,cFu fu) by simp
    have j3:=hq1.get (i3 _) (by omega) (by have:=d4Y hk.ck.n;omega) (hk.notB2 (g4U _))
    simp only[wA,seval,reduceCtorEq,reduceIte,f0,f3,f7,j3,d2F]
    refine e1Y (fs:=fs) hbl hrec (m:=0) (b3:=sg.length) _ fu.body 0 ns1 od1 w1 _ _ _ rfl hk1 (Fq.refl _ _ _ _) (by omega) (by simp only[wQ,Nat.reduceEqDiff,reduceIte,f0,f3,f7];first|done|exact⟨rfl,rfl⟩|rfl) ?_ ?_
    ·intro h2 fr2 sg2 ow2 od2 hk2 hq2 hf2
     obtain⟨rr,hr1,hr2⟩:=d6L _ _ _ _ h2
     rw[if_neg (by simpa using h2)]
     generalize d4G fs fu.body ns1 w1=P2 at *
     obtain⟨d2,ns2,w2⟩:=P2
     simp only at h2 hr1 hk2 ⊢
     subst hr1
     simp only[b9R,b9Q] at hf2
     obtain⟨f0,f3,f7,-⟩:=hf2
     have hq12:=hq1.trans hq2
     have j3:=hq12.get (i3 _) (by omega) (by have:=d4Y hk.ck.n;omega) (hk.notB2 (g4U _))
     have hex:=e1O (gl:=gl) (fs:=fs) (ns:=ns1++rr) fu.ret hok.ret hrs hB2.2 sg2 c f n od2 w2 ow2 hk2.ck
     simp only[d1Z] at hex
     simp only[wA,seval,reduceCtorEq,reduceIte,f0,f3,f7,j3]
     refine CallE.mono hex ?_
     rintro v sg3 ow3 ⟨rfl,hc3,hfr3⟩
     have hk3:=hk2.fr hfr3 hc3
     have hq3:=hq12.trans (Fq.of hfr3)
     have j3:=hq3.get (i3 _) (by omega) (by have:=d4Y hk.ck.n;omega) (hk.notB2 (g4U _))
     have m3:=d4Y j3
     generalize exM fs (ns1++rr) fu.ret w2=q at *
     obtain⟨⟨t,er⟩,w3⟩:=q
     simp only at hc3 hk3 ⊢
     by_cases he:er=0
     ·subst he
      rw[if_neg (by simp)]
      cases hfi:d3O t fu.res with
      |false =>
       rw[if_pos rfl]
       simp only[wA,seval,reduceCtorEq,reduceIte,f0,f3,f7,d5M m3,j3,e0Y,hfi]
       simp
      |true =>
       rw[if_neg (by simp)]
       simp only[wA,seval,reduceCtorEq,reduceIte,f0,f3,f7,d5M m3,j3,e0Y,hfi]
       refine CallE.mono (e1S (hk3.grow (.app _ _)) (by rw[g3V];omega) (m:=0) (g5B _) ow3) ?_
       rintro v sg4 ow4 ⟨od4,hk4,hq4⟩
       rw[List.take_zero] at hk4
       have hqa:=hq3.trans ((Fq.of (Fr.of (.app _ _))).trans hq4)
       have j3:=hqa.get (i3 _) (by omega) (by have:=d4Y hk.ck.n;omega) (hk.notB2 (g4U _))
       have hmn:=d5C (fun x=>.agg (tFu x)) fu.name fu fs hl
       have c4:=hk4.ck.c
       have f4:=hk4.ck.f
       simp only[wA,seval,reduceCtorEq,reduceIte,f0,f3,f7,j3,c4,f4,a1D,d5B]
       intro _
       exact⟨od4,(hk4.fun _ hmn).1,((Fg.of (Fq.of (Fr.of (.app _ _)))).trans (Fg.of hqa)).trans (hk4.fun _ hmn).2⟩
     ·rw[if_pos (by simpa using he)]
      simp only[wA,seval,reduceCtorEq,reduceIte,f0,f3,f7,he]
      exact fun e=>e.elim
    ·intro h2 fr2 sg2 ow2 f4
     rw[if_pos (by simpa using h2)]
     simp only[wA,seval,reduceCtorEq,reduceIte,f4]
     exact fun e=>absurd e h2
   ·intro h0 fr1 sg1 ow1 f4
    rw[if_pos (by simpa using h0)]
    simp only[wA,seval,reduceCtorEq,reduceIte,f4]
    exact fun e=>absurd e h0
  ·simp only[wA,seval,reduceCtorEq,reduceIte,d5M hcl,d5M hfl,hc,hf,a1C,d5B,hl,Option.getD_none,Option.isSome_none,g3X,g3Y]
   refine e1Z (fs:=fs) hpl (m:=0) (b3:=sg.length) _ fu.params 0 [] (.t (.sl true [])) w _ _ _ rfl (hk.grow (.app _ _)) (Fq.refl _ _ _ _) (by simp only[g3Y];omega) (by simp only[wQ,Nat.reduceEqDiff,reduceIte];first|done|exact⟨rfl,rfl⟩|rfl) ?_ ?_
   ·intro h0 fr1 sg1 ow1 od1 hk1 hq1 hf1
    have hpe:=d6V _ _ _ h0
    rw[if_neg (by simpa using h0)]
    generalize d4J fu.params [] w=P at *
    obtain⟨d,ns1,w1⟩:=P
    simp only[g3Y,g5A] at h0 hpe hk1 ⊢
    simp only[b9R,b9Q] at hf1
    obtain⟨f0,f3,f7,-⟩:=hf1
    have i3:=fun r:Sg=>show(sg++(false,cFu fu)::r)[sg.length]?=some (false,cFu fu) by simp
    have j3:=hq1.get (i3 _) (by omega) (by have:=d4Y hk.ck.n;omega) (hk.notB2 (g4U _))
    simp only[wA,seval,reduceCtorEq,reduceIte,f0,f3,f7,j3,d2F]
    refine e1Y (fs:=fs) hbl hrec (m:=0) (b3:=sg.length) _ fu.body 0 ns1 od1 w1 _ _ _ rfl hk1 (Fq.refl _ _ _ _) (by omega) (by simp only[wQ,Nat.reduceEqDiff,reduceIte,f0,f3,f7];first|done|exact⟨rfl,rfl⟩|rfl) ?_ ?_
    ·intro h2 fr2 sg2 ow2 od2 hk2 hq2 hf2
     obtain⟨rr,hr1,hr2⟩:=d6L _ _ _ _ h2
     rw[if_neg (by simpa using h2)]
     generalize d4G fs fu.body ns1 w1=P2 at *
     obtain⟨d2,ns2,w2⟩:=P2
     simp only at h2 hr1 hk2 ⊢
     subst hr1
     simp only[b9R,b9Q] at hf2
     obtain⟨f0,f3,f7,-⟩:=hf2
     have hq12:=hq1.trans hq2
     have j3:=hq12.get (i3 _) (by omega) (by have:=d4Y hk.ck.n;omega) (hk.notB2 (g4U _))
     have hex:=e1O (gl:=gl) (fs:=fs) (ns:=ns1++rr) fu.ret hok.ret hrs hB2.2 sg2 c f n od2 w2 ow2 hk2.ck
     simp only[d1Z] at hex
     simp only[wA,seval,reduceCtorEq,reduceIte,f0,f3,f7,j3]
     refine CallE.mono hex ?_
     rintro v sg3 ow3 ⟨rfl,hc3,hfr3⟩
     have hk3:=hk2.fr hfr3 hc3
     have hq3:=hq12.trans (Fq.of hfr3)
     have j3:=hq3.get (i3 _) (by omega) (by have:=d4Y hk.ck.n;omega) (hk.notB2 (g4U _))
     have m3:=d4Y j3
     generalize exM fs (ns1++rr) fu.ret w2=q at *
     obtain⟨⟨t,er⟩,w3⟩:=q
     simp only at hc3 hk3 ⊢
     by_cases he:er=0
     ·subst he
      rw[if_neg (by simp)]
      cases hfi:d3O t fu.res with
      |false =>
       rw[if_pos rfl]
       simp only[wA,seval,reduceCtorEq,reduceIte,f0,f3,f7,d5M m3,j3,e0Y,hfi]
       simp
      |true =>
       rw[if_neg (by simp)]
       simp only[wA,seval,reduceCtorEq,reduceIte,f0,f3,f7,d5M m3,j3,e0Y,hfi]
       refine CallE.mono (e1S (hk3.grow (.app _ _)) (by rw[g3V];omega) (m:=0) (g5B _) ow3) ?_
       rintro v sg4 ow4 ⟨od4,hk4,hq4⟩
       rw[List.take_zero] at hk4
       have hqa:=hq3.trans ((Fq.of (Fr.of (.app _ _))).trans hq4)
       have j3:=hqa.get (i3 _) (by omega) (by have:=d4Y hk.ck.n;omega) (hk.notB2 (g4U _))
       have hmn:=d5C (fun x=>.agg (tFu x)) fu.name fu fs hl
       have c4:=hk4.ck.c
       have f4:=hk4.ck.f
       simp only[wA,seval,reduceCtorEq,reduceIte,f0,f3,f7,j3,c4,f4,a1D,d5B]
       intro _
       exact⟨od4,(hk4.fun _ hmn).1,((Fg.of (Fq.of (Fr.of (.app _ _)))).trans (Fg.of hqa)).trans (hk4.fun _ hmn).2⟩
     ·rw[if_pos (by simpa using he)]
      simp only[wA,seval,reduceCtorEq,reduceIte,f0,f3,f7,he]
      exact fun e=>e.elim
    ·intro h2 fr2 sg2 ow2 f4
     rw[if_pos (by simpa using h2)]
     simp only[wA,seval,reduceCtorEq,reduceIte,f4]
     exact fun e=>absurd e h2
   ·intro h0 fr1 sg1 ow1 f4
    rw[if_pos (by simpa using h0)]
    simp only[wA,seval,reduceCtorEq,reduceIte,f4]
    exact fun e=>absurd e h0
end Go.Proofs.YtdjcnfacjfnakaaGreat

/- Contracts: programs. -/
namespace Go.Proofs.YtdjcnfacjfnakaaGreat
open Go.Pi Go.Lx Go.Ky Go.Lib
variable {gl:Nat→Option (List T)}
theorem e2B {ls:List Fu} {nl:Bool} (hls:ls.length≤B20) (hfu:∀ f,f∈ls→FuOk f∧fuB f=true∧f.params.length≤B20∧d2K f.body≤B20∧szE f.ret≤B20) {c f n:Nat} {b3:Nat} {od0:PV} {sg0:Sg} (Q:Ex→S→Prop):∀ (l:List Fu) (i:Nat) (fs:Fs) (od:PV) (w:Int) (fr:List PV) (sg:Sg) (ow:Ow),ls.drop i=l→Cs sg c f n fs [] od w→Fg c f n od0 od sg0 sg →
  b9P fr [(0,.lp c 0),(3,.lp b3 0),(12,.t (.sl nl (ls.map fun f=>tFu f))),(13,.t (.int .i64 ls.length)),(14,.t (.int .i64 i))] →
  ((d4L l fs w).1=0→∀ fr' sg' ow' od',Cs sg' c f n (d4L l fs w).2.1 [] od' (d4L l fs w).2.2→Fg c f n od0 od' sg0 sg'→b9P fr' [(0,.lp c 0),(3,.lp b3 0)]→Q (.exit 0) ⟨fr',sg',ow'⟩) →
  ((d4L l fs w).1≠0→∀ fr' sg' ow',a0A fr' 4=.t (.int .i64 (d4L l fs w).1)→Q .ret ⟨fr',sg',ow'⟩) →
  Xl F gl c5M ⟨fr,sg,ow⟩ Q ⟨⟩:=by
 intro l
 induction l with
 |nil =>
  intro i fs od w fr sg ow hd hk hq hf k1 k2
  have hd:=b9K hd
  simp only[b9R,b9Q] at hf
  obtain⟨f0,f3,f14,f15,f16,-⟩:=hf
  refine Xl.step ?_
  simp only[c5M]
  have c1:¬((i:Int) < (ls.length:Int)):=by omega
  have hem:d4L [] fs w=(0,fs,w):=by rw[d4L]
  rw[hem] at k1
  simp only[wA,seval,reduceCtorEq,reduceIte,f0,f3,f14,f15,f16,c1]
  exact k1 rfl _ _ _ od hk hq (by simp only[wQ,Nat.reduceEqDiff,reduceIte,f0,f3])
 |cons x l ih =>
  intro i fs od w fr sg ow hd hk hq hf k1 k2
  obtain⟨hx,hr,hi⟩:=b9J hd
  simp only[b9R,b9Q] at hf
  obtain⟨f0,f3,f14,f15,f16,-⟩:=hf
  refine Xl.step ?_
  simp only[c5M]
  have c1:(i:Int) < (ls.length:Int):=by omega
  have hw1:=d5J hi (show ls.length≤281474976710656 by have:B20=1100000:=rfl;omega)
  rw[d7A] at k1 k2
  obtain⟨x1,x2,x3,x4,x5⟩:=hfu x (g4K hx)
  have hs:=fun r=>e2A (gl:=gl) x1 x2 x3 x4 x5 (hk.grow (.app sg r)) ow
  simp only[wA,seval,reduceCtorEq,reduceIte,f0,f3,f14,f15,f16,c1,hw1,g2X,hi,g3O,hx,g5F]
  refine CallE.mono (hs _) ?_
  rintro v sg' ow' ⟨rfl,hp⟩
  by_cases he:(d4K fs x w).1=0
  ·obtain⟨od',hk',hq'⟩:=hp he
   rw[if_neg (by simpa using he)] at k1 k2
   simp only[wA,seval,reduceCtorEq,reduceIte,f0,f3,f14,f15,f16,hw1,he]
   refine ih (i+1) _ od' _ _ _ _ hr hk' (hq.trans ((Fg.of (Fq.of (Fr.of (.app _ _)))).trans hq')) (by simp only[wQ,Nat.reduceEqDiff,reduceIte,f0,f3,f14,f15]) k1 k2
  ·rw[if_pos (by simpa using he)] at k1 k2
   simp only[wA,seval,reduceCtorEq,reduceIte,f0,f3,f14,f15,f16,he]
   exact k2 he _ _ _ (by simp only[wQ,Nat.reduceEqDiff,reduceIte])
theorem e2C {fs:Fs} {ls:List De} {nl:Bool} (hls:ls.length≤B20) {c f n:Nat} {b3:Nat} {od0:PV} {sg0:Sg} (Q:Ex→S→Prop):∀ (l:List De) (i:Nat) (ns:Ns) (od:PV) (w:Int) (fr:List PV) (sg:Sg) (ow:Ow),ls.drop i=l→Cs sg c f n fs ns od w→Fq c n od0 od sg0 sg→ns.length+l.length≤2 * B20 →
  b9P fr [(0,.lp c 0),(3,.lp b3 0),(26,.t (.sl nl (ls.map fun f=>tDe f))),(27,.t (.int .i64 ls.length)),(28,.t (.int .i64 i))] →
  ((d4M l ns w).1=0→∀ fr' sg' ow' od',Cs sg' c f n fs (d4M l ns w).2.1 od' (d4M l ns w).2.2→Fq c n od0 od' sg0 sg'→b9P fr' [(0,.lp c 0),(3,.lp b3 0)]→Q (.exit 2) ⟨fr',sg',ow'⟩) →
  ((d4M l ns w).1≠0→∀ fr' sg' ow',a0A fr' 4=.t (.int .i64 (d4M l ns w).1)→Q .ret ⟨fr',sg',ow'⟩) →
  Xl F gl c5L ⟨fr,sg,ow⟩ Q ⟨⟩:=by
 intro l
 induction l with
 |nil =>
  intro i ns od w fr sg ow hd hk hq hsz hf k1 k2
  have hd:=b9K hd
  simp only[b9R,b9Q] at hf
  obtain⟨f0,f3,f14,f15,f16,-⟩:=hf
  refine Xl.step ?_
  simp only[c5L]
  have c1:¬((i:Int) < (ls.length:Int)):=by omega
  have hem:d4M [] ns w=(0,ns,w):=by rw[d4M]
  rw[hem] at k1
  simp only[wA,seval,reduceCtorEq,reduceIte,f0,f3,f14,f15,f16,c1]
  exact k1 rfl _ _ _ od hk hq (by simp only[wQ,Nat.reduceEqDiff,reduceIte,f0,f3])
 |cons x l ih =>
  intro i ns od w fr sg ow hd hk hq hsz hf k1 k2
  obtain⟨hx,hr,hi⟩:=b9J hd
  simp only[b9R,b9Q] at hf
  obtain⟨f0,f3,f14,f15,f16,-⟩:=hf
  refine Xl.step ?_
  simp only[c5L]
  have c1:(i:Int) < (ls.length:Int):=by omega
  have hb:B20=1100000:=rfl
  have hb2:B47=140737488355328:=rfl
  have hw1:=d5J hi (show ls.length≤281474976710656 by omega)
  rw[d6W] at k1 k2
  rw[g3W] at hsz
  have hs:=fun r=>e1P (gl:=gl) (hk.grow (.app sg r)) x.name ⟨x.ty,false,0,0⟩ (by omega) ow
  simp only[wA,seval,reduceCtorEq,reduceIte,f0,f3,f14,f15,f16,c1,hw1,g2X,hi,g3O,hx,g5F]
  refine CallE.mono (hs _) ?_
  rintro v sg1 ow1 ⟨rfl,hp⟩
  by_cases he:(d4E x.name ⟨x.ty,false,0,0⟩ ns w).1=0
  ·obtain⟨od1,hk1,hq1⟩:=hp he
   rw[if_neg (by simpa using he)] at k1 k2
   rw[d6I he] at hk1 k1 k2
   have j9:=hq1.get (i:=sg.length) (v:=(false,[.t (.bool x.pub),.t (.str x.name),.t (.int .i64 x.ty.kind),.t (.int .i64 x.ty.bits),.t (.int .i64 x.ty.len)])) (by simp) (by have:=d4Y hk.ck.c;omega) (by have:=d4Y hk.ck.n;omega) (hk.notB2 (g4U _))
   simp only[wA,seval,reduceCtorEq,reduceIte,f0,f3,f14,f15,f16,hw1,he,j9]
   refine CallE.mono (e1Q hk1.ck x.ty ow1) ?_
   rintro v sg2 ow2 ⟨hc2,hfr2⟩
   simp only[wA,seval,reduceCtorEq,reduceIte,f0,f3,f14,f15,f16,hw1]
   refine ih (i+1) _ od1 _ _ _ _ hr (hk1.fr hfr2 hc2) ((hq.trans ((Fq.of (Fr.of (.app _ _))).trans hq1)).trans (Fq.of hfr2)) (by simp;omega) (by simp only[wQ,Nat.reduceEqDiff,reduceIte,f0,f3,f14,f15]) k1 k2
  ·rw[if_pos (by simpa using he)] at k1 k2
   simp only[wA,seval,reduceCtorEq,reduceIte,f0,f3,f14,f15,f16,he]
   exact k2 he _ _ _ (by simp only[wQ,Nat.reduceEqDiff,reduceIte])
structure PgSt (p:Pg):Prop where
 ok:PgOk p
 fb:p.funcs.all fuB=true
 bb:p.body.all stB=true
 fl:p.funcs.length≤B20
 dl:p.decls.length≤B20
 fs:∀ f,f∈p.funcs→f.params.length≤B20∧d2K f.body≤B20∧szE f.ret≤B20
 bs:d2K p.body≤B20
theorem ok62 {p:Pg} (hp:PgSt p) {c f n:Nat} {sg:Sg} (hk:Cs sg c f n [] [] (.t (.sl true [])) 0) (ow:Ow) :
  CallE F gl 62 [.lp c 0,.t (.agg (tPg p))] sg ow fun v sg' ow'=>v=.t (.int .i64 (d4N p).1)∧((d4N p).1=0→∃ od',sg'[c]?=some (false,[.mp f,.mp n,od',.t (.int .i64 (d4N p).2)])∧Fg c f n (.t (.sl true [])) od' sg sg'):=by
 refine XcE.of F62 rfl ?_
 simp only[c5N]
 have hcl:=d4Y hk.ck.c
 have hb:B20=1100000:=rfl
 have hb2:B47=140737488355328:=rfl
 have hbl:p.body.length≤B20:=g4V (d2S _) hp.bs
 rw[d7B]
 simp only[wA,seval,reduceCtorEq,reduceIte,g3X]
 refine e2B hp.fl (fun f hf=>⟨hp.ok.fo f hf,g2Y.1 hp.fb f hf,hp.fs f hf⟩) (b3:=sg.length) _ p.funcs 0 [] _ 0 _ _ _ rfl (hk.grow (.app _ _)) (Fg.refl _ _ _ _ _) (by simp only[wQ,Nat.reduceEqDiff,reduceIte];first|done|exact⟨rfl,rfl⟩|rfl) ?_ ?_
 ·intro h0 fr1 sg1 ow1 od1 hk1 hq1 hf1
  rw[if_neg (by simpa using h0)]
  generalize d4L p.funcs [] 0=P at *
  obtain⟨d,fs,w1⟩:=P
  simp only at h0 hk1 ⊢
  simp only[b9R,b9Q] at hf1
  obtain⟨f0,f3,-⟩:=hf1
  have i3:=fun r:Sg=>show(sg++(false,[PV.t (.sl p.fnl (p.funcs.map fun f=>tFu f)),.t (.sl p.dnl (p.decls.map fun f=>tDe f)),.t (.sl p.bnl (d2C p.body))])::r)[sg.length]?=some (false,[PV.t (.sl p.fnl (p.funcs.map fun f=>tFu f)),.t (.sl p.dnl (p.decls.map fun f=>tDe f)),.t (.sl p.bnl (d2C p.body))]) by simp
  have j3:=hq1.get (i3 _) (by omega) (by have:=d4Y hk.ck.f;omega) (by have:=d4Y hk.ck.n;omega) (hk.notB2 (g4U _))
  simp only[wA,seval,reduceCtorEq,reduceIte,f0,f3,j3,g3X]
  refine e2C (fs:=fs) hp.dl (b3:=sg.length) _ p.decls 0 [] od1 w1 _ _ _ rfl hk1 (Fq.refl _ _ _ _) (by have:=hp.dl;simp only[g3Y];omega) (by simp only[wQ,Nat.reduceEqDiff,reduceIte,f0,f3];first|done|exact⟨rfl,rfl⟩|rfl) ?_ ?_
  ·intro h2 fr2 sg2 ow2 od2 hk2 hq2 hf2
   have hde:=d6X _ _ _ h2
   rw[if_neg (by simpa using h2)]
   generalize d4M p.decls [] w1=P2 at *
   obtain⟨d2,ns2,w2⟩:=P2
   simp only[g3Y,g5A] at h2 hde hk2 ⊢
   simp only[b9R,b9Q] at hf2
   obtain⟨f0,f3,-⟩:=hf2
   have hq12:=hq1.trans (Fg.of hq2)
   have j3:=hq12.get (i3 _) (by omega) (by have:=d4Y hk.ck.f;omega) (by have:=d4Y hk.ck.n;omega) (hk.notB2 (g4U _))
   have hrec:∀ s,s∈p.body→e1T gl fs s:=fun s hs=>e1X s (hp.ok.bo s hs) (g2Y.1 hp.bb s hs) (g4V (d2Q hs) hp.bs)
   simp only[wA,seval,reduceCtorEq,reduceIte,f0,f3,j3]
   refine CallE.mono (e1V hbl hrec hk2 (by have:=hp.dl;have:=hp.bs;omega) ow2) ?_
   rintro v sg3 ow3 ⟨rfl,hp3⟩
   simp only[wA,seval,reduceCtorEq,reduceIte]
   refine fun e=>?_
   obtain⟨od3,hk3,hq3⟩:=hp3 e
   exact⟨od3,hk3.ck.c,(Fg.of (Fq.of (Fr.of (.app _ _)))).trans (hq12.trans (Fg.of hq3))⟩
  ·intro h2 fr2 sg2 ow2 f4
   rw[if_pos (by simpa using h2)]
   simp only[wA,seval,reduceCtorEq,reduceIte,f4]
   exact fun e=>absurd e h2
 ·intro h0 fr1 sg1 ow1 f4
  rw[if_pos (by simpa using h0)]
  simp only[wA,seval,reduceCtorEq,reduceIte,f4]
  exact fun e=>absurd e h0
end Go.Proofs.YtdjcnfacjfnakaaGreat

/- Contracts: steps. -/
namespace Go.Proofs.YtdjcnfacjfnakaaGreat
open Go.Pi Go.Lx Go.Ky Go.Lib
variable {gl:Nat→Option (List T)}
abbrev iKs (ks:Ks):List PV:=d4Z (fun x=>T.int .i64 x) ks
def e2D (gl:Nat→Option (List T)) (e:Exp):Prop :=
 ∀ (sg:Sg) (k:Nat) (ks:Ks) (ow:Ow),sg[k]?=some (true,iKs ks)→KsB ks→CallE F gl 108 [.t (.agg (tEx e)),.mp k] sg ow fun v sg' ow'=>v=.t (.int .i64 (csE ks e))∧Grow sg sg'∧ow'=ow
theorem e2E {ls:List Exp} {nl:Bool} (hls:ls.length≤B20) (hrec:∀ s,s∈ls→e2D gl s) {k:Nat} {ks:Ks} (hkb:KsB ks) {sg0:Sg} (hk:sg0[k]?=some (true,iKs ks)) {ow:Ow} (Q:Ex→S→Prop):∀ (l:List Exp) (i:Nat) (n:Int) (fr:List PV) (sg:Sg),ls.drop i=l→Grow sg0 sg→0≤n→n≤20002 →
  b9P fr [(1,.mp k),(5,.t (.int .i64 n)),(17,.t (.sl nl (d1X ls))),(18,.t (.int .i64 ls.length)),(19,.t (.int .i64 i))] →
  (∀ fr' sg',Grow sg0 sg'→a0A fr' 5=.t (.int .i64 (d4P ks l n))→Q (.exit 0) ⟨fr',sg',ow⟩) →
  Xl F gl c6W ⟨fr,sg,ow⟩ Q ⟨⟩:=by
 intro l
 induction l with
 |nil =>
  intro i n fr sg hd hg hn0 hn1 hf k1
  have hd:=b9K hd
  simp only[b9R,b9Q] at hf
  obtain⟨f1,f5,f14,f15,f16,-⟩:=hf
  refine Xl.step ?_
  simp only[c6W]
  have c1:¬((i:Int) < (ls.length:Int)):=by omega
  have hem:d4P ks [] n=n:=by rw[d4P]
  rw[hem] at k1
  simp only[wA,seval,reduceCtorEq,reduceIte,f1,f5,f14,f15,f16,c1]
  exact k1 _ _ hg (by simp only[wQ,Nat.reduceEqDiff,reduceIte,f5])
 |cons x l ih =>
  intro i n fr sg hd hg hn0 hn1 hf k1
  obtain⟨hx,hr,hi⟩:=b9J hd
  simp only[b9R,b9Q] at hf
  obtain⟨f1,f5,f14,f15,f16,-⟩:=hf
  refine Xl.step ?_
  simp only[c6W]
  have c1:(i:Int) < (ls.length:Int):=by omega
  have hw1:=d5J hi (show ls.length≤281474976710656 by have:B20=1100000:=rfl;omega)
  rw[d4P] at k1
  have hcr:=d7J hkb x
  have hw2:IntKind.wrap .i64 (n+csE ks x)=n+csE ks x:=d7N (by omega) (by omega)
  have hs:=fun r=>hrec x (g4K hx) (sg++r) k ks ow (b1V (hg.get hk)) hkb
  simp only[d1Z] at hs
  simp only[wA,seval,reduceCtorEq,reduceIte,f1,f5,f14,f15,f16,c1,hw1,g2X,hi,d2B,hx,g5F,d1Z]
  refine CallE.mono (hs _) ?_
  rintro v sg' ow' ⟨rfl,hg',rfl⟩
  simp only[wA,seval,reduceCtorEq,reduceIte,f1,f5,f14,f15,f16,hw1,hw2,mxT]
  exact ih (i+1) (mn 20001 (n+csE ks x)) _ _ hr (hg.trans ((Grow.app _ _).trans hg')) (d7H (by omega) (by omega)) (by have:=d7G 20001 (n+csE ks x);omega) (by simp only[wQ,Nat.reduceEqDiff,reduceIte,f1,f14,f15];first|done|rfl) k1
theorem e2F:∀ e,szE e≤B20→e2D gl e:=by
 refine Exp.ind fun e ih hsz=>?_
 have hrec:∀ a,a∈e.args→e2D gl a:=fun a ha=>ih a ha ((d6E hsz).2 a ha)
 have hn:e.args.length≤B20:=(d6E hsz).1
 intro sg k ks ow hk hkb
 refine XcE.of F108 rfl ?_
 simp only[c6X]
 have hkl:=d4Y hk
 have hl:=hkb e.name
 rw[d4Q]
 have hr:=d7I (ks:=ks) e.args (fun x _=>d7J hkb x) (if e.op=5 then 1+d4O e.name ks else 0) (by split <;> omega) (by split <;> omega)
 by_cases h5:e.op=5
 ·have hw:IntKind.wrap .i64 (1+d4O e.name ks)=1+d4O e.name ks:=d7N (by omega) (by omega)
  rw[if_pos h5]
  have hgd:Option.getD (Option.map (fun x=>T.int .i64 x) (Ky.look e.name ks)) (T.int .i64 0)=T.int .i64 (d4O e.name ks):=by
   unfold d4O;cases Ky.look e.name ks <;> rfl
  simp only[wA,seval,reduceCtorEq,reduceIte,d1Z,h5,d5M hkl,hk,a1C,d5B,hgd,hw,d2A]
  refine e2E hn hrec hkb (b1V hk) _ e.args 0 (1+d4O e.name ks) _ _ rfl (Grow.refl _) (by omega) (by omega) (by simp only[wQ,Nat.reduceEqDiff,reduceIte];first|done|exact⟨rfl,rfl⟩|rfl) ?_
  intro fr' sg' hg f5
  simp only[wA,seval,reduceCtorEq,reduceIte,f5,mxT]
  exact⟨rfl,(Grow.app _ _).trans hg⟩
 ·rw[if_neg h5]
  simp only[wA,seval,reduceCtorEq,reduceIte,d1Z,h5,d2A]
  refine e2E hn hrec hkb (b1V hk) _ e.args 0 0 _ _ rfl (Grow.refl _) (by omega) (by omega) (by simp only[wQ,Nat.reduceEqDiff,reduceIte];first|done|exact⟨rfl,rfl⟩|rfl) ?_
  intro fr' sg' hg f5
  simp only[wA,seval,reduceCtorEq,reduceIte,f5,mxT]
  exact⟨rfl,(Grow.app _ _).trans hg⟩
def e2G (gl:Nat→Option (List T)) (l:List St):Prop :=
 ∀ (nl:Bool) (sg:Sg) (k:Nat) (ks:Ks) (ow:Ow),sg[k]?=some (true,iKs ks)→KsB ks→CallE F gl 107 [.t (.sl nl (d2C l)),.mp k] sg ow fun v sg' ow'=>v=.t (.int .i64 (d4R ks l 0))∧Grow sg sg'∧ow'=ow
theorem e2H {ls:List St} {nl:Bool} (hls:ls.length≤B20) (hlk:ls.all lkS=true) (hsz:∀ s,s∈ls→szE s.ex≤B20) (hrec:∀ s,s∈ls→s.kind=3→e2G gl s.body) {k:Nat} {ks:Ks} (hkb:KsB ks) {sg0:Sg} (hk:sg0[k]?=some (true,iKs ks)) {ow:Ow} (Q:Ex→S→Prop):∀ (l:List St) (i:Nat) (n:Int) (fr:List PV) (sg:Sg),ls.drop i=l→Grow sg0 sg→0≤n→n≤20001 →
  b9P fr [(1,.mp k),(5,.t (.int .i64 n)),(8,.t (.sl nl (d2C ls))),(9,.t (.int .i64 ls.length)),(10,.t (.int .i64 i))] →
  (∀ fr' sg',Grow sg0 sg'→a0A fr' 5=.t (.int .i64 (d4R ks l n))→Q (.exit 0) ⟨fr',sg',ow⟩) →
  Xl F gl c6U ⟨fr,sg,ow⟩ Q ⟨⟩:=by
 intro l
 induction l with
 |nil =>
  intro i n fr sg hd hg hn0 hn1 hf k1
  have hd:=b9K hd
  simp only[b9R,b9Q] at hf
  obtain⟨f1,f5,f14,f15,f16,-⟩:=hf
  refine Xl.step ?_
  simp only[c6U]
  have c1:¬((i:Int) < (ls.length:Int)):=by omega
  have hem:d4R ks [] n=n:=by rw[d4R]
  rw[hem] at k1
  simp only[wA,seval,reduceCtorEq,reduceIte,f1,f5,f14,f15,f16,c1]
  exact k1 _ _ hg (by simp only[wQ,Nat.reduceEqDiff,reduceIte,f5])
 |cons x l ih =>
  intro i n fr sg hd hg hn0 hn1 hf k1
  obtain⟨hx,hr,hi⟩:=b9J hd
  simp only[b9R,b9Q] at hf
  obtain⟨f1,f5,f14,f15,f16,-⟩:=hf
  refine Xl.step ?_
  simp only[c6U]
  have c1:(i:Int) < (ls.length:Int):=by omega
  have hw1:=d5J hi (show ls.length≤281474976710656 by have:B20=1100000:=rfl;omega)
  rw[d4R] at k1
  have hmem:=g4K hx
  have hlx:=g2Y.1 hlk x hmem
  have hbr:=d7M hkb x hlx
  have hw2:IntKind.wrap .i64 (n+bsS ks x)=n+bsS ks x:=d7N (by omega) (by omega)
  have hbe:=d4S ks x
  have hgk:=hg.get hk
  have cell:∀ r:Sg,∀ sg',Grow (sg++(false,[PV.t (.int .i64 x.kind),.t (.str x.name),.t (.bool x.typed),.t (.int .i64 x.ty.kind),.t (.int .i64 x.ty.bits),.t (.int .i64 x.ty.len),.t (.int .i64 x.ex.op),.t (.int .u64 x.ex.val),.t (.str x.ex.name),.t (.sl x.ex.nl (d1X x.ex.args)),.t (.int .i64 x.lo),.t (.int .i64 x.hi),.t (.sl x.nl (d2C x.body))])::r) sg'→sg'[sg.length]?=some (false,[PV.t (.int .i64 x.kind),.t (.str x.name),.t (.bool x.typed),.t (.int .i64 x.ty.kind),.t (.int .i64 x.ty.bits),.t (.int .i64 x.ty.len),.t (.int .i64 x.ex.op),.t (.int .u64 x.ex.val),.t (.str x.ex.name),.t (.sl x.ex.nl (d1X x.ex.args)),.t (.int .i64 x.lo),.t (.int .i64 x.hi),.t (.sl x.nl (d2C x.body))]):=fun r sg' h=>h.get (by simp)
  by_cases h3:x.kind=3
  ·rw[if_pos h3] at hbe
   have hlx2:=hlx
   rw[d7E,if_pos h3] at hlx2
   simp only[g2R,g5L] at hlx2
   obtain⟨⟨⟨l1,l2⟩,l3⟩,l4⟩:=hlx2
   have hw3:IntKind.wrap .i64 (x.hi - x.lo)=x.hi - x.lo:=d7N (by omega) (by omega)
   have hw4:IntKind.wrap .i64 ((x.hi - x.lo) * d4R ks x.body 0)=bsS ks x:=by rw[←hbe];exact d7N (by omega) (by omega)
   have hs:=fun r=>hrec x hmem h3 x.nl (sg++r) k ks ow (b1V hgk) hkb
   simp only[h3] at cell
   simp only[wA,seval,reduceCtorEq,reduceIte,f1,f5,f14,f15,f16,c1,hw1,hw3,g2X,hi,d2G,hx,g5F,d2E,h3,d5U,d5T,d5S,d5P,a1I]
   refine CallE.mono (hs _) ?_
   rintro v sg' ow' ⟨rfl,hg',rfl⟩
   have jc:=cell _ _ hg'
   simp only[wA,seval,reduceCtorEq,reduceIte,f1,f5,f14,f15,f16,hw1,hw2,hw4,mxT,jc,d5U,d5T,d5S,d5P]
   exact ih (i+1) (mn (n+bsS ks x) 20001) _ _ hr (hg.trans ((Grow.app _ _).trans hg')) (d7H (by omega) (by omega)) (d7G _ _).2 (by simp only[wQ,Nat.reduceEqDiff,reduceIte,f1,f14,f15];first|done|rfl) k1
  ·rw[if_neg h3] at hbe
   have hs:=fun r=>e2F (gl:=gl) x.ex (hsz x hmem) (sg++r) k ks ow (b1V hgk) hkb
   have hcr:=d7J hkb x.ex
   have hw3:IntKind.wrap .i64 (1+csE ks x.ex)=bsS ks x:=by rw[hbe];exact d7N (by omega) (by omega)
   simp only[d1Z] at hs
   simp only[wA,seval,reduceCtorEq,reduceIte,f1,f5,f14,f15,f16,c1,hw1,g2X,hi,d2G,hx,g5F,d2E,h3]
   refine CallE.mono (hs _) ?_
   rintro v sg' ow' ⟨rfl,hg',rfl⟩
   simp only[wA,seval,reduceCtorEq,reduceIte,f1,f5,f14,f15,f16,hw1,hw2,hw3,mxT]
   exact ih (i+1) (mn (n+bsS ks x) 20001) _ _ hr (hg.trans ((Grow.app _ _).trans hg')) (d7H (by omega) (by omega)) (d7G _ _).2 (by simp only[wQ,Nat.reduceEqDiff,reduceIte,f1,f14,f15];first|done|rfl) k1
theorem e2I {ls:List St} (hls:ls.length≤B20) (hlk:ls.all lkS=true) (hsz:∀ s,s∈ls→szE s.ex≤B20) (hrec:∀ s,s∈ls→s.kind=3→e2G gl s.body):e2G gl ls:=by
 intro nl sg k ks ow hk hkb
 refine XcE.of F107 rfl ?_
 simp only[c6V]
 simp only[wA,seval,reduceCtorEq,reduceIte,d2F]
 refine e2H hls hlk hsz hrec hkb hk _ ls 0 0 _ _ rfl (Grow.refl _) (by omega) (by omega) (by simp only[wQ,Nat.reduceEqDiff,reduceIte];first|done|exact⟨rfl,rfl⟩|rfl) ?_
 intro fr' sg' hg f5
 simp only[wA,seval,reduceCtorEq,reduceIte,f5]
 exact hg
theorem e2J:∀ s,lkS s=true→szS s≤B20→s.kind=3→e2G gl s.body:=by
 refine St.ind fun s ih hlk hsz h3=>?_
 rw[d7E,if_pos h3] at hlk
 simp only[g2R] at hlk
 have hb:=d6P hsz
 exact e2I hb.1 hlk.2 (fun x hx=>g4V (d2T x) (hb.2 x hx)) (fun x hx h=>ih x hx (g2Y.1 hlk.2 x hx) (hb.2 x hx) h)
theorem e2K {ls:List St} (hlk:ls.all lkS=true) (hsz:d2K ls≤B20):e2G gl ls :=
 e2I (g4V (d2S _) hsz) hlk (fun x hx=>g4V (d2T x) (g4V (d2Q hx) hsz)) fun x hx h=>e2J x (g2Y.1 hlk x hx) (g4V (d2Q hx) hsz) h
theorem e2L {ls:List Fu} {nl:Bool} (hls:ls.length≤B20) (hlk:∀ f,f∈ls→f.body.all lkS=true∧d2K f.body≤B20∧szE f.ret≤B20) {k:Nat} {b1:Nat} {sg0:Sg} (hk0:k < sg0.length) {ow:Ow} (Q:Ex→S→Prop):∀ (l:List Fu) (i:Nat) (ks:Ks) (fr:List PV) (sg:Sg),ls.drop i=l→Fr k sg0 sg→KsB ks→sg[k]?=some (true,iKs ks) →
  b9P fr [(1,.lp b1 0),(3,.mp k),(8,.t (.sl nl (ls.map fun f=>tFu f))),(9,.t (.int .i64 ls.length)),(10,.t (.int .i64 i))] →
  (∀ fr' sg',Fr k sg0 sg'→KsB (d4U l ks)→sg'[k]?=some (true,iKs (d4U l ks))→b9P fr' [(1,.lp b1 0),(3,.mp k)]→Q (.exit 0) ⟨fr',sg',ow⟩) →
  Xl F gl c5O ⟨fr,sg,ow⟩ Q ⟨⟩:=by
 intro l
 induction l with
 |nil =>
  intro i ks fr sg hd hg hkb hk hf k1
  have hd:=b9K hd
  simp only[b9R,b9Q] at hf
  obtain⟨f1,f3,f14,f15,f16,-⟩:=hf
  refine Xl.step ?_
  simp only[c5O]
  have c1:¬((i:Int) < (ls.length:Int)):=by omega
  have hem:d4U [] ks=ks:=by rw[d4U]
  rw[hem] at k1
  simp only[wA,seval,reduceCtorEq,reduceIte,f1,f3,f14,f15,f16,c1]
  exact k1 _ _ hg hkb hk (by simp only[wQ,Nat.reduceEqDiff,reduceIte,f1,f3])
 |cons x l ih =>
  intro i ks fr sg hd hg hkb hk hf k1
  obtain⟨hx,hr,hi⟩:=b9J hd
  simp only[b9R,b9Q] at hf
  obtain⟨f1,f3,f14,f15,f16,-⟩:=hf
  refine Xl.step ?_
  simp only[c5O]
  have c1:(i:Int) < (ls.length:Int):=by omega
  have hw1:=d5J hi (show ls.length≤281474976710656 by have:B20=1100000:=rfl;omega)
  rw[d4U] at k1
  obtain⟨x1,x2,x3⟩:=hlk x (g4K hx)
  have hbr:=d7K (ks:=ks) x.body (fun s hs=>(d7M hkb s (g2Y.1 x1 s hs)).1) 0 (by omega) (by omega)
  have hcr:=d7J hkb x.ret
  have hw2:IntKind.wrap .i64 (d4R ks x.body 0+csE ks x.ret)=d4R ks x.body 0+csE ks x.ret:=d7N (by omega) (by omega)
  have hs1:=fun r=>e2K (gl:=gl) x1 x2 x.bnl (sg++r) k ks ow (b1V hk) hkb
  have hs2:=fun sg2 (h:sg2[k]?=some (true,iKs ks))=>e2F (gl:=gl) x.ret x3 sg2 k ks ow h hkb
  simp only[d1Z] at hs2
  have cell:∀ r:Sg,∀ sg',Grow (sg++(false,cFu x)::r) sg'→sg'[sg.length]?=some (false,cFu x):=fun r sg' h=>h.get (by simp)
  simp only[wA,seval,reduceCtorEq,reduceIte,f1,f3,f14,f15,f16,c1,hw1,g2X,hi,g3O,hx,g5F,d5U,d5T,d5S,d5P,a1I]
  refine CallE.mono (hs1 _) ?_
  rintro v sg1 ow1 ⟨rfl,hg1,rfl⟩
  have jc:=cell _ _ hg1
  have hk1:=hg1.get (b1V hk)
  simp only[wA,seval,reduceCtorEq,reduceIte,f1,f3,f14,f15,f16,hw1,jc,d5U,d5T,d5S,d5P,a1I]
  refine CallE.mono (hs2 _ hk1) ?_
  rintro v sg2 ow2 ⟨rfl,hg2,rfl⟩
  have jc2:=hg2.get jc
  have hk2:=hg2.get hk1
  have hmp:=d5D x.name (mn 20001 (d4R ks x.body 0+csE ks x.ret)) ks
  have hkl2:=d4Y hk2
  simp only[wA,seval,reduceCtorEq,reduceIte,f1,f3,f14,f15,f16,hw1,hw2,jc,jc2,hk2,d5U,d5T,d5S,d5P,a1I,mxT,a1D,d5B]
  refine ih (i+1) (d4T x.name (mn 20001 (d4R ks x.body 0+csE ks x.ret)) ks) _ _ hr ((hg.trans (Fr.of ((Grow.app _ _).trans (hg1.trans hg2)))).set _) (hkb.put _ (d7H (by omega) (by omega)) (d7G _ _).1) (by rw[g3S hkl2];exact congrArg (fun y=>some (true,y)) hmp) (by simp only[wQ,Nat.reduceEqDiff,reduceIte,f1,f3,f14,f15];first|done|rfl) k1
theorem ok63 {p:Pg} (hp:PgSt p) (hl1:∀ f,f∈p.funcs→f.body.all lkS=true) (hl2:p.body.all lkS=true) {K:PV→Prop}:XcP F gl 63 [.agg (tPg p)] K ⟨⟩↔K (.t (.int .i64 (d4V p))):=by
 refine Ret.iff (Ret.of F63 rfl ?_)
 simp only[c5P]
 simp only[wA,seval,reduceCtorEq,reduceIte,g3X]
 refine e2L hp.fl (fun f hf=>⟨hl1 f hf,(hp.fs f hf).2.1,(hp.fs f hf).2.2⟩) (k:=1) (b1:=0) (sg0:=[(false,[PV.t (.sl p.fnl (p.funcs.map fun f=>tFu f)),.t (.sl p.dnl (p.decls.map fun f=>tDe f)),.t (.sl p.bnl (d2C p.body))]),(true,[])]) (by simp) _ p.funcs 0 [] _ _ rfl (Fr.refl _ _) KsB.nil rfl (by simp only[wQ,Nat.reduceEqDiff,reduceIte];first|done|exact⟨rfl,rfl⟩|rfl) ?_
 intro fr' sg' hg hkb hk hf
 simp only[b9R,b9Q] at hf
 obtain⟨f1,f3,-⟩:=hf
 have j0:=hg.get (i:=0) (x:=(false,[PV.t (.sl p.fnl (p.funcs.map fun f=>tFu f)),.t (.sl p.dnl (p.decls.map fun f=>tDe f)),.t (.sl p.bnl (d2C p.body))])) rfl (by omega)
 simp only[wA,seval,reduceCtorEq,reduceIte,f1,f3,j0]
 refine CallE.mono (e2K hl2 hp.bs p.bnl sg' 1 _ _ hk hkb) ?_
 rintro v sg2 ow2 ⟨rfl,hg2,rfl⟩
 simp only[wA,seval,reduceCtorEq,reduceIte]
 rfl
end Go.Proofs.YtdjcnfacjfnakaaGreat

/- Contracts: what the laws call. -/
namespace Go.Proofs.YtdjcnfacjfnakaaGreat
open Go.Pi Go.Lx Go.Ky Go.Lib
variable {gl:Nat→Option (List T)}
structure PgB (p:Pg):Prop where
 ok:PgOk p
 fl:p.funcs.length≤B20
 dl:p.decls.length≤B20
 fs:∀ f,f∈p.funcs→f.params.length≤B20∧d2K f.body≤B20∧szE f.ret≤B20
 bs:d2K p.body≤B20
theorem PgB.st {p:Pg} (h:PgB p) (hv:d3N p=0):PgSt p:=by
 have hb:(p.funcs.all fuB&&p.decls.all deB&&p.body.all stB)=true:=by
  unfold d3N at hv
  cases hc:(p.funcs.all fuB&&p.decls.all deB&&p.body.all stB) with
  |true=>rfl
  |false=>rw[hc] at hv;simp at hv
 simp only[g2R] at hb
 exact⟨h.ok,hb.1.1,hb.2,h.fl,h.dl,h.fs,h.bs⟩
theorem ok37 {p:Pg} (hp:PgB p) {K:PV→Prop}:XcP F gl 37 [.agg (tPg p)] K ⟨⟩↔K (.tup [.t (.int .i64 (d4W p).1),.t (.int .i64 (d4W p).2.1),.t (.int .i64 (d4W p).2.2)]):=by
 refine Ret.iff (Ret.of F37 rfl ?_)
 simp only[c4X]
 have hv:=fun K=>@ok61 gl p hp.ok ⟨fun f hf=>(hp.fs f hf).2,hp.bs⟩ K
 unfold d4W
 by_cases h0:d3N p=0
 ·rw[if_neg (by simpa using h0)]
  have hs:=hp.st h0
  have hcs:Cs ([(false,[PV.t (.sl p.fnl (p.funcs.map fun f=>tFu f)),.t (.sl p.dnl (p.decls.map fun f=>tDe f)),.t (.sl p.bnl (d2C p.body))]),(true,[]),(true,[]),(false,[PV.mp 1,.mp 2,.t (.sl true []),.t (.int .i64 0)])]:Sg) 3 1 2 [] [] (.t (.sl true [])) 0:=⟨⟨rfl,rfl,rfl⟩,⟨by simp,.inl ⟨rfl,rfl⟩⟩,by decide⟩
  simp only[wA,seval,reduceCtorEq,reduceIte,hv,h0]
  refine CallE.mono (ok62 hs hcs _) ?_
  rintro v sg' ow' ⟨rfl,hp1⟩
  by_cases h1:(d4N p).1=0
  ·obtain⟨od',hc,hg⟩:=hp1 h1
   have hlk:=d7S hs.fb hs.bb h1
   have hst:=fun K=>@ok63 gl p hs hlk.1 hlk.2 K
   have j0:=hg.get (i:=0) (v:=(false,[PV.t (.sl p.fnl (p.funcs.map fun f=>tFu f)),.t (.sl p.dnl (p.decls.map fun f=>tDe f)),.t (.sl p.bnl (d2C p.body))])) rfl (by omega) (by omega) (by omega) (by rintro⟨l,h⟩;cases h)
   by_cases h2:d4V p > 20000
   ·simp only[wA,seval,reduceCtorEq,reduceIte,h1,hc,j0,hst,h2]
    all_goals simp [h1,h2]
   ·simp only[wA,seval,reduceCtorEq,reduceIte,h1,hc,j0,hst,h2]
    all_goals simp [h1,h2]
  ·simp only[wA,seval,reduceCtorEq,reduceIte,h1]
   all_goals simp [h1]
 ·rw[if_pos (by simpa using h0)]
  simp only[wA,seval,reduceCtorEq,reduceIte,hv,h0]
theorem ok32 {p:Pg} (hp:PgB p) {K:PV→Prop}:XcP F gl 32 [.agg (tPg p)] K ⟨⟩↔K (.t (.int .i64 (d4W p).2.2)):=by
 refine Ret.iff (Ret.of F32 rfl ?_)
 simp only[c4W]
 have he:=fun K=>@ok37 gl p hp K
 simp only[wA,seval,reduceCtorEq,reduceIte,he]
theorem e2M {ls:List De} {nl:Bool} (hls:ls.length≤B20) {ow:Ow} (Q:Ex→S→Prop):∀ (l:List De) (i:Nat) (a b:Int) (fr:List PV) (sg:Sg),ls.drop i=l →
  b9P fr [(4,.t (.int .i64 a)),(5,.t (.int .i64 b)),(13,.t (.sl nl (ls.map fun f=>tDe f))),(14,.t (.int .i64 ls.length)),(15,.t (.int .i64 i))] →
  (∀ fr' sg',b9P fr' [(4,.t (.int .i64 (d7T l a b).1)),(5,.t (.int .i64 (d7T l a b).2))]→Q (.exit 0) ⟨fr',sg',ow⟩) →
  Xl F gl c4N ⟨fr,sg,ow⟩ Q ⟨⟩:=by
 intro l
 induction l with
 |nil =>
  intro i a b fr sg hd hf k1
  have hd:=b9K hd
  simp only[b9R,b9Q] at hf
  obtain⟨f4,f5,f14,f15,f16,-⟩:=hf
  refine Xl.step ?_
  simp only[c4N]
  have c1:¬((i:Int) < (ls.length:Int)):=by omega
  rw[d7T] at k1
  simp only[wA,seval,reduceCtorEq,reduceIte,f4,f5,f14,f15,f16,c1]
  exact k1 _ _ (by simp only[wQ,Nat.reduceEqDiff,reduceIte,f4,f5])
 |cons x l ih =>
  intro i a b fr sg hd hf k1
  obtain⟨hx,hr,hi⟩:=b9J hd
  simp only[b9R,b9Q] at hf
  obtain⟨f4,f5,f14,f15,f16,-⟩:=hf
  refine Xl.step ?_
  simp only[c4N]
  have c1:(i:Int) < (ls.length:Int):=by omega
  have hw1:=d5J hi (show ls.length≤281474976710656 by have:B20=1100000:=rfl;omega)
  rw[d7T] at k1
  cases hpub:x.pub with
  |true =>
   rw[hpub] at k1
   simp only[wA,seval,reduceCtorEq,reduceIte,f4,f5,f14,f15,f16,c1,hw1,g2X,hi,g3O,hx,g5F,hpub,mxT]
   exact ih (i+1) _ b _ _ hr (by simp only[wQ,Nat.reduceEqDiff,reduceIte,f4,f5,f14,f15];first|done|rfl) k1
  |false =>
   rw[hpub] at k1
   simp only[wA,seval,reduceCtorEq,reduceIte,f4,f5,f14,f15,f16,c1,hw1,g2X,hi,g3O,hx,g5F,hpub,mxT]
   exact ih (i+1) a _ _ _ hr (by simp only[wQ,Nat.reduceEqDiff,reduceIte,f4,f5,f14,f15];first|done|rfl) k1
theorem ok13 {p:Pg} (hp:PgB p) {K:PV→Prop}:XcP F gl 13 [.agg (tPg p)] K ⟨⟩↔K (.tup [.t (.int .i64 (d7U p).1),.t (.int .i64 (d7U p).2)]):=by
 refine Ret.iff (Ret.of F13 rfl ?_)
 simp only[c4O]
 have he:=fun K=>@ok32 gl p hp K
 unfold d7U
 by_cases h0:(d4W p).2.2=0
 ·rw[if_neg (by simpa using h0)]
  simp only[wA,seval,reduceCtorEq,reduceIte,he,h0,g3X]
  refine e2M hp.dl _ p.decls 0 0 0 _ _ rfl (by simp only[wQ,Nat.reduceEqDiff,reduceIte];first|done|exact⟨rfl,rfl⟩|rfl) ?_
  intro fr' sg' hf
  simp only[b9R,b9Q] at hf
  obtain⟨f4,f5,-⟩:=hf
  simp only[wA,seval,reduceCtorEq,reduceIte,f4,f5]
 ·rw[if_pos (by simpa using h0)]
  simp only[wA,seval,reduceCtorEq,reduceIte,he,h0]
theorem ok47 (n:Int) {K:PV→Prop}:XcP F gl 47 [.agg [.int .u64 n]] K ⟨⟩↔K (.t (.bool (fieldB n))):=by
 refine Ret.iff (Ret.of F47 rfl ?_)
 simp only[c4Y]
 unfold fieldB
 by_cases h1:n=18446744069414584321
 ·simp only[wA,seval,reduceCtorEq,reduceIte,h1]
  all_goals simp
 by_cases h2:n=17
 ·simp only[wA,seval,reduceCtorEq,reduceIte,h2]
  all_goals simp
 by_cases h3:n=97
 ·simp only[wA,seval,reduceCtorEq,reduceIte,h3]
  all_goals simp
 by_cases h4:n=193
 ·simp only[wA,seval,reduceCtorEq,reduceIte,h4]
  all_goals simp
 by_cases h5:n=257
 ·simp only[wA,seval,reduceCtorEq,reduceIte,h5]
  all_goals simp
 by_cases h6:n=12289
 ·simp only[wA,seval,reduceCtorEq,reduceIte,h6]
  all_goals simp
 by_cases h7:n=65537
 ·simp only[wA,seval,reduceCtorEq,reduceIte,h7]
  all_goals simp
 simp only[wA,seval,reduceCtorEq,reduceIte,h1,h2,h3,h4,h5,h6,h7]
 all_goals simp
end Go.Proofs.YtdjcnfacjfnakaaGreat
