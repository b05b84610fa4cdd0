/- Contracts: statements. -/
import Derived.Test.YtdjcnfacjfnakaaGreatK13
import Derived.Test.YtdjcnfacjfnakaaGreatKx19
import Derived.Test.YtdjcnfacjfnakaaGreatKx19
set_option maxRecDepth 10000
set_option linter.unusedVariables false
set_option linter.unusedSimpArgs false
namespace Go.Proofs.YtdjcnfacjfnakaaGreat
open Go.Pi Go.Lx Go.Ky Go.Lib
variable {gl:Nat->Option (List T)}
def e1Y (gl:Nat->Option (List T)) (fs:Fs) (s:St):Prop :=
 ∀ (sg:Sg) (c f n:Nat) (ns:Ns) (od:PV) (w:Int) (ow:Ow),Cs sg c f n fs ns od w->ns.length+szS s<=2 * B20->CallE F gl 149 [.lp c 0,.t (.agg (tSt s))] sg ow λv sg' ow'=>d6B c f n fs od sg (stM fs s ns w) v sg'
theorem e1Z {fs:Fs} {ls:List St} {nl:Bool} (hls:ls.length<=B20) (hrec:∀ s,s∈ls->e1Y gl fs s) {c f n:Nat} {m:Nat} {od0:PV} {sg0:Sg} (Q:Ex->S->Prop):∀ (l:List St) (i:Nat) (ns:Ns) (od:PV) (w:Int) (fr:List PV) (sg:Sg) (ow:Ow),ls.drop i=l->Cs sg c f n fs ns od w->Fq c n od0 od sg0 sg->ns.length+d2G l<=2 * B20 ->
  b6S fr [(0,.lp c 0),(5,.t (.int .i64 m)),(14,.t (.sl nl (d1M ls))),(15,.t (.int .i64 ls.length)),(16,.t (.int .i64 i))] ->
  ((d4C fs l ns w).1=0->∀ fr' sg' ow' od',Cs sg' c f n fs (d4C fs l ns w).2.1 od' (d4C fs l ns w).2.2->Fq c n od0 od' sg0 sg'->b6S fr' [(0,.lp c 0),(5,.t (.int .i64 m))]->Q (.exit 0) ⟨fr',sg',ow'⟩) ->
  ((d4C fs l ns w).1≠0->∀ fr' sg' ow',a0A fr' 4=.t (.int .i64 (d4C fs l ns w).1)->Q .ret ⟨fr',sg',ow'⟩) ->
  Xl F gl c5K ⟨fr,sg,ow⟩ Q ⟨⟩:=by
 intro l
 induction l with
 |nil =>
  intro i ns od w fr sg ow hd hk hq hsz hf k1 k2
  have hd:=b6N hd
  simp only[b6U,b6T] at hf
  obtain⟨f0,f5,f14,f15,f16,-⟩:=hf
  refine Xl.step ?_
  simp only[c5K]
  have c1:¬((i:Int) < (ls.length:Int)):=by omega
  have hem:d4C fs [] ns w=(0,ns,w):=by rw[d4C]
  rw[hem] at k1
  simp only[wA,seval,f0,f5,f14,f15,f16,c1]
  exact k1 rfl _ _ _ od hk hq (by simp only[wQ,seval,f0,f5])
 |cons x l ih =>
  intro i ns od w fr sg ow hd hk hq hsz hf k1 k2
  obtain⟨hx,hr,hi⟩:=b6M hd
  simp only[b6U,b6T] at hf
  obtain⟨f0,f5,f14,f15,f16,-⟩:=hf
  refine Xl.step ?_
  simp only[c5K]
  have c1:(i:Int) < (ls.length:Int):=by omega
  have hw1:=d5F hi (show ls.length<=281474976710656 by have:B20=1100000:=rfl;omega)
  rw[d6G] at k1 k2
  rw[d2K] at hsz
  have hs:=λr=>hrec x (g6K hx) (sg++r) c f n ns od w ow (hk.grow (.app _ _)) (by omega)
  simp only[d1O] at hs
  simp only[wA,seval,f0,f5,f14,f15,f16,c1,hw1,g4Z,hi,d1Q,hx,g7F,d1O]
  refine CallE.mono (hs _) ?_
  rintro v sg' ow' ⟨rfl,hp⟩
  by_cases he:(stM fs x ns w).1=0
  ·obtain⟨od',hk',hq'⟩:=hp he
   rw[if_neg (by simpa using he)] at k1 k2
   simp only[wA,seval,f0,f5,f14,f15,f16,hw1,he]
   obtain⟨r,hr1,hr2⟩:=d6F fs x ns w he
   have hsx:1<=szS x:=by rw[d2J];omega
   refine ih (i+1) _ od' _ _ _ _ hr hk' (hq.trans ((Fq.of (Fr.of (.app _ _))).trans hq')) (by rw[hr1,g5W];omega) (by simp only[wQ,seval,f0,f5,f14,f15]) k1 k2
  ·rw[if_pos (by simpa using he)] at k1 k2
   simp only[wA,seval,f0,f5,f14,f15,f16,he]
   exact k2 he _ _ _ (by simp only[wQ,seval])
theorem e2A {fs:Fs} {ls:List St} {nl:Bool} (hls:ls.length<=B20) (hrec:∀ s,s∈ls->e1Y gl fs s) {c f n:Nat} {ns:Ns} {od:PV} {w:Int} {sg:Sg} (hk:Cs sg c f n fs ns od w) (hsz:ns.length+d2G ls<=2 * B20) (ow:Ow) :
  CallE F gl 106 [.lp c 0,.t (.sl nl (d1M ls))] sg ow λv sg' ow'=>d6B c f n fs od sg (d4D fs ls ns w) v sg':=by
 refine XcE.of F106 rfl ?_
 simp only[c5L]
 have hc:=hk.ck.c
 have hol:=hk.od.len
 have hb:B20=1100000:=rfl
 have hb2:B47=140737488355328:=rfl
 rw[d6I]
 have hn0:ns.length<=2 * B20:=by omega
 rcases hk.od.2 with⟨rfl,rfl⟩|⟨oid,cs,rfl,o1,o2,o3⟩
 ·simp only[wA,seval,hc,d1P,g5Z]
  refine e1Z hls hrec (m:=0) (od0:=(.t (.sl true []))) (sg0:=sg) _ ls 0 [] (.t (.sl true [])) w _ _ _ rfl hk (Fq.refl _ _ _ _) hsz (by simp only[wQ,seval,g5Z];first|done|exact⟨rfl,rfl⟩|rfl) ?_ ?_
  ·intro h0 fr' sg' ow' od' hk' hq' hf
   rw[if_neg (by simpa using h0)]
   simp only[b6U,b6T] at hf
   obtain⟨f0,f5,-⟩:=hf
   obtain⟨r,hr1,hr2⟩:=d6H fs ls [] w h0
   rw[hr1] at hk'
   simp only[wA,seval,f0,f5]
   refine CallE.mono (e1X hk' (by rw[g5W];have:=@List.length_nil (Nm×Sy);omega) (m:=0) (by rw[g5W];have:=@List.length_nil (Nm×Sy);omega) ow') ?_
   rintro v2 sg2 ow2 ⟨od2,hk2,hq2⟩
   rw[List.take_zero] at hk2
   simp only[wA,seval,f0,f5]
   exact⟨rfl,λ_=>⟨od2,hk2,hq'.trans hq2⟩⟩
  ·intro h0 fr' sg' ow' f4
   rw[if_pos (by simpa using h0)]
   simp only[wA,seval,f4]
   exact⟨rfl,λe=>absurd e h0⟩
 ·simp only[wA,seval,hc,d1P,g5Z]
  refine e1Z hls hrec (m:=ns.length) (od0:=(.bf oid ns.length 1)) (sg0:=sg) _ ls 0 ns (.bf oid ns.length 1) w _ _ _ rfl hk (Fq.refl _ _ _ _) hsz (by simp only[wQ,seval,g5Z];first|done|exact⟨rfl,rfl⟩|rfl) ?_ ?_
  ·intro h0 fr' sg' ow' od' hk' hq' hf
   rw[if_neg (by simpa using h0)]
   simp only[b6U,b6T] at hf
   obtain⟨f0,f5,-⟩:=hf
   obtain⟨r,hr1,hr2⟩:=d6H fs ls ns w h0
   rw[hr1] at hk'
   simp only[wA,seval,f0,f5]
   refine CallE.mono (e1X hk' (by rw[g5W];have:=hn0;omega) (m:=ns.length) (by rw[g5W];have:=hn0;omega) ow') ?_
   rintro v2 sg2 ow2 ⟨od2,hk2,hq2⟩
   rw[List.take_left] at hk2
   simp only[wA,seval,f0,f5]
   exact⟨rfl,λ_=>⟨od2,hk2,hq'.trans hq2⟩⟩
  ·intro h0 fr' sg' ow' f4
   rw[if_pos (by simpa using h0)]
   simp only[wA,seval,f4]
   exact⟨rfl,λe=>absurd e h0⟩
theorem e2B {fs:Fs} {s:St} (h3:s.kind=3) (hsz0:szS s<=B20) (hrec:∀ b,b∈s.body->e1Y gl fs b) {c f n:Nat} {ns:Ns} {od:PV} {w:Int} {sg:Sg} (hk:Cs sg c f n fs ns od w) (hsz:ns.length+szS s<=2 * B20) (ow:Ow) :
  CallE F gl 185 [.lp c 0,.t (.agg (tSt s))] sg ow λv sg' ow'=>d6B c f n fs od sg (stM fs s ns w) v sg':=by
 refine XcE.of F185 rfl ?_
 simp only[c8W]
 have hcl:=d4U hk.ck.c
 have hc:=hk.ck.c
 have hb:B20=1100000:=rfl
 have hb2:B47=140737488355328:=rfl
 have hsz2:=hsz0
 rw[d2J] at hsz hsz2
 have hbl:s.body.length<=B20:=by have:=d2O s.body;omega
 by_cases hlh:s.lo > s.hi
 ·rw[d6J h3,if_pos hlh]
  simp only[wA,seval,d1O,hlh]
  exact⟨rfl,λh=>by cases h⟩
 have hdec:=λr o=>e1U (gl:=gl) (hk.grow (.app sg r)) s.name ⟨fieldT,true,s.lo,s.hi⟩ (by omega) o
 rcases hk.od.2 with⟨rfl,rfl⟩|⟨oid,cs,rfl,o1,o2,o3⟩
 ·simp only[wA,seval,d1O,hlh,d5I hcl,hc,e1B,g5Z]
  refine CallE.mono (hdec _ _) ?_
  rintro v sg1 ow1 ⟨rfl,hp1⟩
  by_cases hd:(d4A s.name ⟨fieldT,true,s.lo,s.hi⟩ [] w).1=0
  ·obtain⟨od1,hk1,hq1⟩:=hp1 hd
   have hqe:=d6E hd
   rw[hqe] at hk1
   have j3:=hq1.get (i:=sg.length) (v:=(false,[.t (.int .i64 s.kind),.t (.str s.name),.t (.bool s.typed),.t (.int .i64 s.ty.kind),.t (.int .i64 s.ty.bits),.t (.int .i64 s.ty.len),.t (.int .i64 s.ex.op),.t (.int .u64 s.ex.val),.t (.str s.ex.name),.t (.sl s.ex.nl (d1H s.ex.args)),.t (.int .i64 s.lo),.t (.int .i64 s.hi),.t (.sl s.nl (d1M s.body))])) (by simp) (by omega) (by have:=d4U hk.ck.n;omega) (hk.notB2 (g6U _))
   simp only[wA,seval,j3,g5Z,hd]
   refine CallE.mono (e2A hbl hrec hk1 (by simp only[g5W,g5X,g5Z];simp only[g5Z] at hsz;omega) _) ?_
   rintro v sg2 ow2 ⟨rfl,hp2⟩
   by_cases hb0:(d4C fs s.body ([]++[(s.name,⟨fieldT,true,s.lo,s.hi⟩)]) w).1=0
   ·have hM:stM fs s [] w=(0,[],(d4C fs s.body ([]++[(s.name,⟨fieldT,true,s.lo,s.hi⟩)]) w).2.2):=by
     rw[d6J h3,if_neg hlh,if_neg (by simpa using hd),hqe,if_neg (by simpa using hb0)]
    rw[hM]
    have hB:d4D fs s.body ([]++[(s.name,⟨fieldT,true,s.lo,s.hi⟩)]) w=(0,[]++[(s.name,⟨fieldT,true,s.lo,s.hi⟩)],(d4C fs s.body ([]++[(s.name,⟨fieldT,true,s.lo,s.hi⟩)]) w).2.2):=by
     rw[d6I,if_neg (by simpa using hb0)]
    rw[hB] at hp2 ⊢
    obtain⟨od2,hk2,hq2⟩:=hp2 rfl
    simp only[wA,seval,hb0]
    refine CallE.mono (e1X hk2 (m:=0) (by simp only[g5W,g5X,g5Z];simp only[g5Z] at hsz;omega) (by simp) ow2) ?_
    rintro v sg3 ow3 ⟨od3,hk3,hq3⟩
    rw[List.take_zero] at hk3
    simp only[wA,seval]
    exact⟨rfl,λ_=>⟨od3,hk3,((Fq.of (Fr.of (.app _ _))).trans hq1).trans (hq2.trans hq3)⟩⟩
   ·have hM:stM fs s [] w=d4C fs s.body ([]++[(s.name,⟨fieldT,true,s.lo,s.hi⟩)]) w:=by
     rw[d6J h3,if_neg hlh,if_neg (by simpa using hd),hqe,if_pos (by simpa using hb0)]
    rw[hM]
    have hB:d4D fs s.body ([]++[(s.name,⟨fieldT,true,s.lo,s.hi⟩)]) w=d4C fs s.body ([]++[(s.name,⟨fieldT,true,s.lo,s.hi⟩)]) w:=by
     rw[d6I,if_pos (by simpa using hb0)]
    rw[hB]
    generalize d4C fs s.body ([]++[(s.name,⟨fieldT,true,s.lo,s.hi⟩)]) w=qq at hb0 ⊢
    simp only[wA,seval,hb0]
    exact⟨rfl,λe=>absurd e hb0⟩
  ·have hM:stM fs s [] w=d4A s.name ⟨fieldT,true,s.lo,s.hi⟩ [] w:=by
    rw[d6J h3,if_neg hlh,if_pos (by simpa using hd)]
   rw[hM]
   simp only[wA,seval,hd]
   exact⟨rfl,λe=>absurd e hd⟩
 ·simp only[wA,seval,d1O,hlh,d5I hcl,hc,e1B,g5Z]
  refine CallE.mono (hdec _ _) ?_
  rintro v sg1 ow1 ⟨rfl,hp1⟩
  by_cases hd:(d4A s.name ⟨fieldT,true,s.lo,s.hi⟩ ns w).1=0
  ·obtain⟨od1,hk1,hq1⟩:=hp1 hd
   have hqe:=d6E hd
   rw[hqe] at hk1
   have j3:=hq1.get (i:=sg.length) (v:=(false,[.t (.int .i64 s.kind),.t (.str s.name),.t (.bool s.typed),.t (.int .i64 s.ty.kind),.t (.int .i64 s.ty.bits),.t (.int .i64 s.ty.len),.t (.int .i64 s.ex.op),.t (.int .u64 s.ex.val),.t (.str s.ex.name),.t (.sl s.ex.nl (d1H s.ex.args)),.t (.int .i64 s.lo),.t (.int .i64 s.hi),.t (.sl s.nl (d1M s.body))])) (by simp) (by omega) (by have:=d4U hk.ck.n;omega) (hk.notB2 (g6U _))
   simp only[wA,seval,j3,g5Z,hd]
   refine CallE.mono (e2A hbl hrec hk1 (by simp only[g5W,g5X,g5Z];omega) _) ?_
   rintro v sg2 ow2 ⟨rfl,hp2⟩
   by_cases hb0:(d4C fs s.body (ns++[(s.name,⟨fieldT,true,s.lo,s.hi⟩)]) w).1=0
   ·have hM:stM fs s ns w=(0,ns,(d4C fs s.body (ns++[(s.name,⟨fieldT,true,s.lo,s.hi⟩)]) w).2.2):=by
     rw[d6J h3,if_neg hlh,if_neg (by simpa using hd),hqe,if_neg (by simpa using hb0)]
    rw[hM]
    have hB:d4D fs s.body (ns++[(s.name,⟨fieldT,true,s.lo,s.hi⟩)]) w=(0,ns++[(s.name,⟨fieldT,true,s.lo,s.hi⟩)],(d4C fs s.body (ns++[(s.name,⟨fieldT,true,s.lo,s.hi⟩)]) w).2.2):=by
     rw[d6I,if_neg (by simpa using hb0)]
    rw[hB] at hp2 ⊢
    obtain⟨od2,hk2,hq2⟩:=hp2 rfl
    simp only[wA,seval,hb0]
    refine CallE.mono (e1X hk2 (m:=ns.length) (by simp only[g5W,g5X,g5Z];omega) (by simp) ow2) ?_
    rintro v sg3 ow3 ⟨od3,hk3,hq3⟩
    rw[List.take_left] at hk3
    simp only[wA,seval]
    exact⟨rfl,λ_=>⟨od3,hk3,((Fq.of (Fr.of (.app _ _))).trans hq1).trans (hq2.trans hq3)⟩⟩
   ·have hM:stM fs s ns w=d4C fs s.body (ns++[(s.name,⟨fieldT,true,s.lo,s.hi⟩)]) w:=by
     rw[d6J h3,if_neg hlh,if_neg (by simpa using hd),hqe,if_pos (by simpa using hb0)]
    rw[hM]
    have hB:d4D fs s.body (ns++[(s.name,⟨fieldT,true,s.lo,s.hi⟩)]) w=d4C fs s.body (ns++[(s.name,⟨fieldT,true,s.lo,s.hi⟩)]) w:=by
     rw[d6I,if_pos (by simpa using hb0)]
    rw[hB]
    generalize d4C fs s.body (ns++[(s.name,⟨fieldT,true,s.lo,s.hi⟩)]) w=qq at hb0 ⊢
    simp only[wA,seval,hb0]
    exact⟨rfl,λe=>absurd e hb0⟩
  ·have hM:stM fs s ns w=d4A s.name ⟨fieldT,true,s.lo,s.hi⟩ ns w:=by
    rw[d6J h3,if_neg hlh,if_pos (by simpa using hd)]
   rw[hM]
   simp only[wA,seval,hd]
   exact⟨rfl,λe=>absurd e hd⟩
theorem e2C {fs:Fs}:∀ s,StOk s->stB s=true->szS s<=B20->e1Y gl fs s:=by
 refine St.ind λs ih hok hB hsz0=>?_
 intro sg c f n ns od w ow hk hsz
 refine XcE.of F149 rfl ?_
 simp only[c7H]
 have hcl:=d4U hk.ck.c
 have hb:B20=1100000:=rfl
 have hb2:B47=140737488355328:=rfl
 by_cases h3:s.kind=3
 ·have hrec:∀ b,b∈s.body->e1Y gl fs b:=λb hb=>ih b hb (d6P hok b hb) (d6N hB h3 b hb) ((d6L hsz0).2 b hb)
  have hq:=λr=>e2B (gl:=gl) h3 hsz0 hrec (hk.grow (.app sg r)) hsz ow
  simp only[d1O,h3] at hq
  simp only[wA,seval,d1O,h3]
  refine CallE.mono (hq _) ?_
  rintro v sg1 ow1 ⟨rfl,hp⟩
  simp only[wA,seval]
  exact⟨rfl,λe=>by obtain⟨od',h1,h2⟩:=hp e;exact⟨od',h1,(Fq.of (Fr.of (.app _ _))).trans h2⟩⟩
 have hex:=λr=>e1T (gl:=gl) (fs:=fs) (ns:=ns) s.ex (d6O hok) (g6V (d2P s) hsz0) (d6M hB h3) (sg++r) c f n od w ow (hk.ck.grow (.app _ _))
 simp only[d1J] at hex
 simp only[wA,seval,d1O,h3]
 refine CallE.mono (hex _) ?_
 rintro v sg1 ow1 ⟨rfl,hc1,hfr1⟩
 have hF:Fr c sg sg1:=(Fr.of (.app _ _)).trans hfr1
 have hk1:=hk.fr hF hc1
 have j3:=hfr1.get (i:=sg.length) (x:=(false,[.t (.int .i64 s.kind),.t (.str s.name),.t (.bool s.typed),.t (.int .i64 s.ty.kind),.t (.int .i64 s.ty.bits),.t (.int .i64 s.ty.len),.t (.int .i64 s.ex.op),.t (.int .u64 s.ex.val),.t (.str s.ex.name),.t (.sl s.ex.nl (d1H s.ex.args)),.t (.int .i64 s.lo),.t (.int .i64 s.hi),.t (.sl s.nl (d1M s.body))])) (by simp) (by omega)
 have m3:=d4U j3
 rw[d6K h3]
 generalize exM fs ns s.ex w=q at *
 obtain⟨⟨t,er⟩,w1⟩:=q
 simp only at hc1 hk1 ⊢
 by_cases he:er=0
 ·subst he
  rw[if_neg (by simp)]
  by_cases h2:s.kind=2
  ·rw[if_pos h2]
   simp only[wA,seval,h2,d5I m3,j3,e1B]
   repeat' ((with_reducible first|refine c0S ?_ ?_|refine c0T ?_ ?_|refine c0R ?_ ?_|refine c0Q ?_ ?_|refine c0O ?_ ?_|refine c0P ?_ ?_|refine c0N ?_ ?_|refine c0M ?_ ?_) <;> intro h <;> (try simp only[wA,seval,h2,d5I m3,j3,e1B,h]))
   ·rw[d5C] at h
    rw[if_neg (λe=>e (g7P h))]
    exact⟨rfl,λ_=>⟨od,hk1.grow (.app _ _),Fq.of (hF.app _)⟩⟩
   ·rw[d5C] at h
    rw[if_pos (show t≠d1G from g7O h)]
    exact⟨rfl,λe=>by cases e⟩
  ·rw[if_neg h2]
   cases hty:s.typed with
   |false =>
    have hdec:=λr=>e1U (gl:=gl) (hk1.grow (.app sg1 r)) s.name ⟨t,false,0,0⟩ (by omega) ow1
    rw[if_neg (by simp)]
    simp only[wA,seval,h2,d5I m3,j3,hty]
    refine CallE.mono (hdec _) ?_
    rintro v sg2 ow2 ⟨rfl,hp⟩
    simp only[wA,seval]
    exact⟨rfl,λe=>by obtain⟨od',x1,x2⟩:=hp e;exact⟨od',x1,(Fq.of (hF.app _)).trans x2⟩⟩
   |true =>
    rw[if_pos rfl]
    by_cases tl:s.ty.len=0
    ·have tl':(s.ty.len=0)=True:=g7N tl
     by_cases t0:t.len=0
     ·have hnt:=λr=>e1V (gl:=gl) (hk1.ck.grow (.app sg1 r)) s.ty ow1
      have t0':(t.len=0)=True:=g7N t0
      rw[if_neg (by simp [tl,t0])]
      simp only[wA,seval,h2,d5I m3,j3,hty,tl',t0',e1D]
      refine CallE.mono (hnt _) ?_
      rintro v sg2 ow2 ⟨hc2,hfr2⟩
      have hF2:Fr c sg sg2:=hF.trans ((Fr.of (.app _ _)).trans hfr2)
      have hk2:=hk.fr hF2 hc2
      have k3:=hfr2.get (i:=sg.length) (x:=(false,[.t (.int .i64 s.kind),.t (.str s.name),.t (.bool true),.t (.int .i64 s.ty.kind),.t (.int .i64 s.ty.bits),.t (.int .i64 s.ty.len),.t (.int .i64 s.ex.op),.t (.int .u64 s.ex.val),.t (.str s.ex.name),.t (.sl s.ex.nl (d1H s.ex.args)),.t (.int .i64 s.lo),.t (.int .i64 s.hi),.t (.sl s.nl (d1M s.body))])) (by rw[d5I m3];exact hty ▸ j3) (by omega)
      have k5:=hfr2.get (i:=sg1.length) (x:=(false,cTy t)) (by simp) (by have:=d4U hc1;omega)
      have mc2:=d4U hc2
      have hse:∀ x,Fr c sg (sg2.set sg1.length x):=λx=>Fr2.fr (a:=sg1.length) (Fr.refl c sg) ((Fr2.of hF2).set _) hF.1
      have hk3:∀ x,Cs (sg2.set sg1.length x) c f n fs ns od (d4B s.ty w1):=λx=>hk.fr (hse x) (by rw[g5S (by have:=d4U hc1;omega)];exact hc2)
      have hdec:=λx=>e1U (gl:=gl) (hk3 x) s.name ⟨s.ty,false,0,0⟩ (by omega) ow2
      have e3:∀ x,(sg2.set sg1.length x)[sg.length]?=sg2[sg.length]?:=λx=>g5S (by have:=d4U j3;omega)
      simp only[wA,seval,k3,k5,d4T k5,e3]
      refine CallE.mono (hdec _) ?_
      rintro v sg3 ow3 ⟨rfl,hp⟩
      simp only[wA,seval]
      exact⟨rfl,λe=>by obtain⟨od',x1,x2⟩:=hp e;exact⟨od',x1,(Fq.of (hse _)).trans x2⟩⟩
     ·have t0':(t.len=0)=False:=g7M t0
      rw[if_pos (by simp [tl,t0])]
      simp only[wA,seval,h2,d5I m3,j3,hty,tl',t0',e1D]
      exact⟨rfl,λe=>by cases e⟩
    ·cases hfi:d3K t s.ty with
     |true =>
      have hnt:=λr=>e1V (gl:=gl) (hk1.ck.grow (.app sg1 r)) s.ty ow1
      rw[if_neg (by simp [tl,hfi])]
      simp only[wA,seval,h2,d5I m3,j3,hty,tl,hfi,e1D]
      refine CallE.mono (hnt _) ?_
      rintro v sg2 ow2 ⟨hc2,hfr2⟩
      have hF2:Fr c sg sg2:=hF.trans ((Fr.of (.app _ _)).trans hfr2)
      have hk2:=hk.fr hF2 hc2
      have k3:=hfr2.get (i:=sg.length) (x:=(false,[.t (.int .i64 s.kind),.t (.str s.name),.t (.bool true),.t (.int .i64 s.ty.kind),.t (.int .i64 s.ty.bits),.t (.int .i64 s.ty.len),.t (.int .i64 s.ex.op),.t (.int .u64 s.ex.val),.t (.str s.ex.name),.t (.sl s.ex.nl (d1H s.ex.args)),.t (.int .i64 s.lo),.t (.int .i64 s.hi),.t (.sl s.nl (d1M s.body))])) (by rw[d5I m3];exact hty ▸ j3) (by omega)
      have k5:=hfr2.get (i:=sg1.length) (x:=(false,cTy t)) (by simp) (by have:=d4U hc1;omega)
      have mc2:=d4U hc2
      have hse:∀ x,Fr c sg (sg2.set sg1.length x):=λx=>Fr2.fr (a:=sg1.length) (Fr.refl c sg) ((Fr2.of hF2).set _) hF.1
      have hk3:∀ x,Cs (sg2.set sg1.length x) c f n fs ns od (d4B s.ty w1):=λx=>hk.fr (hse x) (by rw[g5S (by have:=d4U hc1;omega)];exact hc2)
      have hdec:=λx=>e1U (gl:=gl) (hk3 x) s.name ⟨s.ty,false,0,0⟩ (by omega) ow2
      have e3:∀ x,(sg2.set sg1.length x)[sg.length]?=sg2[sg.length]?:=λx=>g5S (by have:=d4U j3;omega)
      simp only[wA,seval,k3,k5,d4T k5,e3]
      refine CallE.mono (hdec _) ?_
      rintro v sg3 ow3 ⟨rfl,hp⟩
      simp only[wA,seval]
      exact⟨rfl,λe=>by obtain⟨od',x1,x2⟩:=hp e;exact⟨od',x1,(Fq.of (hse _)).trans x2⟩⟩
     |false =>
      rw[if_pos (by simp [tl,hfi])]
      simp only[wA,seval,h2,d5I m3,j3,hty,tl,hfi,e1D]
      exact⟨rfl,λe=>by cases e⟩
 ·rw[if_pos (by simpa using he)]
  simp only[wA,seval,he]
  exact⟨rfl,λe=>absurd e he⟩
end Go.Proofs.YtdjcnfacjfnakaaGreat

/- Contracts: functions. -/
namespace Go.Proofs.YtdjcnfacjfnakaaGreat
open Go.Pi Go.Lx Go.Ky Go.Lib
variable {gl:Nat->Option (List T)}
theorem e2D {fs:Fs} {ls:List St} {nl:Bool} (hls:ls.length<=B20) (hrec:∀ s,s∈ls->e1Y gl fs s) {c f n:Nat} {b3:Nat} {m:Nat} {od0:PV} {sg0:Sg} (Q:Ex->S->Prop):∀ (l:List St) (i:Nat) (ns:Ns) (od:PV) (w:Int) (fr:List PV) (sg:Sg) (ow:Ow),ls.drop i=l->Cs sg c f n fs ns od w->Fq c n od0 od sg0 sg->ns.length+d2G l<=2 * B20 ->
  b6S fr [(0,.lp c 0),(3,.lp b3 0),(7,.t (.int .i64 m)),(51,.t (.sl nl (d1M ls))),(52,.t (.int .i64 ls.length)),(53,.t (.int .i64 i))] ->
  ((d4C fs l ns w).1=0->∀ fr' sg' ow' od',Cs sg' c f n fs (d4C fs l ns w).2.1 od' (d4C fs l ns w).2.2->Fq c n od0 od' sg0 sg'->b6S fr' [(0,.lp c 0),(3,.lp b3 0),(7,.t (.int .i64 m))]->Q (.exit 2) ⟨fr',sg',ow'⟩) ->
  ((d4C fs l ns w).1≠0->∀ fr' sg' ow',a0A fr' 4=.t (.int .i64 (d4C fs l ns w).1)->Q .ret ⟨fr',sg',ow'⟩) ->
  Xl F gl c5F ⟨fr,sg,ow⟩ Q ⟨⟩:=by
 intro l
 induction l with
 |nil =>
  intro i ns od w fr sg ow hd hk hq hsz hf k1 k2
  have hd:=b6N hd
  simp only[b6U,b6T] at hf
  obtain⟨f0,f3,f7,f14,f15,f16,-⟩:=hf
  refine Xl.step ?_
  simp only[c5F]
  have c1:¬((i:Int) < (ls.length:Int)):=by omega
  have hem:d4C fs [] ns w=(0,ns,w):=by rw[d4C]
  rw[hem] at k1
  simp only[wA,seval,f0,f3,f7,f14,f15,f16,c1]
  exact k1 rfl _ _ _ od hk hq (by simp only[wQ,seval,f0,f3,f7])
 |cons x l ih =>
  intro i ns od w fr sg ow hd hk hq hsz hf k1 k2
  obtain⟨hx,hr,hi⟩:=b6M hd
  simp only[b6U,b6T] at hf
  obtain⟨f0,f3,f7,f14,f15,f16,-⟩:=hf
  refine Xl.step ?_
  simp only[c5F]
  have c1:(i:Int) < (ls.length:Int):=by omega
  have hw1:=d5F hi (show ls.length<=281474976710656 by have:B20=1100000:=rfl;omega)
  rw[d6G] at k1 k2
  rw[d2K] at hsz
  have hs:=λr=>hrec x (g6K hx) (sg++r) c f n ns od w ow (hk.grow (.app _ _)) (by omega)
  simp only[d1O] at hs
  simp only[wA,seval,f0,f3,f7,f14,f15,f16,c1,hw1,g4Z,hi,d1Q,hx,g7F,d1O]
  refine CallE.mono (hs _) ?_
  rintro v sg' ow' ⟨rfl,hp⟩
  by_cases he:(stM fs x ns w).1=0
  ·obtain⟨od',hk',hq'⟩:=hp he
   rw[if_neg (by simpa using he)] at k1 k2
   simp only[wA,seval,f0,f3,f7,f14,f15,f16,hw1,he]
   obtain⟨r,hr1,hr2⟩:=d6F fs x ns w he
   have hsx:1<=szS x:=by rw[d2J];omega
   refine ih (i+1) _ od' _ _ _ _ hr hk' (hq.trans ((Fq.of (Fr.of (.app _ _))).trans hq')) (by rw[hr1,g5W];omega) (by simp only[wQ,seval,f0,f3,f7,f14,f15]) k1 k2
  ·rw[if_pos (by simpa using he)] at k1 k2
   simp only[wA,seval,f0,f3,f7,f14,f15,f16,he]
   exact k2 he _ _ _ (by simp only[wQ,seval])
theorem e2E {fs:Fs} {ls:List Pa} {nl:Bool} (hls:ls.length<=B20) {c f n:Nat} {b3:Nat} {m:Nat} {od0:PV} {sg0:Sg} (Q:Ex->S->Prop):∀ (l:List Pa) (i:Nat) (ns:Ns) (od:PV) (w:Int) (fr:List PV) (sg:Sg) (ow:Ow),ls.drop i=l->Cs sg c f n fs ns od w->Fq c n od0 od sg0 sg->ns.length+l.length<=2 * B20 ->
  b6S fr [(0,.lp c 0),(3,.lp b3 0),(7,.t (.int .i64 m)),(33,.t (.sl nl (ls.map tPa))),(34,.t (.int .i64 ls.length)),(35,.t (.int .i64 i))] ->
  ((d4F l ns w).1=0->∀ fr' sg' ow' od',Cs sg' c f n fs (d4F l ns w).2.1 od' (d4F l ns w).2.2->Fq c n od0 od' sg0 sg'->b6S fr' [(0,.lp c 0),(3,.lp b3 0),(7,.t (.int .i64 m))]->Q (.exit 0) ⟨fr',sg',ow'⟩) ->
  ((d4F l ns w).1≠0->∀ fr' sg' ow',a0A fr' 4=.t (.int .i64 (d4F l ns w).1)->Q .ret ⟨fr',sg',ow'⟩) ->
  Xl F gl c5G ⟨fr,sg,ow⟩ Q ⟨⟩:=by
 intro l
 induction l with
 |nil =>
  intro i ns od w fr sg ow hd hk hq hsz hf k1 k2
  have hd:=b6N hd
  simp only[b6U,b6T] at hf
  obtain⟨f0,f3,f7,f14,f15,f16,-⟩:=hf
  refine Xl.step ?_
  simp only[c5G]
  have c1:¬((i:Int) < (ls.length:Int)):=by omega
  have hem:d4F [] ns w=(0,ns,w):=by rw[d4F]
  rw[hem] at k1
  simp only[wA,seval,f0,f3,f7,f14,f15,f16,c1]
  exact k1 rfl _ _ _ od hk hq (by simp only[wQ,seval,f0,f3,f7])
 |cons x l ih =>
  intro i ns od w fr sg ow hd hk hq hsz hf k1 k2
  obtain⟨hx,hr,hi⟩:=b6M hd
  simp only[b6U,b6T] at hf
  obtain⟨f0,f3,f7,f14,f15,f16,-⟩:=hf
  refine Xl.step ?_
  simp only[c5G]
  have c1:(i:Int) < (ls.length:Int):=by omega
  have hb:B20=1100000:=rfl
  have hb2:B47=140737488355328:=rfl
  have hw1:=d5F hi (show ls.length<=281474976710656 by omega)
  rw[d6Q] at k1 k2
  rw[g5X] at hsz
  have hs:=λr=>e1U (gl:=gl) (hk.grow (.app sg r)) x.name ⟨x.ty,false,0,0⟩ (by omega) ow
  simp only[wA,seval,f0,f3,f7,f14,f15,f16,c1,hw1,g4Z,hi,g5P,hx,g7F]
  refine CallE.mono (hs _) ?_
  rintro v sg' ow' ⟨rfl,hp⟩
  by_cases he:(d4A x.name ⟨x.ty,false,0,0⟩ ns w).1=0
  ·obtain⟨od',hk',hq'⟩:=hp he
   rw[if_neg (by simpa using he)] at k1 k2
   simp only[wA,seval,f0,f3,f7,f14,f15,f16,hw1,he]
   refine ih (i+1) _ od' _ _ _ _ hr hk' (hq.trans ((Fq.of (Fr.of (.app _ _))).trans hq')) (by rw[d6E he];simp;omega) (by simp only[wQ,seval,f0,f3,f7,f14,f15]) k1 k2
  ·rw[if_pos (by simpa using he)] at k1 k2
   simp only[wA,seval,f0,f3,f7,f14,f15,f16,he]
   exact k2 he _ _ _ (by simp only[wQ,seval])
theorem e2F {fs:Fs} {fu:Fu} (hok:FuOk fu) (hB:fuB fu=true) (hpl:fu.params.length<=B20) (hbs:d2G fu.body<=B20) (hrs:szE fu.ret<=B20) {c f n:Nat} {od:PV} {w:Int} {sg:Sg} (hk:Cs sg c f n fs [] od w) (ow:Ow) :
  CallE F gl 103 [.lp c 0,.t (.agg (tFu fu))] sg ow λv sg' ow'=>v=.t (.int .i64 (d4G fs fu w).1)/\((d4G fs fu w).1=0->∃ od',Cs sg' c f n (d4G fs fu w).2.1 [] od' (d4G fs fu w).2.2/\Fg c f n od od' sg sg'):=by
 refine XcE.of F103 rfl ?_
 simp only[c5H]
 have hcl:=d4U hk.ck.c
 have hfl:=d4U hk.ck.f
 have hc:=hk.ck.c
 have hf:=hk.ck.f
 have hb:B20=1100000:=rfl
 have hb2:B47=140737488355328:=rfl
 have hbl:fu.body.length<=B20:=g6V (d2O _) hbs
 have hB2:=hB
 unfold fuB at hB2
 simp only[g4S,g5A] at hB2
 have hrec:∀ s,s∈fu.body->e1Y gl fs s:=λs hs=>e2C s (hok.bo s hs) (hB2.1.2 s hs) (g6V (d2M hs) hbs)
 cases hl:Ky.look fu.name fs with
 |some x =>
  rw[d6V _ _ _ hl]
  simp only[wA,seval,d5I hcl,d5I hfl,hc,hf,a0W,d4X,hl,g7D,Option.isSome_some]
  simp
 |none =>
  rw[d6U _ _ _ hl]
  have hod:(∃ oid cs,od=.bf oid 0 1/\oid≠c/\sg[oid]?=some (false,cs))\/od=.t (.sl true []):=by
   rcases hk.od.2 with⟨_,h⟩|⟨oid,cs,h1,h2,h3,_⟩
   ·exact .inr h
   ·exact .inl ⟨oid,cs,h1,h2,h3⟩
  have hlen:True:=trivial
  rcases hod with⟨oid,cs,rfl,o1,o2⟩|rfl
  ·simp only[wA,seval,d5I hcl,d5I hfl,hc,hf,a0W,d4X,hl,Option.getD_none,Option.isSome_none,g5Y,g5Z]
   refine e2E (fs:=fs) hpl (m:=0) (b3:=sg.length) _ fu.params 0 [] (.bf oid 0 1) w _ _ _ rfl (hk.grow (.app _ _)) (Fq.refl _ _ _ _) (by simp only[g5Z];omega) (by simp only[wQ,seval];first|done|exact⟨rfl,rfl⟩|rfl) ?_ ?_
   ·intro h0 fr1 sg1 ow1 od1 hk1 hq1 hf1
    have hpe:=d6R _ _ _ h0
    rw[if_neg (by simpa using h0)]
    generalize d4F fu.params [] w=P at *
    obtain⟨d,ns1,w1⟩:=P
    simp only[g5Z,g7A] at h0 hpe hk1 ⊢
    simp only[b6U,b6T] at hf1
    obtain⟨f0,f3,f7,-⟩:=hf1
    have i3:=λr:Sg=>show(sg++(false,cFu fu)::r)[sg.length]?=some (false,cFu fu) by simp
    have j3:=hq1.get (i3 _) (by omega) (by have:=d4U hk.ck.n;omega) (hk.notB2 (g6U _))
    simp only[wA,seval,f0,f3,f7,j3,d1P]
    refine e2D (fs:=fs) hbl hrec (m:=0) (b3:=sg.length) _ fu.body 0 ns1 od1 w1 _ _ _ rfl hk1 (Fq.refl _ _ _ _) (by omega) (by simp only[wQ,seval,f0,f3,f7];first|done|exact⟨rfl,rfl⟩|rfl) ?_ ?_
    ·intro h2 fr2 sg2 ow2 od2 hk2 hq2 hf2
     obtain⟨rr,hr1,hr2⟩:=d6H _ _ _ _ h2
     rw[if_neg (by simpa using h2)]
     generalize d4C fs fu.body ns1 w1=P2 at *
     obtain⟨d2,ns2,w2⟩:=P2
     simp only at h2 hr1 hk2 ⊢
     subst hr1
     simp only[b6U,b6T] at hf2
     obtain⟨f0,f3,f7,-⟩:=hf2
     have hq12:=hq1.trans hq2
     have j3:=hq12.get (i3 _) (by omega) (by have:=d4U hk.ck.n;omega) (hk.notB2 (g6U _))
     have hex:=e1T (gl:=gl) (fs:=fs) (ns:=ns1++rr) fu.ret hok.ret hrs hB2.2 sg2 c f n od2 w2 ow2 hk2.ck
     simp only[d1J] at hex
     simp only[wA,seval,f0,f3,f7,j3]
     refine CallE.mono hex ?_
     rintro v sg3 ow3 ⟨rfl,hc3,hfr3⟩
     have hk3:=hk2.fr hfr3 hc3
     have hq3:=hq12.trans (Fq.of hfr3)
     have j3:=hq3.get (i3 _) (by omega) (by have:=d4U hk.ck.n;omega) (hk.notB2 (g6U _))
     have m3:=d4U j3
     generalize exM fs (ns1++rr) fu.ret w2=q at *
     obtain⟨⟨t,er⟩,w3⟩:=q
     simp only at hc3 hk3 ⊢
     by_cases he:er=0
     ·subst he
      rw[if_neg (by simp)]
      cases hfi:d3K t fu.res with
      |false =>
       rw[if_pos rfl]
       simp only[wA,seval,f0,f3,f7,d5I m3,j3,e1D,hfi]
       simp
      |true =>
       rw[if_neg (by simp)]
       simp only[wA,seval,f0,f3,f7,d5I m3,j3,e1D,hfi]
       refine CallE.mono (e1X (hk3.grow (.app _ _)) (by rw[g5W];omega) (m:=0) (g7B _) ow3) ?_
       rintro v sg4 ow4 ⟨od4,hk4,hq4⟩
       rw[List.take_zero] at hk4
       have hqa:=hq3.trans ((Fq.of (Fr.of (.app _ _))).trans hq4)
       have j3:=hqa.get (i3 _) (by omega) (by have:=d4U hk.ck.n;omega) (hk.notB2 (g6U _))
       have hmn:=d4Y (λx=>.agg (tFu x)) fu.name fu fs hl
       have c4:=hk4.ck.c
       have f4:=hk4.ck.f
       simp only[wA,seval,f0,f3,f7,j3,c4,f4,a0X,d4X]
       intro _
       exact⟨od4,(hk4.fun _ hmn).1,((Fg.of (Fq.of (Fr.of (.app _ _)))).trans (Fg.of hqa)).trans (hk4.fun _ hmn).2⟩
     ·rw[if_pos (by simpa using he)]
      simp only[wA,seval,f0,f3,f7,he]
      exact λe=>e.elim
    ·intro h2 fr2 sg2 ow2 f4
     rw[if_pos (by simpa using h2)]
     simp only[wA,seval,f4]
     exact λe=>absurd e h2
   ·intro h0 fr1 sg1 ow1 f4
    rw[if_pos (by simpa using h0)]
    simp only[wA,seval,f4]
    exact λe=>absurd e h0
  ·simp only[wA,seval,d5I hcl,d5I hfl,hc,hf,a0W,d4X,hl,Option.getD_none,Option.isSome_none,g5Y,g5Z]
   refine e2E (fs:=fs) hpl (m:=0) (b3:=sg.length) _ fu.params 0 [] (.t (.sl true [])) w _ _ _ rfl (hk.grow (.app _ _)) (Fq.refl _ _ _ _) (by simp only[g5Z];omega) (by simp only[wQ,seval];first|done|exact⟨rfl,rfl⟩|rfl) ?_ ?_
   ·intro h0 fr1 sg1 ow1 od1 hk1 hq1 hf1
    have hpe:=d6R _ _ _ h0
    rw[if_neg (by simpa using h0)]
    generalize d4F fu.params [] w=P at *
    obtain⟨d,ns1,w1⟩:=P
    simp only[g5Z,g7A] at h0 hpe hk1 ⊢
    simp only[b6U,b6T] at hf1
    obtain⟨f0,f3,f7,-⟩:=hf1
    have i3:=λr:Sg=>show(sg++(false,cFu fu)::r)[sg.length]?=some (false,cFu fu) by simp
    have j3:=hq1.get (i3 _) (by omega) (by have:=d4U hk.ck.n;omega) (hk.notB2 (g6U _))
    simp only[wA,seval,f0,f3,f7,j3,d1P]
    refine e2D (fs:=fs) hbl hrec (m:=0) (b3:=sg.length) _ fu.body 0 ns1 od1 w1 _ _ _ rfl hk1 (Fq.refl _ _ _ _) (by omega) (by simp only[wQ,seval,f0,f3,f7];first|done|exact⟨rfl,rfl⟩|rfl) ?_ ?_
    ·intro h2 fr2 sg2 ow2 od2 hk2 hq2 hf2
     obtain⟨rr,hr1,hr2⟩:=d6H _ _ _ _ h2
     rw[if_neg (by simpa using h2)]
     generalize d4C fs fu.body ns1 w1=P2 at *
     obtain⟨d2,ns2,w2⟩:=P2
     simp only at h2 hr1 hk2 ⊢
     subst hr1
     simp only[b6U,b6T] at hf2
     obtain⟨f0,f3,f7,-⟩:=hf2
     have hq12:=hq1.trans hq2
     have j3:=hq12.get (i3 _) (by omega) (by have:=d4U hk.ck.n;omega) (hk.notB2 (g6U _))
     have hex:=e1T (gl:=gl) (fs:=fs) (ns:=ns1++rr) fu.ret hok.ret hrs hB2.2 sg2 c f n od2 w2 ow2 hk2.ck
     simp only[d1J] at hex
     simp only[wA,seval,f0,f3,f7,j3]
     refine CallE.mono hex ?_
     rintro v sg3 ow3 ⟨rfl,hc3,hfr3⟩
     have hk3:=hk2.fr hfr3 hc3
     have hq3:=hq12.trans (Fq.of hfr3)
     have j3:=hq3.get (i3 _) (by omega) (by have:=d4U hk.ck.n;omega) (hk.notB2 (g6U _))
     have m3:=d4U j3
     generalize exM fs (ns1++rr) fu.ret w2=q at *
     obtain⟨⟨t,er⟩,w3⟩:=q
     simp only at hc3 hk3 ⊢
     by_cases he:er=0
     ·subst he
      rw[if_neg (by simp)]
      cases hfi:d3K t fu.res with
      |false =>
       rw[if_pos rfl]
       simp only[wA,seval,f0,f3,f7,d5I m3,j3,e1D,hfi]
       simp
      |true =>
       rw[if_neg (by simp)]
       simp only[wA,seval,f0,f3,f7,d5I m3,j3,e1D,hfi]
       refine CallE.mono (e1X (hk3.grow (.app _ _)) (by rw[g5W];omega) (m:=0) (g7B _) ow3) ?_
       rintro v sg4 ow4 ⟨od4,hk4,hq4⟩
       rw[List.take_zero] at hk4
       have hqa:=hq3.trans ((Fq.of (Fr.of (.app _ _))).trans hq4)
       have j3:=hqa.get (i3 _) (by omega) (by have:=d4U hk.ck.n;omega) (hk.notB2 (g6U _))
       have hmn:=d4Y (λx=>.agg (tFu x)) fu.name fu fs hl
       have c4:=hk4.ck.c
       have f4:=hk4.ck.f
       simp only[wA,seval,f0,f3,f7,j3,c4,f4,a0X,d4X]
       intro _
       exact⟨od4,(hk4.fun _ hmn).1,((Fg.of (Fq.of (Fr.of (.app _ _)))).trans (Fg.of hqa)).trans (hk4.fun _ hmn).2⟩
     ·rw[if_pos (by simpa using he)]
      simp only[wA,seval,f0,f3,f7,he]
      exact λe=>e.elim
    ·intro h2 fr2 sg2 ow2 f4
     rw[if_pos (by simpa using h2)]
     simp only[wA,seval,f4]
     exact λe=>absurd e h2
   ·intro h0 fr1 sg1 ow1 f4
    rw[if_pos (by simpa using h0)]
    simp only[wA,seval,f4]
    exact λe=>absurd e h0
end Go.Proofs.YtdjcnfacjfnakaaGreat

/- Contracts: programs. -/
namespace Go.Proofs.YtdjcnfacjfnakaaGreat
open Go.Pi Go.Lx Go.Ky Go.Lib
variable {gl:Nat->Option (List T)}
theorem e2G {ls:List Fu} {nl:Bool} (hls:ls.length<=B20) (hfu:∀ f,f∈ls->FuOk f/\fuB f=true/\f.params.length<=B20/\d2G f.body<=B20/\szE f.ret<=B20) {c f n:Nat} {b3:Nat} {od0:PV} {sg0:Sg} (Q:Ex->S->Prop):∀ (l:List Fu) (i:Nat) (fs:Fs) (od:PV) (w:Int) (fr:List PV) (sg:Sg) (ow:Ow),ls.drop i=l->Cs sg c f n fs [] od w->Fg c f n od0 od sg0 sg ->
  b6S fr [(0,.lp c 0),(3,.lp b3 0),(12,.t (.sl nl (ls.map λf=>tFu f))),(13,.t (.int .i64 ls.length)),(14,.t (.int .i64 i))] ->
  ((d4H l fs w).1=0->∀ fr' sg' ow' od',Cs sg' c f n (d4H l fs w).2.1 [] od' (d4H l fs w).2.2->Fg c f n od0 od' sg0 sg'->b6S fr' [(0,.lp c 0),(3,.lp b3 0)]->Q (.exit 0) ⟨fr',sg',ow'⟩) ->
  ((d4H l fs w).1≠0->∀ fr' sg' ow',a0A fr' 4=.t (.int .i64 (d4H l fs w).1)->Q .ret ⟨fr',sg',ow'⟩) ->
  Xl F gl c3J ⟨fr,sg,ow⟩ Q ⟨⟩:=by
 intro l
 induction l with
 |nil =>
  intro i fs od w fr sg ow hd hk hq hf k1 k2
  have hd:=b6N hd
  simp only[b6U,b6T] at hf
  obtain⟨f0,f3,f14,f15,f16,-⟩:=hf
  refine Xl.step ?_
  simp only[c3J]
  have c1:¬((i:Int) < (ls.length:Int)):=by omega
  have hem:d4H [] fs w=(0,fs,w):=by rw[d4H]
  rw[hem] at k1
  simp only[wA,seval,f0,f3,f14,f15,f16,c1]
  exact k1 rfl _ _ _ od hk hq (by simp only[wQ,seval,f0,f3])
 |cons x l ih =>
  intro i fs od w fr sg ow hd hk hq hf k1 k2
  obtain⟨hx,hr,hi⟩:=b6M hd
  simp only[b6U,b6T] at hf
  obtain⟨f0,f3,f14,f15,f16,-⟩:=hf
  refine Xl.step ?_
  simp only[c3J]
  have c1:(i:Int) < (ls.length:Int):=by omega
  have hw1:=d5F hi (show ls.length<=281474976710656 by have:B20=1100000:=rfl;omega)
  rw[d6W] at k1 k2
  obtain⟨x1,x2,x3,x4,x5⟩:=hfu x (g6K hx)
  have hs:=λr=>e2F (gl:=gl) x1 x2 x3 x4 x5 (hk.grow (.app sg r)) ow
  simp only[wA,seval,f0,f3,f14,f15,f16,c1,hw1,g4Z,hi,g5P,hx,g7F]
  refine CallE.mono (hs _) ?_
  rintro v sg' ow' ⟨rfl,hp⟩
  by_cases he:(d4G fs x w).1=0
  ·obtain⟨od',hk',hq'⟩:=hp he
   rw[if_neg (by simpa using he)] at k1 k2
   simp only[wA,seval,f0,f3,f14,f15,f16,hw1,he]
   refine ih (i+1) _ od' _ _ _ _ hr hk' (hq.trans ((Fg.of (Fq.of (Fr.of (.app _ _)))).trans hq')) (by simp only[wQ,seval,f0,f3,f14,f15]) k1 k2
  ·rw[if_pos (by simpa using he)] at k1 k2
   simp only[wA,seval,f0,f3,f14,f15,f16,he]
   exact k2 he _ _ _ (by simp only[wQ,seval])
theorem e2H {fs:Fs} {ls:List De} {nl:Bool} (hls:ls.length<=B20) {c f n:Nat} {b3:Nat} {od0:PV} {sg0:Sg} (Q:Ex->S->Prop):∀ (l:List De) (i:Nat) (ns:Ns) (od:PV) (w:Int) (fr:List PV) (sg:Sg) (ow:Ow),ls.drop i=l->Cs sg c f n fs ns od w->Fq c n od0 od sg0 sg->ns.length+l.length<=2 * B20 ->
  b6S fr [(0,.lp c 0),(3,.lp b3 0),(26,.t (.sl nl (ls.map λf=>tDe f))),(27,.t (.int .i64 ls.length)),(28,.t (.int .i64 i))] ->
  ((d4I l ns w).1=0->∀ fr' sg' ow' od',Cs sg' c f n fs (d4I l ns w).2.1 od' (d4I l ns w).2.2->Fq c n od0 od' sg0 sg'->b6S fr' [(0,.lp c 0),(3,.lp b3 0)]->Q (.exit 2) ⟨fr',sg',ow'⟩) ->
  ((d4I l ns w).1≠0->∀ fr' sg' ow',a0A fr' 4=.t (.int .i64 (d4I l ns w).1)->Q .ret ⟨fr',sg',ow'⟩) ->
  Xl F gl c3I ⟨fr,sg,ow⟩ Q ⟨⟩:=by
 intro l
 induction l with
 |nil =>
  intro i ns od w fr sg ow hd hk hq hsz hf k1 k2
  have hd:=b6N hd
  simp only[b6U,b6T] at hf
  obtain⟨f0,f3,f14,f15,f16,-⟩:=hf
  refine Xl.step ?_
  simp only[c3I]
  have c1:¬((i:Int) < (ls.length:Int)):=by omega
  have hem:d4I [] ns w=(0,ns,w):=by rw[d4I]
  rw[hem] at k1
  simp only[wA,seval,f0,f3,f14,f15,f16,c1]
  exact k1 rfl _ _ _ od hk hq (by simp only[wQ,seval,f0,f3])
 |cons x l ih =>
  intro i ns od w fr sg ow hd hk hq hsz hf k1 k2
  obtain⟨hx,hr,hi⟩:=b6M hd
  simp only[b6U,b6T] at hf
  obtain⟨f0,f3,f14,f15,f16,-⟩:=hf
  refine Xl.step ?_
  simp only[c3I]
  have c1:(i:Int) < (ls.length:Int):=by omega
  have hb:B20=1100000:=rfl
  have hb2:B47=140737488355328:=rfl
  have hw1:=d5F hi (show ls.length<=281474976710656 by omega)
  rw[d6S] at k1 k2
  rw[g5X] at hsz
  have hs:=λr=>e1U (gl:=gl) (hk.grow (.app sg r)) x.name ⟨x.ty,false,0,0⟩ (by omega) ow
  simp only[wA,seval,f0,f3,f14,f15,f16,c1,hw1,g4Z,hi,g5P,hx,g7F]
  refine CallE.mono (hs _) ?_
  rintro v sg1 ow1 ⟨rfl,hp⟩
  by_cases he:(d4A x.name ⟨x.ty,false,0,0⟩ ns w).1=0
  ·obtain⟨od1,hk1,hq1⟩:=hp he
   rw[if_neg (by simpa using he)] at k1 k2
   rw[d6E he] at hk1 k1 k2
   have j9:=hq1.get (i:=sg.length) (v:=(false,[.t (.bool x.pub),.t (.str x.name),.t (.int .i64 x.ty.kind),.t (.int .i64 x.ty.bits),.t (.int .i64 x.ty.len)])) (by simp) (by have:=d4U hk.ck.c;omega) (by have:=d4U hk.ck.n;omega) (hk.notB2 (g6U _))
   simp only[wA,seval,f0,f3,f14,f15,f16,hw1,he,j9]
   refine CallE.mono (e1V hk1.ck x.ty ow1) ?_
   rintro v sg2 ow2 ⟨hc2,hfr2⟩
   simp only[wA,seval,f0,f3,f14,f15,f16,hw1]
   refine ih (i+1) _ od1 _ _ _ _ hr (hk1.fr hfr2 hc2) ((hq.trans ((Fq.of (Fr.of (.app _ _))).trans hq1)).trans (Fq.of hfr2)) (by simp;omega) (by simp only[wQ,seval,f0,f3,f14,f15]) k1 k2
  ·rw[if_pos (by simpa using he)] at k1 k2
   simp only[wA,seval,f0,f3,f14,f15,f16,he]
   exact k2 he _ _ _ (by simp only[wQ,seval])
structure PgSt (p:Pg):Prop where
 ok:PgOk p
 fb:p.funcs.all fuB=true
 bb:p.body.all stB=true
 fl:p.funcs.length<=B20
 dl:p.decls.length<=B20
 fs:∀ f,f∈p.funcs->f.params.length<=B20/\d2G f.body<=B20/\szE f.ret<=B20
 bs:d2G p.body<=B20
theorem ok62 {p:Pg} (hp:PgSt p) {c f n:Nat} {sg:Sg} (hk:Cs sg c f n [] [] (.t (.sl true [])) 0) (ow:Ow) :
  CallE F gl 62 [.lp c 0,.t (.agg (tPg p))] sg ow λv sg' ow'=>v=.t (.int .i64 (d4J p).1)/\((d4J p).1=0->∃ od',sg'[c]?=some (false,[.mp f,.mp n,od',.t (.int .i64 (d4J p).2)])/\Fg c f n (.t (.sl true [])) od' sg sg'):=by
 refine XcE.of F62 rfl ?_
 simp only[c3K]
 have hcl:=d4U hk.ck.c
 have hb:B20=1100000:=rfl
 have hb2:B47=140737488355328:=rfl
 have hbl:p.body.length<=B20:=g6V (d2O _) hp.bs
 rw[d6X]
 simp only[wA,seval,g5Y]
 refine e2G hp.fl (λf hf=>⟨hp.ok.fo f hf,g5A.1 hp.fb f hf,hp.fs f hf⟩) (b3:=sg.length) _ p.funcs 0 [] _ 0 _ _ _ rfl (hk.grow (.app _ _)) (Fg.refl _ _ _ _ _) (by simp only[wQ,seval];first|done|exact⟨rfl,rfl⟩|rfl) ?_ ?_
 ·intro h0 fr1 sg1 ow1 od1 hk1 hq1 hf1
  rw[if_neg (by simpa using h0)]
  generalize d4H p.funcs [] 0=P at *
  obtain⟨d,fs,w1⟩:=P
  simp only at h0 hk1 ⊢
  simp only[b6U,b6T] at hf1
  obtain⟨f0,f3,-⟩:=hf1
  have i3:=λr:Sg=>show(sg++(false,[PV.t (.sl p.fnl (p.funcs.map λf=>tFu f)),.t (.sl p.dnl (p.decls.map λf=>tDe f)),.t (.sl p.bnl (d1M p.body))])::r)[sg.length]?=some (false,[PV.t (.sl p.fnl (p.funcs.map λf=>tFu f)),.t (.sl p.dnl (p.decls.map λf=>tDe f)),.t (.sl p.bnl (d1M p.body))]) by simp
  have j3:=hq1.get (i3 _) (by omega) (by have:=d4U hk.ck.f;omega) (by have:=d4U hk.ck.n;omega) (hk.notB2 (g6U _))
  simp only[wA,seval,f0,f3,j3,g5Y]
  refine e2H (fs:=fs) hp.dl (b3:=sg.length) _ p.decls 0 [] od1 w1 _ _ _ rfl hk1 (Fq.refl _ _ _ _) (by have:=hp.dl;simp only[g5Z];omega) (by simp only[wQ,seval,f0,f3];first|done|exact⟨rfl,rfl⟩|rfl) ?_ ?_
  ·intro h2 fr2 sg2 ow2 od2 hk2 hq2 hf2
   have hde:=d6T _ _ _ h2
   rw[if_neg (by simpa using h2)]
   generalize d4I p.decls [] w1=P2 at *
   obtain⟨d2,ns2,w2⟩:=P2
   simp only[g5Z,g7A] at h2 hde hk2 ⊢
   simp only[b6U,b6T] at hf2
   obtain⟨f0,f3,-⟩:=hf2
   have hq12:=hq1.trans (Fg.of hq2)
   have j3:=hq12.get (i3 _) (by omega) (by have:=d4U hk.ck.f;omega) (by have:=d4U hk.ck.n;omega) (hk.notB2 (g6U _))
   have hrec:∀ s,s∈p.body->e1Y gl fs s:=λs hs=>e2C s (hp.ok.bo s hs) (g5A.1 hp.bb s hs) (g6V (d2M hs) hp.bs)
   simp only[wA,seval,f0,f3,j3]
   refine CallE.mono (e2A hbl hrec hk2 (by have:=hp.dl;have:=hp.bs;omega) ow2) ?_
   rintro v sg3 ow3 ⟨rfl,hp3⟩
   simp only[wA,seval]
   refine λe=>?_
   obtain⟨od3,hk3,hq3⟩:=hp3 e
   exact⟨od3,hk3.ck.c,(Fg.of (Fq.of (Fr.of (.app _ _)))).trans (hq12.trans (Fg.of hq3))⟩
  ·intro h2 fr2 sg2 ow2 f4
   rw[if_pos (by simpa using h2)]
   simp only[wA,seval,f4]
   exact λe=>absurd e h2
 ·intro h0 fr1 sg1 ow1 f4
  rw[if_pos (by simpa using h0)]
  simp only[wA,seval,f4]
  exact λe=>absurd e h0
end Go.Proofs.YtdjcnfacjfnakaaGreat

/- Contracts: steps. -/
namespace Go.Proofs.YtdjcnfacjfnakaaGreat
open Go.Pi Go.Lx Go.Ky Go.Lib
variable {gl:Nat->Option (List T)}
abbrev iKs (ks:Ks):List PV:=d4V (λx=>T.int .i64 x) ks
def e2I (gl:Nat->Option (List T)) (e:Exp):Prop :=
 ∀ (sg:Sg) (k:Nat) (ks:Ks) (ow:Ow),sg[k]?=some (true,iKs ks)->KsB ks->CallE F gl 108 [.t (.agg (tEx e)),.mp k] sg ow λv sg' ow'=>v=.t (.int .i64 (csE ks e))/\Grow sg sg'/\ow'=ow
theorem e2J {ls:List Exp} {nl:Bool} (hls:ls.length<=B20) (hrec:∀ s,s∈ls->e2I gl s) {k:Nat} {ks:Ks} (hkb:KsB ks) {sg0:Sg} (hk:sg0[k]?=some (true,iKs ks)) {ow:Ow} (Q:Ex->S->Prop):∀ (l:List Exp) (i:Nat) (n:Int) (fr:List PV) (sg:Sg),ls.drop i=l->Grow sg0 sg->0<=n->n<=20002 ->
  b6S fr [(1,.mp k),(5,.t (.int .i64 n)),(17,.t (.sl nl (d1H ls))),(18,.t (.int .i64 ls.length)),(19,.t (.int .i64 i))] ->
  (∀ fr' sg',Grow sg0 sg'->a0A fr' 5=.t (.int .i64 (d4L ks l n))->Q (.exit 0) ⟨fr',sg',ow⟩) ->
  Xl F gl c5O ⟨fr,sg,ow⟩ Q ⟨⟩:=by
 intro l
 induction l with
 |nil =>
  intro i n fr sg hd hg hn0 hn1 hf k1
  have hd:=b6N hd
  simp only[b6U,b6T] at hf
  obtain⟨f1,f5,f14,f15,f16,-⟩:=hf
  refine Xl.step ?_
  simp only[c5O]
  have c1:¬((i:Int) < (ls.length:Int)):=by omega
  have hem:d4L ks [] n=n:=by rw[d4L]
  rw[hem] at k1
  simp only[wA,seval,f1,f5,f14,f15,f16,c1]
  exact k1 _ _ hg (by simp only[wQ,seval,f5])
 |cons x l ih =>
  intro i n fr sg hd hg hn0 hn1 hf k1
  obtain⟨hx,hr,hi⟩:=b6M hd
  simp only[b6U,b6T] at hf
  obtain⟨f1,f5,f14,f15,f16,-⟩:=hf
  refine Xl.step ?_
  simp only[c5O]
  have c1:(i:Int) < (ls.length:Int):=by omega
  have hw1:=d5F hi (show ls.length<=281474976710656 by have:B20=1100000:=rfl;omega)
  rw[d4L] at k1
  have hcr:=d7F hkb x
  have hw2:IntKind.wrap .i64 (n+csE ks x)=n+csE ks x:=d7J (by omega) (by omega)
  have hs:=λr=>hrec x (g6K hx) (sg++r) k ks ow (b0R (hg.get hk)) hkb
  simp only[d1J] at hs
  simp only[wA,seval,f1,f5,f14,f15,f16,c1,hw1,g4Z,hi,d1L,hx,g7F,d1J]
  refine CallE.mono (hs _) ?_
  rintro v sg' ow' ⟨rfl,hg',rfl⟩
  simp only[wA,seval,f1,f5,f14,f15,f16,hw1,hw2,mxT]
  exact ih (i+1) (mn 20001 (n+csE ks x)) _ _ hr (hg.trans ((Grow.app _ _).trans hg')) (d7D (by omega) (by omega)) (by have:=d7C 20001 (n+csE ks x);omega) (by simp only[wQ,seval,f1,f14,f15];first|done|rfl) k1
theorem e2K:∀ e,szE e<=B20->e2I gl e:=by
 refine Exp.ind λe ih hsz=>?_
 have hrec:∀ a,a∈e.args->e2I gl a:=λa ha=>ih a ha ((d6A hsz).2 a ha)
 have hn:e.args.length<=B20:=(d6A hsz).1
 intro sg k ks ow hk hkb
 refine XcE.of F108 rfl ?_
 simp only[c5P]
 have hkl:=d4U hk
 have hl:=hkb e.name
 rw[d4M]
 have hr:=d7E (ks:=ks) e.args (λx _=>d7F hkb x) (if e.op=5 then 1+d4K e.name ks else 0) (by split <;> omega) (by split <;> omega)
 by_cases h5:e.op=5
 ·have hw:IntKind.wrap .i64 (1+d4K e.name ks)=1+d4K e.name ks:=d7J (by omega) (by omega)
  rw[if_pos h5]
  have hgd:Option.getD (Option.map (λx=>T.int .i64 x) (Ky.look e.name ks)) (T.int .i64 0)=T.int .i64 (d4K e.name ks):=by
   unfold d4K;cases Ky.look e.name ks <;> rfl
  simp only[wA,seval,d1J,h5,d5I hkl,hk,a0W,d4X,hgd,hw,d1K]
  refine e2J hn hrec hkb (b0R hk) _ e.args 0 (1+d4K e.name ks) _ _ rfl (Grow.refl _) (by omega) (by omega) (by simp only[wQ,seval];first|done|exact⟨rfl,rfl⟩|rfl) ?_
  intro fr' sg' hg f5
  simp only[wA,seval,f5,mxT]
  exact⟨rfl,(Grow.app _ _).trans hg⟩
 ·rw[if_neg h5]
  simp only[wA,seval,d1J,h5,d1K]
  refine e2J hn hrec hkb (b0R hk) _ e.args 0 0 _ _ rfl (Grow.refl _) (by omega) (by omega) (by simp only[wQ,seval];first|done|exact⟨rfl,rfl⟩|rfl) ?_
  intro fr' sg' hg f5
  simp only[wA,seval,f5,mxT]
  exact⟨rfl,(Grow.app _ _).trans hg⟩
def e2L (gl:Nat->Option (List T)) (l:List St):Prop :=
 ∀ (nl:Bool) (sg:Sg) (k:Nat) (ks:Ks) (ow:Ow),sg[k]?=some (true,iKs ks)->KsB ks->CallE F gl 107 [.t (.sl nl (d1M l)),.mp k] sg ow λv sg' ow'=>v=.t (.int .i64 (d4N ks l 0))/\Grow sg sg'/\ow'=ow
theorem e2M {ls:List St} {nl:Bool} (hls:ls.length<=B20) (hlk:ls.all lkS=true) (hsz:∀ s,s∈ls->szE s.ex<=B20) (hrec:∀ s,s∈ls->s.kind=3->e2L gl s.body) {k:Nat} {ks:Ks} (hkb:KsB ks) {sg0:Sg} (hk:sg0[k]?=some (true,iKs ks)) {ow:Ow} (Q:Ex->S->Prop):∀ (l:List St) (i:Nat) (n:Int) (fr:List PV) (sg:Sg),ls.drop i=l->Grow sg0 sg->0<=n->n<=20001 ->
  b6S fr [(1,.mp k),(5,.t (.int .i64 n)),(8,.t (.sl nl (d1M ls))),(9,.t (.int .i64 ls.length)),(10,.t (.int .i64 i))] ->
  (∀ fr' sg',Grow sg0 sg'->a0A fr' 5=.t (.int .i64 (d4N ks l n))->Q (.exit 0) ⟨fr',sg',ow⟩) ->
  Xl F gl c5M ⟨fr,sg,ow⟩ Q ⟨⟩:=by
 intro l
 induction l with
 |nil =>
  intro i n fr sg hd hg hn0 hn1 hf k1
  have hd:=b6N hd
  simp only[b6U,b6T] at hf
  obtain⟨f1,f5,f14,f15,f16,-⟩:=hf
  refine Xl.step ?_
  simp only[c5M]
  have c1:¬((i:Int) < (ls.length:Int)):=by omega
  have hem:d4N ks [] n=n:=by rw[d4N]
  rw[hem] at k1
  simp only[wA,seval,f1,f5,f14,f15,f16,c1]
  exact k1 _ _ hg (by simp only[wQ,seval,f5])
 |cons x l ih =>
  intro i n fr sg hd hg hn0 hn1 hf k1
  obtain⟨hx,hr,hi⟩:=b6M hd
  simp only[b6U,b6T] at hf
  obtain⟨f1,f5,f14,f15,f16,-⟩:=hf
  refine Xl.step ?_
  simp only[c5M]
  have c1:(i:Int) < (ls.length:Int):=by omega
  have hw1:=d5F hi (show ls.length<=281474976710656 by have:B20=1100000:=rfl;omega)
  rw[d4N] at k1
  have hmem:=g6K hx
  have hlx:=g5A.1 hlk x hmem
  have hbr:=d7I hkb x hlx
  have hw2:IntKind.wrap .i64 (n+bsS ks x)=n+bsS ks x:=d7J (by omega) (by omega)
  have hbe:=d4O ks x
  have hgk:=hg.get hk
  have cell:∀ r:Sg,∀ sg',Grow (sg++(false,[PV.t (.int .i64 x.kind),.t (.str x.name),.t (.bool x.typed),.t (.int .i64 x.ty.kind),.t (.int .i64 x.ty.bits),.t (.int .i64 x.ty.len),.t (.int .i64 x.ex.op),.t (.int .u64 x.ex.val),.t (.str x.ex.name),.t (.sl x.ex.nl (d1H x.ex.args)),.t (.int .i64 x.lo),.t (.int .i64 x.hi),.t (.sl x.nl (d1M x.body))])::r) sg'->sg'[sg.length]?=some (false,[PV.t (.int .i64 x.kind),.t (.str x.name),.t (.bool x.typed),.t (.int .i64 x.ty.kind),.t (.int .i64 x.ty.bits),.t (.int .i64 x.ty.len),.t (.int .i64 x.ex.op),.t (.int .u64 x.ex.val),.t (.str x.ex.name),.t (.sl x.ex.nl (d1H x.ex.args)),.t (.int .i64 x.lo),.t (.int .i64 x.hi),.t (.sl x.nl (d1M x.body))]):=λr sg' h=>h.get (by simp)
  by_cases h3:x.kind=3
  ·rw[if_pos h3] at hbe
   have hlx2:=hlx
   rw[d7A,if_pos h3] at hlx2
   simp only[g4S,g7L] at hlx2
   obtain⟨⟨⟨l1,l2⟩,l3⟩,l4⟩:=hlx2
   have hw3:IntKind.wrap .i64 (x.hi - x.lo)=x.hi - x.lo:=d7J (by omega) (by omega)
   have hw4:IntKind.wrap .i64 ((x.hi - x.lo) * d4N ks x.body 0)=bsS ks x:=by rw[<-hbe];exact d7J (by omega) (by omega)
   have hs:=λr=>hrec x hmem h3 x.nl (sg++r) k ks ow (b0R hgk) hkb
   simp only[h3] at cell
   simp only[wA,seval,f1,f5,f14,f15,f16,c1,hw1,hw3,g4Z,hi,d1Q,hx,g7F,d1O,h3,d5Q,d5P,d5O,d5L,a1C]
   refine CallE.mono (hs _) ?_
   rintro v sg' ow' ⟨rfl,hg',rfl⟩
   have jc:=cell _ _ hg'
   simp only[wA,seval,f1,f5,f14,f15,f16,hw1,hw2,hw4,mxT,jc,d5Q,d5P,d5O,d5L]
   exact ih (i+1) (mn (n+bsS ks x) 20001) _ _ hr (hg.trans ((Grow.app _ _).trans hg')) (d7D (by omega) (by omega)) (d7C _ _).2 (by simp only[wQ,seval,f1,f14,f15];first|done|rfl) k1
  ·rw[if_neg h3] at hbe
   have hs:=λr=>e2K (gl:=gl) x.ex (hsz x hmem) (sg++r) k ks ow (b0R hgk) hkb
   have hcr:=d7F hkb x.ex
   have hw3:IntKind.wrap .i64 (1+csE ks x.ex)=bsS ks x:=by rw[hbe];exact d7J (by omega) (by omega)
   simp only[d1J] at hs
   simp only[wA,seval,f1,f5,f14,f15,f16,c1,hw1,g4Z,hi,d1Q,hx,g7F,d1O,h3]
   refine CallE.mono (hs _) ?_
   rintro v sg' ow' ⟨rfl,hg',rfl⟩
   simp only[wA,seval,f1,f5,f14,f15,f16,hw1,hw2,hw3,mxT]
   exact ih (i+1) (mn (n+bsS ks x) 20001) _ _ hr (hg.trans ((Grow.app _ _).trans hg')) (d7D (by omega) (by omega)) (d7C _ _).2 (by simp only[wQ,seval,f1,f14,f15];first|done|rfl) k1
theorem e2N {ls:List St} (hls:ls.length<=B20) (hlk:ls.all lkS=true) (hsz:∀ s,s∈ls->szE s.ex<=B20) (hrec:∀ s,s∈ls->s.kind=3->e2L gl s.body):e2L gl ls:=by
 intro nl sg k ks ow hk hkb
 refine XcE.of F107 rfl ?_
 simp only[c5N]
 simp only[wA,seval,d1P]
 refine e2M hls hlk hsz hrec hkb hk _ ls 0 0 _ _ rfl (Grow.refl _) (by omega) (by omega) (by simp only[wQ,seval];first|done|exact⟨rfl,rfl⟩|rfl) ?_
 intro fr' sg' hg f5
 simp only[wA,seval,f5]
 exact hg
theorem e2O:∀ s,lkS s=true->szS s<=B20->s.kind=3->e2L gl s.body:=by
 refine St.ind λs ih hlk hsz h3=>?_
 rw[d7A,if_pos h3] at hlk
 simp only[g4S] at hlk
 have hb:=d6L hsz
 exact e2N hb.1 hlk.2 (λx hx=>g6V (d2P x) (hb.2 x hx)) (λx hx h=>ih x hx (g5A.1 hlk.2 x hx) (hb.2 x hx) h)
theorem e2P {ls:List St} (hlk:ls.all lkS=true) (hsz:d2G ls<=B20):e2L gl ls :=
 e2N (g6V (d2O _) hsz) hlk (λx hx=>g6V (d2P x) (g6V (d2M hx) hsz)) λx hx h=>e2O x (g5A.1 hlk x hx) (g6V (d2M hx) hsz) h
theorem e2Q {ls:List Fu} {nl:Bool} (hls:ls.length<=B20) (hlk:∀ f,f∈ls->f.body.all lkS=true/\d2G f.body<=B20/\szE f.ret<=B20) {k:Nat} {b1:Nat} {sg0:Sg} (hk0:k < sg0.length) {ow:Ow} (Q:Ex->S->Prop):∀ (l:List Fu) (i:Nat) (ks:Ks) (fr:List PV) (sg:Sg),ls.drop i=l->Fr k sg0 sg->KsB ks->sg[k]?=some (true,iKs ks) ->
  b6S fr [(1,.lp b1 0),(3,.mp k),(8,.t (.sl nl (ls.map λf=>tFu f))),(9,.t (.int .i64 ls.length)),(10,.t (.int .i64 i))] ->
  (∀ fr' sg',Fr k sg0 sg'->KsB (d4Q l ks)->sg'[k]?=some (true,iKs (d4Q l ks))->b6S fr' [(1,.lp b1 0),(3,.mp k)]->Q (.exit 0) ⟨fr',sg',ow⟩) ->
  Xl F gl c3L ⟨fr,sg,ow⟩ Q ⟨⟩:=by
 intro l
 induction l with
 |nil =>
  intro i ks fr sg hd hg hkb hk hf k1
  have hd:=b6N hd
  simp only[b6U,b6T] at hf
  obtain⟨f1,f3,f14,f15,f16,-⟩:=hf
  refine Xl.step ?_
  simp only[c3L]
  have c1:¬((i:Int) < (ls.length:Int)):=by omega
  have hem:d4Q [] ks=ks:=by rw[d4Q]
  rw[hem] at k1
  simp only[wA,seval,f1,f3,f14,f15,f16,c1]
  exact k1 _ _ hg hkb hk (by simp only[wQ,seval,f1,f3])
 |cons x l ih =>
  intro i ks fr sg hd hg hkb hk hf k1
  obtain⟨hx,hr,hi⟩:=b6M hd
  simp only[b6U,b6T] at hf
  obtain⟨f1,f3,f14,f15,f16,-⟩:=hf
  refine Xl.step ?_
  simp only[c3L]
  have c1:(i:Int) < (ls.length:Int):=by omega
  have hw1:=d5F hi (show ls.length<=281474976710656 by have:B20=1100000:=rfl;omega)
  rw[d4Q] at k1
  obtain⟨x1,x2,x3⟩:=hlk x (g6K hx)
  have hbr:=d7G (ks:=ks) x.body (λs hs=>(d7I hkb s (g5A.1 x1 s hs)).1) 0 (by omega) (by omega)
  have hcr:=d7F hkb x.ret
  have hw2:IntKind.wrap .i64 (d4N ks x.body 0+csE ks x.ret)=d4N ks x.body 0+csE ks x.ret:=d7J (by omega) (by omega)
  have hs1:=λr=>e2P (gl:=gl) x1 x2 x.bnl (sg++r) k ks ow (b0R hk) hkb
  have hs2:=λsg2 (h:sg2[k]?=some (true,iKs ks))=>e2K (gl:=gl) x.ret x3 sg2 k ks ow h hkb
  simp only[d1J] at hs2
  have cell:∀ r:Sg,∀ sg',Grow (sg++(false,cFu x)::r) sg'->sg'[sg.length]?=some (false,cFu x):=λr sg' h=>h.get (by simp)
  simp only[wA,seval,f1,f3,f14,f15,f16,c1,hw1,g4Z,hi,g5P,hx,g7F,d5Q,d5P,d5O,d5L,a1C]
  refine CallE.mono (hs1 _) ?_
  rintro v sg1 ow1 ⟨rfl,hg1,rfl⟩
  have jc:=cell _ _ hg1
  have hk1:=hg1.get (b0R hk)
  simp only[wA,seval,f1,f3,f14,f15,f16,hw1,jc,d5Q,d5P,d5O,d5L,a1C]
  refine CallE.mono (hs2 _ hk1) ?_
  rintro v sg2 ow2 ⟨rfl,hg2,rfl⟩
  have jc2:=hg2.get jc
  have hk2:=hg2.get hk1
  have hmp:=d4Z x.name (mn 20001 (d4N ks x.body 0+csE ks x.ret)) ks
  have hkl2:=d4U hk2
  simp only[wA,seval,f1,f3,f14,f15,f16,hw1,hw2,jc,jc2,hk2,d5Q,d5P,d5O,d5L,a1C,mxT,a0X,d4X]
  refine ih (i+1) (d4P x.name (mn 20001 (d4N ks x.body 0+csE ks x.ret)) ks) _ _ hr ((hg.trans (Fr.of ((Grow.app _ _).trans (hg1.trans hg2)))).set _) (hkb.put _ (d7D (by omega) (by omega)) (d7C _ _).1) (by rw[g5T hkl2];exact congrArg (λy=>some (true,y)) hmp) (by simp only[wQ,seval,f1,f3,f14,f15];first|done|rfl) k1
theorem ok63 {p:Pg} (hp:PgSt p) (hl1:∀ f,f∈p.funcs->f.body.all lkS=true) (hl2:p.body.all lkS=true) {K:PV->Prop}:XcP F gl 63 [.agg (tPg p)] K ⟨⟩↔K (.t (.int .i64 (d4R p))):=by
 refine Ret.iff (Ret.of F63 rfl ?_)
 simp only[c3M]
 simp only[wA,seval,g5Y]
 refine e2Q hp.fl (λf hf=>⟨hl1 f hf,(hp.fs f hf).2.1,(hp.fs f hf).2.2⟩) (k:=1) (b1:=0) (sg0:=[(false,[PV.t (.sl p.fnl (p.funcs.map λf=>tFu f)),.t (.sl p.dnl (p.decls.map λf=>tDe f)),.t (.sl p.bnl (d1M p.body))]),(true,[])]) (by simp) _ p.funcs 0 [] _ _ rfl (Fr.refl _ _) KsB.nil rfl (by simp only[wQ,seval];first|done|exact⟨rfl,rfl⟩|rfl) ?_
 intro fr' sg' hg hkb hk hf
 simp only[b6U,b6T] at hf
 obtain⟨f1,f3,-⟩:=hf
 have j0:=hg.get (i:=0) (x:=(false,[PV.t (.sl p.fnl (p.funcs.map λf=>tFu f)),.t (.sl p.dnl (p.decls.map λf=>tDe f)),.t (.sl p.bnl (d1M p.body))])) rfl (by omega)
 simp only[wA,seval,f1,f3,j0]
 refine CallE.mono (e2P hl2 hp.bs p.bnl sg' 1 _ _ hk hkb) ?_
 rintro v sg2 ow2 ⟨rfl,hg2,rfl⟩
 simp only[wA,seval]
 rfl
end Go.Proofs.YtdjcnfacjfnakaaGreat
