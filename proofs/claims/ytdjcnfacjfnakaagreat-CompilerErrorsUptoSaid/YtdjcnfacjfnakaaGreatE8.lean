/- Contracts: powers, the permutation as gadgets. -/
import Derived.Test.YtdjcnfacjfnakaaGreatE4
set_option maxRecDepth 10000
set_option linter.unusedVariables false
set_option linter.unusedSimpArgs false
namespace Go.Proofs.YtdjcnfacjfnakaaGreat
open Go.Pi Go.Lx Go.Ky Go.Lib
variable {gl:Nat->Option (List T)}
theorem f7Z {p:Int} (hk:e2X p=true) {sg:Sg} {r ri hi:Nat} {b:Bd} (hb:BS sg r ri hi p b) (ho:BdOk b) (hm:Rm b 5) {x:Li} (hx:LiOk b.vars x) (ow:Ow) :
  CallE F gl 216 [.lp r 0,.t (tLi x)] sg ow λv sg' ow'=>v=.t (tLi (f1A (foF p) x b).1)/\Gd sg ow r ri hi p (f1A (foF p) x b).2 sg' ow':=by
 have s1:=f1H (foF p) x x b
 have l1:=f1X (f6I hk).nn ho x x
 have b1:=s1.ok ho
 have r1:=s1.rm 4 hm (by decide) (by decide)
 have x1:=hx.mono s1.le
 have hex:=λK=>e3T (gl:=gl) p (K:=K)
 have hE:(foF p).ex=(e3A p).2.2:=rfl
 have he:=(f6I hk).ex
 rw[hE] at he
 refine XcE.of F216 rfl ?_
 simp only[d0I]
 simp only[wA,seval]
 refine CallE.mono (f7H hk hb ho (hm.le (by decide)) hx hx ow) ?_
 rintro v sg1 ow1 ⟨rfl,o1,ri1,hi1,hb1,hm1⟩
 obtain⟨rv,hv,h1,h2,h3⟩:=hb1.ex
 unfold f1A
 rw[hE]
 generalize hq1:f0R (foF p) x x b=q1 at *
 obtain⟨v1,c1⟩:=q1
 simp only at l1 b1 r1 x1 s1 hb1 h1 h2 h3 ⊢
 rcases he with he|he|he
 ·rw[if_neg (show ¬(e3A p).2.2=5 by omega),if_neg (show ¬(e3A p).2.2=7 by omega)]
  simp only[wA,seval,h1,hex,he]
  refine CallE.mono (f7H hk hb1 b1 (r1.le (by decide)) l1 x1 ow1) ?_
  rintro v sg2 ow2 ⟨rfl,hG⟩
  simp only[wA,seval]
  first|exact Gd.pre hm1 o1 hG|exact⟨rfl,Gd.pre hm1 o1 hG⟩
 ·rw[if_pos he]
  have s2:=f1H (foF p) v1 v1 c1
  have l2:=f1X (f6I hk).nn b1 v1 v1
  simp only[wA,seval,h1,hex,he]
  refine CallE.mono (f7H hk hb1 b1 (r1.le (by decide)) l1 l1 ow1) ?_
  rintro v sg2 ow2 ⟨rfl,o2,ri2,hi2,hb2,hm2⟩
  simp only[wA,seval]
  refine CallE.mono (f7H hk hb2 (s2.ok b1) (s2.rm 2 r1 (by decide) (by decide)) l2 (x1.mono s2.le) ow2) ?_
  rintro v sg3 ow3 ⟨rfl,hG⟩
  simp only[wA,seval]
  first|exact Gd.pre hm1 o1 (Gd.pre hm2 o2 hG)|exact⟨rfl,Gd.pre hm1 o1 (Gd.pre hm2 o2 hG)⟩
 ·rw[if_neg (show ¬(e3A p).2.2=5 by omega),if_pos he]
  have s2:=f1H (foF p) v1 x c1
  have l2:=f1X (f6I hk).nn b1 v1 x
  have b2:=s2.ok b1
  have r2:=s2.rm 3 r1 (by decide) (by decide)
  have x2:=x1.mono s2.le
  generalize hq2:f0R (foF p) v1 x c1=q2 at *
  obtain⟨v2,c2⟩:=q2
  simp only at l2 b2 r2 x2 s2
  have s3:=f1H (foF p) v2 v2 c2
  have l3:=f1X (f6I hk).nn b2 v2 v2
  simp only[wA,seval,h1,hex,he]
  refine CallE.mono (f7H hk hb1 b1 (r1.le (by decide)) l1 x1 ow1) ?_
  rw[hq2]
  rintro v sg2 ow2 ⟨rfl,o2,ri2,hi2,hb2,hm2⟩
  simp only[wA,seval]
  refine CallE.mono (f7H hk hb2 b2 (r2.le (by decide)) l2 l2 ow2) ?_
  rintro v sg3 ow3 ⟨rfl,o3,ri3,hi3,hb3,hm3⟩
  simp only[wA,seval]
  refine CallE.mono (f7H hk hb3 (s3.ok b2) (s3.rm 2 r2 (by decide) (by decide)) l3 (x2.mono s3.le) ow3) ?_
  rintro v sg4 ow4 ⟨rfl,hG⟩
  simp only[wA,seval]
  first|exact Gd.pre hm1 o1 (Gd.pre hm2 o2 (Gd.pre hm3 o3 hG))|exact⟨rfl,Gd.pre hm1 o1 (Gd.pre hm2 o2 (Gd.pre hm3 o3 hG))⟩
abbrev cTr (s:Tr):List PV:=[.t (tLi s.1),.t (tLi s.2.1),.t (tLi s.2.2)]
theorem TrOk.mono {m m':Int} (h:m<=m') {s:Tr} (hs:TrOk m s):TrOk m' s:=⟨hs.1.mono h,hs.2.1.mono h,hs.2.2.mono h⟩
theorem f8A:IntKind.i64.wrap 1=1:=by decide
theorem f8B:IntKind.i64.wrap 2=2:=by decide
theorem f8C:IntKind.i64.wrap 3=3:=by decide
theorem pcon {p n:Int} (hk:e2X p=true) (r0:0<=n) (r1:n < 8) {b:Bd} (ho:BdOk b) (hm:Rm b 0) {s:Tr} (hs:TrOk b.vars s) {r a a2:Nat} {sg:Sg} (ha:sg[a]?=some (false,cTr s)) {ow:Ow} {Q:Ex->S->Prop} {fr:List PV}
  (hf:b6S fr [(0,.lp r 0),(3,.lp a 0),(4,.lp a2 0),(5,.t (.int .u64 p)),(6,.t (.int .i64 n)),(16,.t (.int .i64 n)),(19,.t (.int .i64 0))])
  (hQ:∀ fr',b6S fr' [(0,.lp r 0),(3,.lp a 0),(4,.lp a2 0),(5,.t (.int .u64 p)),(16,.t (.int .i64 n))] ->
   Q (.exit 2) ⟨fr',sg.set a (false,cTr (f0M (foF p) s.1 (f0G (foF p) (rc p n 0)),f0M (foF p) s.2.1 (f0G (foF p) (rc p n 1)),f0M (foF p) s.2.2 (f0G (foF p) (rc p n 2)))),ow⟩) :
  Xl F gl c9S ⟨fr,sg,ow⟩ Q ⟨⟩:=by
 obtain⟨b1,b2⟩:=e3H hk
 obtain⟨s1,s2,s3⟩:=hs
 have q0:=@e3Y p n 0 (by omega)
 have q1:=@e3Y p n 1 (by omega)
 have q2:=@e3Y p n 2 (by omega)
 have k0:=@e3X gl p n 0 hk r0 r1 (by omega) (by omega)
 have k1:=@e3X gl p n 1 hk r0 r1 (by omega) (by omega)
 have k2:=@e3X gl p n 2 hk r0 r1 (by omega) (by omega)
 have d0:=λK=>@f6M gl p _ hk q0 K
 have d1:=λK=>@f6M gl p _ hk q1 K
 have d2:=λK=>@f6M gl p _ hk q2 K
 have m0:LiOk b.vars (f0G (foF p) (rc p n 0)):=.const (f6I hk).nn ho.pos q0
 have m1:LiOk b.vars (f0G (foF p) (rc p n 1)):=.const (f6I hk).nn ho.pos q1
 have m2:LiOk b.vars (f0G (foF p) (rc p n 2)):=.const (f6I hk).nn ho.pos q2
 have e0:=λK=>@f6T gl p hk _ _ (LiOk.g' ho hm (by decide) s1) (LiOk.g' ho hm (by decide) m0) K
 have e1:=λK=>@f6T gl p hk _ _ (LiOk.g' ho hm (by decide) s2) (LiOk.g' ho hm (by decide) m1) K
 have e2:=λK=>@f6T gl p hk _ _ (LiOk.g' ho hm (by decide) s3) (LiOk.g' ho hm (by decide) m2) K
 simp only[b6U,b6T] at hf
 obtain⟨f0,f3,f4,f5,f6,f16,f19,-⟩:=hf
 refine Xl.step ?_
 try simp only[c9S]
 simp only[wA,seval,f0,f3,f4,f5,f6,f16,f19,k0,k1,k2,d0,d1,d2,e0,e1,e2,f8A,f8B,f8C,Int.zero_add,ha,d4T ha,f7E,wC]
 refine Xl.step ?_
 try simp only[c9S]
 simp only[wA,seval,f0,f3,f4,f5,f6,f16,f19,k0,k1,k2,d0,d1,d2,e0,e1,e2,f8A,f8B,f8C,ha,d4T ha,f7E,wC]
 refine Xl.step ?_
 try simp only[c9S]
 simp only[wA,seval,f0,f3,f4,f5,f6,f16,f19,k0,k1,k2,d0,d1,d2,e0,e1,e2,f8A,f8B,f8C,ha,d4T ha,f7E,wC]
 refine Xl.step ?_
 try simp only[c9S]
 simp only[wA,seval,f0,f3,f4,f5,f6,f16,f19,k0,k1,k2,d0,d1,d2,e0,e1,e2,f8A,f8B,f8C,ha,d4T ha,f7E,wC]
 exact hQ _ (by simp only[wQ,seval,f0,f3,f4,f5,f16])
theorem psum {p n:Int} (hk:e2X p=true) {b:Bd} (ho:BdOk b) (hm:Rm b 0) {s:Tr} (hs:TrOk b.vars s) {m:Li} (hml:LiOk b.vars m) {r a a2:Nat} {sg:Sg} (ha:sg[a]?=some (false,cTr s)) {ow:Ow} {Q:Ex->S->Prop} {fr:List PV}
  (hf:b6S fr [(0,.lp r 0),(3,.lp a 0),(4,.lp a2 0),(5,.t (.int .u64 p)),(9,.t (tLi m)),(16,.t (.int .i64 n)),(57,.t (.int .i64 0))])
  (hQ:∀ fr',b6S fr' [(0,.lp r 0),(3,.lp a 0),(4,.lp a2 0),(5,.t (.int .u64 p)),(16,.t (.int .i64 n))] ->
   Q (.exit 6) ⟨fr',sg.set a (false,cTr (f0M (foF p) s.1 m,f0M (foF p) s.2.1 m,f0M (foF p) s.2.2 m)),ow⟩) :
  Xl F gl c9Q ⟨fr,sg,ow⟩ Q ⟨⟩:=by
 obtain⟨s1,s2,s3⟩:=hs
 have e0:=λK=>@f6T gl p hk _ _ (LiOk.g' ho hm (by decide) s1) (LiOk.g' ho hm (by decide) hml) K
 have e1:=λK=>@f6T gl p hk _ _ (LiOk.g' ho hm (by decide) s2) (LiOk.g' ho hm (by decide) hml) K
 have e2:=λK=>@f6T gl p hk _ _ (LiOk.g' ho hm (by decide) s3) (LiOk.g' ho hm (by decide) hml) K
 simp only[b6U,b6T] at hf
 obtain⟨f0,f3,f4,f5,f9,f16,f57,-⟩:=hf
 refine Xl.step ?_
 try simp only[c9Q]
 simp only[wA,seval,f0,f3,f4,f5,f9,f16,f57,e0,e1,e2,f8A,f8B,f8C,Int.zero_add,ha,d4T ha,f7E,wC]
 refine Xl.step ?_
 try simp only[c9Q]
 simp only[wA,seval,f0,f3,f4,f5,f9,f16,f57,e0,e1,e2,f8A,f8B,f8C,ha,d4T ha,f7E,wC]
 refine Xl.step ?_
 try simp only[c9Q]
 simp only[wA,seval,f0,f3,f4,f5,f9,f16,f57,e0,e1,e2,f8A,f8B,f8C,ha,d4T ha,f7E,wC]
 refine Xl.step ?_
 try simp only[c9Q]
 simp only[wA,seval,f0,f3,f4,f5,f9,f16,f57,e0,e1,e2,f8A,f8B,f8C,ha,d4T ha,f7E,wC]
 exact hQ _ (by simp only[wQ,seval,f0,f3,f4,f5,f16])
end Go.Proofs.YtdjcnfacjfnakaaGreat

/- Contracts: the permutation, the hash as gadgets. -/
namespace Go.Proofs.YtdjcnfacjfnakaaGreat
open Go.Pi Go.Lx Go.Ky Go.Lib
variable {gl:Nat->Option (List T)}
def pw3 (Φ:Fo) (s:Tr) (b:Bd):Tr×Bd :=
 ((( f1A Φ s.1 b).1,(f1A Φ s.2.1 (f1A Φ s.1 b).2).1,(f1A Φ s.2.2 (f1A Φ s.2.1 (f1A Φ s.1 b).2).2).1),(f1A Φ s.2.2 (f1A Φ s.2.1 (f1A Φ s.1 b).2).2).2)
theorem ppow {p n:Int} (hk:e2X p=true) {b:Bd} (ho:BdOk b) (hm:Rm b 14) {s:Tr} (hs:TrOk b.vars s) {r a a2 ri hi:Nat} {sg:Sg} (hb:BS sg r ri hi p b) (ha:sg[a]?=some (false,cTr s)) (hc:a ∉ [r,ri,hi]) {ow:Ow} {Q:Ex->S->Prop} {fr:List PV}
  (hf:b6S fr [(0,.lp r 0),(3,.lp a 0),(4,.lp a2 0),(5,.t (.int .u64 p)),(16,.t (.int .i64 n)),(36,.t (.int .i64 0))])
  (hQ:∀ fr' sg' ow' ri' hi',b6S fr' [(0,.lp r 0),(3,.lp a 0),(4,.lp a2 0),(5,.t (.int .u64 p)),(16,.t (.int .i64 n))]->BS sg' r ri' hi' p (pw3 (foF p) s b).2->sg'[a]?=some (false,cTr (pw3 (foF p) s b).1)->a ∉ [r,ri',hi']->Mv [a,r,ri,hi] [a,r,ri',hi'] sg sg'->ow <+: ow'->Q (.exit 4) ⟨fr',sg',ow'⟩) :
  Xl F gl c9R ⟨fr,sg,ow⟩ Q ⟨⟩:=by
 obtain⟨x1,x2,x3⟩:=hs
 have t1:=f1Q (foF p) s.1 b
 have l1:=f2E (f6I hk).nn ho s.1
 have o1:=t1.ok ho
 have pe:=f1P (foF p).ex
 have m1:=t1.rm 10 hm (by omega) (by omega)
 unfold pw3 at hQ
 simp only at hQ
 have y2:=x2.mono t1.le
 have y3:=x3.mono t1.le
 simp only[b6U,b6T] at hf
 obtain⟨f0,f3,f4,f5,f16,f36,-⟩:=hf
 refine Xl.step ?_
 try simp only[c9R]
 simp only[wA,seval,f0,f3,f4,f5,f16,f36,Int.zero_add,ha]
 refine CallE.mono (f7Z hk hb ho (hm.le (by decide)) x1 ow) ?_
 rintro v sg1 ow1 ⟨rfl,w1,ri1,hi1,hb1,hm1⟩
 generalize hq1:f1A (foF p) s.1 b=q1 at *
 obtain⟨v1,c1⟩:=q1
 simp only at hQ t1 l1 o1 m1 y2 y3 hb1
 have a1:=hm1.get ha hc
 have g1:=hm1.cold (d4U ha) hc
 have t2:=f1Q (foF p) s.2.1 c1
 have l2:=f2E (f6I hk).nn o1 s.2.1
 have o2:=t2.ok o1
 have m2:=t2.rm 6 m1 (by omega) (by omega)
 have z3:=y3.mono t2.le
 have k1:=l1.mono t2.le
 simp only[wA,seval,f0,f3,f4,f5,f16,f36,f8A,f8B,f8C,Int.zero_add,a1,d4T a1,f7E,wC]
 refine Xl.step ?_
 try simp only[c9R]
 simp only[wA,seval,f0,f3,f4,f5,f16,f36,f8A,f8B,f8C,a1,d4T a1,f7E,wC]
 refine CallE.mono (f7Z hk (hb1.set g1 _) o1 (m1.le (by decide)) y2 ow1) ?_
 rintro v sg2 ow2 ⟨rfl,w2,ri2,hi2,hb2,hm2⟩
 generalize hq2:f1A (foF p) s.2.1 c1=q2 at *
 obtain⟨v2,c2⟩:=q2
 simp only at hQ t2 l2 o2 m2 z3 k1 hb2
 have a2':=hm2.get (d4T a1) g1
 have g2:=hm2.cold (by rw[g6A];exact d4U a1) g1
 have t3:=f1Q (foF p) s.2.2 c2
 simp only[wA,seval,f0,f3,f4,f5,f16,f36,f8A,f8B,f8C,a2',d4T a2',f7E,wC]
 refine Xl.step ?_
 try simp only[c9R]
 simp only[wA,seval,f0,f3,f4,f5,f16,f36,f8A,f8B,f8C,a2',d4T a2',f7E,wC]
 refine CallE.mono (f7Z hk (hb2.set g2 _) o2 (m2.le (by decide)) z3 ow2) ?_
 rintro v sg3 ow3 ⟨rfl,w3,ri3,hi3,hb3,hm3⟩
 generalize hq3:f1A (foF p) s.2.2 c2=q3 at *
 obtain⟨v3,c3⟩:=q3
 simp only at hQ t3 hb3
 have a3:=hm3.get (d4T a2') g2
 have g3:=hm3.cold (by rw[g6A];exact d4U a2') g2
 simp only[wA,seval,f0,f3,f4,f5,f16,f36,f8A,f8B,f8C,a3,d4T a3,f7E,wC]
 refine Xl.step ?_
 try simp only[c9R]
 simp only[wA,seval,f0,f3,f4,f5,f16,f36,f8A,f8B,f8C,a3,d4T a3,f7E,wC]
 refine hQ _ _ _ ri3 hi3 (by simp only[wQ,seval,f0,f3,f4,f5,f16]) (hb3.set g3 _) (d4T a3) g3 ?_ ((w1.trans w2).trans w3)
 exact(((((hm1.cons a).set (.inl (by simp)) _).trans (hm2.cons a)).set (.inl (by simp)) _).trans (hm3.cons a)).set (.inl (by simp)) _
theorem f8D (p n:Int) (s:Tr) (b:Bd):f1B (foF p) n s b =
  let c:=(f0M (foF p) s.1 (f0G (foF p) (rc p n 0)),f0M (foF p) s.2.1 (f0G (foF p) (rc p n 1)),f0M (foF p) s.2.2 (f0G (foF p) (rc p n 2)))
  let q:=pw3 (foF p) c b
  let m:=f0M (foF p) (f0M (foF p) q.1.1 q.1.2.1) q.1.2.2
  ((f0M (foF p) q.1.1 m,f0M (foF p) q.1.2.1 m,f0M (foF p) q.1.2.2 m),q.2):=rfl
theorem f8E {p:Int} (hk:e2X p=true) {r a a2 ri0 hi0:Nat} {sg0:Sg} {ow0:Ow} {Q:Ex->S->Prop}:∀ (k:Nat) (n:Int) (s:Tr) (b:Bd) (fr:List PV) (sg:Sg) (ow:Ow) (ri hi:Nat),n+k=8->0<=n->BdOk b->Rm b (12 * k+2)->TrOk b.vars s->BS sg r ri hi p b->sg[a]?=some (false,cTr s)->a ∉ [r,ri,hi]->Mv [a,r,ri0,hi0] [a,r,ri,hi] sg0 sg->ow0 <+: ow ->
  b6S fr [(0,.lp r 0),(3,.lp a 0),(4,.lp a2 0),(5,.t (.int .u64 p)),(16,.t (.int .i64 n))] ->
  (∀ fr' sg' ow' ri' hi',b6S fr' [(3,.lp a 0),(4,.lp a2 0)]->BS sg' r ri' hi' p (f1C (foF p) k n s b).2->sg'[a]?=some (false,cTr (f1C (foF p) k n s b).1)->a ∉ [r,ri',hi']->Mv [a,r,ri0,hi0] [a,r,ri',hi'] sg0 sg'->ow0 <+: ow'->Q (.exit 0) ⟨fr',sg',ow'⟩) ->
  Xl F gl c9T ⟨fr,sg,ow⟩ Q ⟨⟩:=by
 intro k
 induction k with
 |zero =>
  intro n s b fr sg ow ri hi hn n0 ho hm hs hb ha hc hM hO hf hQ
  simp only[b6U,b6T] at hf
  obtain⟨f0,f3,f4,f5,f16,-⟩:=hf
  have c:¬(n < 8):=by omega
  refine Xl.step ?_
  simp only[c9T]
  rw[f1C] at hQ
  simp only[wA,seval,f16,c]
  exact hQ _ _ _ _ _ (by simp only[wQ,seval,f3,f4]) hb ha hc hM hO
 |succ k ih =>
  intro n s b fr sg ow ri hi hn n0 ho hm hs hb ha hc hM hO hf hQ
  simp only[b6U,b6T] at hf
  obtain⟨f0,f3,f4,f5,f16,-⟩:=hf
  have c:n < 8:=by omega
  have w:IntKind.i64.wrap (n+1)=n+1:=IntWalk.i64_in _ (by omega)
  have hr:=f1R (foF p) n s b
  have hl:=f2F (f6I hk).nn ho n s
  have pe:=f1P (foF p).ex
  have hm1:=hr.rm (12 * k+2) hm (by omega) (by omega)
  have ho1:=hr.ok ho
  obtain⟨b1,b2⟩:=e3H hk
  rw[f1C] at hQ
  refine Xl.step ?_
  simp only[c9T]
  simp only[wA,seval,f0,f3,f4,f5,f16,c]
  refine pcon hk n0 c ho (hm.le (by omega)) hs ha (by simp only[wQ,seval,f0,f3,f4,f5,f16];first|done|exact⟨rfl,rfl⟩|rfl) ?_
  intro fr1 hf1
  simp only[b6U,b6T] at hf1
  obtain⟨g0,g3,g4,g5,g16,-⟩:=hf1
  have hs1:TrOk b.vars (f0M (foF p) s.1 (f0G (foF p) (rc p n 0)),f0M (foF p) s.2.1 (f0G (foF p) (rc p n 1)),f0M (foF p) s.2.2 (f0G (foF p) (rc p n 2))) :=
   ⟨.add (f6I hk).nn hs.1 (.const (f6I hk).nn ho.pos (e3Y (by omega))),.add (f6I hk).nn hs.2.1 (.const (f6I hk).nn ho.pos (e3Y (by omega))),.add (f6I hk).nn hs.2.2 (.const (f6I hk).nn ho.pos (e3Y (by omega)))⟩
  rw[f8D] at hQ hr hl hm1 ho1
  simp only at hQ hr hl hm1 ho1
  generalize (f0M (foF p) s.1 (f0G (foF p) (rc p n 0)),f0M (foF p) s.2.1 (f0G (foF p) (rc p n 1)),f0M (foF p) s.2.2 (f0G (foF p) (rc p n 2)))=c1 at *
  simp only[wA,seval,g0,g3,g4,g5,g16]
  refine ppow (n:=n) hk ho (hm.le (by omega)) hs1 (hb.set hc _) (d4T ha) hc (by simp only[wQ,seval,g0,g3,g4,g5,g16];first|done|exact⟨rfl,rfl⟩|rfl) ?_
  intro fr2 sg2 ow2 ri2 hi2 hf2 hb2 ha2 hc2 hM2 hO2
  simp only[b6U,b6T] at hf2
  obtain⟨d0,d3,d4,d5,d16,-⟩:=hf2
  have p1:=f2E (f6I hk).nn ho c1.1
  have q1:=f1Q (foF p) c1.1 b
  have p2:=f2E (f6I hk).nn (q1.ok ho) c1.2.1
  have q2:=f1Q (foF p) c1.2.1 (f1A (foF p) c1.1 b).2
  have p3:=f2E (f6I hk).nn (q2.ok (q1.ok ho)) c1.2.2
  have q3:=f1Q (foF p) c1.2.2 (f1A (foF p) c1.2.1 (f1A (foF p) c1.1 b).2).2
  have hs2:TrOk (pw3 (foF p) c1 b).2.vars (pw3 (foF p) c1 b).1:=⟨p1.mono (Int.le_trans q2.le q3.le),p2.mono q3.le,p3⟩
  generalize pw3 (foF p) c1 b=q at *
  obtain⟨c2,b3⟩:=q
  simp only at hQ hr hl hm1 ho1 hb2 ha2 hs2
  have ha12:=LiOk.add (f6I hk).nn hs2.1 hs2.2.1
  have hsum:=LiOk.add (f6I hk).nn ha12 hs2.2.2
  have e1:=λK=>@f6T gl p hk c2.1 c2.2.1 (LiOk.g' ho1 hm1 (by omega) hs2.1) (LiOk.g' ho1 hm1 (by omega) hs2.2.1) K
  have e2:=λK=>@f6T gl p hk _ c2.2.2 (LiOk.g' ho1 hm1 (by omega) ha12) (LiOk.g' ho1 hm1 (by omega) hs2.2.2) K
  simp only[wA,seval,d0,d3,d4,d5,d16,f8A,f8B,ha2,e1,e2]
  refine psum (n:=n) hk ho1 (hm1.le (by omega)) hs2 hsum ha2 (by simp only[wQ,seval,d0,d3,d4,d5,d16];first|done|exact⟨rfl,rfl⟩|rfl) ?_
  intro fr3 hf3
  simp only[b6U,b6T] at hf3
  obtain⟨h0,h3,h4,h5,h16,-⟩:=hf3
  simp only[wA,seval,h0,h3,h4,h5,h16,w]
  exact ih (n+1) _ b3 _ _ _ ri2 hi2 (by omega) (by omega) ho1 hm1 hl (hb2.set hc2 _) (d4T ha2) hc2 (((hM.set (.inl (by simp)) _).trans hM2).set (.inl (by simp)) _) (hO.trans hO2) (by simp only[wQ,seval,h0,h3,h4,h5]) hQ
theorem f8F {p:Int} (hk:e2X p=true) {sg:Sg} {r ri hi:Nat} {b:Bd} (hb:BS sg r ri hi p b) (ho:BdOk b) (hm:Rm b 98) {s:Tr} (hs:TrOk b.vars s) (ow:Ow) :
  CallE F gl 202 [.lp r 0,.t (.agg [tLi s.1,tLi s.2.1,tLi s.2.2])] sg ow λv sg' ow'=>v=.t (.agg [tLi (f1C (foF p) 8 0 s b).1.1,tLi (f1C (foF p) 8 0 s b).1.2.1,tLi (f1C (foF p) 8 0 s b).1.2.2])/\Gd sg ow r ri hi p (f1C (foF p) 8 0 s b).2 sg' ow':=by
 obtain⟨rv,hv,h1,h2,h3⟩:=hb.ex
 have l0:=hb.lt
 have lr:=d4U h1
 refine XcE.of F202 rfl ?_
 simp only[c9U]
 simp only[wA,seval,d5I lr,h1]
 have hc0:sg.length ∉ [r,ri,hi]:=by simp only[g6H,g6N,or_false];omega
 have hc1:sg.length+1 ∉ [r,ri,hi]:=by simp only[g6H,g6N,or_false];omega
 refine f8E (sg0:=sg++[(false,cTr s),(false,[.t (.sl true []),.t (.sl true []),.t (.sl true [])])]) (ow0:=ow) (ri0:=ri) (hi0:=hi) (a:=sg.length) (a2:=sg.length+1) hk 8 0 s b _ _ _ ri hi (by decide) (by decide) ho (hm.le (by decide)) hs (hb.app _) (by simp) hc0 (.refl _ _) (List.prefix_refl _) (by simp only[wQ,seval];first|done|exact⟨rfl,rfl⟩|rfl) ?_
 intro fr' sg' ow' ri' hi' hf hb' ha' hc' hM hO
 simp only[b6U,b6T] at hf
 obtain⟨g3,g4,-⟩:=hf
 have hc1':sg.length+1 ∉ [sg.length,r,ri,hi]:=λe=>by
  rcases g6H.1 e with e|e
  ·omega
  ·exact hc1 e
 have b4:=hM.get (i:=sg.length+1) (v:=(false,[.t (.sl true []),.t (.sl true []),.t (.sl true [])])) (by rw[g5K (by omega)];simp) hc1'
 have cb4:=hM.cold (i:=sg.length+1) (by simp) hc1'
 simp only[wA,seval,g3,g4,ha',b4,d4T b4,wC]
 refine⟨hO,ri',hi',hb'.set (λe=>cb4 (g6I _ e)) _,?_⟩
 have hM':Mv [sg.length,r,ri,hi] [sg.length,r,ri',hi'] sg sg':=(Mv.app _ sg _).trans hM
 refine Mv.set ⟨hM'.1,λi hi1 hn=>hM'.2.1 i hi1 λe=>?_,λi hi1=>?_⟩ (.inr (by omega)) _
 ·rcases g6H.1 e with e|e
  ·omega
  ·exact hn e
 ·rcases hM'.2.2 i (g6I _ hi1) with e|e
  ·rcases g6H.1 e with e|e
   ·exact .inr (by omega)
   ·exact .inl e
  ·exact .inr e
end Go.Proofs.YtdjcnfacjfnakaaGreat

/- Contracts: the hash as a gadget; a new builder; inputs. -/
namespace Go.Proofs.YtdjcnfacjfnakaaGreat
open Go.Pi Go.Lx Go.Ky Go.Lib
variable {gl:Nat->Option (List T)}
theorem f8G {p:Int} (hk:e2X p=true) {b:Bd} (ho:BdOk b) (hm:Rm b 0) {s:Tr} (hs:TrOk b.vars s) {ls:List Li} {nl:Bool} (hlen:ls.length<=B20) {i:Nat} {x y:Li} (hx:ls[i]?=some x) (hy:ls[i+1]?=some y) (lx:LiOk b.vars x) (ly:LiOk b.vars y) {r a:Nat} {sg:Sg} (ha:sg[a]?=some (false,cTr s)) {ow:Ow} {Q:Ex->S->Prop} {fr:List PV}
  (hf:b6S fr [(0,.lp r 0),(2,.t (.sl nl (tLs ls))),(7,.t (.int .u64 p)),(9,.lp a 0),(10,.t (.int .i64 i)),(45,.t (.int .i64 0))])
  (hQ:∀ fr',b6S fr' [(0,.lp r 0),(2,.t (.sl nl (tLs ls))),(7,.t (.int .u64 p)),(9,.lp a 0),(10,.t (.int .i64 i))]->Q (.exit 2) ⟨fr',sg.set a (false,cTr (f0M (foF p) s.1 x,f0M (foF p) s.2.1 y,s.2.2)),ow⟩) :
  Xl F gl c7X ⟨fr,sg,ow⟩ Q ⟨⟩:=by
 obtain⟨s1,s2,s3⟩:=hs
 have e0:=λK=>@f6T gl p hk _ _ (LiOk.g' ho hm (by decide) s1) (LiOk.g' ho hm (by decide) lx) K
 have e1:=λK=>@f6T gl p hk _ _ (LiOk.g' ho hm (by decide) s2) (LiOk.g' ho hm (by decide) ly) K
 have hb20:B20=1100000:=rfl
 have hi:=(g5O.1 hy).1
 have hw0:IntKind.i64.wrap ((i:Int)+0)=(i:Int):=by rw[IntWalk.i64_in _ (by omega)];omega
 have hw1:IntKind.i64.wrap ((i:Int)+1)=((i+1:Nat):Int):=by rw[IntWalk.i64_in _ (by omega)];omega
 have c0:(i:Int) < (ls.length:Int):=by omega
 have c1:((i+1:Nat):Int) < (ls.length:Int):=by omega
 simp only[b6U,b6T] at hf
 obtain⟨f0,f2,f7,f9,f10,f45,-⟩:=hf
 refine Xl.step ?_
 try simp only[c7X]
 simp only[wA,seval,f0,f2,f7,f9,f10,f45,hw0,hw1,c0,c1,f5F,f5G,hx,hy,e0,e1,f8A,f8B,f8C,Int.zero_add,g4Z,hi,Nat.lt_of_succ_lt hi,ha,d4T ha,f7E,wC,g7F]
 refine Xl.step ?_
 try simp only[c7X]
 simp only[wA,seval,f0,f2,f7,f9,f10,f45,hw0,hw1,c0,c1,f5F,f5G,hx,hy,e0,e1,f8A,f8B,f8C,g4Z,hi,ha,d4T ha,f7E,wC,g7F]
 refine Xl.step ?_
 try simp only[c7X]
 simp only[wA,seval,f0,f2,f7,f9,f10,f45,hw0,hw1,c0,c1,f5F,f5G,hx,hy,e0,e1,f8A,f8B,f8C,g4Z,hi,ha,d4T ha,f7E,wC,g7F]
 exact hQ _ (by simp only[wQ,seval,f0,f2,f7,f9,f10])
theorem hin1 {p:Int} (hk:e2X p=true) {b:Bd} (ho:BdOk b) (hm:Rm b 0) {s:Tr} (hs:TrOk b.vars s) {ls:List Li} {nl:Bool} (hlen:ls.length<=B20) {i:Nat} {x:Li} (hx:ls[i]?=some x) (hy:ls.length=i+1) (lx:LiOk b.vars x) {r a:Nat} {sg:Sg} (ha:sg[a]?=some (false,cTr s)) {ow:Ow} {Q:Ex->S->Prop} {fr:List PV}
  (hf:b6S fr [(0,.lp r 0),(2,.t (.sl nl (tLs ls))),(7,.t (.int .u64 p)),(9,.lp a 0),(10,.t (.int .i64 i)),(45,.t (.int .i64 0))])
  (hQ:∀ fr',b6S fr' [(0,.lp r 0),(2,.t (.sl nl (tLs ls))),(7,.t (.int .u64 p)),(9,.lp a 0),(10,.t (.int .i64 i))]->Q (.exit 2) ⟨fr',sg.set a (false,cTr (f0M (foF p) s.1 x,s.2.1,s.2.2)),ow⟩) :
  Xl F gl c7X ⟨fr,sg,ow⟩ Q ⟨⟩:=by
 obtain⟨s1,s2,s3⟩:=hs
 have e0:=λK=>@f6T gl p hk _ _ (LiOk.g' ho hm (by decide) s1) (LiOk.g' ho hm (by decide) lx) K
 have hb20:B20=1100000:=rfl
 have hi:=(g5O.1 hx).1
 have hw0:IntKind.i64.wrap ((i:Int)+0)=(i:Int):=by rw[IntWalk.i64_in _ (by omega)];omega
 have hw1:IntKind.i64.wrap ((i:Int)+1)=((i+1:Nat):Int):=by rw[IntWalk.i64_in _ (by omega)];omega
 have c0:(i:Int) < (ls.length:Int):=by omega
 have c1:¬((i+1:Nat):Int) < (ls.length:Int):=by omega
 simp only[b6U,b6T] at hf
 obtain⟨f0,f2,f7,f9,f10,f45,-⟩:=hf
 refine Xl.step ?_
 try simp only[c7X]
 simp only[wA,seval,f0,f2,f7,f9,f10,f45,hw0,hw1,c0,c1,f5F,f5G,hx,e0,f8A,f8B,f8C,Int.zero_add,g4Z,hi,ha,d4T ha,f7E,wC,g7F]
 refine Xl.step ?_
 try simp only[c7X]
 simp only[wA,seval,f0,f2,f7,f9,f10,f45,hw0,hw1,c0,c1,f5F,f5G,hx,e0,f8A,f8B,f8C,g4Z,hi,ha,d4T ha,f7E,wC,g7F]
 refine Xl.step ?_
 try simp only[c7X]
 simp only[wA,seval,f0,f2,f7,f9,f10,f45,hw0,hw1,c0,c1,f5F,f5G,hx,e0,f8A,f8B,f8C,g4Z,hi,ha,d4T ha,f7E,wC,g7F]
 exact hQ _ (by simp only[wQ,seval,f0,f2,f7,f9,f10])
theorem f8H (e:Int) (n:Nat):0<=f1T e n:=by
 unfold f1T
 have:=f1P e
 exact Int.mul_nonneg (Int.natCast_nonneg _) (by omega)
theorem f8I (e:Int):f1T e 1=24 * f1O e:=by unfold f1T;simp
theorem f8J (e:Int) (n:Nat):f1T e (n+1+1)=24 * f1O e+f1T e n:=by
 unfold f1T
 have h2:(n+1+1+1) / 2=1+(n+1) / 2:=by omega
 rw[h2,Int.natCast_add,Int.add_mul]
 omega
theorem f8K (e:Int):f1T e ([]:List Li).length=0:=by simp [f1T]
theorem f8L {p:Int} (hk:e2X p=true) {ls:List Li} {nl:Bool} (hlen:ls.length<=B20) (h0:ls≠[]) {r a ri0 hi0:Nat} {sg0:Sg} {ow0:Ow} {Q:Ex->S->Prop}:∀ (k:Nat) (rest:List Li) (i:Nat) (s:Tr) (b:Bd) (fr:List PV) (sg:Sg) (ow:Ow) (ri hi:Nat),rest.length<=k->ls.drop i=rest->(rest=[]->0 < i)->i<=ls.length+1->BdOk b->Rm b (f1T (foF p).ex rest.length+98)->TrOk b.vars s->(∀ x,x∈rest->LiOk b.vars x)->BS sg r ri hi p b->sg[a]?=some (false,cTr s)->a ∉ [r,ri,hi]->Mv [a,r,ri0,hi0] [a,r,ri,hi] sg0 sg->ow0 <+: ow ->
  b6S fr [(0,.lp r 0),(2,.t (.sl nl (tLs ls))),(7,.t (.int .u64 p)),(9,.lp a 0),(10,.t (.int .i64 i))] ->
  (∀ fr' sg' ow' ri' hi',b6S fr' [(9,.lp a 0)]->BS sg' r ri' hi' p (f1D (foF p) rest s b).2->sg'[a]?=some (false,cTr (f1D (foF p) rest s b).1)->a ∉ [r,ri',hi']->Mv [a,r,ri0,hi0] [a,r,ri',hi'] sg0 sg'->ow0 <+: ow'->Q (.exit 0) ⟨fr',sg',ow'⟩) ->
  Xl F gl c7Y ⟨fr,sg,ow⟩ Q ⟨⟩:=by
 have hb20:B20=1100000:=rfl
 have hlp:0 < ls.length:=List.length_pos_iff.2 h0
 intro k
 induction k with
 |zero =>
  intro rest i s b fr sg ow ri hi hkr hd hi0' hile ho hm hs hl hb ha hc hM hO hf hQ
  have hre:rest=[]:=List.length_eq_zero_iff.1 (by omega)
  subst hre
  have hge:ls.length<=i:=List.drop_eq_nil_iff.1 hd
  simp only[b6U,b6T] at hf
  obtain⟨f0,f2,f7,f9,f10,-⟩:=hf
  refine Xl.step ?_
  simp only[c7Y]
  have c0:¬((i:Int)=0):=by omega
  have c1:¬((i:Int) < (ls.length:Int)):=by omega
  rw[f1D] at hQ
  simp only[wA,seval,f0,f2,f7,f9,f10,c0,c1,f5F]
  exact hQ _ _ _ ri hi (by simp only[wQ,seval,f9]) hb ha hc hM hO
 |succ k ih =>
  intro rest i s b fr sg ow ri hi hkr hd hi0' hile ho hm hs hl hb ha hc hM hO hf hQ
  have pe:=f1P (foF p).ex
  match rest,hkr,hd,hi0',hm,hl,hQ with
  |[],hkr,hd,hi0',hm,hl,hQ=>exact ih [] i s b fr sg ow ri hi (g7B _) hd hi0' hile ho hm hs hl hb ha hc hM hO hf hQ
  |[x],hkr,hd,hi0',hm,hl,hQ =>
   obtain⟨hx,hr,hlt⟩:=b6M hd
   have hln:ls.length=i+1:=by
    have:=congrArg List.length hd
    rw[List.length_drop] at this
    simp at this
    omega
   simp only[b6U,b6T] at hf
   obtain⟨f0,f2,f7,f9,f10,-⟩:=hf
   rw[f1D] at hQ
   have lx:=hl x (by simp)
   have hs1:TrOk b.vars (f0M (foF p) s.1 x,s.2.1,s.2.2):=⟨.add (f6I hk).nn hs.1 lx,hs.2⟩
   simp only[List.length_singleton,f8I] at hm
   have sp:=f1S (foF p) 8 0 (f0M (foF p) s.1 x,s.2.1,s.2.2) b
   have c1:((i:Int) < (ls.length:Int)):=by omega
   have hw2:IntKind.i64.wrap ((i:Int)+2)=((i+2:Nat):Int):=by rw[IntWalk.i64_in _ (by omega)];omega
   have c0:((i:Int)=0)=True\/((i:Int)=0)=False:=by
    by_cases h:(i:Int)=0
    ·exact .inl (g7N h)
    ·exact .inr (g7M h)
   refine Xl.step ?_
   simp only[c7Y]
   rcases c0 with c0|c0
   all_goals
    simp only[wA,seval,f0,f2,f7,f9,f10,c0,c1,f5F]
    refine hin1 hk ho (hm.le (by have:=f8H (foF p).ex 0;omega)) hs hlen hx hln lx ha (by simp only[wQ,seval,f0,f2,f7,f9,f10];first|done|exact⟨rfl,rfl⟩|rfl) ?_
    intro fr1 hf1
    simp only[b6U,b6T] at hf1
    obtain⟨g0,g2,g7,g9,g10,-⟩:=hf1
    simp only[wA,seval,g0,g2,g7,g9,g10,d4T ha]
    refine CallE.mono (f8F hk (hb.set hc _) ho (hm.le (by have:=f8H (foF p).ex 0;omega)) hs1 ow) ?_
    rintro v sg1 ow1 ⟨rfl,w1,ri1,hi1,hb1,hm1⟩
    have a1:=hm1.get (d4T ha) hc
    have k1:=hm1.cold (by rw[g6A];exact d4U ha) hc
    simp only[wA,seval,g0,g2,g7,g9,g10,a1,wC,hw2]
    refine ih [] (i+2) _ _ _ _ _ ri1 hi1 (by simp only[g5X,g5Z] at hkr ⊢;omega) (List.drop_eq_nil_iff.2 (by omega)) (λ_=>by omega) (by omega) (sp.ok ho) (sp.rm _ hm (by rw[f8K];omega) (by rw[f8K];omega)) (f2G (f6I hk).nn 8 0 _ b ho hs1) (λz hz=>by cases hz) (hb1.set k1 _) (by rw[g5T (d4U a1)]) k1 (((hM.set (.inl (by simp)) _).trans (hm1.cons a)).set (.inl (by simp)) _) (hO.trans w1) (by simp only[wQ,seval,g0,g2,g7,g9]) ?_
    exact hQ
  |x::y::t,hkr,hd,hi0',hm,hl,hQ =>
   obtain⟨hx,hr,hlt⟩:=b6M hd
   obtain⟨hy,hr2,hlt2⟩:=b6M hr
   simp only[b6U,b6T] at hf
   obtain⟨f0,f2,f7,f9,f10,-⟩:=hf
   rw[f1D] at hQ
   have lx:=hl x (by simp)
   have ly:=hl y (by simp)
   have hs1:TrOk b.vars (f0M (foF p) s.1 x,f0M (foF p) s.2.1 y,s.2.2):=⟨.add (f6I hk).nn hs.1 lx,.add (f6I hk).nn hs.2.1 ly,hs.2.2⟩
   simp only[g5X,f8J] at hm
   have hnn:=f8H (foF p).ex t.length
   have sp:=f1S (foF p) 8 0 (f0M (foF p) s.1 x,f0M (foF p) s.2.1 y,s.2.2) b
   have c1:((i:Int) < (ls.length:Int)):=by omega
   have hw2:IntKind.i64.wrap ((i:Int)+2)=((i+2:Nat):Int):=by rw[IntWalk.i64_in _ (by omega)];omega
   have c0:((i:Int)=0)=True\/((i:Int)=0)=False:=by
    by_cases h:(i:Int)=0
    ·exact .inl (g7N h)
    ·exact .inr (g7M h)
   refine Xl.step ?_
   simp only[c7Y]
   rcases c0 with c0|c0
   all_goals
    simp only[wA,seval,f0,f2,f7,f9,f10,c0,c1,f5F]
    refine f8G hk ho (hm.le (by have:=f8H (foF p).ex t.length;omega)) hs hlen hx hy lx ly ha (by simp only[wQ,seval,f0,f2,f7,f9,f10];first|done|exact⟨rfl,rfl⟩|rfl) ?_
    intro fr1 hf1
    simp only[b6U,b6T] at hf1
    obtain⟨g0,g2,g7,g9,g10,-⟩:=hf1
    simp only[wA,seval,g0,g2,g7,g9,g10,d4T ha]
    refine CallE.mono (f8F hk (hb.set hc _) ho (hm.le (by have:=f8H (foF p).ex t.length;omega)) hs1 ow) ?_
    rintro v sg1 ow1 ⟨rfl,w1,ri1,hi1,hb1,hm1⟩
    have a1:=hm1.get (d4T ha) hc
    have k1:=hm1.cold (by rw[g6A];exact d4U ha) hc
    simp only[wA,seval,g0,g2,g7,g9,g10,a1,wC,hw2]
    refine ih t (i+2) _ _ _ _ _ ri1 hi1 (by simp only[g5X,g5Z] at hkr ⊢;omega) hr2 (λ_=>by omega) (by omega) (sp.ok ho) (sp.rm _ hm (by omega) (by omega)) (f2G (f6I hk).nn 8 0 _ b ho hs1) (λz hz=>(hl z (by simp [hz])).mono sp.le) (hb1.set k1 _) (by rw[g5T (d4U a1)]) k1 (((hM.set (.inl (by simp)) _).trans (hm1.cons a)).set (.inl (by simp)) _) (hO.trans w1) (by simp only[wQ,seval,g0,g2,g7,g9]) ?_
    exact hQ
theorem f8M {p:Int} (hk:e2X p=true) {sg:Sg} {r ri hi:Nat} {b:Bd} (hb:BS sg r ri hi p b) (ho:BdOk b) {ls:List Li} {nl:Bool} (hlen:ls.length<=B20) (h0:ls≠[]) (hm:Rm b (f1T (foF p).ex ls.length+98)) (hl:∀ x,x∈ls->LiOk b.vars x) {v:Int} (hv:0<=v) (ow:Ow) :
  CallE F gl 166 [.lp r 0,.t (.int .u64 v),.t (.sl nl (tLs ls))] sg ow λx sg' ow'=>x=.t (tLi (f1E (foF p) v ls b).1)/\Gd sg ow r ri hi p (f1E (foF p) v ls b).2 sg' ow':=by
 obtain⟨rv,hv1,h1,h2,h3⟩:=hb.ex
 have l0:=hb.lt
 have hb20:B20=1100000:=rfl
 have hfm:0<=e3J p v 65536:=e3R hv (by decide)
 have hfa:0<=e3I p (e3J p v 65536) (ls.length:Int):=e3Q hfm (Int.natCast_nonneg _)
 have e1:=λK=>@e3P gl p v 65536 hv (by decide) K
 have e2:=λK=>@e3O gl p (e3J p v 65536) (ls.length:Int) hfm (Int.natCast_nonneg _) K
 have e3:=λK=>@f6M gl p _ hk hfa K
 have hw:IntKind.u64.wrap (ls.length:Int)=(ls.length:Int):=IntWalk.u64_in _ (by omega)
 have hE:f1E (foF p) v ls b=((f1D (foF p) ls (f0E,f0E,f0G (foF p) (e3I p (e3J p v 65536) (ls.length:Int))) b).1.1,(f1D (foF p) ls (f0E,f0E,f0G (foF p) (e3I p (e3J p v 65536) (ls.length:Int))) b).2):=by
  unfold f1E
  match ls,h0 with
  |x::r,_=>rfl
 rw[hE]
 have hc0:sg.length ∉ [r,ri,hi]:=by simp only[g6H,g6N,or_false];omega
 refine XcE.of F166 rfl ?_
 simp only[c7Z]
 simp only[wA,seval,h1,e1,e2,e3,hw,f5F]
 refine f8L (sg0:=sg++[(false,cTr (f0E,f0E,f0G (foF p) (e3I p (e3J p v 65536) (ls.length:Int))))]) (ow0:=ow) (ri0:=ri) (hi0:=hi) (a:=sg.length) (nl:=nl) hk hlen h0 ls.length ls 0 (f0E,f0E,f0G (foF p) (e3I p (e3J p v 65536) (ls.length:Int))) b _ _ _ ri hi (g6U _) rfl (λe=>absurd e h0) (by omega) ho hm ⟨.nil _,.nil _,.const (f6I hk).nn ho.pos hfa⟩ hl (hb.app _) (by simp [f0E,tTs]) hc0 (.refl _ _) (List.prefix_refl _) (by simp only[wQ,seval];first|done|exact⟨rfl,rfl⟩|rfl) ?_
 intro fr' sg' ow' ri' hi' hf hb' ha' hc' hM hO
 simp only[b6U,b6T] at hf
 obtain⟨g9,-⟩:=hf
 simp only[wA,seval,g9,ha']
 refine⟨hO,ri',hi',hb',?_⟩
 have hM':Mv [sg.length,r,ri,hi] [sg.length,r,ri',hi'] sg sg':=(Mv.app _ sg _).trans hM
 refine⟨hM'.1,λi hi1 hn=>hM'.2.1 i hi1 λe=>?_,λi hi1=>?_⟩
 ·rcases g6H.1 e with e|e
  ·omega
  ·exact hn e
 ·rcases hM'.2.2 i (g6I _ hi1) with e|e
  ·rcases g6H.1 e with e|e
   ·exact .inr (by omega)
   ·exact .inl e
  ·exact .inr e
end Go.Proofs.YtdjcnfacjfnakaaGreat

/- Contracts: a new builder, its inputs, its circuit. -/
namespace Go.Proofs.YtdjcnfacjfnakaaGreat
open Go.Pi Go.Lx Go.Ky Go.Lib
variable {gl:Nat->Option (List T)}
theorem ok56 {p pu se:Int} (hk:e2X p=true) (h0:0<=pu) (h1:0<=se) (h2:pu+se<=65535) (sg:Sg) (ow:Ow) :
  CallE F gl 56 [.t (.int .u64 p),.t (.int .i64 pu),.t (.int .i64 se)] sg ow λx sg' ow'=>x=.tup [.lp (sg.length+2) 0,.t (.int .i64 0)]/\ow'=ow/\BS sg' (sg.length+2) (sg.length+2) (sg.length+2) p (f3I pu se)/\Grow sg sg':=by
 have c1:¬(pu < 0):=by omega
 have c2:¬((65535:Int) < pu):=by omega
 have c3:¬(se < 0):=by omega
 have c4:¬(65535 - pu < se):=by omega
 have hw1:IntKind.i64.wrap (65535 - pu)=65535 - pu:=IntWalk.i64_in _ (by omega)
 have hw2:IntKind.i64.wrap (1+pu)=1+pu:=IntWalk.i64_in _ (by omega)
 have hw3:IntKind.i64.wrap (1+pu+se)=1+pu+se:=IntWalk.i64_in _ (by omega)
 refine XcE.of F56 rfl ?_
 simp only[c2X]
 simp only[wA,seval,e2Z,hk,c1,c2,c3,c4,hw1,hw2,hw3]
 refine⟨⟨⟨.t (.sl true []),.t (.sl true []),?_,.inl ⟨rfl,rfl,rfl,rfl⟩,.inl ⟨rfl,rfl,rfl,rfl⟩⟩,λ_=>rfl,⟨(λx hx=>by cases hx),(λx hx=>by cases hx)⟩⟩,.app _ _⟩
 rw[g5K (by omega)]
 simp [f3I]
theorem ok91 {p:Int} (hk:e2X p=true) {sg:Sg} {r ri hi:Nat} {b:Bd} (hb:BS sg r ri hi p b) (ho:BdOk b) {i:Int} (h0:0<=i) (h1:i < b.pub+b.sec) (ow:Ow):RetE F gl 91 [.lp r 0,.t (.int .i64 i)] sg ow (.t (tLi (f0H (foF p) (1+i)))) sg ow:=by
 obtain⟨rv,hv,g1,g2,g3⟩:=hb.ex
 have:=ho.most
 have c1:¬(i < 0):=by omega
 have c2:¬(b.pub+b.sec<=i):=by omega
 have hw1:IntKind.i64.wrap (b.pub+b.sec)=b.pub+b.sec:=IntWalk.i64_in _ (by have:=ho.pub;have:=ho.sec;omega)
 have hw2:IntKind.i64.wrap (1+i)=1+i:=IntWalk.i64_in _ (by omega)
 have ht:=λK=>RetE.iff (K:=K) (f7A (gl:=gl) hk hb (1+i) ow)
 refine RetE.of F91 rfl ?_
 simp only[c4Q]
 simp only[wA,seval,g1,c1,c2,hw1,hw2,ht]
theorem f8N (x:Rw):(tRw x).length=3:=rfl
theorem f8O (x:Ht):(tHt x).length=4:=rfl
theorem f8P (x:Rw):(tRw x).any T.isAgg=false:=rfl
theorem f8Q (x:Ht):(tHt x).any T.isAgg=false:=rfl
theorem f8R:b4J 3 0 [T.sl true [],T.sl true [],T.sl true []] []=some (.lit []):=rfl
theorem f8S:b4J 4 0 [T.int .i64 0,T.sl true [],T.sl true [],T.int .i64 0] []=some (.lit []):=rfl
theorem ok92 {l:List Rw} (hl:l.length<=1000000) {sg:Sg} {id:Nat} (hs:sg[id]?=some (false,cG tRw l)) (h0:l≠[]) (ow:Ow):RetE F gl 92 [.bf id l.length 3] sg ow (.bf sg.length l.length 3) (sg++[(false,cG tRw l)]) ow:=by
 have hr:a0M l.length 72=true:=by unfold a0M;simp only[g7L];omega
 have ha:=f6C (by decide) f8N f8P hs h0 hr
 refine RetE.of F92 rfl ?_
 simp only[c4R]
 simp only[wA,seval,f8R,ha]
 first|done|rfl|exact⟨rfl,rfl,rfl⟩
theorem f8T (sg:Sg) (ow:Ow):RetE F gl 92 [.t (.sl true [])] sg ow (.t (.sl true [])) sg ow:=by
 refine RetE.of F92 rfl ?_
 simp only[c4R]
 simp only[wA,seval]
 first|done|rfl|exact⟨rfl,rfl,rfl⟩
theorem ok94 {l:List Ht} (hl:l.length<=1000000) {sg:Sg} {id:Nat} (hs:sg[id]?=some (false,cG tHt l)) (h0:l≠[]) (ow:Ow):RetE F gl 94 [.bf id l.length 4] sg ow (.bf sg.length l.length 4) (sg++[(false,cG tHt l)]) ow:=by
 have hr:a0M l.length 64=true:=by unfold a0M;simp only[g7L];omega
 have ha:=f6C (by decide) f8O f8Q hs h0 hr
 refine RetE.of F94 rfl ?_
 simp only[c4T]
 simp only[wA,seval,f8S,ha]
 first|done|rfl|exact⟨rfl,rfl,rfl⟩
theorem f8U (sg:Sg) (ow:Ow):RetE F gl 94 [.t (.sl true [])] sg ow (.t (.sl true [])) sg ow:=by
 refine RetE.of F94 rfl ?_
 simp only[c4T]
 simp only[wA,seval]
 first|done|rfl|exact⟨rfl,rfl,rfl⟩
theorem f8V {l:List Rw} (hl:l.length<=1000000) (hli:∀ x,x∈l->LiC x.a/\LiC x.b/\LiC x.c) {a2 c3 id:Nat} {p pu va se:Int} {hv:PV} {sg0:Sg} {ow:Ow} (hid:sg0[id]?=some (false,cG tRw l)) (hc:sg0[c3]?=some (false,[.t (.int .u64 p),.t (.int .i64 pu),.t (.int .i64 va),.bf id l.length 3,.t (.int .i64 se),hv])) (Q:Ex->S->Prop):∀ (k:Nat) (i:Nat) (fr:List PV) (sg:Sg),i+k=l.length->Mv [] [] sg0 sg ->
  b6S fr [(2,.lp a2 0),(3,.lp c3 0),(20,.bf id l.length 3),(21,.t (.int .i64 l.length)),(22,.t (.int .i64 i))] ->
  (∀ fr' sg',Mv [] [] sg0 sg'->b6S fr' [(2,.lp a2 0),(3,.lp c3 0)]->Q (.exit 0) ⟨fr',sg',ow⟩) ->
  Xl F gl c3E ⟨fr,sg,ow⟩ Q ⟨⟩:=by
 intro k
 induction k with
 |zero =>
  intro i fr sg hi hM hf k1
  simp only[b6U,b6T] at hf
  obtain⟨f2,f3,f20,f21,f22,-⟩:=hf
  refine Xl.step ?_
  simp only[c3E]
  have c1:¬((i:Int) < (l.length:Int)):=by omega
  simp only[wA,seval,f2,f3,f20,f21,f22,c1]
  exact k1 _ _ hM (by simp only[wQ,seval,f2,f3])
 |succ k ih =>
  intro i fr sg hi hM hf k1
  simp only[b6U,b6T] at hf
  obtain⟨f2,f3,f20,f21,f22,-⟩:=hf
  obtain⟨x,hx⟩:∃ x,l[i]?=some x:=⟨_,g5M (by omega)⟩
  have hid1:=hM.get hid (by simp)
  have hc1:=hM.get hc (by simp)
  have m1:=d4U hid1
  have m2:=d4U hc1
  obtain⟨x1,x2,x3⟩:=hli x (g6K hx)
  have q1:=λK=>@f6Y gl x.a x1.1 x1.2 K
  have q2:=λK=>@f6Y gl x.b x2.1 x2.2 K
  have q3:=λK=>@f6Y gl x.c x3.1 x3.2 K
  refine Xl.step ?_
  simp only[c3E]
  have c1:((i:Int) < (l.length:Int)):=by omega
  have hlt:i < l.length:=by omega
  have hw1:=d5F hlt (by omega)
  have hct:=f5T (t:=tRw) f8N l i x [] hx
  rw[g5C] at hct
  simp only[g6E,g6F] at hct
  have hle:i * 3+3<=(cG tRw l).length:=by rw[f5N f8N];omega
  have hsm:=f6A (t:=tRw) f8N hx
  simp only[g6E,g6F,setRange] at hsm
  simp only[wA,seval,f2,f3,f20,f21,f22,c1,hlt,g4Z,d5I m1,hid1,hct,hle,allT,d5I m2,hc1,q1,q2,q3,hw1,wC,hsm]
  refine ih (i+1) _ _ (by omega) ?_ (by simp only[wQ,seval,f2,f3,f20,f21]) k1
  rw[d5H (by rw[d5I m1];exact hid1)]
  exact hM.app2 _
theorem f8W {l:List Ht} (hl:l.length<=1000000) (hli:∀ x,x∈l->LiC x.a/\LiC x.b) {a2 c3 id:Nat} {p pu va se:Int} {rv:PV} {sg0:Sg} {ow:Ow} (hid:sg0[id]?=some (false,cG tHt l)) (hc:sg0[c3]?=some (false,[.t (.int .u64 p),.t (.int .i64 pu),.t (.int .i64 va),rv,.t (.int .i64 se),.bf id l.length 4])) (Q:Ex->S->Prop):∀ (k:Nat) (i:Nat) (fr:List PV) (sg:Sg),i+k=l.length->Mv [] [] sg0 sg ->
  b6S fr [(2,.lp a2 0),(3,.lp c3 0),(48,.bf id l.length 4),(49,.t (.int .i64 l.length)),(50,.t (.int .i64 i))] ->
  (∀ fr' sg',Mv [] [] sg0 sg'->b6S fr' [(2,.lp a2 0),(3,.lp c3 0)]->Q (.exit 2) ⟨fr',sg',ow⟩) ->
  Xl F gl c3D ⟨fr,sg,ow⟩ Q ⟨⟩:=by
 have hic:id≠c3:=λe=>by
  rw[e,hc] at hid
  injection hid with hid
  injection hid with _ hid
  have:=congrArg List.length hid
  rw[f5N f8O] at this
  simp at this
  omega
 intro k
 induction k with
 |zero =>
  intro i fr sg hi hM hf k1
  simp only[b6U,b6T] at hf
  obtain⟨f2,f3,f48,f49,f50,-⟩:=hf
  refine Xl.step ?_
  simp only[c3D]
  have c1:¬((i:Int) < (l.length:Int)):=by omega
  simp only[wA,seval,f2,f3,f48,f49,f50,c1]
  exact k1 _ _ hM (by simp only[wQ,seval,f2,f3])
 |succ k ih =>
  intro i fr sg hi hM hf k1
  simp only[b6U,b6T] at hf
  obtain⟨f2,f3,f48,f49,f50,-⟩:=hf
  obtain⟨x,hx⟩:∃ x,l[i]?=some x:=⟨_,g5M (by omega)⟩
  have hid1:=hM.get hid (by simp)
  have hc1:=hM.get hc (by simp)
  have m1:=d4U hid1
  have m2:=d4U hc1
  obtain⟨x1,x2⟩:=hli x (g6K hx)
  have q1:=λK=>@f6Y gl x.a x1.1 x1.2 K
  have q2:=λK=>@f6Y gl x.b x2.1 x2.2 K
  refine Xl.step ?_
  simp only[c3D]
  have c1:((i:Int) < (l.length:Int)):=by omega
  have hlt:i < l.length:=by omega
  have hw1:=d5F hlt (by omega)
  have hct:=f5T (t:=tHt) f8O l i x [] hx
  rw[g5C] at hct
  simp only[g6E,g6F] at hct
  have hle:i * 4+4<=(cG tHt l).length:=by rw[f5N f8O];omega
  have g1:(cG tHt l)[i * 4+1]?=some (.t (tLi x.a)):=by
   have:=f5U (t:=tHt) f8O [] hx 1 (by decide)
   rw[g5C] at this
   exact this
  have g2:(cG tHt l)[i * 4+2]?=some (.t (tLi x.b)):=by
   have:=f5U (t:=tHt) f8O [] hx 2 (by decide)
   rw[g5C] at this
   exact this
  have hs1:(cG tHt l).set (i * 4+1) (.t (tLi x.a))=cG tHt l:=f5H g1
  have hs2:(cG tHt l).set (i * 4+2) (.t (tLi x.b))=cG tHt l:=f5H g2
  have hle1:i * 4+1+1<=(cG tHt l).length:=by omega
  have hle2:i * 4+2+1<=(cG tHt l).length:=by omega
  have hsm:∀ t,(sg++t).set id (false,cG tHt l)=sg++t:=λt=>d5H (by rw[d5I m1];exact hid1)
  have hz:∀ t,(sg++(t:Sg))[sg.length]?=t[0]?:=λt=>b6O
  simp only[wA,seval,f2,f3,f48,f49,f50,c1,hlt,g4Z,d5I m1,hid1,hct,hle,allT,d5I m2,hc1,q1,q2,hw1,wC,hs1,hs2,hle1,hle2,hsm,a1C,lenS,d5Q,d5P,d5O,d5L]
  exact ih (i+1) _ _ (by omega) (hM.app2 _) (by simp only[wQ,seval,f2,f3,f48,f49]) k1
theorem f8X (l:List Rw):l.flatMap cRw=cG tRw l:=(f6B (t:=tRw) l).symm
theorem f8Y (l:List Ht):l.flatMap cHt=cG tHt l:=(f6B (t:=tHt) l).symm
def Cir (n:Nat) (sg:Sg) (r:Nat) (p:Int) (b:Bd) (v:PV):Prop:=∃ rv hv ri hi,v=mkAgg [.t (.int .u64 p),.t (.int .i64 b.pub),.t (.int .i64 b.vars),rv,.t (.int .i64 b.sec),hv]/\Bf sg r rv ri 3 b.rows.length (cG tRw b.rows)/\Bf sg r hv hi 4 b.hints.length (cG tHt b.hints)/\(cellsP v).all Pi.one=true/\(ri=r\/n<=ri)/\(hi=r\/n<=hi)
theorem ok59 {p:Int} {sg:Sg} {r ri hi:Nat} {b:Bd} (hb:BS sg r ri hi p b) (hm:Rm b 0) (hh:b.hints.length<=1000000) (ow:Ow) :
  CallE F gl 59 [.lp r 0] sg ow λx sg' ow'=>Cir sg.length sg' r p b x/\Mv [] [] sg sg':=by
 have hc:=hb.cl
 obtain⟨rv,hv,h1,h2,h3⟩:=hb.ex
 rw[f8X] at h2
 rw[f8Y] at h3
 have lr:=d4U h1
 have hrl:b.rows.length<=1000000:=by have:=hm.2;omega
 refine XcE.of F59 rfl ?_
 simp only[c3F]
 have n1:∀ t,(sg++(t:Sg))[r]?=sg[r]?:=λt=>d5I lr t
 have z1:=λsg ow K=>RetE.iff (K:=K) (f8T (gl:=gl) sg ow)
 have z2:=λsg ow K=>RetE.iff (K:=K) (f8U (gl:=gl) sg ow)
 have zz:((0:Nat):Int)=0:=rfl
 rcases h2 with⟨e1,rfl,e2,e3⟩|⟨e1,rfl,e2,e3,e4⟩
 ·rcases h3 with⟨d1,rfl,d2,d3⟩|⟨d1,rfl,d2,d3,d4⟩
  ·simp only[wA,seval,n1,h1,z1,z2,wC,allT]
   refine Xl.step ?_
   simp only[c3E]
   simp only[wA,seval,n1,h1,z1,z2,zz]
   have hM1:Mv [] [] sg (sg++[(false,[.t (.int .u64 0),.t (.int .i64 0),.t (.int .i64 0),.t (.sl true []),.t (.int .i64 0),.t (.sl true [])]),(false,[.t (.int .u64 p),.t (.int .i64 b.pub),.t (.int .i64 b.vars),.t (.sl true []),.t (.int .i64 b.sec),.t (.sl true [])])]):=.app _ _ _
   have hcc:(sg++[(false,[.t (.int .u64 0),.t (.int .i64 0),.t (.int .i64 0),.t (.sl true []),.t (.int .i64 0),.t (.sl true [])]),(false,[.t (.int .u64 p),.t (.int .i64 b.pub),.t (.int .i64 b.vars),.t (.sl true []),.t (.int .i64 b.sec),.t (.sl true [])])])[sg.length+1]?=some (false,[.t (.int .u64 p),.t (.int .i64 b.pub),.t (.int .i64 b.vars),.t (.sl true []),.t (.int .i64 b.sec),.t (.sl true [])]):=by rw[g5K (by omega)];simp
   have hrs:(sg++[(false,[.t (.int .u64 0),.t (.int .i64 0),.t (.int .i64 0),.t (.sl true []),.t (.int .i64 0),.t (.sl true [])]),(false,[.t (.int .u64 p),.t (.int .i64 b.pub),.t (.int .i64 b.vars),.t (.sl true []),.t (.int .i64 b.sec),.t (.sl true [])])])[sg.length]?=some (false,[.t (.int .u64 0),.t (.int .i64 0),.t (.int .i64 0),.t (.sl true []),.t (.int .i64 0),.t (.sl true [])]):=by simp
   have lcc:=d4U hcc
   have lrs:=d4U hrs
   refine Xl.step ?_
   simp only[c3D]
   simp only[wA,seval,n1,h1,z1,z2,zz,wC,allT]
   refine⟨⟨.t (.sl true []),.t (.sl true []),r,r,rfl,.inl ⟨e1,rfl,rfl,by rw[List.length_eq_zero_iff.1 e1];rfl⟩,.inl ⟨d1,rfl,rfl,by rw[List.length_eq_zero_iff.1 d1];rfl⟩,rfl,.inl rfl,.inl rfl⟩,.app _ _ _⟩
  ·have hhne:b.hints≠[]:=λe=>by rw[e] at d1;cases d1
   simp only[wA,seval,n1,h1,z1,z2,wC,allT]
   refine Xl.step ?_
   simp only[c3E]
   simp only[wA,seval,n1,h1,z1,z2,zz]
   have hM1:Mv [] [] sg (sg++[(false,[.t (.int .u64 0),.t (.int .i64 0),.t (.int .i64 0),.t (.sl true []),.t (.int .i64 0),.t (.sl true [])]),(false,[.t (.int .u64 p),.t (.int .i64 b.pub),.t (.int .i64 b.vars),.t (.sl true []),.t (.int .i64 b.sec),.bf hi b.hints.length 4])]):=.app _ _ _
   have hcc:(sg++[(false,[.t (.int .u64 0),.t (.int .i64 0),.t (.int .i64 0),.t (.sl true []),.t (.int .i64 0),.t (.sl true [])]),(false,[.t (.int .u64 p),.t (.int .i64 b.pub),.t (.int .i64 b.vars),.t (.sl true []),.t (.int .i64 b.sec),.bf hi b.hints.length 4])])[sg.length+1]?=some (false,[.t (.int .u64 p),.t (.int .i64 b.pub),.t (.int .i64 b.vars),.t (.sl true []),.t (.int .i64 b.sec),.bf hi b.hints.length 4]):=by rw[g5K (by omega)];simp
   have hrs:(sg++[(false,[.t (.int .u64 0),.t (.int .i64 0),.t (.int .i64 0),.t (.sl true []),.t (.int .i64 0),.t (.sl true [])]),(false,[.t (.int .u64 p),.t (.int .i64 b.pub),.t (.int .i64 b.vars),.t (.sl true []),.t (.int .i64 b.sec),.bf hi b.hints.length 4])])[sg.length]?=some (false,[.t (.int .u64 0),.t (.int .i64 0),.t (.int .i64 0),.t (.sl true []),.t (.int .i64 0),.t (.sl true [])]):=by simp
   have lcc:=d4U hcc
   have lrs:=d4U hrs
   have hhi:=hM1.get d2 (by simp)
   have y2:=λow K=>RetE.iff (K:=K) (ok94 (gl:=gl) hh hhi hhne ow)
   simp only[g5W,g5X,g5Z,g5B,List.cons_append,List.nil_append] at y2
   simp only[wA,seval,n1,h1,z1,z2,y2,wC,allT]
   refine f8W (sg0:=sg++[(false,[.t (.int .u64 0),.t (.int .i64 0),.t (.int .i64 0),.t (.sl true []),.t (.int .i64 0),.t (.sl true [])]),(false,[.t (.int .u64 p),.t (.int .i64 b.pub),.t (.int .i64 b.vars),.t (.sl true []),.t (.int .i64 b.sec),.bf (sg.length+2) b.hints.length 4]),(false,cG tHt b.hints)]) (a2:=sg.length) (c3:=sg.length+1) (id:=sg.length+2) (p:=p) (pu:=b.pub) (va:=b.vars) (se:=b.sec) (rv:=.t (.sl true [])) hh hc.h (by rw[g5K (by omega)];simp) (by rw[g5K (by omega)];simp) _ b.hints.length 0 _ _ (by omega) (.refl _ _) (by simp only[wQ,seval];first|done|exact⟨rfl,rfl⟩|rfl) ?_
   intro fr2 sg2 hM2 hf2
   simp only[b6U,b6T] at hf2
   obtain⟨k2,k3,-⟩:=hf2
   have hcc2:=hM2.get (i:=sg.length+1) (v:=(false,[.t (.int .u64 p),.t (.int .i64 b.pub),.t (.int .i64 b.vars),.t (.sl true []),.t (.int .i64 b.sec),.bf (sg.length+2) b.hints.length 4])) (by rw[g5K (by omega)];simp) (by simp)
   have hrs2:=hM2.get (i:=sg.length) (v:=(false,[.t (.int .u64 0),.t (.int .i64 0),.t (.int .i64 0),.t (.sl true []),.t (.int .i64 0),.t (.sl true [])])) (by simp) (by simp)
   have hhw2:=hM2.get (i:=sg.length+2) (v:=(false,cG tHt b.hints)) (by rw[g5K (by omega)];simp) (by simp)
   have hM3:=(Mv.app [] sg _).trans hM2
   simp only[wA,seval,k2,k3,hcc2,hrs2,d4T hrs2,wC,allT]
   refine⟨⟨.t (.sl true []),.bf (sg.length+2) b.hints.length 4,r,sg.length+2,rfl,.inl ⟨e1,rfl,rfl,by rw[List.length_eq_zero_iff.1 e1];rfl⟩,.inr ⟨d1,rfl,by rw[g5S (by omega)];exact hhw2,by omega,f5N f8O _⟩,rfl,.inl rfl,.inr (by omega)⟩,hM3.set (.inr (g6U _)) _⟩
 ·rcases h3 with⟨d1,rfl,d2,d3⟩|⟨d1,rfl,d2,d3,d4⟩
  ·have hrne:b.rows≠[]:=λe=>by rw[e] at e1;cases e1
   have y1:=λt ow K=>RetE.iff (K:=K) (ok92 (gl:=gl) hrl (sg:=sg++t) (id:=ri) (b0R e2) hrne ow)
   simp only[wA,seval,n1,h1,z1,z2,wC,y1,allT]
   refine f8V (sg0:=sg++[(false,[.t (.int .u64 0),.t (.int .i64 0),.t (.int .i64 0),.t (.sl true []),.t (.int .i64 0),.t (.sl true [])]),(false,[.t (.int .u64 p),.t (.int .i64 b.pub),.t (.int .i64 b.vars),.bf (sg.length+2) b.rows.length 3,.t (.int .i64 b.sec),.t (.sl true [])]),(false,cG tRw b.rows)]) (a2:=sg.length) (c3:=sg.length+1) (id:=sg.length+2) (p:=p) (pu:=b.pub) (va:=b.vars) (se:=b.sec) (hv:=.t (.sl true [])) hrl hc.r (by rw[g5K (by omega)];simp) (by rw[g5K (by omega)];simp) _ b.rows.length 0 _ _ (by omega) (.refl _ _) (by simp only[wQ,seval];first|done|exact⟨rfl,rfl⟩|rfl) ?_
   intro fr1 sg1 hM1 hf1
   simp only[b6U,b6T] at hf1
   obtain⟨g2,g3,-⟩:=hf1
   have hcc:=hM1.get (i:=sg.length+1) (v:=(false,[.t (.int .u64 p),.t (.int .i64 b.pub),.t (.int .i64 b.vars),.bf (sg.length+2) b.rows.length 3,.t (.int .i64 b.sec),.t (.sl true [])])) (by rw[g5K (by omega)];simp) (by simp)
   have hrs:=hM1.get (i:=sg.length) (v:=(false,[.t (.int .u64 0),.t (.int .i64 0),.t (.int .i64 0),.t (.sl true []),.t (.int .i64 0),.t (.sl true [])])) (by simp) (by simp)
   have hrw:=hM1.get (i:=sg.length+2) (v:=(false,cG tRw b.rows)) (by rw[g5K (by omega)];simp) (by simp)
   replace hM1:=(Mv.app [] sg _).trans hM1
   have lcc:=d4U hcc
   have lrs:=d4U hrs
   simp only[wA,seval,g2,g3,hcc,z2,d4T hcc,wC,allT]
   rw[d5H hcc]
   refine Xl.step ?_
   simp only[c3D]
   simp only[wA,seval,g2,g3,hcc,hrs,d4T hrs,zz,wC,allT]
   refine⟨⟨.bf (sg.length+2) b.rows.length 3,.t (.sl true []),sg.length+2,r,rfl,.inr ⟨e1,rfl,by rw[g5S (by omega)];exact hrw,by omega,f5N f8N _⟩,.inl ⟨d1,rfl,rfl,by rw[List.length_eq_zero_iff.1 d1];rfl⟩,rfl,.inr (by omega),.inl rfl⟩,hM1.set (.inr (g6U _)) _⟩
  ·have hrne:b.rows≠[]:=λe=>by rw[e] at e1;cases e1
   have y1:=λt ow K=>RetE.iff (K:=K) (ok92 (gl:=gl) hrl (sg:=sg++t) (id:=ri) (b0R e2) hrne ow)
   have hhne:b.hints≠[]:=λe=>by rw[e] at d1;cases d1
   simp only[wA,seval,n1,h1,z1,z2,wC,y1,allT]
   refine f8V (sg0:=sg++[(false,[.t (.int .u64 0),.t (.int .i64 0),.t (.int .i64 0),.t (.sl true []),.t (.int .i64 0),.t (.sl true [])]),(false,[.t (.int .u64 p),.t (.int .i64 b.pub),.t (.int .i64 b.vars),.bf (sg.length+2) b.rows.length 3,.t (.int .i64 b.sec),.bf hi b.hints.length 4]),(false,cG tRw b.rows)]) (a2:=sg.length) (c3:=sg.length+1) (id:=sg.length+2) (p:=p) (pu:=b.pub) (va:=b.vars) (se:=b.sec) (hv:=.bf hi b.hints.length 4) hrl hc.r (by rw[g5K (by omega)];simp) (by rw[g5K (by omega)];simp) _ b.rows.length 0 _ _ (by omega) (.refl _ _) (by simp only[wQ,seval];first|done|exact⟨rfl,rfl⟩|rfl) ?_
   intro fr1 sg1 hM1 hf1
   simp only[b6U,b6T] at hf1
   obtain⟨g2,g3,-⟩:=hf1
   have hcc:=hM1.get (i:=sg.length+1) (v:=(false,[.t (.int .u64 p),.t (.int .i64 b.pub),.t (.int .i64 b.vars),.bf (sg.length+2) b.rows.length 3,.t (.int .i64 b.sec),.bf hi b.hints.length 4])) (by rw[g5K (by omega)];simp) (by simp)
   have hrs:=hM1.get (i:=sg.length) (v:=(false,[.t (.int .u64 0),.t (.int .i64 0),.t (.int .i64 0),.t (.sl true []),.t (.int .i64 0),.t (.sl true [])])) (by simp) (by simp)
   have hrw:=hM1.get (i:=sg.length+2) (v:=(false,cG tRw b.rows)) (by rw[g5K (by omega)];simp) (by simp)
   replace hM1:=(Mv.app [] sg _).trans hM1
   have lcc:=d4U hcc
   have lrs:=d4U hrs
   have hhi:=hM1.get d2 (by simp)
   have y2:=λow K=>RetE.iff (K:=K) (ok94 (gl:=gl) hh hhi hhne ow)
   simp only[wA,seval,g2,g3,hcc,y2,d5I lcc,d4T hcc,d5J lcc,wC,allT]
   have lsc:sg.length+1 < (sg1.set (sg.length+1) (false,[.t (.int .u64 p),.t (.int .i64 b.pub),.t (.int .i64 b.vars),.bf (sg.length+2) b.rows.length 3,.t (.int .i64 b.sec),.bf sg1.length b.hints.length 4])).length:=by rw[g6A];exact lcc
   have hcs:(sg1.set (sg.length+1) (false,[.t (.int .u64 p),.t (.int .i64 b.pub),.t (.int .i64 b.vars),.bf (sg.length+2) b.rows.length 3,.t (.int .i64 b.sec),.bf sg1.length b.hints.length 4])++[(false,cG tHt b.hints)])[sg.length+1]?=some (false,[.t (.int .u64 p),.t (.int .i64 b.pub),.t (.int .i64 b.vars),.bf (sg.length+2) b.rows.length 3,.t (.int .i64 b.sec),.bf sg1.length b.hints.length 4]):=by rw[g5J lsc,g5T lcc]
   simp only[wA,seval,g2,g3,hcs]
   refine f8W (sg0:=sg1.set (sg.length+1) (false,[.t (.int .u64 p),.t (.int .i64 b.pub),.t (.int .i64 b.vars),.bf (sg.length+2) b.rows.length 3,.t (.int .i64 b.sec),.bf sg1.length b.hints.length 4])++[(false,cG tHt b.hints)]) (a2:=sg.length) (c3:=sg.length+1) (id:=sg1.length) (p:=p) (pu:=b.pub) (va:=b.vars) (se:=b.sec) (rv:=.bf (sg.length+2) b.rows.length 3) hh hc.h (by rw[g5K (by simp)];simp) hcs _ b.hints.length 0 _ _ (by omega) (.refl _ _) (by simp only[wQ,seval,g2,g3];first|done|exact⟨rfl,rfl⟩|rfl) ?_
   intro fr2 sg2 hM2 hf2
   simp only[b6U,b6T] at hf2
   obtain⟨k2,k3,-⟩:=hf2
   have hcc2:=hM2.get hcs (by simp)
   have hrs2:=hM2.get (i:=sg.length) (v:=(false,[.t (.int .u64 0),.t (.int .i64 0),.t (.int .i64 0),.t (.sl true []),.t (.int .i64 0),.t (.sl true [])])) (by rw[g5J (by rw[g6A];omega),g5S (by omega)];exact hrs) (by simp)
   have hrw2:=hM2.get (i:=sg.length+2) (v:=(false,cG tRw b.rows)) (by rw[g5J (by rw[g6A];exact d4U hrw),g5S (by omega)];exact hrw) (by simp)
   have hhw2:=hM2.get (i:=sg1.length) (v:=(false,cG tHt b.hints)) (by rw[g5K (by simp)];simp) (by simp)
   have hM3:=((hM1.set (.inr (by omega)) _).app2 _).trans hM2
   simp only[wA,seval,k2,k3,hcc2,hrs2,d4T hrs2,wC,allT]
   refine⟨⟨.bf (sg.length+2) b.rows.length 3,.bf sg1.length b.hints.length 4,sg.length+2,sg1.length,rfl,.inr ⟨e1,rfl,by rw[g5S (by omega)];exact hrw2,by omega,f5N f8N _⟩,.inr ⟨d1,rfl,by rw[g5S (by omega)];exact hhw2,by omega,f5N f8O _⟩,rfl,.inr (by omega),.inr (by omega)⟩,hM3.set (.inr (g6U _)) _⟩
end Go.Proofs.YtdjcnfacjfnakaaGreat
