/- Contracts: statements are executed. -/
import Derived.Test.YtdjcnfacjfnakaaGreatE15
set_option maxRecDepth 10000
set_option linter.unusedVariables false
set_option linter.unusedSimpArgs false
namespace Go.Proofs.YtdjcnfacjfnakaaGreat
open Go.Pi Go.Lx Go.Ky Go.Lib
variable {gl:Nat→Option (List T)}
theorem f9Y {s:St} (hls:s.body.length≤B20) (hrec:∀ a,a∈s.body→∀ K,XcP F gl 137 [.agg (tSt a)] K ⟨⟩↔K (.t (.bool (idS a)))) {ow:Ow} (Q:Ex→S→Prop):∀ (l:List St) (i:Nat) (fr:List PV) (sg:Sg),s.body.drop i=l →
  b9P fr [(14,.t (.sl s.nl (d2C s.body))),(15,.t (.int .i64 s.body.length)),(16,.t (.int .i64 i))] →
  (l.all idS=true→∀ fr' sg',Q (.exit 0) ⟨fr',sg',ow⟩) →
  (l.all idS=false→∀ fr' sg',a0A fr' 2=.t (.bool false)→Q .ret ⟨fr',sg',ow⟩) →
  Xl F gl c7U ⟨fr,sg,ow⟩ Q ⟨⟩:=by
 intro l
 induction l with
 |nil =>
  intro i fr sg hd hf k1 k2
  have hd:=b9K hd
  simp only[b9R,b9Q] at hf
  obtain⟨f1,f2,f3,-⟩:=hf
  refine Xl.step ?_
  simp only[c7U]
  have c1:¬((i:Int) < (s.body.length:Int)):=by omega
  simp only[wA,seval,reduceCtorEq,reduceIte,f1,f2,f3,c1]
  exact k1 rfl _ _
 |cons x l ih =>
  intro i fr sg hd hf k1 k2
  obtain⟨hx,hr,hi⟩:=b9J hd
  simp only[b9R,b9Q] at hf
  obtain⟨f1,f2,f3,-⟩:=hf
  refine Xl.step ?_
  simp only[c7U]
  have c1:(i:Int) < (s.body.length:Int):=by omega
  have hw1:=d5J hi (show s.body.length≤281474976710656 by have:B20=1100000:=rfl;omega)
  have hm:=g4K hx
  have hq:=fun K=>hrec x hm K
  simp only[d2E] at hq
  rw[List.all_cons] at k1 k2
  cases hb:idS x with
  |true =>
   rw[hb] at k1 k2 hq
   simp only[wA,seval,reduceCtorEq,reduceIte,f1,f2,f3,c1,hw1,g2X,hi,d2G,hx,g5F,d2E,hq]
   exact ih (i+1) _ _ hr (by simp only[wQ,Nat.reduceEqDiff,reduceIte,f1,f2];first|done|rfl) (by simpa using k1) (by simpa using k2)
  |false =>
   rw[hb] at k1 k2 hq
   simp only[wA,seval,reduceCtorEq,reduceIte,f1,f2,f3,c1,hw1,g2X,hi,d2G,hx,g5F,d2E,hq]
   exact k2 rfl _ _ (by simp only[wQ,Nat.reduceEqDiff,reduceIte])
theorem f9Z:∀ s,szS s≤B20→∀ K,XcP F gl 137 [.agg (tSt s)] K ⟨⟩↔K (.t (.bool (idS s))):=by
 refine St.ind fun s ih hsz K=>?_
 obtain⟨hb1,hb2⟩:=d6P hsz
 rw[e7F]
 refine Ret.iff (Ret.of F137 rfl ?_)
 simp only[c7V]
 rw[d2E]
 by_cases h3:s.kind=3
 ·by_cases hl:s.lo≥s.hi
  ·rw[if_neg (by simpa using h3),if_pos hl]
   simp only[wA,seval,reduceCtorEq,reduceIte,h3,hl]
  ·rw[if_neg (by simpa using h3),if_neg hl]
   simp only[wA,seval,reduceCtorEq,reduceIte,h3,hl,d2F]
   refine f9Y hb1 (fun a ha=>ih a ha (hb2 a ha)) _ s.body 0 _ _ rfl (by simp only[wQ,Nat.reduceEqDiff,reduceIte];first|done|exact⟨rfl,rfl⟩|rfl) (fun h fr' sg'=>?_) (fun h fr' sg' f2=>?_)
   ·rw[h]
    simp only[wA,seval,reduceCtorEq,reduceIte]
   ·rw[h]
    simp only[wA,seval,reduceCtorEq,reduceIte,f2]
 ·rw[if_pos (by simpa using h3)]
  simp only[wA,seval,reduceCtorEq,reduceIte,h3]
abbrev cSt (s:St):List PV:=[.t (.int .i64 s.kind),.t (.str s.name),.t (.bool s.typed),.t (.int .i64 s.ty.kind),.t (.int .i64 s.ty.bits),.t (.int .i64 s.ty.len),.t (.int .i64 s.ex.op),.t (.int .u64 s.ex.val),.t (.str s.ex.name),.t (.sl s.ex.nl (d1X s.ex.args)),.t (.int .i64 s.lo),.t (.int .i64 s.hi),.t (.sl s.nl (d2C s.body))]
def Cm (sg:Sg) (ow:Ow) (c r ri hi fm m:Nat) (p:Int) (fa:Fs) (q:Sx×Cst) (sg':Sg) (ow':Ow):Prop:=ow <+: ow'∧∃ ri' hi',CS sg' c r ri' hi' fm p fa q.2∧sg'[m]?=some (true,iC q.1)∧Mv [m,c,r,ri,hi] [m,c,r,ri',hi'] sg sg'
def SsC (gl:Nat→Option (List T)) (p:Int) (fa fs:Fs) (Ψ:Fc) (ls:List St) (nl:Bool):Prop :=
 ∀ (ns:Ns) (w:Int) (sg:Sg) (c r ri hi fm m:Nat) (s:Cst) (sc:Sx) (ow:Ow),CS sg c r ri hi fm p fa s→CsOk s→fm≠m→sg[m]?=some (true,iC sc)→(s.full=true∨ScC s.b.vars ns sc)→(d4G fs ls ns w).1=0 →
  CallE F gl 57 [.lp c 0,.t (.sl nl (d2C ls)),.mp m] sg ow fun x sg' ow'=>Cm sg ow c r ri hi fm m p fa (f1Q (foF p) Ψ ls sc s) sg' ow'
def LpC (gl:Nat→Option (List T)) (p:Int) (fa fs:Fs) (Ψ:Fc) (x:St):Prop :=
 ∀ (ns:Ns) (w:Int) (sg:Sg) (c r ri hi fm m:Nat) (s:Cst) (sc:Sx) (ow:Ow),CS sg c r ri hi fm p fa s→CsOk s→s.full=false→fm≠m→sg[m]?=some (true,iC sc)→ScC s.b.vars ns sc→(stM fs x ns w).1=0 →
  CallE F gl 90 [.lp c 0,.t (.agg (tSt x)),.mp m] sg ow fun v sg' ow'=>Cm sg ow c r ri hi fm m p fa (Ky.stC (foF p) Ψ x sc s) sg' ow'
theorem g0A {t:Ty} (h:tyB t=true):t.kind=3→1≤t.bits∧t.bits≤62:=by
 intro h3
 unfold tyB at h
 split at h
 ·cases h
 ·simp only[h3,g2R,g5L] at h
  simp at h
  omega
theorem g0B {sg:Sg} {c r ri hi fm m:Nat} {p:Int} {fa:Fs} {s:Cst} (h:CS sg c r ri hi fm p fa s) (hfm:fm≠m) {es:List PV} (hm:sg[m]?=some (true,es)) (x:Bool×List PV):CS (sg.set m x) c r ri hi fm p fa s:=h.set (h.map hm) (Ne.symm hfm) x
set_option maxHeartbeats 1000000 in
theorem g0C {p:Int} (hk:e2N p=true) {fa fs:Fs} {Ψ:Fc} (hΨ:FcOk fs Ψ) (hR:f9V gl p fa fs Ψ) {ls:List St} {nl:Bool} (hls:ls.length≤B20) (hst:∀ x,x∈ls→StOk x∧stB x=true∧szS x≤B20) (hrec:∀ x,x∈ls→x.kind=3→LpC gl p fa fs Ψ x) {c r fm m ri0 hi0:Nat} (hfm:fm≠m) {sg0:Sg} {ow0:Ow} (Q:Ex→S→Prop):∀ (l:List St) (i:Nat) (ns:Ns) (w:Int) (s:Cst) (sc:Sx) (fr:List PV) (sg:Sg) (ow:Ow) (ri hi:Nat),ls.drop i=l→CS sg c r ri hi fm p fa s→CsOk s→sg[m]?=some (true,iC sc)→(s.full=true∨ScC s.b.vars ns sc)→(d4G fs l ns w).1=0→Mv [m,c,r,ri0,hi0] [m,c,r,ri,hi] sg0 sg→ow0 <+: ow →
  b9P fr [(0,.lp c 0),(2,.mp m),(10,.t (.sl nl (d2C ls))),(11,.t (.int .i64 ls.length)),(12,.t (.int .i64 i))] →
  (∀ fr' sg' ow',Cm sg0 ow0 c r ri0 hi0 fm m p fa (f1Q (foF p) Ψ l sc s) sg' ow'→Q (.exit 0) ⟨fr',sg',ow'⟩∧Q .ret ⟨fr',sg',ow'⟩) →
  Xl F gl c5B ⟨fr,sg,ow⟩ Q ⟨⟩:=by
 intro l
 induction l with
 |nil =>
  intro i ns w s sc fr sg ow ri hi hd h hs hm hsc he hM hO hf k1
  have hd:=b9K hd
  simp only[b9R,b9Q] at hf
  obtain⟨f0,f2,f10,f11,f12,-⟩:=hf
  refine Xl.step ?_
  simp only[c5B]
  have c1:¬((i:Int) < (ls.length:Int)):=by omega
  have hem:f1Q (foF p) Ψ [] sc s=(sc,s):=by rw[f1Q]
  rw[hem] at k1
  simp only[wA,seval,reduceCtorEq,reduceIte,f0,f2,f10,f11,f12,c1]
  exact(k1 _ _ _ ⟨hO,ri,hi,h,hm,hM⟩).1
 |cons x l ih =>
  intro i ns w s sc fr sg ow ri hi hd h hs hm hsc he hM hO hf k1
  obtain⟨hx,hr,hil⟩:=b9J hd
  simp only[b9R,b9Q] at hf
  obtain⟨f0,f2,f10,f11,f12,-⟩:=hf
  refine Xl.step ?_
  simp only[c5B]
  have c1:(i:Int) < (ls.length:Int):=by omega
  have hB20:B20=1100000:=rfl
  have hw1:=d5J hil (show ls.length≤281474976710656 by omega)
  have hc:=h.hc
  have lc:=d4Y hc
  have lm:=d4Y hm
  have lf:=d4Y h.hf
  have hmc:=h.map hm
  cases hfu:s.full with
  |true =>
   rw[f1Y _ _ _ _ hfu] at k1
   rw[hfu] at hc
   simp only[wA,seval,reduceCtorEq,reduceIte,f0,f2,f10,f11,f12,c1,hw1,g2X,hil,d2G,hx,g5F,d2E,d5M lc,hc,wC]
   exact(k1 _ _ _ ⟨hO,ri,hi,h.app _,b1V hm,hM.app2 _⟩).2
  |false =>
   obtain⟨he1,he2⟩:=e8P he
   obtain⟨hxo,hxb,hxs⟩:=hst x (g4K hx)
   have hsc0:=hsc.resolve_left (by rw[hfu];simp)
   have hnext:=f3K (f5W hk) hΨ x hxo hxs hxb ns sc w s hfu hs hsc0 he1
   rw[f1Z _ _ _ _ _ hfu] at k1
   rw[hfu] at hc
   by_cases h3:x.kind=3
   ·have hq:=fun t=>hrec x (g4K hx) h3 ns w (sg++t) c r ri hi fm m s sc ow (h.app t) hs hfu hfm (b1V hm) hsc0 he1
    simp only[d2E,h3] at hq
    generalize hQ:Ky.stC (foF p) Ψ x sc s=q at *
    obtain⟨sc1,s1⟩:=q
    simp only[wA,seval,reduceCtorEq,reduceIte,f0,f2,f10,f11,f12,c1,hw1,g2X,hil,d2G,hx,g5F,d2E,d5M lc,hc,h3,wC]
    refine CallE.mono (hq _) ?_
    rintro y sg' ow' ⟨o1,ri1,hi1,hcs,hm',hmv⟩
    simp only[wA,seval,reduceCtorEq,reduceIte,f0,f2,f10,f11,f12,hw1]
    exact ih (i+1) _ _ s1 sc1 _ _ _ ri1 hi1 hr hcs hnext.cs hm' hnext.sc he2 ((hM.app2 _).trans hmv) (hO.trans o1) (by simp only[wQ,Nat.reduceEqDiff,reduceIte,f0,f2,f10,f11]) k1
   have he3:=e8L h3 he1
   have hxe:=d6Q hxb h3
   have hv:=f2Y (f5W hk) hΨ (sc:=sc) x.ex (d6S hxo) (g4V (d2T x) hxs) hxe w s hs hsc0 he3
   have hq:=fun t=>ok85 (gl:=gl) hk hΨ hR x.ex (d6S hxo) (g4V (d2T x) hxs) hxe (sg++t) c r ri hi fm m s sc ow w (h.app t) hs (b1V hm) hsc0 he3
   simp only[d1Z] at hq
   by_cases h2:x.kind=2
   ·have hV:Ky.stC (foF p) Ψ x sc s=(sc,f1C 1 (e9G (foF p) (f0Y (evC (foF p) Ψ sc x.ex s).1) (e8U (foF p) 1)) (evC (foF p) Ψ sc x.ex s).2):=by rw[f1R,if_neg (by omega),if_pos h2]
    rw[hV] at k1 hnext
    have vcs:=hv.cs
    have vle:=hv.le
    have vv:=hv.v
    generalize evC (foF p) Ψ sc x.ex s=q at *
    obtain⟨v,s1⟩:=q
    simp only at k1 hnext vcs vle vv
    have hx0:=f8Y vv.pos
    simp only[wA,seval,reduceCtorEq,reduceIte,f0,f2,f10,f11,f12,c1,hw1,g2X,hil,d2G,hx,g5F,d2E,d5M lc,hc,h2,wC]
    refine CallE.mono (hq _) ?_
    rintro y sg1 ow1 ⟨rfl,o1,ri1,hi1,hcs,hm1⟩
    have hm':=hm1.get (b1V hm) hmc
    have hmc1:=hm1.cold (by rw[g3V];omega) hmc
    simp only[wA,seval,reduceCtorEq,reduceIte,f0,f2,f10,f11,f12,hw1,f3V,hx0,g5F]
    refine CallE.mono (f8N hcs vcs (n:=1) (by decide) (by decide) ow1) ?_
    rintro y sg2 ow2 ⟨rfl,rfl,hcs2,hm2⟩
    have hm'':=hm2.get hm' hmc1
    have hMM:Mv [m,c,r,ri0,hi0] [m,c,r,ri1,hi1] sg0 sg2:=(hM.app2 _).trans ((hm1.trans hm2).cons m)
    cases hrm:f0Z 1 s1 with
    |true =>
     rw[f8O hrm] at hcs2
     rw[f8S hrm] at k1 hnext
     have hc2:=hcs2.hc
     have hcon:=fun K=>@f6A gl p 1 hk (by decide) K
     simp only[wA,seval,reduceCtorEq,reduceIte,f0,f2,f10,f11,f12,hw1,hc2,hcon]
     refine CallE.mono (f6X hk hcs2.hb vcs.b (vcs.rm (by decide)) vv.fst (.const (f5W hk).nn vcs.b.pos (by decide)) ow2) ?_
     intro y sg3 ow3 hG
     obtain⟨o3,ri3,hi3,hcs3,hm3⟩:=hcs2.gd hG
     simp only[wA,seval,reduceCtorEq,reduceIte,f0,f2,f10,f11,f12,hw1]
     exact ih (i+1) _ _ _ sc _ _ _ ri3 hi3 hr hcs3 hnext.cs (hm3.get hm'' (hcs2.map hm'')) hnext.sc he2 (hMM.trans (hm3.cons m)) ((hO.trans o1).trans o3) (by simp only[wQ,Nat.reduceEqDiff,reduceIte,f0,f2,f10,f11]) k1
    |false =>
     rw[f8P hrm] at hcs2
     rw[f8T hrm] at k1 hnext
     simp only[wA,seval,reduceCtorEq,reduceIte,f0,f2,f10,f11,f12,hw1]
     exact ih (i+1) _ _ _ sc _ _ _ ri1 hi1 hr hcs2 hnext.cs hm'' hnext.sc he2 hMM (hO.trans o1) (by simp only[wQ,Nat.reduceEqDiff,reduceIte,f0,f2,f10,f11]) k1
   have h1:=e7Z hxb h3 h2
   have hV:Ky.stC (foF p) Ψ x sc s=(e6Z x.name (f1P (foF p) x.typed x.ty (evC (foF p) Ψ sc x.ex s)).1 sc,(f1P (foF p) x.typed x.ty (evC (foF p) Ψ sc x.ex s)).2):=by rw[f1R,if_pos h1]
   rw[hV] at k1 hnext
   have hty:=fun ht=>e8M h3 h2 ht hxb he1
   have vcs:=hv.cs
   have vv:=hv.v
   generalize evC (foF p) Ψ sc x.ex s=q at *
   obtain⟨v,s1⟩:=q
   simp only at vcs vv
   have hx0:=f8Y vv.pos
   simp only[wA,seval,reduceCtorEq,reduceIte,f0,f2,f10,f11,f12,c1,hw1,g2X,hil,d2G,hx,g5F,d2E,d5M lc,hc,h1,wC]
   refine CallE.mono (hq _) ?_
   rintro y sg1 ow1 ⟨rfl,o1,ri1,hi1,hcs,hm1⟩
   have hm':=hm1.get (b1V hm) hmc
   have j7:=hm1.get (i:=sg.length) (v:=(false,[PV.t (.int .i64 1),.t (.str x.name),.t (.bool x.typed),.t (.int .i64 x.ty.kind),.t (.int .i64 x.ty.bits),.t (.int .i64 x.ty.len),.t (.int .i64 x.ex.op),.t (.int .u64 x.ex.val),.t (.str x.ex.name),.t (.sl x.ex.nl (d1X x.ex.args)),.t (.int .i64 x.lo),.t (.int .i64 x.hi),.t (.sl x.nl (d2C x.body))])) (by simp) (h.new (g4U _))
   have l7:=d4Y j7
   have lm':=d4Y hm'
   have hMM:Mv [m,c,r,ri0,hi0] [m,c,r,ri1,hi1] sg0 sg1:=(hM.app2 _).trans (hm1.cons m)
   cases ht:x.typed with
   |false =>
    have hL:f1P (foF p) x.typed x.ty (v,s1)=(v,s1):=by unfold f1P;rw[ht];rfl
    rw[hL] at k1 hnext
    rw[ht] at j7
    have hmp:a1A 2 (T.str x.name) (T.agg (tVc v)) (iC sc)=iC (e6Z x.name v sc):=e8H (fun v=>T.agg (tVc v)) x.name v sc
    simp only[wA,seval,reduceCtorEq,reduceIte,f0,f2,f10,f11,f12,hw1,d5M l7,j7,d5M lm',hm',a1D,d5B,iC,hmp,wC,allT]
    have hm2:=b1V (r:=[(false,cVc v)]) hm'
    exact ih (i+1) _ _ _ _ _ _ _ ri1 hi1 hr (g0B (hcs.app _) hfm hm2 _) hnext.cs (by rw[g3S (by rw[g3V];omega)]) hnext.sc he2 ((hMM.app2 _).set (.inl (by simp)) _) (hO.trans o1) (by simp only[wQ,Nat.reduceEqDiff,reduceIte,f0,f2,f10,f11]) k1
   |true =>
    obtain⟨t1,t2⟩:=hty ht
    rw[ht] at j7
    have hmp:a1A 2 (T.str x.name) (T.agg (tVc ⟨v.els,x.ty,v.num⟩)) (iC sc)=iC (e6Z x.name ⟨v.els,x.ty,v.num⟩ sc):=e8H (fun v=>T.agg (tVc v)) x.name ⟨v.els,x.ty,v.num⟩ sc
    by_cases hl0:x.ty.len=0
    ·have hL:f1P (foF p) x.typed x.ty (v,s1)=(⟨v.els,x.ty,v.num⟩,f1O (foF p) (f0Y v) x.ty s1):=by unfold f1P;rw[ht,if_pos rfl,if_pos hl0]
     rw[hL] at k1 hnext
     have hchk:=fun t=>ok86 (gl:=gl) hk (hcs.app t) vcs vv.fst (g0A t2) ow1
     simp only[tTy] at hchk
     rw[hl0] at j7
     rw[hl0] at hchk
     simp only[wA,seval,reduceCtorEq,reduceIte,f0,f2,f10,f11,f12,hw1,d5M l7,j7,wC,allT,hl0,f3V,hx0,g5F]
     refine CallE.mono (hchk _) ?_
     intro y sg2 ow2 hD
     obtain⟨o2,ri2,hi2,hcs2,hm2⟩:=hD
     have j72:=hm2.get (b1V j7) (hm1.cold (by simp) (h.new (g4U _)))
     have j8:=hm2.get (i:=sg1.length) (v:=(false,[PV.t (.sl false (tLs v.els)),.t (.int .i64 x.ty.kind),.t (.int .i64 x.ty.bits),.t (.int .i64 0),.t (.int .i64 v.num)])) (by simp) (hcs.new (g4U _))
     have hm2':=hm2.get (b1V hm') (hcs.map hm')
     have lm2:=d4Y hm2'
     rw[show(⟨v.els,x.ty,v.num⟩:Vc)=⟨v.els,⟨x.ty.kind,x.ty.bits,0⟩,v.num⟩ by rw[←hl0]] at hmp
     simp only[wA,seval,reduceCtorEq,reduceIte,f0,f2,f10,f11,f12,hw1,j72,j8,hm2',a1D,d5B,iC,hmp,wC,allT]
     refine ih (i+1) _ _ _ _ _ _ _ ri2 hi2 hr (g0B hcs2 hfm hm2' _) hnext.cs ?_ hnext.sc he2 (((hMM.app2 _).trans (hm2.cons m)).set (.inl (by simp)) _) ((hO.trans o1).trans o2) (by simp only[wQ,Nat.reduceEqDiff,reduceIte,f0,f2,f10,f11]) k1
     rw[g3S lm2,show(⟨v.els,x.ty,v.num⟩:Vc)=⟨v.els,⟨x.ty.kind,x.ty.bits,0⟩,v.num⟩ by rw[←hl0]]
    ·have hL:f1P (foF p) x.typed x.ty (v,s1)=(⟨v.els,x.ty,v.num⟩,s1):=by unfold f1P;rw[ht,if_pos rfl,if_neg hl0]
     rw[hL] at k1 hnext
     have hm2:=b1V (r:=[(false,cVc ⟨v.els,x.ty,v.num⟩)]) hm'
     simp only[wA,seval,reduceCtorEq,reduceIte,f0,f2,f10,f11,f12,hw1,d5M l7,j7,wC,allT,hl0,d5M lm',hm',a1D,d5B,iC,hmp]
     exact ih (i+1) _ _ _ _ _ _ _ ri1 hi1 hr (g0B (hcs.app _) hfm hm2 _) hnext.cs (by rw[g3S (by rw[g3V];omega)]) hnext.sc he2 ((hMM.app2 _).set (.inl (by simp)) _) (hO.trans o1) (by simp only[wQ,Nat.reduceEqDiff,reduceIte,f0,f2,f10,f11]) k1
end Go.Proofs.YtdjcnfacjfnakaaGreat

/- Contracts: loops, statements: all. -/
namespace Go.Proofs.YtdjcnfacjfnakaaGreat
open Go.Pi Go.Lx Go.Ky Go.Lib
variable {gl:Nat→Option (List T)}
theorem ok57 {p:Int} (hk:e2N p=true) {fa fs:Fs} {Ψ:Fc} (hΨ:FcOk fs Ψ) (hR:f9V gl p fa fs Ψ) {ls:List St} {nl:Bool} (hls:ls.length≤B20) (hst:∀ x,x∈ls→StOk x∧stB x=true∧szS x≤B20) (hrec:∀ x,x∈ls→x.kind=3→LpC gl p fa fs Ψ x):SsC gl p fa fs Ψ ls nl:=by
 intro ns w sg c r ri hi fm m s sc ow h hs hfm hm hsc he
 refine XcE.of F57 rfl ?_
 simp only[c5C]
 simp only[wA,seval,reduceCtorEq,reduceIte,d2F]
 refine g0C (nl:=nl) (ri0:=ri) (hi0:=hi) (sg0:=sg) (ow0:=ow) hk hΨ hR hls hst hrec hfm _ ls 0 ns w s sc _ _ _ ri hi rfl h hs hm hsc he (.refl _ _) (List.prefix_refl _) (by simp only[wQ,Nat.reduceEqDiff,reduceIte];first|done|exact⟨rfl,rfl⟩|rfl) ?_
 intro fr' sg' ow' hC
 constructor
 ·simp only[wA,seval,reduceCtorEq,reduceIte]
  exact hC
 ·simp only[wA,seval,reduceCtorEq,reduceIte]
  exact hC
abbrev rndC (p:Int) (Ψ:Fc) (x:St):Int→Sx→Cst→Sx×Cst:=fun n sc1 s1=>f1Q (foF p) Ψ x.body (e6Z x.name ⟨[e8U (foF p) n],d1V,n⟩ sc1) s1
theorem g0D {p:Int} (hk:e2N p=true) {fa fs:Fs} {Ψ:Fc} {x:St} (h3:x.kind=3) (hB:stB x=true) (hbody:SsC gl p fa fs Ψ x.body x.nl) {ns:Ns} {w:Int} (he:(stM fs x ns w).1=0) (hbo:∀ ns sc w s,CsOk s→(s.full=true∨ScC s.b.vars ns sc)→(d4G fs x.body ns w).1=0→So s (d4G fs x.body ns w).2.1 (f1Q (foF p) Ψ x.body sc s))
  {c r fm m b ri0 hi0:Nat} (hfm:fm≠m) {sg0:Sg} {ow0:Ow} (hb0:sg0[b]?=some (false,cSt x)) (hbc:b ∉ [m,c,r,ri0,hi0]) (Q:Ex→S→Prop):∀ (k:Nat) (n:Int) (s:Cst) (sc:Sx) (fr:List PV) (sg:Sg) (ow:Ow) (ri hi:Nat),n+(k:Int)=x.hi→x.lo≤n→CS sg c r ri hi fm p fa s→CsOk s→sg[m]?=some (true,iC sc)→(s.full=true∨ScC s.b.vars ns sc)→Mv [m,c,r,ri0,hi0] [m,c,r,ri,hi] sg0 sg→ow0 <+: ow →
  b9P fr [(0,.lp c 0),(2,.mp m),(4,.lp b 0),(6,.t (.int .i64 n))] →
  (∀ fr' sg' ow',Cm sg0 ow0 c r ri0 hi0 fm m p fa (itC (rndC p Ψ x) k n sc s) sg' ow'→Q (.exit 0) ⟨fr',sg',ow'⟩) →
  Xl F gl c5W ⟨fr,sg,ow⟩ Q ⟨⟩:=by
 intro k
 induction k with
 |zero =>
  intro n s sc fr sg ow ri hi hn hlo h hs hm hsc hM hO hf k1
  simp only[b9R,b9Q] at hf
  obtain⟨f0,f2,f4,f6,-⟩:=hf
  have hb:=hM.get hb0 hbc
  refine Xl.step ?_
  simp only[c5W]
  have c1:¬(n < x.hi):=by omega
  rw[itC] at k1
  simp only[wA,seval,reduceCtorEq,reduceIte,f0,f2,f4,f6,hb,c1]
  exact k1 _ _ _ ⟨hO,ri,hi,h,hm,hM⟩
 |succ k ih =>
  intro n s sc fr sg ow ri hi hn hlo h hs hm hsc hM hO hf k1
  simp only[b9R,b9Q] at hf
  obtain⟨f0,f2,f4,f6,-⟩:=hf
  have hb:=hM.get hb0 hbc
  have hc:=h.hc
  have lm:=d4Y hm
  obtain⟨hnew,l1,l2,l3,hbz⟩:=e8O h3 hB he
  refine Xl.step ?_
  simp only[c5W]
  have c1:n < x.hi:=by omega
  rw[itC] at k1
  cases hfu:s.full with
  |true =>
   rw[hfu] at hc
   rw[if_pos hfu] at k1
   simp only[wA,seval,reduceCtorEq,reduceIte,f0,f2,f4,f6,hb,c1,hc]
   exact k1 _ _ _ ⟨hO,ri,hi,h,hm,hM⟩
  |false =>
   rw[hfu] at hc
   rw[if_neg (by rw[hfu];simp)] at k1
   have hsc0:=hsc.resolve_left (by rw[hfu];simp)
   obtain⟨hr1,hr2⟩:=f3J (f5W hk) h3 hB he hbo hs hsc0 hlo c1
   have hw64:IntKind.u64.wrap n=n:=IntWalk.u64_in _ (by omega)
   have hwn:IntKind.i64.wrap (n+1)=n+1:=IntWalk.i64_in _ (by omega)
   have hcon:=fun K=>@f6A gl p n hk (by omega) K
   simp only[wA,seval,reduceCtorEq,reduceIte,f0,f2,f4,f6,hb,c1,hc,hw64,hcon]
   refine CallE.mono (f8W (.lp c 0) (e8U (foF p) n) d1V sg ow) ?_
   rintro y sg1 ow1 ⟨rfl,hg1,rfl⟩
   have hm1:=hg1.get hm
   have hb1:=hg1.get hb
   have lb1:=d4Y hb1
   have lm1:=d4Y hm1
   have hcs1:=h.grow hg1
   have hbm:b≠m:=fun e=>hbc (by simp [e])
   have hmp:a1A 2 (T.str x.name) (T.agg (tVc ⟨[e8U (foF p) n],d1V,n⟩)) (iC sc)=iC (e6Z x.name ⟨[e8U (foF p) n],d1V,n⟩ sc):=e8H (fun v=>T.agg (tVc v)) x.name ⟨[e8U (foF p) n],d1V,n⟩ sc
   simp only[tVc,d1V] at hmp
   have gb:∀ t z,((sg1++(t:Sg)).set m z)[b]?=some (false,cSt x):=fun t z=>by rw[g3R (Ne.symm hbm),d5M lb1];exact hb1
   have hm1':=fun t=>b1V (r:=t) hm1
   have hq:=fun t ow=>hbody (ns++[(x.name,⟨d1V,true,x.lo,x.hi⟩)]) w ((sg1++t).set m (true,iC (e6Z x.name ⟨[e8U (foF p) n],d1V,n⟩ sc))) c r ri hi fm m s (e6Z x.name ⟨[e8U (foF p) n],d1V,n⟩ sc) ow (g0B (hcs1.app t) hfm (hm1' t) _) hs hfm (by rw[g3S (by rw[g3V];omega)]) (.inr hr1) hbz
   have hfl:tVc (f0X (e8U (foF p) n) d1V)=[.sl false (tLs [e8U (foF p) n]),.int .i64 1,.int .i64 0,.int .i64 0,.int .i64 0]:=rfl
   simp only[wA,seval,reduceCtorEq,reduceIte,f0,f2,f4,f6,hfl,wC,d5M lb1,hb1,d5M lm1,hm1,a1D,d5B,allT,hmp,gb]
   refine CallE.mono (hq _ _) ?_
   rintro y sg2 ow2 ⟨o2,ri2,hi2,hcs2,hm2,hmv⟩
   simp only[wA,seval,reduceCtorEq,reduceIte,f0,f2,f4,f6,hwn]
   exact ih (n+1) _ _ _ _ _ ri2 hi2 (by omega) (by omega) hcs2 hr2.cs hm2 hr2.sc (((hM.trans (.grow (hg1.trans (.app _ _)))).set (.inl (by simp)) _).trans hmv) (hO.trans o2) (by simp only[wQ,Nat.reduceEqDiff,reduceIte,f0,f2,f4]) k1
theorem ok90 {p:Int} (hk:e2N p=true) {fa fs:Fs} {Ψ:Fc} (hΨ:FcOk fs Ψ) {x:St} (h3:x.kind=3) (hx:StOk x) (hB:stB x=true) (hsz:szS x≤B20) (hbody:SsC gl p fa fs Ψ x.body x.nl):LpC gl p fa fs Ψ x:=by
 intro ns w sg c r ri hi fm m s sc ow h hs hfu hfm hm hsc he
 have hmc:=h.map hm
 have lm:=d4Y hm
 refine XcE.of F90 rfl ?_
 simp only[c5X]
 have hid:=fun K=>f9Z (gl:=gl) x hsz K
 simp only[d2E] at hid
 have hV:Ky.stC (foF p) Ψ x sc s=if idS x then (sc,s) else itC (rndC p Ψ x) (x.hi - x.lo).toNat x.lo sc s:=by rw[f1R,if_neg (by omega),if_neg (by omega),if_pos h3]
 rw[hV]
 obtain⟨z1,z2⟩:=d6P hsz
 have hbo:=f3H (Φ:=foF p) (Ψ:=Ψ) (fs:=fs) x.body (fun b hb'=>f3K (f5W hk) hΨ b (d6T hx b hb') (z2 b hb') (d6R hB h3 b hb'))
 cases hi':idS x with
 |true =>
  rw[hi'] at hid
  rw[if_pos rfl]
  simp only[wA,seval,reduceCtorEq,reduceIte,d2E,hid,allT]
  exact⟨List.prefix_refl _,ri,hi,h.app _,b1V hm,.app _ _ _⟩
 |false =>
  rw[hi'] at hid
  rw[if_neg (by simp)]
  obtain⟨hnew,l1,l2,l3,hbz⟩:=e8O h3 hB he
  have nb:sg.length ∉ [m,c,r,ri,hi]:=fun e=>by
   rcases g4G.1 e with e|e
   ·omega
   ·exact h.new (g4U _) e
  simp only[wA,seval,reduceCtorEq,reduceIte,d2E,hid,allT]
  refine g0D (b:=sg.length) (ri0:=ri) (hi0:=hi) (ow0:=ow) hk h3 hB hbody he hbo hfm (sg0:=sg++[(false,cSt x)]) (by simp) nb _ (x.hi - x.lo).toNat x.lo s sc _ _ _ ri hi (by omega) (Int.le_refl _) (h.app _) hs (b1V hm) (.inr hsc) (.refl _ _) (List.prefix_refl _) (by simp only[wQ,Nat.reduceEqDiff,reduceIte];first|done|exact⟨rfl,rfl⟩|rfl) ?_
  rintro fr' sg' ow' ⟨o1,ri',hi',hcs',hm',hM'⟩
  simp only[wA,seval,reduceCtorEq,reduceIte]
  exact⟨o1,ri',hi',hcs',hm',(Mv.app _ sg _).trans hM'⟩
theorem g0E {p:Int} (hk:e2N p=true) {fa fs:Fs} {Ψ:Fc} (hΨ:FcOk fs Ψ) (hR:f9V gl p fa fs Ψ):∀ x,StOk x→stB x=true→szS x≤B20→x.kind=3→LpC gl p fa fs Ψ x:=by
 refine St.ind fun x ih hx hB hsz h3=>?_
 obtain⟨b1,b2⟩:=d6P hsz
 have hst:∀ b,b∈x.body→StOk b∧stB b=true∧szS b≤B20:=fun b hb=>⟨d6T hx b hb,d6R hB h3 b hb,b2 b hb⟩
 exact ok90 hk hΨ h3 hx hB hsz (ok57 hk hΨ hR b1 hst fun b hb=>ih b hb (hst b hb).1 (hst b hb).2.1 (hst b hb).2.2)
theorem g0F {p:Int} (hk:e2N p=true) {fa fs:Fs} {Ψ:Fc} (hΨ:FcOk fs Ψ) (hR:f9V gl p fa fs Ψ) {ls:List St} {nl:Bool} (hls:ls.length≤B20) (hst:∀ x,x∈ls→StOk x∧stB x=true∧szS x≤B20):SsC gl p fa fs Ψ ls nl :=
 ok57 hk hΨ hR hls hst fun x hx=>g0E hk hΨ hR x (hst x hx).1 (hst x hx).2.1 (hst x hx).2.2
end Go.Proofs.YtdjcnfacjfnakaaGreat

/- Contracts: functions are called. -/
namespace Go.Proofs.YtdjcnfacjfnakaaGreat
open Go.Pi Go.Lx Go.Ky Go.Lib
variable {gl:Nat→Option (List T)}
theorem g0G {M:Int} {ps:List Pa} {nl:Bool} {vs:List Vc} (hls:ps.length≤B20) {c b4 b6 m a:Nat} (hma:a≠m) {sg0:Sg} {v:PV} (hv:0 < ps.length→v=.ls a 0 vs.length 5∧sg0[a]?=some (false,cG tVc vs)) {ow:Ow} (Q:Ex→S→Prop):∀ (l:List Pa) (lv:List Vc) (i:Nat) (sc:Sx) (fr:List PV) (sg:Sg),ps.drop i=l→vs.drop i=lv→PsC M l lv→Mv [m] [m] sg0 sg→sg[m]?=some (true,iC sc) →
  b9P fr [(0,.lp c 0),(2,v),(4,.lp b4 0),(6,.lp b6 0),(7,.mp m),(13,.t (.sl nl (ps.map fun f=>tPa f))),(14,.t (.int .i64 ps.length)),(15,.t (.int .i64 i))] →
  (∀ fr' sg',Mv [m] [m] sg0 sg'→sg'[m]?=some (true,iC (f1S l lv sc))→b9P fr' [(0,.lp c 0),(4,.lp b4 0),(6,.lp b6 0),(7,.mp m)]→Q (.exit 0) ⟨fr',sg',ow⟩) →
  Xl F gl c7B ⟨fr,sg,ow⟩ Q ⟨⟩:=by
 intro l
 induction l with
 |nil =>
  intro lv i sc fr sg hd hdv hp hg hm hf k1
  have hd:=b9K hd
  have hlv:f1S [] lv sc=sc:=by cases lv <;> rw[f1S] <;> simp
  rw[hlv] at k1
  simp only[b9R,b9Q] at hf
  obtain⟨f0,f2,f4,f6,f7,f13,f14,f15,-⟩:=hf
  refine Xl.step ?_
  simp only[c7B]
  have c1:¬((i:Int) < (ps.length:Int)):=by omega
  simp only[wA,seval,reduceCtorEq,reduceIte,f0,f2,f4,f6,f7,f13,f14,f15,c1]
  exact k1 _ _ hg hm (by simp only[wQ,Nat.reduceEqDiff,reduceIte,f0,f4,f6,f7])
 |cons x l ih =>
  intro lv i sc fr sg hd hdv hp hg hm hf k1
  obtain⟨hx,hr,hi⟩:=b9J hd
  cases lv with
  |nil=>exact hp.elim
  |cons y lv =>
   obtain⟨hy,hry,hiy⟩:=b9J hdv
   simp only[b9R,b9Q] at hf
   obtain⟨f0,f2,f4,f6,f7,f13,f14,f15,-⟩:=hf
   refine Xl.step ?_
   simp only[c7B]
   have c1:(i:Int) < (ps.length:Int):=by omega
   have hw1:=d5J hi (show ps.length≤281474976710656 by have:B20=1100000:=rfl;omega)
   obtain⟨rfl,ha0⟩:=hv (by omega)
   have ha:=hg.get ha0 (by simpa using hma)
   have y1:(cG tVc vs)[i * 5]?=some (.t (.sl false (tLs y.els))):=by
    have:=f4J (t:=tVc) f4T [] hy 0 (by decide)
    rw[g3B,g4R] at this
    exact this
   have la:=d4Y ha
   have lm:=d4Y hm
   have hmp:a1A 2 (T.str x.name) (T.agg (tVc ⟨y.els,x.ty,0⟩)) (iC sc)=iC (e6Z x.name ⟨y.els,x.ty,0⟩ sc):=e8H (fun v=>T.agg (tVc v)) x.name ⟨y.els,x.ty,0⟩ sc
   have hiy':(i:Int) < (vs.length:Int):=by omega
   rw[f1S] at k1
   simp only[wA,seval,reduceCtorEq,reduceIte,f0,f2,f4,f6,f7,f13,f14,f15,c1,hw1,g2X,hi,g3O,hx,g5F,d5M la,ha,d5M lm,hm,hiy,hiy',y1,allT,a1D,d5B,iC,hmp,wC]
   refine ih lv (i+1) _ _ _ hr hry hp.2 ((hg.app2 _).set (.inl (by simp)) _) (by rw[g3S (by rw[g3V];omega)]) (by simp only[wQ,Nat.reduceEqDiff,reduceIte,f0,f2,f4,f6,f7,f13,f14];first|done|rfl) k1
theorem g0H {p:Int} (hk:e2N p=true) {fa fs:Fs} {Ψ:Fc} (hΨ:FcOk fs Ψ) (hR:f9V gl p fa fs Ψ) {f:Fu} (hx:FuOk f) (hB:fuB f=true) (hpl:f.params.length≤B20) (hbs:d2K f.body≤B20) (hrs:szE f.ret≤B20) {w:Int} (he:(d4K fs f w).1=0) (sg:Sg) (c r ri hi fm:Nat) (s:Cst) (ow:Ow) (vs:List Vc) (v:PV) (h:CS sg c r ri hi fm p fa s) (hs:CsOk s) (ha:f9U sg v vs) (hvl:vs.length≤B20) (hp:PsC s.b.vars f.params vs) :
  CallE F gl 123 [.lp c 0,.t (.agg (tFu f)),v] sg ow fun x sg' ow'=>x=.t (.agg (tVc (f1T (foF p) Ψ f vs s).1))∧Cd sg ow c r ri hi fm p fa (f1T (foF p) Ψ f vs s).2 sg' ow':=by
 obtain⟨b1,b2,b3⟩:=e8B hB
 obtain⟨h1,h2,h3,h4,h5,h6⟩:=e8A he
 obtain⟨r1,r2⟩:=e7X b1
 have hB20:B20=1100000:=rfl
 have lf:=d4Y h.hf
 have hst:∀ b,b∈f.body→StOk b∧stB b=true∧szS b≤B20:=fun b hb=>⟨hx.bo b hb,b2 b hb,g4V (d2Q hb) hbs⟩
 refine XcE.of F123 rfl ?_
 simp only[c7C]
 obtain⟨a,ham,hav⟩:∃ a,a≠sg.length+2∧(0 < f.params.length→v=.ls a 0 vs.length 5∧sg[a]?=some (false,cG tVc vs)):=by
  rcases ha with⟨rfl,_⟩|⟨h0,a,rfl,h⟩
  ·refine⟨sg.length,by omega,fun h=>?_⟩
   cases hq:f.params with
   |nil=>rw[hq] at h;cases h
   |cons x l=>rw[hq] at hp;exact hp.elim
  ·exact⟨a,by have:=d4Y h;omega,fun _=>⟨rfl,h⟩⟩
 have n3:∀ i,sg.length≤i→i ∉ [c,r,ri,hi]:=fun i hi=>h.new hi
 simp only[wA,seval,reduceCtorEq,reduceIte,g3X]
 refine g0G (M:=s.b.vars) (nl:=f.pnl) (vs:=vs) (c:=c) (b4:=sg.length) (b6:=sg.length+1) (m:=sg.length+2) (a:=a) hpl ham (sg0:=sg++[(false,[.t (.str f.name),.t (.sl f.pnl (f.params.map tPa)),.t (.int .i64 f.res.kind),.t (.int .i64 f.res.bits),.t (.int .i64 f.res.len),.t (.sl f.bnl (d2C f.body)),.t (.int .i64 f.ret.op),.t (.int .u64 f.ret.val),.t (.str f.ret.name),.t (.sl f.ret.nl (d1X f.ret.args))]),(false,[.t (.sl true []),.t (.int .i64 0),.t (.int .i64 0),.t (.int .i64 0),.t (.int .i64 0)]),(true,[])]) (fun h=>⟨(hav h).1,b1V (hav h).2⟩) _ f.params vs 0 [] _ _ rfl rfl hp (.refl _ _) (by simp [iC,d4Z]) (by simp only[wQ,Nat.reduceEqDiff,reduceIte];first|done|exact⟨rfl,rfl⟩|rfl) ?_
 intro fr' sg1 hM1 hm1 hf'
 simp only[b9R,b9Q] at hf'
 obtain⟨f0,f4,f6,f7,-⟩:=hf'
 have nm:∀ i,i < sg.length→i ∉ [sg.length+2]:=fun i hi=>by simp;omega
 have hl:=h.lt
 have hcs1:CS sg1 c r ri hi fm p fa s:=by
  have hn:∀ i,i∈[c,r,ri,hi]→i ∉ [sg.length+2]:=fun i hi=>nm i (hl i hi)
  exact⟨hM1.get (b1V h.hc) (hn c (by simp)),hM1.get (b1V h.hf) (nm _ lf),(h.hb.app _).mv hM1 (hn r (by simp)) (hn ri (by simp)) (hn hi (by simp)),h.cc,h.cf⟩
 have j4:=hM1.get (i:=sg.length) (v:=(false,[.t (.str f.name),.t (.sl f.pnl (f.params.map tPa)),.t (.int .i64 f.res.kind),.t (.int .i64 f.res.bits),.t (.int .i64 f.res.len),.t (.sl f.bnl (d2C f.body)),.t (.int .i64 f.ret.op),.t (.int .u64 f.ret.val),.t (.str f.ret.name),.t (.sl f.ret.nl (d1X f.ret.args))])) (by simp) (by simp)
 have j6:=hM1.get (i:=sg.length+1) (v:=(false,[.t (.sl true []),.t (.int .i64 0),.t (.int .i64 0),.t (.int .i64 0),.t (.int .i64 0)])) (by rw[g3J (by omega)];simp) (by simp)
 have hsc:=f3L f.params vs [] [] w (f3M hB) hp (.nil _) h3
 have hbl:f.body.length≤B20:=g4V (d2S _) hbs
 have hex:=g0F (gl:=gl) (nl:=f.bnl) hk hΨ hR hbl hst _ _ sg1 c r ri hi fm (sg.length+2) s (f1S f.params vs []) ow hcs1 hs (by omega) hm1 (.inr hsc) h4
 have hso:=f3H (Φ:=foF p) (Ψ:=Ψ) (fs:=fs) f.body (fun x hx'=>f3K (f5W hk) hΨ x (hx.bo x hx') (g4V (d2Q hx') hbs) (b2 x hx')) _ _ _ s hs (.inr hsc) h4
 have hcv:f1T (foF p) Ψ f vs s=if (f1Q (foF p) Ψ f.body (f1S f.params vs []) s).2.full then (⟨List.replicate (e7G f.res.len).toNat e8S,f.res,0⟩,(f1Q (foF p) Ψ f.body (f1S f.params vs []) s).2) else (⟨(evC (foF p) Ψ (f1Q (foF p) Ψ f.body (f1S f.params vs []) s).1 f.ret (f1Q (foF p) Ψ f.body (f1S f.params vs []) s).2).1.els,f.res,(evC (foF p) Ψ (f1Q (foF p) Ψ f.body (f1S f.params vs []) s).1 f.ret (f1Q (foF p) Ψ f.body (f1S f.params vs []) s).2).1.num⟩,(evC (foF p) Ψ (f1Q (foF p) Ψ f.body (f1S f.params vs []) s).1 f.ret (f1Q (foF p) Ψ f.body (f1S f.params vs []) s).2).2):=rfl
 rw[hcv]
 have hMb:Mv [c,r,ri,hi] [c,r,ri,hi] sg sg1:=by
  have q:=(Mv.app [sg.length+2] sg _).trans hM1
  refine⟨q.1,fun i hi hn=>q.2.1 i hi (nm i hi),fun i hi=>.inl hi⟩
 simp only[wA,seval,reduceCtorEq,reduceIte,f0,f4,f6,f7,j4]
 refine CallE.mono hex ?_
 rintro y sg2 ow2 ⟨o2,ri2,hi2,hcs2,hm2,hmv2⟩
 have c4:sg.length ∉ [sg.length+2,c,r,ri,hi]:=fun e=>by
  rcases g4G.1 e with e|e
  ·omega
  ·exact n3 _ (g4U _) e
 have c6:sg.length+1 ∉ [sg.length+2,c,r,ri,hi]:=fun e=>by
  rcases g4G.1 e with e|e
  ·omega
  ·exact n3 _ (by omega) e
 have k4:=hmv2.get j4 c4
 have k6:=hmv2.get j6 c6
 have c6':sg.length+1 ∉ [c,r,ri2,hi2]:=fun e=>hmv2.cold (d4Y j6) c6 (g4H _ e)
 have c4':sg.length ∉ [c,r,ri2,hi2]:=fun e=>hmv2.cold (d4Y j4) c4 (g4H _ e)
 have hMq:Mv [sg.length+2,c,r,ri,hi] [sg.length+2,c,r,ri2,hi2] sg sg2:=by
  have q:=(Mv.app [sg.length+2] sg _).trans hM1
  have q':Mv [sg.length+2,c,r,ri,hi] [sg.length+2,c,r,ri,hi] sg sg1:=⟨q.1,fun i hi hn=>q.2.1 i hi (nm i hi),fun i hi=>.inl hi⟩
  exact q'.trans hmv2
 have hM2:Mv [c,r,ri,hi] [c,r,ri2,hi2] sg sg2:=hMq.loc (by omega)
 have hc2:=hcs2.hc
 have hscR:=hso.sc
 have hcsR:=hso.cs
 have h5':(1000:Nat) < 1005:=by decide
 generalize f1Q (foF p) Ψ f.body (f1S f.params vs []) s=q at *
 obtain⟨sc2,s2⟩:=q
 simp only at hcs2 hc2 hscR hcsR hm2 ⊢
 cases hfu:s2.full with
 |true =>
  rw[hfu] at hc2
  rw[if_pos rfl]
  have hl2:1≤e7G f.res.len∧e7G f.res.len≤64:=by unfold e7G;split <;> omega
  have hroom:a0N (e7G f.res.len).toNat 24=true:=by unfold a0N;simp only[g5L];omega
  have hmx:mxT true (.t (.int .i64 f.res.len)) (.t (.int .i64 1))=some (.int .i64 (e7G f.res.len)):=rfl
  have hz0:0≤e7G f.res.len:=by omega
  have hrep:List.replicate (e7G f.res.len).toNat [T.sl true []]=tLs (List.replicate (e7G f.res.len).toNat e8S):=by unfold tLs;rw[List.map_replicate];rfl
  have hcl:clo (.t (.agg (tVc ⟨List.replicate (e7G f.res.len).toNat e8S,f.res,0⟩)))=.t (.agg (tVc ⟨List.replicate (e7G f.res.len).toNat e8S,f.res,0⟩)):=rfl
  simp only[wA,seval,reduceCtorEq,reduceIte,f0,f4,f6,f7,hc2,k4,hmx,b7R,hroom,hz0,hrep,allT,k6,d4X k6,wC,c4J h5',hcl]
  refine⟨o2,ri2,hi2,hcs2.set c6' (by omega) _,hM2.set (.inr (by omega)) _⟩
 |false =>
  rw[hfu] at hc2
  rw[if_neg (by simp)]
  have hsc2:=hscR.resolve_left (by rw[hfu];simp)
  have hv:=ok85 (gl:=gl) hk hΨ hR f.ret hx.ret hrs b3 sg2 c r ri2 hi2 fm (sg.length+2) s2 sc2 ow2 _ hcs2 hcsR hm2 hsc2 h5
  simp only[d1Z] at hv
  generalize evC (foF p) Ψ sc2 f.ret s2=q2 at *
  obtain⟨vr,s3⟩:=q2
  simp only at hv
  have hcl:clo (.t (.agg (tVc ⟨vr.els,f.res,vr.num⟩)))=.t (.agg (tVc ⟨vr.els,f.res,vr.num⟩)):=rfl
  simp only[wA,seval,reduceCtorEq,reduceIte,f0,f4,f6,f7,k4,hc2,allT]
  refine CallE.mono hv ?_
  rintro y sg3 ow3 ⟨rfl,o3,ri3,hi3,hcs3,hm3⟩
  have k6':=hm3.get k6 c6'
  have k4':=hm3.get k4 c4'
  have c6'':=hm3.cold (d4Y k6) c6'
  have l6:=d4Y k6'
  have l4:=d4Y k4'
  simp only[wA,seval,reduceCtorEq,reduceIte,f0,f4,f6,f7,d5M l4,k4',d5M l6,d5N l6,k6',d4X k6',wC,allT,c4J h5',hcl]
  have g6:∀ (z:Bool×List PV) (t:Sg),(sg3.set (sg.length+1) z++t)[sg.length+1]?=some z:=fun z t=>by rw[g3I (by rw[g3Z];exact l6),g3S l6]
  simp only[wA,seval,reduceCtorEq,reduceIte,g6,allT,hcl]
  refine⟨o2.trans o3,ri3,hi3,(hcs3.set c6'' (by omega) _).app _,((hM2.trans hm3).set (.inr (by omega)) _).app2 _⟩
theorem g0I {p:Int} (hk:e2N p=true) {fa:Fs}:∀ (l:List Fu) (Ψ:Fc) (fs:Fs) (w:Int),FcOk fs Ψ→f9V gl p fa fs Ψ→(∀ f,f∈l→FuOk f∧fuB f=true∧f.params.length≤B20∧d2K f.body≤B20∧szE f.ret≤B20)→(d4L l fs w).1=0→(∀ nm f,Ky.look nm (d4L l fs w).2.1=some f→Ky.look nm fa=some f)→f9V gl p fa (d4L l fs w).2.1 (f1U (foF p) l Ψ):=by
 intro l
 induction l with
 |nil=>intro Ψ fs w _ h _ _ _;rw[d4L,f1U];exact h
 |cons f r ih =>
  intro Ψ fs w hΨ hR hl he hfa
  rw[d7A] at he hfa ⊢
  by_cases c:(d4K fs f w).1≠0
  ·rw[if_pos c] at he;exact absurd he c
  rw[if_neg c] at he hfa ⊢
  have c':(d4K fs f w).1=0:=by simpa using c
  obtain⟨x1,x2,x3,x4,x5⟩:=hl f (by simp)
  obtain⟨g1,g2,_⟩:=e8A c'
  have h2:=f3O (f5W hk) hΨ x1 x2 x4 x5 c'
  rw[←g2] at h2
  rw[f1U]
  refine ih _ _ _ h2 ?_ (fun x hx=>hl x (by simp [hx])) he hfa
  intro nm g hg
  refine⟨hfa _ _ (e8Q _ _ _ he _ _ hg),?_⟩
  rw[g2,d5F] at hg
  by_cases hk2:nm=f.name
  ·subst hk2
   rw[g1] at hg
   simp only[e7U] at hg
   have:f=g:=by simpa using hg
   subst this
   have hE:∀ vs s,fcS (foF p) f Ψ f.name vs s=f1T (foF p) Ψ f vs s:=fun vs s=>by unfold fcS;rw[if_pos rfl]
   intro sg c r ri hi fm s ow vs v hc hs ha hvl hp
   rw[hE]
   exact g0H hk hΨ hR x1 x2 x3 x4 x5 c' sg c r ri hi fm s ow vs v hc hs ha hvl hp
  ·have hE:∀ vs s,fcS (foF p) f Ψ nm vs s=Ψ nm vs s:=fun vs s=>by unfold fcS;rw[if_neg hk2]
   cases hb:Ky.look nm fs with
   |some y =>
    rw[hb] at hg
    have:y=g:=by simpa using hg
    subst this
    intro sg c r ri hi fm s ow vs v hc hs ha hvl hp
    rw[hE]
    exact(hR nm y hb).2 sg c r ri hi fm s ow vs v hc hs ha hvl hp
   |none =>
    rw[hb] at hg
    simp only[e7V hk2] at hg
    cases hg
theorem g0J {p:Int} {fa:Fs}:f9V gl p fa [] fc0:=fun nm f h=>by cases h
end Go.Proofs.YtdjcnfacjfnakaaGreat
