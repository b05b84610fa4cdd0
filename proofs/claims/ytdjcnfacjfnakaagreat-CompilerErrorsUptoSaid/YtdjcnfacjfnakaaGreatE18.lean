/- Contracts: statements are executed. -/
import Derived.Test.YtdjcnfacjfnakaaGreatE15
set_option maxRecDepth 10000
set_option linter.unusedVariables false
set_option linter.unusedSimpArgs false
namespace Go.Proofs.YtdjcnfacjfnakaaGreat
open Go.Pi Go.Lx Go.Ky Go.Lib
variable {gl:Nat->Option (List T)}
theorem g0K {s:St} (hls:s.body.length<=B20) (hrec:∀ a,a∈s.body->∀ K,XcP F gl 137 [.agg (tSt a)] K ⟨⟩↔K (.t (.bool (idS a)))) {ow:Ow} (Q:Ex->S->Prop):∀ (l:List St) (i:Nat) (fr:List PV) (sg:Sg),s.body.drop i=l ->
  b6S fr [(14,.t (.sl s.nl (d1M s.body))),(15,.t (.int .i64 s.body.length)),(16,.t (.int .i64 i))] ->
  (l.all idS=true->∀ fr' sg',Q (.exit 0) ⟨fr',sg',ow⟩) ->
  (l.all idS=false->∀ fr' sg',a0A fr' 2=.t (.bool false)->Q .ret ⟨fr',sg',ow⟩) ->
  Xl F gl c6S ⟨fr,sg,ow⟩ Q ⟨⟩:=by
 intro l
 induction l with
 |nil =>
  intro i fr sg hd hf k1 k2
  have hd:=b6N hd
  simp only[b6U,b6T] at hf
  obtain⟨f1,f2,f3,-⟩:=hf
  refine Xl.step ?_
  simp only[c6S]
  have c1:¬((i:Int) < (s.body.length:Int)):=by omega
  simp only[wA,seval,f1,f2,f3,c1]
  exact k1 rfl _ _
 |cons x l ih =>
  intro i fr sg hd hf k1 k2
  obtain⟨hx,hr,hi⟩:=b6M hd
  simp only[b6U,b6T] at hf
  obtain⟨f1,f2,f3,-⟩:=hf
  refine Xl.step ?_
  simp only[c6S]
  have c1:(i:Int) < (s.body.length:Int):=by omega
  have hw1:=d5F hi (show s.body.length<=281474976710656 by have:B20=1100000:=rfl;omega)
  have hm:=g6K hx
  have hq:=λK=>hrec x hm K
  simp only[d1O] at hq
  rw[List.all_cons] at k1 k2
  cases hb:idS x with
  |true =>
   rw[hb] at k1 k2 hq
   simp only[wA,seval,f1,f2,f3,c1,hw1,g4Z,hi,d1Q,hx,g7F,d1O,hq]
   exact ih (i+1) _ _ hr (by simp only[wQ,seval,f1,f2];first|done|rfl) (by simpa using k1) (by simpa using k2)
  |false =>
   rw[hb] at k1 k2 hq
   simp only[wA,seval,f1,f2,f3,c1,hw1,g4Z,hi,d1Q,hx,g7F,d1O,hq]
   exact k2 rfl _ _ (by simp only[wQ,seval])
theorem g0L:∀ s,szS s<=B20->∀ K,XcP F gl 137 [.agg (tSt s)] K ⟨⟩↔K (.t (.bool (idS s))):=by
 refine St.ind λs ih hsz K=>?_
 obtain⟨hb1,hb2⟩:=d6L hsz
 rw[e8R]
 refine Ret.iff (Ret.of F137 rfl ?_)
 simp only[c6T]
 rw[d1O]
 by_cases h3:s.kind=3
 ·by_cases hl:s.lo>=s.hi
  ·rw[if_neg (by simpa using h3),if_pos hl]
   simp only[wA,seval,h3,hl]
  ·rw[if_neg (by simpa using h3),if_neg hl]
   simp only[wA,seval,h3,hl,d1P]
   refine g0K hb1 (λa ha=>ih a ha (hb2 a ha)) _ s.body 0 _ _ rfl (by simp only[wQ,seval];first|done|exact⟨rfl,rfl⟩|rfl) (λh fr' sg'=>?_) (λh fr' sg' f2=>?_)
   ·rw[h]
    simp only[wA,seval]
   ·rw[h]
    simp only[wA,seval,f2]
 ·rw[if_pos (by simpa using h3)]
  simp only[wA,seval,h3]
abbrev cSt (s:St):List PV:=[.t (.int .i64 s.kind),.t (.str s.name),.t (.bool s.typed),.t (.int .i64 s.ty.kind),.t (.int .i64 s.ty.bits),.t (.int .i64 s.ty.len),.t (.int .i64 s.ex.op),.t (.int .u64 s.ex.val),.t (.str s.ex.name),.t (.sl s.ex.nl (d1H s.ex.args)),.t (.int .i64 s.lo),.t (.int .i64 s.hi),.t (.sl s.nl (d1M s.body))]
def Cm (sg:Sg) (ow:Ow) (c r ri hi fm m:Nat) (p:Int) (fa:Fs) (q:Sx×Cst) (sg':Sg) (ow':Ow):Prop:=ow <+: ow'/\∃ ri' hi',CS sg' c r ri' hi' fm p fa q.2/\sg'[m]?=some (true,iC q.1)/\Mv [m,c,r,ri,hi] [m,c,r,ri',hi'] sg sg'
def SsC (gl:Nat->Option (List T)) (p:Int) (fa fs:Fs) (Ψ:Fc) (ls:List St) (nl:Bool):Prop :=
 ∀ (ns:Ns) (w:Int) (sg:Sg) (c r ri hi fm m:Nat) (s:Cst) (sc:Sx) (ow:Ow),CS sg c r ri hi fm p fa s->CsOk s->fm≠m->sg[m]?=some (true,iC sc)->(s.full=true\/ScC s.b.vars ns sc)->(d4C fs ls ns w).1=0 ->
  CallE F gl 57 [.lp c 0,.t (.sl nl (d1M ls)),.mp m] sg ow λx sg' ow'=>Cm sg ow c r ri hi fm m p fa (f3C (foF p) Ψ ls sc s) sg' ow'
def LpC (gl:Nat->Option (List T)) (p:Int) (fa fs:Fs) (Ψ:Fc) (x:St):Prop :=
 ∀ (ns:Ns) (w:Int) (sg:Sg) (c r ri hi fm m:Nat) (s:Cst) (sc:Sx) (ow:Ow),CS sg c r ri hi fm p fa s->CsOk s->s.full=false->fm≠m->sg[m]?=some (true,iC sc)->ScC s.b.vars ns sc->(stM fs x ns w).1=0 ->
  CallE F gl 90 [.lp c 0,.t (.agg (tSt x)),.mp m] sg ow λv sg' ow'=>Cm sg ow c r ri hi fm m p fa (Ky.stC (foF p) Ψ x sc s) sg' ow'
theorem g0M {t:Ty} (h:tyB t=true):t.kind=3->1<=t.bits/\t.bits<=62:=by
 intro h3
 unfold tyB at h
 split at h
 ·cases h
 ·simp only[h3,g4S,g7L] at h
  simp at h
  omega
theorem g0N {sg:Sg} {c r ri hi fm m:Nat} {p:Int} {fa:Fs} {s:Cst} (h:CS sg c r ri hi fm p fa s) (hfm:fm≠m) {es:List PV} (hm:sg[m]?=some (true,es)) (x:Bool×List PV):CS (sg.set m x) c r ri hi fm p fa s:=h.set (h.map hm) (Ne.symm hfm) x
set_option maxHeartbeats 1000000 in
theorem g0O {p:Int} (hk:e2X p=true) {fa fs:Fs} {Ψ:Fc} (hΨ:FcOk fs Ψ) (hR:g0H gl p fa fs Ψ) {ls:List St} {nl:Bool} (hls:ls.length<=B20) (hst:∀ x,x∈ls->StOk x/\stB x=true/\szS x<=B20) (hrec:∀ x,x∈ls->x.kind=3->LpC gl p fa fs Ψ x) {c r fm m ri0 hi0:Nat} (hfm:fm≠m) {sg0:Sg} {ow0:Ow} (Q:Ex->S->Prop):∀ (l:List St) (i:Nat) (ns:Ns) (w:Int) (s:Cst) (sc:Sx) (fr:List PV) (sg:Sg) (ow:Ow) (ri hi:Nat),ls.drop i=l->CS sg c r ri hi fm p fa s->CsOk s->sg[m]?=some (true,iC sc)->(s.full=true\/ScC s.b.vars ns sc)->(d4C fs l ns w).1=0->Mv [m,c,r,ri0,hi0] [m,c,r,ri,hi] sg0 sg->ow0 <+: ow ->
  b6S fr [(0,.lp c 0),(2,.mp m),(10,.t (.sl nl (d1M ls))),(11,.t (.int .i64 ls.length)),(12,.t (.int .i64 i))] ->
  (∀ fr' sg' ow',Cm sg0 ow0 c r ri0 hi0 fm m p fa (f3C (foF p) Ψ l sc s) sg' ow'->Q (.exit 0) ⟨fr',sg',ow'⟩/\Q .ret ⟨fr',sg',ow'⟩) ->
  Xl F gl c2Y ⟨fr,sg,ow⟩ Q ⟨⟩:=by
 intro l
 induction l with
 |nil =>
  intro i ns w s sc fr sg ow ri hi hd h hs hm hsc he hM hO hf k1
  have hd:=b6N hd
  simp only[b6U,b6T] at hf
  obtain⟨f0,f2,f10,f11,f12,-⟩:=hf
  refine Xl.step ?_
  simp only[c2Y]
  have c1:¬((i:Int) < (ls.length:Int)):=by omega
  have hem:f3C (foF p) Ψ [] sc s=(sc,s):=by rw[f3C]
  rw[hem] at k1
  simp only[wA,seval,f0,f2,f10,f11,f12,c1]
  exact(k1 _ _ _ ⟨hO,ri,hi,h,hm,hM⟩).1
 |cons x l ih =>
  intro i ns w s sc fr sg ow ri hi hd h hs hm hsc he hM hO hf k1
  obtain⟨hx,hr,hil⟩:=b6M hd
  simp only[b6U,b6T] at hf
  obtain⟨f0,f2,f10,f11,f12,-⟩:=hf
  refine Xl.step ?_
  simp only[c2Y]
  have c1:(i:Int) < (ls.length:Int):=by omega
  have hB20:B20=1100000:=rfl
  have hw1:=d5F hil (show ls.length<=281474976710656 by omega)
  have hc:=h.hc
  have lc:=d4U hc
  have lm:=d4U hm
  have lf:=d4U h.hf
  have hmc:=h.map hm
  cases hfu:s.full with
  |true =>
   rw[f3J _ _ _ _ hfu] at k1
   rw[hfu] at hc
   simp only[wA,seval,f0,f2,f10,f11,f12,c1,hw1,g4Z,hil,d1Q,hx,g7F,d1O,d5I lc,hc,wC]
   exact(k1 _ _ _ ⟨hO,ri,hi,h.app _,b0R hm,hM.app2 _⟩).2
  |false =>
   obtain⟨he1,he2⟩:=e9Z he
   obtain⟨hxo,hxb,hxs⟩:=hst x (g6K hx)
   have hsc0:=hsc.resolve_left (by rw[hfu];simp)
   have hnext:=f4V (f6I hk) hΨ x hxo hxs hxb ns sc w s hfu hs hsc0 he1
   rw[f3K _ _ _ _ _ hfu] at k1
   rw[hfu] at hc
   by_cases h3:x.kind=3
   ·have hq:=λt=>hrec x (g6K hx) h3 ns w (sg++t) c r ri hi fm m s sc ow (h.app t) hs hfu hfm (b0R hm) hsc0 he1
    simp only[d1O,h3] at hq
    generalize hQ:Ky.stC (foF p) Ψ x sc s=q at *
    obtain⟨sc1,s1⟩:=q
    simp only[wA,seval,f0,f2,f10,f11,f12,c1,hw1,g4Z,hil,d1Q,hx,g7F,d1O,d5I lc,hc,h3,wC]
    refine CallE.mono (hq _) ?_
    rintro y sg' ow' ⟨o1,ri1,hi1,hcs,hm',hmv⟩
    simp only[wA,seval,f0,f2,f10,f11,f12,hw1]
    exact ih (i+1) _ _ s1 sc1 _ _ _ ri1 hi1 hr hcs hnext.cs hm' hnext.sc he2 ((hM.app2 _).trans hmv) (hO.trans o1) (by simp only[wQ,seval,f0,f2,f10,f11]) k1
   have he3:=e9V h3 he1
   have hxe:=d6M hxb h3
   have hv:=f4J (f6I hk) hΨ (sc:=sc) x.ex (d6O hxo) (g6V (d2P x) hxs) hxe w s hs hsc0 he3
   have hq:=λt=>ok85 (gl:=gl) hk hΨ hR x.ex (d6O hxo) (g6V (d2P x) hxs) hxe (sg++t) c r ri hi fm m s sc ow w (h.app t) hs (b0R hm) hsc0 he3
   simp only[d1J] at hq
   by_cases h2:x.kind=2
   ·have hV:Ky.stC (foF p) Ψ x sc s=(sc,f2O 1 (f0S (foF p) (f2K (evC (foF p) Ψ sc x.ex s).1) (f0G (foF p) 1)) (evC (foF p) Ψ sc x.ex s).2):=by rw[f3D,if_neg (by omega),if_pos h2]
    rw[hV] at k1 hnext
    have vcs:=hv.cs
    have vle:=hv.le
    have vv:=hv.v
    generalize evC (foF p) Ψ sc x.ex s=q at *
    obtain⟨v,s1⟩:=q
    simp only at k1 hnext vcs vle vv
    have hx0:=f9K vv.pos
    simp only[wA,seval,f0,f2,f10,f11,f12,c1,hw1,g4Z,hil,d1Q,hx,g7F,d1O,d5I lc,hc,h2,wC]
    refine CallE.mono (hq _) ?_
    rintro y sg1 ow1 ⟨rfl,o1,ri1,hi1,hcs,hm1⟩
    have hm':=hm1.get (b0R hm) hmc
    have hmc1:=hm1.cold (by rw[g5W];omega) hmc
    simp only[wA,seval,f0,f2,f10,f11,f12,hw1,f5G,hx0,g7F]
    refine CallE.mono (f8Z hcs vcs (n:=1) (by decide) (by decide) ow1) ?_
    rintro y sg2 ow2 ⟨rfl,rfl,hcs2,hm2⟩
    have hm'':=hm2.get hm' hmc1
    have hMM:Mv [m,c,r,ri0,hi0] [m,c,r,ri1,hi1] sg0 sg2:=(hM.app2 _).trans ((hm1.trans hm2).cons m)
    cases hrm:f2L 1 s1 with
    |true =>
     rw[f9A hrm] at hcs2
     rw[f9E hrm] at k1 hnext
     have hc2:=hcs2.hc
     have hcon:=λK=>@f6M gl p 1 hk (by decide) K
     simp only[wA,seval,f0,f2,f10,f11,f12,hw1,hc2,hcon]
     refine CallE.mono (f7J hk hcs2.hb vcs.b (vcs.rm (by decide)) vv.fst (.const (f6I hk).nn vcs.b.pos (by decide)) ow2) ?_
     intro y sg3 ow3 hG
     obtain⟨o3,ri3,hi3,hcs3,hm3⟩:=hcs2.gd hG
     simp only[wA,seval,f0,f2,f10,f11,f12,hw1]
     exact ih (i+1) _ _ _ sc _ _ _ ri3 hi3 hr hcs3 hnext.cs (hm3.get hm'' (hcs2.map hm'')) hnext.sc he2 (hMM.trans (hm3.cons m)) ((hO.trans o1).trans o3) (by simp only[wQ,seval,f0,f2,f10,f11]) k1
    |false =>
     rw[f9B hrm] at hcs2
     rw[f9F hrm] at k1 hnext
     simp only[wA,seval,f0,f2,f10,f11,f12,hw1]
     exact ih (i+1) _ _ _ sc _ _ _ ri1 hi1 hr hcs2 hnext.cs hm'' hnext.sc he2 hMM (hO.trans o1) (by simp only[wQ,seval,f0,f2,f10,f11]) k1
   have h1:=e9L hxb h3 h2
   have hV:Ky.stC (foF p) Ψ x sc s=(e8L x.name (f3B (foF p) x.typed x.ty (evC (foF p) Ψ sc x.ex s)).1 sc,(f3B (foF p) x.typed x.ty (evC (foF p) Ψ sc x.ex s)).2):=by rw[f3D,if_pos h1]
   rw[hV] at k1 hnext
   have hty:=λht=>e9W h3 h2 ht hxb he1
   have vcs:=hv.cs
   have vv:=hv.v
   generalize evC (foF p) Ψ sc x.ex s=q at *
   obtain⟨v,s1⟩:=q
   simp only at vcs vv
   have hx0:=f9K vv.pos
   simp only[wA,seval,f0,f2,f10,f11,f12,c1,hw1,g4Z,hil,d1Q,hx,g7F,d1O,d5I lc,hc,h1,wC]
   refine CallE.mono (hq _) ?_
   rintro y sg1 ow1 ⟨rfl,o1,ri1,hi1,hcs,hm1⟩
   have hm':=hm1.get (b0R hm) hmc
   have j7:=hm1.get (i:=sg.length) (v:=(false,[PV.t (.int .i64 1),.t (.str x.name),.t (.bool x.typed),.t (.int .i64 x.ty.kind),.t (.int .i64 x.ty.bits),.t (.int .i64 x.ty.len),.t (.int .i64 x.ex.op),.t (.int .u64 x.ex.val),.t (.str x.ex.name),.t (.sl x.ex.nl (d1H x.ex.args)),.t (.int .i64 x.lo),.t (.int .i64 x.hi),.t (.sl x.nl (d1M x.body))])) (by simp) (h.new (g6U _))
   have l7:=d4U j7
   have lm':=d4U hm'
   have hMM:Mv [m,c,r,ri0,hi0] [m,c,r,ri1,hi1] sg0 sg1:=(hM.app2 _).trans (hm1.cons m)
   cases ht:x.typed with
   |false =>
    have hL:f3B (foF p) x.typed x.ty (v,s1)=(v,s1):=by unfold f3B;rw[ht];rfl
    rw[hL] at k1 hnext
    rw[ht] at j7
    have hmp:a0U 2 (T.str x.name) (T.agg (tVc v)) (iC sc)=iC (e8L x.name v sc):=e9R (λv=>T.agg (tVc v)) x.name v sc
    simp only[wA,seval,f0,f2,f10,f11,f12,hw1,d5I l7,j7,d5I lm',hm',a0X,d4X,iC,hmp,wC,allT]
    have hm2:=b0R (r:=[(false,cVc v)]) hm'
    exact ih (i+1) _ _ _ _ _ _ _ ri1 hi1 hr (g0N (hcs.app _) hfm hm2 _) hnext.cs (by rw[g5T (by rw[g5W];omega)]) hnext.sc he2 ((hMM.app2 _).set (.inl (by simp)) _) (hO.trans o1) (by simp only[wQ,seval,f0,f2,f10,f11]) k1
   |true =>
    obtain⟨t1,t2⟩:=hty ht
    rw[ht] at j7
    have hmp:a0U 2 (T.str x.name) (T.agg (tVc ⟨v.els,x.ty,v.num⟩)) (iC sc)=iC (e8L x.name ⟨v.els,x.ty,v.num⟩ sc):=e9R (λv=>T.agg (tVc v)) x.name ⟨v.els,x.ty,v.num⟩ sc
    by_cases hl0:x.ty.len=0
    ·have hL:f3B (foF p) x.typed x.ty (v,s1)=(⟨v.els,x.ty,v.num⟩,f3A (foF p) (f2K v) x.ty s1):=by unfold f3B;rw[ht,if_pos rfl,if_pos hl0]
     rw[hL] at k1 hnext
     have hchk:=λt=>ok86 (gl:=gl) hk (hcs.app t) vcs vv.fst (g0M t2) ow1
     simp only[tTy] at hchk
     rw[hl0] at j7
     rw[hl0] at hchk
     simp only[wA,seval,f0,f2,f10,f11,f12,hw1,d5I l7,j7,wC,allT,hl0,f5G,hx0,g7F]
     refine CallE.mono (hchk _) ?_
     intro y sg2 ow2 hD
     obtain⟨o2,ri2,hi2,hcs2,hm2⟩:=hD
     have j72:=hm2.get (b0R j7) (hm1.cold (by simp) (h.new (g6U _)))
     have j8:=hm2.get (i:=sg1.length) (v:=(false,[PV.t (.sl false (tLs v.els)),.t (.int .i64 x.ty.kind),.t (.int .i64 x.ty.bits),.t (.int .i64 0),.t (.int .i64 v.num)])) (by simp) (hcs.new (g6U _))
     have hm2':=hm2.get (b0R hm') (hcs.map hm')
     have lm2:=d4U hm2'
     rw[show(⟨v.els,x.ty,v.num⟩:Vc)=⟨v.els,⟨x.ty.kind,x.ty.bits,0⟩,v.num⟩ by rw[<-hl0]] at hmp
     simp only[wA,seval,f0,f2,f10,f11,f12,hw1,j72,j8,hm2',a0X,d4X,iC,hmp,wC,allT]
     refine ih (i+1) _ _ _ _ _ _ _ ri2 hi2 hr (g0N hcs2 hfm hm2' _) hnext.cs ?_ hnext.sc he2 (((hMM.app2 _).trans (hm2.cons m)).set (.inl (by simp)) _) ((hO.trans o1).trans o2) (by simp only[wQ,seval,f0,f2,f10,f11]) k1
     rw[g5T lm2,show(⟨v.els,x.ty,v.num⟩:Vc)=⟨v.els,⟨x.ty.kind,x.ty.bits,0⟩,v.num⟩ by rw[<-hl0]]
    ·have hL:f3B (foF p) x.typed x.ty (v,s1)=(⟨v.els,x.ty,v.num⟩,s1):=by unfold f3B;rw[ht,if_pos rfl,if_neg hl0]
     rw[hL] at k1 hnext
     have hm2:=b0R (r:=[(false,cVc ⟨v.els,x.ty,v.num⟩)]) hm'
     simp only[wA,seval,f0,f2,f10,f11,f12,hw1,d5I l7,j7,wC,allT,hl0,d5I lm',hm',a0X,d4X,iC,hmp]
     exact ih (i+1) _ _ _ _ _ _ _ ri1 hi1 hr (g0N (hcs.app _) hfm hm2 _) hnext.cs (by rw[g5T (by rw[g5W];omega)]) hnext.sc he2 ((hMM.app2 _).set (.inl (by simp)) _) (hO.trans o1) (by simp only[wQ,seval,f0,f2,f10,f11]) k1
end Go.Proofs.YtdjcnfacjfnakaaGreat

/- Contracts: loops, statements: all. -/
namespace Go.Proofs.YtdjcnfacjfnakaaGreat
open Go.Pi Go.Lx Go.Ky Go.Lib
variable {gl:Nat->Option (List T)}
theorem ok57 {p:Int} (hk:e2X p=true) {fa fs:Fs} {Ψ:Fc} (hΨ:FcOk fs Ψ) (hR:g0H gl p fa fs Ψ) {ls:List St} {nl:Bool} (hls:ls.length<=B20) (hst:∀ x,x∈ls->StOk x/\stB x=true/\szS x<=B20) (hrec:∀ x,x∈ls->x.kind=3->LpC gl p fa fs Ψ x):SsC gl p fa fs Ψ ls nl:=by
 intro ns w sg c r ri hi fm m s sc ow h hs hfm hm hsc he
 refine XcE.of F57 rfl ?_
 simp only[c2Z]
 simp only[wA,seval,d1P]
 refine g0O (nl:=nl) (ri0:=ri) (hi0:=hi) (sg0:=sg) (ow0:=ow) hk hΨ hR hls hst hrec hfm _ ls 0 ns w s sc _ _ _ ri hi rfl h hs hm hsc he (.refl _ _) (List.prefix_refl _) (by simp only[wQ,seval];first|done|exact⟨rfl,rfl⟩|rfl) ?_
 intro fr' sg' ow' hC
 constructor
 ·simp only[wA,seval]
  exact hC
 ·simp only[wA,seval]
  exact hC
abbrev rndC (p:Int) (Ψ:Fc) (x:St):Int->Sx->Cst->Sx×Cst:=λn sc1 s1=>f3C (foF p) Ψ x.body (e8L x.name ⟨[f0G (foF p) n],fieldT,n⟩ sc1) s1
theorem g0P {p:Int} (hk:e2X p=true) {fa fs:Fs} {Ψ:Fc} {x:St} (h3:x.kind=3) (hB:stB x=true) (hbody:SsC gl p fa fs Ψ x.body x.nl) {ns:Ns} {w:Int} (he:(stM fs x ns w).1=0) (hbo:∀ ns sc w s,CsOk s->(s.full=true\/ScC s.b.vars ns sc)->(d4C fs x.body ns w).1=0->So s (d4C fs x.body ns w).2.1 (f3C (foF p) Ψ x.body sc s))
  {c r fm m b ri0 hi0:Nat} (hfm:fm≠m) {sg0:Sg} {ow0:Ow} (hb0:sg0[b]?=some (false,cSt x)) (hbc:b ∉ [m,c,r,ri0,hi0]) (Q:Ex->S->Prop):∀ (k:Nat) (n:Int) (s:Cst) (sc:Sx) (fr:List PV) (sg:Sg) (ow:Ow) (ri hi:Nat),n+(k:Int)=x.hi->x.lo<=n->CS sg c r ri hi fm p fa s->CsOk s->sg[m]?=some (true,iC sc)->(s.full=true\/ScC s.b.vars ns sc)->Mv [m,c,r,ri0,hi0] [m,c,r,ri,hi] sg0 sg->ow0 <+: ow ->
  b6S fr [(0,.lp c 0),(2,.mp m),(4,.lp b 0),(6,.t (.int .i64 n))] ->
  (∀ fr' sg' ow',Cm sg0 ow0 c r ri0 hi0 fm m p fa (itC (rndC p Ψ x) k n sc s) sg' ow'->Q (.exit 0) ⟨fr',sg',ow'⟩) ->
  Xl F gl c4O ⟨fr,sg,ow⟩ Q ⟨⟩:=by
 intro k
 induction k with
 |zero =>
  intro n s sc fr sg ow ri hi hn hlo h hs hm hsc hM hO hf k1
  simp only[b6U,b6T] at hf
  obtain⟨f0,f2,f4,f6,-⟩:=hf
  have hb:=hM.get hb0 hbc
  refine Xl.step ?_
  simp only[c4O]
  have c1:¬(n < x.hi):=by omega
  rw[itC] at k1
  simp only[wA,seval,f0,f2,f4,f6,hb,c1]
  exact k1 _ _ _ ⟨hO,ri,hi,h,hm,hM⟩
 |succ k ih =>
  intro n s sc fr sg ow ri hi hn hlo h hs hm hsc hM hO hf k1
  simp only[b6U,b6T] at hf
  obtain⟨f0,f2,f4,f6,-⟩:=hf
  have hb:=hM.get hb0 hbc
  have hc:=h.hc
  have lm:=d4U hm
  obtain⟨hnew,l1,l2,l3,hbz⟩:=e9Y h3 hB he
  refine Xl.step ?_
  simp only[c4O]
  have c1:n < x.hi:=by omega
  rw[itC] at k1
  cases hfu:s.full with
  |true =>
   rw[hfu] at hc
   rw[if_pos hfu] at k1
   simp only[wA,seval,f0,f2,f4,f6,hb,c1,hc]
   exact k1 _ _ _ ⟨hO,ri,hi,h,hm,hM⟩
  |false =>
   rw[hfu] at hc
   rw[if_neg (by rw[hfu];simp)] at k1
   have hsc0:=hsc.resolve_left (by rw[hfu];simp)
   obtain⟨hr1,hr2⟩:=f4U (f6I hk) h3 hB he hbo hs hsc0 hlo c1
   have hw64:IntKind.u64.wrap n=n:=IntWalk.u64_in _ (by omega)
   have hwn:IntKind.i64.wrap (n+1)=n+1:=IntWalk.i64_in _ (by omega)
   have hcon:=λK=>@f6M gl p n hk (by omega) K
   simp only[wA,seval,f0,f2,f4,f6,hb,c1,hc,hw64,hcon]
   refine CallE.mono (f9I (.lp c 0) (f0G (foF p) n) fieldT sg ow) ?_
   rintro y sg1 ow1 ⟨rfl,hg1,rfl⟩
   have hm1:=hg1.get hm
   have hb1:=hg1.get hb
   have lb1:=d4U hb1
   have lm1:=d4U hm1
   have hcs1:=h.grow hg1
   have hbm:b≠m:=λe=>hbc (by simp [e])
   have hmp:a0U 2 (T.str x.name) (T.agg (tVc ⟨[f0G (foF p) n],fieldT,n⟩)) (iC sc)=iC (e8L x.name ⟨[f0G (foF p) n],fieldT,n⟩ sc):=e9R (λv=>T.agg (tVc v)) x.name ⟨[f0G (foF p) n],fieldT,n⟩ sc
   simp only[tVc,fieldT] at hmp
   have gb:∀ t z,((sg1++(t:Sg)).set m z)[b]?=some (false,cSt x):=λt z=>by rw[g5S (Ne.symm hbm),d5I lb1];exact hb1
   have hm1':=λt=>b0R (r:=t) hm1
   have hq:=λt ow=>hbody (ns++[(x.name,⟨fieldT,true,x.lo,x.hi⟩)]) w ((sg1++t).set m (true,iC (e8L x.name ⟨[f0G (foF p) n],fieldT,n⟩ sc))) c r ri hi fm m s (e8L x.name ⟨[f0G (foF p) n],fieldT,n⟩ sc) ow (g0N (hcs1.app t) hfm (hm1' t) _) hs hfm (by rw[g5T (by rw[g5W];omega)]) (.inr hr1) hbz
   have hfl:tVc (f2J (f0G (foF p) n) fieldT)=[.sl false (tLs [f0G (foF p) n]),.int .i64 1,.int .i64 0,.int .i64 0,.int .i64 0]:=rfl
   simp only[wA,seval,f0,f2,f4,f6,hfl,wC,d5I lb1,hb1,d5I lm1,hm1,a0X,d4X,allT,hmp,gb]
   refine CallE.mono (hq _ _) ?_
   rintro y sg2 ow2 ⟨o2,ri2,hi2,hcs2,hm2,hmv⟩
   simp only[wA,seval,f0,f2,f4,f6,hwn]
   exact ih (n+1) _ _ _ _ _ ri2 hi2 (by omega) (by omega) hcs2 hr2.cs hm2 hr2.sc (((hM.trans (.grow (hg1.trans (.app _ _)))).set (.inl (by simp)) _).trans hmv) (hO.trans o2) (by simp only[wQ,seval,f0,f2,f4]) k1
theorem ok90 {p:Int} (hk:e2X p=true) {fa fs:Fs} {Ψ:Fc} (hΨ:FcOk fs Ψ) {x:St} (h3:x.kind=3) (hx:StOk x) (hB:stB x=true) (hsz:szS x<=B20) (hbody:SsC gl p fa fs Ψ x.body x.nl):LpC gl p fa fs Ψ x:=by
 intro ns w sg c r ri hi fm m s sc ow h hs hfu hfm hm hsc he
 have hmc:=h.map hm
 have lm:=d4U hm
 refine XcE.of F90 rfl ?_
 simp only[c4P]
 have hid:=λK=>g0L (gl:=gl) x hsz K
 simp only[d1O] at hid
 have hV:Ky.stC (foF p) Ψ x sc s=if idS x then (sc,s) else itC (rndC p Ψ x) (x.hi - x.lo).toNat x.lo sc s:=by rw[f3D,if_neg (by omega),if_neg (by omega),if_pos h3]
 rw[hV]
 obtain⟨z1,z2⟩:=d6L hsz
 have hbo:=f4S (Φ:=foF p) (Ψ:=Ψ) (fs:=fs) x.body (λb hb'=>f4V (f6I hk) hΨ b (d6P hx b hb') (z2 b hb') (d6N hB h3 b hb'))
 cases hi':idS x with
 |true =>
  rw[hi'] at hid
  rw[if_pos rfl]
  simp only[wA,seval,d1O,hid,allT]
  exact⟨List.prefix_refl _,ri,hi,h.app _,b0R hm,.app _ _ _⟩
 |false =>
  rw[hi'] at hid
  rw[if_neg (by simp)]
  obtain⟨hnew,l1,l2,l3,hbz⟩:=e9Y h3 hB he
  have nb:sg.length ∉ [m,c,r,ri,hi]:=λe=>by
   rcases g6H.1 e with e|e
   ·omega
   ·exact h.new (g6U _) e
  simp only[wA,seval,d1O,hid,allT]
  refine g0P (b:=sg.length) (ri0:=ri) (hi0:=hi) (ow0:=ow) hk h3 hB hbody he hbo hfm (sg0:=sg++[(false,cSt x)]) (by simp) nb _ (x.hi - x.lo).toNat x.lo s sc _ _ _ ri hi (by omega) (Int.le_refl _) (h.app _) hs (b0R hm) (.inr hsc) (.refl _ _) (List.prefix_refl _) (by simp only[wQ,seval];first|done|exact⟨rfl,rfl⟩|rfl) ?_
  rintro fr' sg' ow' ⟨o1,ri',hi',hcs',hm',hM'⟩
  simp only[wA,seval]
  exact⟨o1,ri',hi',hcs',hm',(Mv.app _ sg _).trans hM'⟩
theorem g0Q {p:Int} (hk:e2X p=true) {fa fs:Fs} {Ψ:Fc} (hΨ:FcOk fs Ψ) (hR:g0H gl p fa fs Ψ):∀ x,StOk x->stB x=true->szS x<=B20->x.kind=3->LpC gl p fa fs Ψ x:=by
 refine St.ind λx ih hx hB hsz h3=>?_
 obtain⟨b1,b2⟩:=d6L hsz
 have hst:∀ b,b∈x.body->StOk b/\stB b=true/\szS b<=B20:=λb hb=>⟨d6P hx b hb,d6N hB h3 b hb,b2 b hb⟩
 exact ok90 hk hΨ h3 hx hB hsz (ok57 hk hΨ hR b1 hst λb hb=>ih b hb (hst b hb).1 (hst b hb).2.1 (hst b hb).2.2)
theorem g0R {p:Int} (hk:e2X p=true) {fa fs:Fs} {Ψ:Fc} (hΨ:FcOk fs Ψ) (hR:g0H gl p fa fs Ψ) {ls:List St} {nl:Bool} (hls:ls.length<=B20) (hst:∀ x,x∈ls->StOk x/\stB x=true/\szS x<=B20):SsC gl p fa fs Ψ ls nl :=
 ok57 hk hΨ hR hls hst λx hx=>g0Q hk hΨ hR x (hst x hx).1 (hst x hx).2.1 (hst x hx).2.2
end Go.Proofs.YtdjcnfacjfnakaaGreat

/- Contracts: functions are called. -/
namespace Go.Proofs.YtdjcnfacjfnakaaGreat
open Go.Pi Go.Lx Go.Ky Go.Lib
variable {gl:Nat->Option (List T)}
theorem g0S {M:Int} {ps:List Pa} {nl:Bool} {vs:List Vc} (hls:ps.length<=B20) {c b4 b6 m a:Nat} (hma:a≠m) {sg0:Sg} {v:PV} (hv:0 < ps.length->v=.ls a 0 vs.length 5/\sg0[a]?=some (false,cG tVc vs)) {ow:Ow} (Q:Ex->S->Prop):∀ (l:List Pa) (lv:List Vc) (i:Nat) (sc:Sx) (fr:List PV) (sg:Sg),ps.drop i=l->vs.drop i=lv->PsC M l lv->Mv [m] [m] sg0 sg->sg[m]?=some (true,iC sc) ->
  b6S fr [(0,.lp c 0),(2,v),(4,.lp b4 0),(6,.lp b6 0),(7,.mp m),(13,.t (.sl nl (ps.map λf=>tPa f))),(14,.t (.int .i64 ps.length)),(15,.t (.int .i64 i))] ->
  (∀ fr' sg',Mv [m] [m] sg0 sg'->sg'[m]?=some (true,iC (f3E l lv sc))->b6S fr' [(0,.lp c 0),(4,.lp b4 0),(6,.lp b6 0),(7,.mp m)]->Q (.exit 0) ⟨fr',sg',ow⟩) ->
  Xl F gl c5Z ⟨fr,sg,ow⟩ Q ⟨⟩:=by
 intro l
 induction l with
 |nil =>
  intro lv i sc fr sg hd hdv hp hg hm hf k1
  have hd:=b6N hd
  have hlv:f3E [] lv sc=sc:=by cases lv <;> rw[f3E] <;> simp
  rw[hlv] at k1
  simp only[b6U,b6T] at hf
  obtain⟨f0,f2,f4,f6,f7,f13,f14,f15,-⟩:=hf
  refine Xl.step ?_
  simp only[c5Z]
  have c1:¬((i:Int) < (ps.length:Int)):=by omega
  simp only[wA,seval,f0,f2,f4,f6,f7,f13,f14,f15,c1]
  exact k1 _ _ hg hm (by simp only[wQ,seval,f0,f4,f6,f7])
 |cons x l ih =>
  intro lv i sc fr sg hd hdv hp hg hm hf k1
  obtain⟨hx,hr,hi⟩:=b6M hd
  cases lv with
  |nil=>exact hp.elim
  |cons y lv =>
   obtain⟨hy,hry,hiy⟩:=b6M hdv
   simp only[b6U,b6T] at hf
   obtain⟨f0,f2,f4,f6,f7,f13,f14,f15,-⟩:=hf
   refine Xl.step ?_
   simp only[c5Z]
   have c1:(i:Int) < (ps.length:Int):=by omega
   have hw1:=d5F hi (show ps.length<=281474976710656 by have:B20=1100000:=rfl;omega)
   obtain⟨rfl,ha0⟩:=hv (by omega)
   have ha:=hg.get ha0 (by simpa using hma)
   have y1:(cG tVc vs)[i * 5]?=some (.t (.sl false (tLs y.els))):=by
    have:=f5U (t:=tVc) f6E [] hy 0 (by decide)
    rw[g5C,g6R] at this
    exact this
   have la:=d4U ha
   have lm:=d4U hm
   have hmp:a0U 2 (T.str x.name) (T.agg (tVc ⟨y.els,x.ty,0⟩)) (iC sc)=iC (e8L x.name ⟨y.els,x.ty,0⟩ sc):=e9R (λv=>T.agg (tVc v)) x.name ⟨y.els,x.ty,0⟩ sc
   have hiy':(i:Int) < (vs.length:Int):=by omega
   rw[f3E] at k1
   simp only[wA,seval,f0,f2,f4,f6,f7,f13,f14,f15,c1,hw1,g4Z,hi,g5P,hx,g7F,d5I la,ha,d5I lm,hm,hiy,hiy',y1,allT,a0X,d4X,iC,hmp,wC]
   refine ih lv (i+1) _ _ _ hr hry hp.2 ((hg.app2 _).set (.inl (by simp)) _) (by rw[g5T (by rw[g5W];omega)]) (by simp only[wQ,seval,f0,f2,f4,f6,f7,f13,f14];first|done|rfl) k1
theorem g0T {p:Int} (hk:e2X p=true) {fa fs:Fs} {Ψ:Fc} (hΨ:FcOk fs Ψ) (hR:g0H gl p fa fs Ψ) {f:Fu} (hx:FuOk f) (hB:fuB f=true) (hpl:f.params.length<=B20) (hbs:d2G f.body<=B20) (hrs:szE f.ret<=B20) {w:Int} (he:(d4G fs f w).1=0) (sg:Sg) (c r ri hi fm:Nat) (s:Cst) (ow:Ow) (vs:List Vc) (v:PV) (h:CS sg c r ri hi fm p fa s) (hs:CsOk s) (ha:g0G sg v vs) (hvl:vs.length<=B20) (hp:PsC s.b.vars f.params vs) :
  CallE F gl 123 [.lp c 0,.t (.agg (tFu f)),v] sg ow λx sg' ow'=>x=.t (.agg (tVc (f3F (foF p) Ψ f vs s).1))/\Cd sg ow c r ri hi fm p fa (f3F (foF p) Ψ f vs s).2 sg' ow':=by
 obtain⟨b1,b2,b3⟩:=e9N hB
 obtain⟨h1,h2,h3,h4,h5,h6⟩:=e9M he
 obtain⟨r1,r2⟩:=e9J b1
 have hB20:B20=1100000:=rfl
 have lf:=d4U h.hf
 have hst:∀ b,b∈f.body->StOk b/\stB b=true/\szS b<=B20:=λb hb=>⟨hx.bo b hb,b2 b hb,g6V (d2M hb) hbs⟩
 refine XcE.of F123 rfl ?_
 simp only[c6A]
 obtain⟨a,ham,hav⟩:∃ a,a≠sg.length+2/\(0 < f.params.length->v=.ls a 0 vs.length 5/\sg[a]?=some (false,cG tVc vs)):=by
  rcases ha with⟨rfl,_⟩|⟨h0,a,rfl,h⟩
  ·refine⟨sg.length,by omega,λh=>?_⟩
   cases hq:f.params with
   |nil=>rw[hq] at h;cases h
   |cons x l=>rw[hq] at hp;exact hp.elim
  ·exact⟨a,by have:=d4U h;omega,λ_=>⟨rfl,h⟩⟩
 have n3:∀ i,sg.length<=i->i ∉ [c,r,ri,hi]:=λi hi=>h.new hi
 simp only[wA,seval,g5Y]
 refine g0S (M:=s.b.vars) (nl:=f.pnl) (vs:=vs) (c:=c) (b4:=sg.length) (b6:=sg.length+1) (m:=sg.length+2) (a:=a) hpl ham (sg0:=sg++[(false,[.t (.str f.name),.t (.sl f.pnl (f.params.map tPa)),.t (.int .i64 f.res.kind),.t (.int .i64 f.res.bits),.t (.int .i64 f.res.len),.t (.sl f.bnl (d1M f.body)),.t (.int .i64 f.ret.op),.t (.int .u64 f.ret.val),.t (.str f.ret.name),.t (.sl f.ret.nl (d1H f.ret.args))]),(false,[.t (.sl true []),.t (.int .i64 0),.t (.int .i64 0),.t (.int .i64 0),.t (.int .i64 0)]),(true,[])]) (λh=>⟨(hav h).1,b0R (hav h).2⟩) _ f.params vs 0 [] _ _ rfl rfl hp (.refl _ _) (by simp [iC,d4V]) (by simp only[wQ,seval];first|done|exact⟨rfl,rfl⟩|rfl) ?_
 intro fr' sg1 hM1 hm1 hf'
 simp only[b6U,b6T] at hf'
 obtain⟨f0,f4,f6,f7,-⟩:=hf'
 have nm:∀ i,i < sg.length->i ∉ [sg.length+2]:=λi hi=>by simp;omega
 have hl:=h.lt
 have hcs1:CS sg1 c r ri hi fm p fa s:=by
  have hn:∀ i,i∈[c,r,ri,hi]->i ∉ [sg.length+2]:=λi hi=>nm i (hl i hi)
  exact⟨hM1.get (b0R h.hc) (hn c (by simp)),hM1.get (b0R h.hf) (nm _ lf),(h.hb.app _).mv hM1 (hn r (by simp)) (hn ri (by simp)) (hn hi (by simp)),h.cc,h.cf⟩
 have j4:=hM1.get (i:=sg.length) (v:=(false,[.t (.str f.name),.t (.sl f.pnl (f.params.map tPa)),.t (.int .i64 f.res.kind),.t (.int .i64 f.res.bits),.t (.int .i64 f.res.len),.t (.sl f.bnl (d1M f.body)),.t (.int .i64 f.ret.op),.t (.int .u64 f.ret.val),.t (.str f.ret.name),.t (.sl f.ret.nl (d1H f.ret.args))])) (by simp) (by simp)
 have j6:=hM1.get (i:=sg.length+1) (v:=(false,[.t (.sl true []),.t (.int .i64 0),.t (.int .i64 0),.t (.int .i64 0),.t (.int .i64 0)])) (by rw[g5K (by omega)];simp) (by simp)
 have hsc:=f4W f.params vs [] [] w (f4X hB) hp (.nil _) h3
 have hbl:f.body.length<=B20:=g6V (d2O _) hbs
 have hex:=g0R (gl:=gl) (nl:=f.bnl) hk hΨ hR hbl hst _ _ sg1 c r ri hi fm (sg.length+2) s (f3E f.params vs []) ow hcs1 hs (by omega) hm1 (.inr hsc) h4
 have hso:=f4S (Φ:=foF p) (Ψ:=Ψ) (fs:=fs) f.body (λx hx'=>f4V (f6I hk) hΨ x (hx.bo x hx') (g6V (d2M hx') hbs) (b2 x hx')) _ _ _ s hs (.inr hsc) h4
 have hcv:f3F (foF p) Ψ f vs s=if (f3C (foF p) Ψ f.body (f3E f.params vs []) s).2.full then (⟨List.replicate (e8S f.res.len).toNat f0E,f.res,0⟩,(f3C (foF p) Ψ f.body (f3E f.params vs []) s).2) else (⟨(evC (foF p) Ψ (f3C (foF p) Ψ f.body (f3E f.params vs []) s).1 f.ret (f3C (foF p) Ψ f.body (f3E f.params vs []) s).2).1.els,f.res,(evC (foF p) Ψ (f3C (foF p) Ψ f.body (f3E f.params vs []) s).1 f.ret (f3C (foF p) Ψ f.body (f3E f.params vs []) s).2).1.num⟩,(evC (foF p) Ψ (f3C (foF p) Ψ f.body (f3E f.params vs []) s).1 f.ret (f3C (foF p) Ψ f.body (f3E f.params vs []) s).2).2):=rfl
 rw[hcv]
 have hMb:Mv [c,r,ri,hi] [c,r,ri,hi] sg sg1:=by
  have q:=(Mv.app [sg.length+2] sg _).trans hM1
  refine⟨q.1,λi hi hn=>q.2.1 i hi (nm i hi),λi hi=>.inl hi⟩
 simp only[wA,seval,f0,f4,f6,f7,j4]
 refine CallE.mono hex ?_
 rintro y sg2 ow2 ⟨o2,ri2,hi2,hcs2,hm2,hmv2⟩
 have c4:sg.length ∉ [sg.length+2,c,r,ri,hi]:=λe=>by
  rcases g6H.1 e with e|e
  ·omega
  ·exact n3 _ (g6U _) e
 have c6:sg.length+1 ∉ [sg.length+2,c,r,ri,hi]:=λe=>by
  rcases g6H.1 e with e|e
  ·omega
  ·exact n3 _ (by omega) e
 have k4:=hmv2.get j4 c4
 have k6:=hmv2.get j6 c6
 have c6':sg.length+1 ∉ [c,r,ri2,hi2]:=λe=>hmv2.cold (d4U j6) c6 (g6I _ e)
 have c4':sg.length ∉ [c,r,ri2,hi2]:=λe=>hmv2.cold (d4U j4) c4 (g6I _ e)
 have hMq:Mv [sg.length+2,c,r,ri,hi] [sg.length+2,c,r,ri2,hi2] sg sg2:=by
  have q:=(Mv.app [sg.length+2] sg _).trans hM1
  have q':Mv [sg.length+2,c,r,ri,hi] [sg.length+2,c,r,ri,hi] sg sg1:=⟨q.1,λi hi hn=>q.2.1 i hi (nm i hi),λi hi=>.inl hi⟩
  exact q'.trans hmv2
 have hM2:Mv [c,r,ri,hi] [c,r,ri2,hi2] sg sg2:=hMq.loc (by omega)
 have hc2:=hcs2.hc
 have hscR:=hso.sc
 have hcsR:=hso.cs
 have h5':(1000:Nat) < 1005:=by decide
 generalize f3C (foF p) Ψ f.body (f3E f.params vs []) s=q at *
 obtain⟨sc2,s2⟩:=q
 simp only at hcs2 hc2 hscR hcsR hm2 ⊢
 cases hfu:s2.full with
 |true =>
  rw[hfu] at hc2
  rw[if_pos rfl]
  have hl2:1<=e8S f.res.len/\e8S f.res.len<=64:=by unfold e8S;split <;> omega
  have hroom:a0M (e8S f.res.len).toNat 24=true:=by unfold a0M;simp only[g7L];omega
  have hmx:mxT true (.t (.int .i64 f.res.len)) (.t (.int .i64 1))=some (.int .i64 (e8S f.res.len)):=rfl
  have hz0:0<=e8S f.res.len:=by omega
  have hrep:List.replicate (e8S f.res.len).toNat [T.sl true []]=tLs (List.replicate (e8S f.res.len).toNat f0E):=by unfold tLs;rw[List.map_replicate];rfl
  have hcl:clo (.t (.agg (tVc ⟨List.replicate (e8S f.res.len).toNat f0E,f.res,0⟩)))=.t (.agg (tVc ⟨List.replicate (e8S f.res.len).toNat f0E,f.res,0⟩)):=rfl
  simp only[wA,seval,f0,f4,f6,f7,hc2,k4,hmx,b5A,hroom,hz0,hrep,allT,k6,d4T k6,wC,c1B h5',hcl]
  refine⟨o2,ri2,hi2,hcs2.set c6' (by omega) _,hM2.set (.inr (by omega)) _⟩
 |false =>
  rw[hfu] at hc2
  rw[if_neg (by simp)]
  have hsc2:=hscR.resolve_left (by rw[hfu];simp)
  have hv:=ok85 (gl:=gl) hk hΨ hR f.ret hx.ret hrs b3 sg2 c r ri2 hi2 fm (sg.length+2) s2 sc2 ow2 _ hcs2 hcsR hm2 hsc2 h5
  simp only[d1J] at hv
  generalize evC (foF p) Ψ sc2 f.ret s2=q2 at *
  obtain⟨vr,s3⟩:=q2
  simp only at hv
  have hcl:clo (.t (.agg (tVc ⟨vr.els,f.res,vr.num⟩)))=.t (.agg (tVc ⟨vr.els,f.res,vr.num⟩)):=rfl
  simp only[wA,seval,f0,f4,f6,f7,k4,hc2,allT]
  refine CallE.mono hv ?_
  rintro y sg3 ow3 ⟨rfl,o3,ri3,hi3,hcs3,hm3⟩
  have k6':=hm3.get k6 c6'
  have k4':=hm3.get k4 c4'
  have c6'':=hm3.cold (d4U k6) c6'
  have l6:=d4U k6'
  have l4:=d4U k4'
  simp only[wA,seval,f0,f4,f6,f7,d5I l4,k4',d5I l6,d5J l6,k6',d4T k6',wC,allT,c1B h5',hcl]
  have g6:∀ (z:Bool×List PV) (t:Sg),(sg3.set (sg.length+1) z++t)[sg.length+1]?=some z:=λz t=>by rw[g5J (by rw[g6A];exact l6),g5T l6]
  simp only[wA,seval,g6,allT,hcl]
  refine⟨o2.trans o3,ri3,hi3,(hcs3.set c6'' (by omega) _).app _,((hM2.trans hm3).set (.inr (by omega)) _).app2 _⟩
theorem g0U {p:Int} (hk:e2X p=true) {fa:Fs}:∀ (l:List Fu) (Ψ:Fc) (fs:Fs) (w:Int),FcOk fs Ψ->g0H gl p fa fs Ψ->(∀ f,f∈l->FuOk f/\fuB f=true/\f.params.length<=B20/\d2G f.body<=B20/\szE f.ret<=B20)->(d4H l fs w).1=0->(∀ nm f,Ky.look nm (d4H l fs w).2.1=some f->Ky.look nm fa=some f)->g0H gl p fa (d4H l fs w).2.1 (f3G (foF p) l Ψ):=by
 intro l
 induction l with
 |nil=>intro Ψ fs w _ h _ _ _;rw[d4H,f3G];exact h
 |cons f r ih =>
  intro Ψ fs w hΨ hR hl he hfa
  rw[d6W] at he hfa ⊢
  by_cases c:(d4G fs f w).1≠0
  ·rw[if_pos c] at he;exact absurd he c
  rw[if_neg c] at he hfa ⊢
  have c':(d4G fs f w).1=0:=by simpa using c
  obtain⟨x1,x2,x3,x4,x5⟩:=hl f (by simp)
  obtain⟨g1,g2,_⟩:=e9M c'
  have h2:=f4Z (f6I hk) hΨ x1 x2 x4 x5 c'
  rw[<-g2] at h2
  rw[f3G]
  refine ih _ _ _ h2 ?_ (λx hx=>hl x (by simp [hx])) he hfa
  intro nm g hg
  refine⟨hfa _ _ (f0A _ _ _ he _ _ hg),?_⟩
  rw[g2,d5B] at hg
  by_cases hk2:nm=f.name
  ·subst hk2
   rw[g1] at hg
   simp only[e9G] at hg
   have:f=g:=by simpa using hg
   subst this
   have hE:∀ vs s,fcS (foF p) f Ψ f.name vs s=f3F (foF p) Ψ f vs s:=λvs s=>by unfold fcS;rw[if_pos rfl]
   intro sg c r ri hi fm s ow vs v hc hs ha hvl hp
   rw[hE]
   exact g0T hk hΨ hR x1 x2 x3 x4 x5 c' sg c r ri hi fm s ow vs v hc hs ha hvl hp
  ·have hE:∀ vs s,fcS (foF p) f Ψ nm vs s=Ψ nm vs s:=λvs s=>by unfold fcS;rw[if_neg hk2]
   cases hb:Ky.look nm fs with
   |some y =>
    rw[hb] at hg
    have:y=g:=by simpa using hg
    subst this
    intro sg c r ri hi fm s ow vs v hc hs ha hvl hp
    rw[hE]
    exact(hR nm y hb).2 sg c r ri hi fm s ow vs v hc hs ha hvl hp
   |none =>
    rw[hb] at hg
    simp only[e9H hk2] at hg
    cases hg
theorem g0V {p:Int} {fa:Fs}:g0H gl p fa [] fc0:=λnm f h=>by cases h
end Go.Proofs.YtdjcnfacjfnakaaGreat
