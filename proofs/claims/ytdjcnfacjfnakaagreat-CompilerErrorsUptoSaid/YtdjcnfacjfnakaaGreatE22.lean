/- Contracts: the inputs. -/
import Derived.Test.YtdjcnfacjfnakaaGreatE18
import Derived.Test.YtdjcnfacjfnakaaGreatK19
import Derived.Test.YtdjcnfacjfnakaaGreatKx27
import Derived.Test.YtdjcnfacjfnakaaGreatKx80
import Derived.Test.YtdjcnfacjfnakaaGreatKx19
import Derived.Test.YtdjcnfacjfnakaaGreatQ20
import Derived.Test.YtdjcnfacjfnakaaGreatK19
import Derived.Test.YtdjcnfacjfnakaaGreatKx19
import Derived.Test.YtdjcnfacjfnakaaGreatPi31
set_option maxRecDepth 10000
set_option linter.unusedVariables false
set_option linter.unusedSimpArgs false
namespace Go.Proofs.YtdjcnfacjfnakaaGreat
open Go.Pi Go.Lx Go.Ky Go.Lib
variable {gl:Nat->Option (List T)}
abbrev cDe (d:De):List PV:=[.t (.bool d.pub),.t (.str d.name),.t (.int .i64 d.ty.kind),.t (.int .i64 d.ty.bits),.t (.int .i64 d.ty.len)]
theorem g2Z {p:Int} (hk:e2X p=true) {fa:Fs} {c r fm m d11 nx v13 n8 n9 ri0 hi0 n:Nat} {x:De} (ht:tyB x.ty=true) (hn:n<=64) {S1 S2 S3:PV} {sg0:Sg} {ow0:Ow} (hd0:sg0[d11]?=some (false,cDe x)) (cd:d11 ∉ [v13,nx,c,r,ri0,hi0]) (hnf:nx≠fm) (hvf:v13≠fm) (l13:v13 < sg0.length) (lnx:nx < sg0.length) (Q:Ex->S->Prop):∀ (k:Nat) (j:Nat) (a:Int) (done:List Li) (s:Cst) (ev:PV) (fr:List PV) (sg:Sg) (ow:Ow) (ri hi:Nat),j+k=n->done.length=j->CS sg c r ri hi fm p fa s->CsOk s->0<=a->a+k<=s.b.pub+s.b.sec->nx ∉ [v13,c,r,ri,hi]->v13 ∉ [nx,c,r,ri,hi]->sg[nx]?=some (false,[.t (.int .i64 a)])->sg[v13]?=some (false,[ev,.t (.int .i64 x.ty.kind),.t (.int .i64 x.ty.bits),.t (.int .i64 x.ty.len),.t (.int .i64 0)])->Elw ow ev done->(∀ k z es,ev=.own k z es->ow0.length<=k)->Mv [v13,nx,c,r,ri0,hi0] [v13,nx,c,r,ri,hi] sg0 sg->ow0 <+: ow ->
  b6S fr [(0,.lp c 0),(7,.mp m),(8,.lp n8 0),(9,.lp n9 0),(11,.lp d11 0),(12,.lp nx 0),(13,.lp v13 0),(17,S1),(18,S2),(19,S3),(31,.t (.int .i64 n)),(32,.t (.int .i64 j))] ->
  (∀ fr' sg' ow' ri' hi' ev',CS sg' c r ri' hi' fm p fa (f3H (foF p) x.ty k a done s).2->nx ∉ [v13,c,r,ri',hi']->v13 ∉ [nx,c,r,ri',hi']->sg'[nx]?=some (false,[.t (.int .i64 (a+k))])->sg'[v13]?=some (false,[ev',.t (.int .i64 x.ty.kind),.t (.int .i64 x.ty.bits),.t (.int .i64 x.ty.len),.t (.int .i64 0)])->Elw ow' ev' (f3H (foF p) x.ty k a done s).1->Mv [v13,nx,c,r,ri0,hi0] [v13,nx,c,r,ri',hi'] sg0 sg'->ow0 <+: ow' ->
   b6S fr' [(0,.lp c 0),(7,.mp m),(8,.lp n8 0),(9,.lp n9 0),(11,.lp d11 0),(13,.lp v13 0),(17,S1),(18,S2),(19,S3)]->Q (.exit 2) ⟨fr',sg',ow'⟩) ->
  Xl F gl c3A ⟨fr,sg,ow⟩ Q ⟨⟩:=by
 intro k
 induction k with
 |zero =>
  intro j a done s ev fr sg ow ri hi hjk hdn h hs a0 a1 cn cv hx h13 hE hEk hM hO hf k1
  simp only[b6U,b6T] at hf
  obtain⟨f0,f7,f8,f9,f11,f12,f13,f17,f18,f19,f31,f32,-⟩:=hf
  refine Xl.step ?_
  simp only[c3A]
  have c1:¬((j:Int) < (n:Int)):=by omega
  rw[f3H] at k1
  simp only[wA,seval,f0,f7,f8,f9,f11,f12,f13,f17,f18,f19,f31,f32,c1]
  have hz:a+((0:Nat):Int)=a:=by omega
  rw[hz] at k1
  exact k1 _ _ _ ri hi ev h cn cv hx h13 hE hM hO (by simp only[wQ,seval,f0,f7,f8,f9,f11,f13,f17,f18,f19])
 |succ k ih =>
  intro j a done s ev fr sg ow ri hi hjk hdn h hs a0 a1 cn cv hx h13 hE hEk hM hO hf k1
  simp only[b6U,b6T] at hf
  obtain⟨f0,f7,f8,f9,f11,f12,f13,f17,f18,f19,f31,f32,-⟩:=hf
  have hd:=hM.get hd0 cd
  have cd':=hM.cold (d4U hd0) cd
  have hc:=h.hc
  have hlt:j < n:=by omega
  have c1:((j:Int) < (n:Int)):=by omega
  have hw1:=d5F hlt (by omega)
  have hmost:=hs.b.most
  have hwa:IntKind.i64.wrap (a+1)=a+1:=IntWalk.i64_in _ (by omega)
  have nxv:nx≠v13:=λe=>cn (by simp [e])
  have cn':nx ∉ [c,r,ri,hi]:=λe=>cn (g6I _ e)
  have cv':v13 ∉ [c,r,ri,hi]:=λe=>cv (g6I _ e)
  have cdx:d11≠nx:=λe=>cd' (by simp [e])
  have cdv:d11≠v13:=λe=>cd' (by simp [e])
  have cd2:d11 ∉ [c,r,ri,hi]:=λe=>cd' (g6I _ (g6I _ e))
  have hin:=λK=>RetE.iff (K:=K) (ok91 (gl:=gl) hk h.hb hs.b a0 (show a < s.b.pub+s.b.sec by omega) ow)
  have hcs1:∀ y,CS (sg.set nx y) c r ri hi fm p fa s:=λy=>h.set cn' hnf y
  have gd1:∀ y,(sg.set nx y)[d11]?=some (false,cDe x):=λy=>by rw[g5S (Ne.symm cdx)];exact hd
  have gv1:∀ y,(sg.set nx y)[v13]?=sg[v13]?:=λy=>g5S nxv
  have hvar:LiOk s.b.vars (f0H (foF p) (1+a)):=.var (f6I hk).nn (by omega) (by have:=hs.b.vars;omega)
  obtain⟨q1,q2⟩:=f4Q (Φ:=foF p) (x:=f0H (foF p) (1+a)) (t:=x.ty) hs (e9X ht)
  have hck:=λy=>ok86 (gl:=gl) hk (hcs1 y) hs hvar (g0M ht) ow
  simp only[tTy] at hck
  rw[f3H] at k1
  refine Xl.step ?_
  simp only[c3A]
  simp only[wA,seval,f0,f7,f8,f9,f11,f12,f13,f17,f18,f19,f31,f32,c1,hc,hx,hin,d4T hx,hwa,wC,gd1,allT]
  refine CallE.mono (hck _) ?_
  rintro y sg1 ow1 ⟨o1,ri1,hi1,hcs,hm1⟩
  have x1:=hm1.get (d4T hx) cn'
  have v1:=hm1.get (show(sg.set nx _)[v13]?=_ by rw[gv1];exact h13) cv'
  have d1:=hm1.get (gd1 _) cd2
  have cn1:=hm1.cold (by rw[g6A];exact d4U hx) cn'
  have cv1:=hm1.cold (by rw[g6A];exact d4U h13) cv'
  have lv:=d4U v1
  obtain⟨v',ow',e1,e2,e3,e4,e5,e6⟩:=(hE.pre o1).app (hO.trans o1) hEk (by omega) (f0H (foF p) (1+a)) false sg1
  simp only[wA,seval,f0,f7,f8,f9,f11,f12,f13,f17,f18,f19,f31,f32,v1,f9H,e1,e5,e6,wC,hw1]
  refine ih (j+1) (a+1) (done++[f0H (foF p) (1+a)]) _ v' _ _ _ ri1 hi1 (by omega) (by rw[g5W,List.length_singleton];omega) (hcs.set cv1 hvf _) q1 (by omega) (by rw[q2.pub,q2.sec];omega) (λe=>by
   rcases g6H.1 e with e|e
   ·exact nxv e
   ·exact cn1 e) (λe=>by
   rcases g6H.1 e with e|e
   ·exact nxv e.symm
   ·exact cv1 e) (by rw[g5S (Ne.symm nxv)];exact x1) (by rw[g5T lv]) e2 e4 (((hM.set (.inl (by simp)) _).trans ((hm1.cons nx).cons v13)).set (.inl (by simp)) _) e3 (by simp only[wQ,seval,f0,f7,f8,f9,f11,f12,f13,f17,f18,f19,f31]) ?_
  have hz:a+1+(k:Int)=a+((k+1:Nat):Int):=by omega
  rw[hz]
  exact k1
theorem g3A {p:Int} (hk:e2X p=true) {fa:Fs} {c r fm m n8 n9 ri0 hi0:Nat} {ds:List De} {nl:Bool} (hls:ds.length<=B20) (hty:∀ d,d∈ds->tyB d.ty=true) (hfm:fm≠m) (h8f:n8≠fm) (h9f:n9≠fm) (h89:n8≠n9) (h8m:n8≠m) (h9m:n9≠m) {sg0:Sg} {ow0:Ow} (Q:Ex->S->Prop):∀ (l:List De) (i:Nat) (ns:Ns) (w:Int) (a b:Int) (sc:Sx) (s:Cst) (fr:List PV) (sg:Sg) (ow:Ow) (ri hi:Nat),ds.drop i=l->CS sg c r ri hi fm p fa s->CsOk s->ScC s.b.vars ns sc->(d4I l ns w).1=0->0<=a->0<=b->a+(e9O l true:Int)<=s.b.pub+s.b.sec->b+(e9O l false:Int)<=s.b.pub+s.b.sec->n8 ∉ [c,r,ri,hi]->n9 ∉ [c,r,ri,hi]->sg[n8]?=some (false,[.t (.int .i64 a)])->sg[n9]?=some (false,[.t (.int .i64 b)])->sg[m]?=some (true,iC sc)->Mv [n8,n9,m,c,r,ri0,hi0] [n8,n9,m,c,r,ri,hi] sg0 sg->ow0 <+: ow ->
  b6S fr [(0,.lp c 0),(7,.mp m),(8,.lp n8 0),(9,.lp n9 0),(17,.t (.sl nl (ds.map λd=>tDe d))),(18,.t (.int .i64 ds.length)),(19,.t (.int .i64 i))] ->
  (∀ fr' sg' ow' ri' hi',CS sg' c r ri' hi' fm p fa (inC (foF p) l a b sc s).2->sg'[m]?=some (true,iC (inC (foF p) l a b sc s).1)->Mv [n8,n9,m,c,r,ri0,hi0] [n8,n9,m,c,r,ri',hi'] sg0 sg'->ow0 <+: ow'->b6S fr' [(7,.mp m)]->Q (.exit 0) ⟨fr',sg',ow'⟩) ->
  Xl F gl c3B ⟨fr,sg,ow⟩ Q ⟨⟩:=by
 intro l
 induction l with
 |nil =>
  intro i ns w a b sc s fr sg ow ri hi hd h hs hsc he a0 b0 a1 b1 c8 c9 g8 g9 hm hM hO hf k1
  have hd:=b6N hd
  simp only[b6U,b6T] at hf
  obtain⟨f0,f7,f8,f9,f17,f18,f19,-⟩:=hf
  refine Xl.step ?_
  simp only[c3B]
  have c1:¬((i:Int) < (ds.length:Int)):=by omega
  rw[inC] at k1
  simp only[wA,seval,f0,f7,f8,f9,f17,f18,f19,c1]
  exact k1 _ _ _ ri hi h hm hM hO (by simp only[wQ,seval,f7])
 |cons x l ih =>
  intro i ns w a b sc s fr sg ow ri hi hd h hs hsc he a0 b0 a1 b1 c8 c9 g8 g9 hm hM hO hf k1
  obtain⟨hx,hr,hil⟩:=b6M hd
  simp only[b6U,b6T] at hf
  obtain⟨f0,f7,f8,f9,f17,f18,f19,-⟩:=hf
  have hxt:=hty x (g6K hx)
  obtain⟨t1,t2⟩:=e9J hxt
  have hl2:1<=e8S x.ty.len/\e8S x.ty.len<=64:=by unfold e8S;split <;> omega
  obtain⟨n,hn⟩:∃ n:Nat,e8S x.ty.len=(n:Int):=⟨(e8S x.ty.len).toNat,by omega⟩
  have hmx:mxT true (.t (.int .i64 x.ty.len)) (.t (.int .i64 1))=some (.int .i64 (n:Int)):=by rw[<-hn];rfl
  have hB20:B20=1100000:=rfl
  have hw1:=d5F hil (show ds.length<=281474976710656 by omega)
  have c1:(i:Int) < (ds.length:Int):=by omega
  have hf1:fillP [PV.t (.sl true []),.t (.int .i64 0),.t (.int .i64 0),.t (.int .i64 0),.t (.int .i64 0)] [(1,3,.t (.agg [.int .i64 x.ty.kind,.int .i64 x.ty.bits,.int .i64 x.ty.len]))]=some [PV.t (.sl true []),.t (.int .i64 x.ty.kind),.t (.int .i64 x.ty.bits),.t (.int .i64 x.ty.len),.t (.int .i64 0)]:=rfl
  rw[d6S] at he
  have e':(d4A x.name ⟨x.ty,false,0,0⟩ ns w).1=0:=by
   by_cases e:(d4A x.name ⟨x.ty,false,0,0⟩ ns w).1≠0
   ·rw[if_pos e] at he;exact absurd he e
   ·simpa using e
  rw[if_neg (by simpa using e')] at he
  have hnew:=e9I e'
  rw[d6E e'] at he
  simp only at he
  rw[e9O] at a1 b1
  have k1':=k1
  have hI:inC (foF p) (x::l) a b sc s=inC (foF p) l (if x.pub then a+n else a) (if x.pub then b else b+n) (e8L x.name ⟨(f3H (foF p) x.ty n (if x.pub then a else b) [] s).1,x.ty,0⟩ sc) (f3H (foF p) x.ty n (if x.pub then a else b) [] s).2:=by
   rw[inC]
   simp only[hn,g4Z]
  simp only[hn,g4Z] at a1 b1
  have lm:=d4U hm
  have l8:=d4U g8
  have l9:=d4U g9
  have lf:=d4U h.hf
  have hmc:=h.map hm
  have hlt:=h.lt
  have base:∀ (nx:Nat) (st:Int),(nx=n8\/nx=n9)->sg[nx]?=some (false,[.t (.int .i64 st)])->0<=st->st+(n:Int)<=s.b.pub+s.b.sec->∀ (fr1:List PV) (Q1:Ex->S->Prop),b6S fr1 [(0,.lp c 0),(7,.mp m),(8,.lp n8 0),(9,.lp n9 0),(11,.lp sg.length 0),(12,.lp nx 0),(13,.lp (sg.length+1) 0),(17,.t (.sl nl (ds.map λd=>tDe d))),(18,.t (.int .i64 ds.length)),(19,.t (.int .i64 i)),(31,.t (.int .i64 n)),(32,.t (.int .i64 0))] ->
    (∀ fr' sg' ow' ri' hi' k,CS sg' c r ri' hi' fm p fa (f3H (foF p) x.ty n st [] s).2->sg'[nx]?=some (false,[.t (.int .i64 (st+n))])->sg'[sg.length+1]?=some (false,[.own k 1 (tLs (f3H (foF p) x.ty n st [] s).1),.t (.int .i64 x.ty.kind),.t (.int .i64 x.ty.bits),.t (.int .i64 x.ty.len),.t (.int .i64 0)])->sg'[sg.length]?=some (false,cDe x)->Mv [nx,c,r,ri,hi] [nx,c,r,ri',hi'] sg sg'->ow <+: ow'->nx ∉ [c,r,ri',hi'] ->
     b6S fr' [(0,.lp c 0),(7,.mp m),(8,.lp n8 0),(9,.lp n9 0),(11,.lp sg.length 0),(13,.lp (sg.length+1) 0),(17,.t (.sl nl (ds.map λd=>tDe d))),(18,.t (.int .i64 ds.length)),(19,.t (.int .i64 i))]->Q1 (.exit 2) ⟨fr',sg',ow'⟩) ->
    Xl F gl c3A ⟨fr1,sg++[(false,cDe x),(false,[.t (.sl true []),.t (.int .i64 x.ty.kind),.t (.int .i64 x.ty.bits),.t (.int .i64 x.ty.len),.t (.int .i64 0)])],ow⟩ Q1 ⟨⟩:=by
   intro nx st hnx hgx s0 s1 fr1 Q1 hf1 hQ1
   have lx:=d4U hgx
   have cx:nx ∉ [c,r,ri,hi]:=by rcases hnx with rfl|rfl <;> assumption
   have xf:nx≠fm:=by rcases hnx with rfl|rfl <;> assumption
   have n11:sg.length ∉ [sg.length+1,nx,c,r,ri,hi]:=λe=>by
    rcases g6H.1 e with e|e
    ·omega
    rcases g6H.1 e with e|e
    ·omega
    ·exact h.new (g6U _) e
   have nx1:nx ∉ [sg.length+1,c,r,ri,hi]:=λe=>by
    rcases g6H.1 e with e|e
    ·omega
    ·exact cx e
   have v1:sg.length+1 ∉ [nx,c,r,ri,hi]:=λe=>by
    rcases g6H.1 e with e|e
    ·omega
    ·exact h.new (by omega) e
   refine g2Z hk (d11:=sg.length) (nx:=nx) (v13:=sg.length+1) (n8:=n8) (n9:=n9) (ri0:=ri) (hi0:=hi) (n:=n) (m:=m) (sg0:=sg++[(false,cDe x),(false,[.t (.sl true []),.t (.int .i64 x.ty.kind),.t (.int .i64 x.ty.bits),.t (.int .i64 x.ty.len),.t (.int .i64 0)])]) (ow0:=ow) hxt (by omega) (by simp) n11 xf (by omega) (by simp) (by simp;omega) Q1 n 0 st [] s (.t (.sl true [])) fr1 _ ow ri hi (by omega) rfl (h.app _) hs s0 s1 nx1 v1 (b0R hgx) (by rw[g5K (by omega)];simp) (.inl ⟨rfl,rfl⟩) (λk z es e=>by cases e) (.refl _ _) (List.prefix_refl _) hf1 ?_
   intro fr' sg' ow' ri' hi' ev' x1 x2 x3 x4 x5 x6 x7 x8 x9
   obtain⟨q1,q2,q3,q4⟩:=f5B (f6I hk) hxt n st [] s hs s0 s1 (λz hz=>by cases hz)
   obtain⟨k,rfl⟩:=x6.own (λe=>by rw[e] at q3;simp at q3;omega)
   have d1:=x7.get (i:=sg.length) (v:=(false,cDe x)) (by simp) n11
   exact hQ1 fr' sg' ow' ri' hi' k x1 x4 x5 d1 (((Mv.app _ sg _).trans x7).loc (by omega)) x8 (λe=>x2 (g6I _ e)) x9
  have fin:∀ (nx:Nat) (st:Int) (a' b':Int) (k:Nat) (sg':Sg) (ow':Ow) (ri' hi':Nat) (fr2:List PV),(nx=n8/\st=a/\a'=a+n/\b'=b\/nx=n9/\st=b/\a'=a/\b'=b+n)->0<=st->st+(n:Int)<=s.b.pub+s.b.sec->a'+(e9O l true:Int)<=s.b.pub+s.b.sec->b'+(e9O l false:Int)<=s.b.pub+s.b.sec->CS sg' c r ri' hi' fm p fa (f3H (foF p) x.ty n st [] s).2->sg'[nx]?=some (false,[.t (.int .i64 (st+n))])->Mv [nx,c,r,ri,hi] [nx,c,r,ri',hi'] sg sg'->ow <+: ow'->nx ∉ [c,r,ri',hi']->inC (foF p) l a' b' (e8L x.name ⟨(f3H (foF p) x.ty n st [] s).1,x.ty,0⟩ sc) (f3H (foF p) x.ty n st [] s).2=inC (foF p) (x::l) a b sc s ->
    b6S fr2 [(0,.lp c 0),(7,.mp m),(8,.lp n8 0),(9,.lp n9 0),(17,.t (.sl nl (ds.map λd=>tDe d))),(18,.t (.int .i64 ds.length)),(19,.t (.int .i64 ((i+1:Nat):Int)))] ->
    Xl F gl c3B ⟨fr2,sg'.set m (true,iC (e8L x.name ⟨(f3H (foF p) x.ty n st [] s).1,x.ty,0⟩ sc)),ow'⟩ Q ⟨⟩:=by
   intro nx st a' b' k sg' ow' ri' hi' fr2 hcase s0 s1 sa sb hcs hgx hmv hoo cx hE hf2
   have hmx':m ∉ [nx,c,r,ri,hi]:=λe=>by
    rcases g6H.1 e with e|e
    ·rcases hcase with⟨q,_⟩|⟨q,_⟩
     ·exact h8m (by rw[<-q,<-e])
     ·exact h9m (by rw[<-q,<-e])
    ·exact hmc e
   have hm':=hmv.get hm hmx'
   have lm':=d4U hm'
   obtain⟨q1,q2,q3,q4⟩:=f5B (f6I hk) hxt n st [] s hs s0 s1 (λz hz=>by cases hz)
   have hn2:=(hsc.mono q2.vars).new hnew (s:=⟨x.ty,false,0,0⟩) (v:=⟨(f3H (foF p) x.ty n st [] s).1,x.ty,0⟩) ⟨t1,by show x.ty.len<=1100000;omega,by
    show(((f3H (foF p) x.ty n st [] s).1.length:Nat):Int)=e8S x.ty.len
    rw[q3,hn];simp,q4,f3Q hxt⟩ (λh=>by cases h)
   have o8:n8≠nx->sg'[n8]?=some (false,[.t (.int .i64 a)])/\n8 ∉ [c,r,ri',hi']:=λhne=>by
    have:n8 ∉ [nx,c,r,ri,hi]:=λe=>by
     rcases g6H.1 e with e|e
     ·exact hne e
     ·exact c8 e
    exact⟨hmv.get g8 this,λe=>hmv.cold l8 this (g6I _ e)⟩
   have o9:n9≠nx->sg'[n9]?=some (false,[.t (.int .i64 b)])/\n9 ∉ [c,r,ri',hi']:=λhne=>by
    have:n9 ∉ [nx,c,r,ri,hi]:=λe=>by
     rcases g6H.1 e with e|e
     ·exact hne e
     ·exact c9 e
    exact⟨hmv.get g9 this,λe=>hmv.cold l9 this (g6I _ e)⟩
   have hMM:Mv [n8,n9,m,c,r,ri,hi] [n8,n9,m,c,r,ri',hi'] sg sg':=by
    refine hmv.perm (λz hz=>?_) (λz hz=>?_)
    ·rcases g6H.1 hz with e|e
     ·rcases hcase with⟨q,_⟩|⟨q,_⟩
      ·simp [e,q]
      ·simp [e,q]
     ·exact g6I _ (g6I _ (g6I _ e))
    ·rcases g6H.1 hz with e|hz
     ·exact .inr (by simp [e])
     rcases g6H.1 hz with e|hz
     ·exact .inr (by simp [e])
     rcases g6H.1 hz with e|hz
     ·exact .inr (by simp [e])
     ·exact .inl (g6I _ hz)
   have gm:∀ z j,j≠m->(sg'.set m z)[j]?=sg'[j]?:=λz j hj=>g5S (Ne.symm hj)
   have F8:sg'[n8]?=some (false,[.t (.int .i64 a')])/\n8 ∉ [c,r,ri',hi']:=by
    rcases hcase with⟨q,q',q'',_⟩|⟨q,_,q'',_⟩
    ·rw[<-q,q'',<-q'];exact⟨hgx,cx⟩
    ·rw[q''];exact o8 (by rw[q];exact h89)
   have F9:sg'[n9]?=some (false,[.t (.int .i64 b')])/\n9 ∉ [c,r,ri',hi']:=by
    rcases hcase with⟨q,_,_,q''⟩|⟨q,q',_,q''⟩
    ·rw[q''];exact o9 (by rw[q];exact Ne.symm h89)
    ·rw[<-q,q'',<-q'];exact⟨hgx,cx⟩
   refine ih (i+1) (ns++[(x.name,⟨x.ty,false,0,0⟩)]) (d4B x.ty w) a' b' _ _ fr2 _ ow' ri' hi' hr (g0N hcs hfm hm' _) q1 hn2 he (by omega) (by omega) (by rw[q2.pub,q2.sec];exact sa) (by rw[q2.pub,q2.sec];exact sb) F8.2 F9.2 (by rw[gm _ _ h8m];exact F8.1) (by rw[gm _ _ h9m];exact F9.1) (by rw[g5T lm']) ((hM.trans hMM).set (.inl (by simp)) _) (hO.trans hoo) hf2 ?_
   rw[hE]
   exact k1'
  cases hpub:x.pub with
  |true =>
   rw[hpub] at hI a1 b1
   simp only[cDe,hpub] at base
   simp only[g4T,reduceCtorEq,if_true,if_false] at hI a1 b1
   refine Xl.step ?_
   simp only[c3B]
   simp only[wA,seval,f0,f7,f8,f9,f17,f18,f19,c1,hw1,hil,g4Z,g5P,hx,g7F,hpub,hmx,hf1,a1E,List.zip_cons_cons,List.zip_nil_left,wC,allT]
   refine base n8 a (.inl rfl) g8 a0 (by omega) _ _ (by simp only[wQ,seval,f0,f7,f8,f9,f17,f18,f19];first|done|exact⟨rfl,rfl⟩|rfl) ?_
   intro fr' sg' ow' ri' hi' k hcs hgx hv hd' hmv hoo hcx hf'
   simp only[b6U,b6T] at hf'
   obtain⟨d0,d7,d8,d9,d11,d13,d17,d18,d19,-⟩:=hf'
   have hm':=hmv.get hm (λe=>by
    rcases g6H.1 e with e|e
    ·exact h8m e.symm
    ·exact hmc e)
   generalize hQE:f3H (foF p) x.ty n a [] s=q at *
   have hma:mkAgg [PV.own k 1 (tLs q.1),.t (.int .i64 x.ty.kind),.t (.int .i64 x.ty.bits),.t (.int .i64 x.ty.len),.t (.int .i64 0)]=.agg [PV.own k 1 (tLs q.1),.t (.int .i64 x.ty.kind),.t (.int .i64 x.ty.bits),.t (.int .i64 x.ty.len),.t (.int .i64 0)]:=rfl
   have hcl:close (.agg [PV.own k 1 (tLs q.1),.t (.int .i64 x.ty.kind),.t (.int .i64 x.ty.bits),.t (.int .i64 x.ty.len),.t (.int .i64 0)])=some (.agg (tVc ⟨q.1,x.ty,0⟩)):=rfl
   have hmp:a0U 2 (T.str x.name) (T.agg (tVc ⟨q.1,x.ty,0⟩)) (iC sc)=iC (e8L x.name ⟨q.1,x.ty,0⟩ sc):=e9R (λv=>T.agg (tVc v)) x.name ⟨q.1,x.ty,0⟩ sc
   simp only[wA,seval,d0,d7,d8,d9,d11,d13,d17,d18,d19,hd',hv,hma,hm',a0X,d4X,iC,hcl,hmp,hw1]
   rw[<-hQE] at hcs hI ⊢
   exact fin n8 a (a+n) b k sg' ow' ri' hi' _ (.inl ⟨rfl,rfl,rfl,rfl⟩) a0 (by omega) (by omega) (by omega) hcs hgx hmv hoo hcx hI.symm (by simp only[wQ,seval,d0,d7,d8,d9,d17,d18])
  |false =>
   rw[hpub] at hI a1 b1
   simp only[cDe,hpub] at base
   simp only[g4T,reduceCtorEq,if_true,if_false] at hI a1 b1
   refine Xl.step ?_
   simp only[c3B]
   simp only[wA,seval,f0,f7,f8,f9,f17,f18,f19,c1,hw1,hil,g4Z,g5P,hx,g7F,hpub,hmx,hf1,a1E,List.zip_cons_cons,List.zip_nil_left,wC,allT]
   refine base n9 b (.inr rfl) g9 b0 (by omega) _ _ (by simp only[wQ,seval,f0,f7,f8,f9,f17,f18,f19];first|done|exact⟨rfl,rfl⟩|rfl) ?_
   intro fr' sg' ow' ri' hi' k hcs hgx hv hd' hmv hoo hcx hf'
   simp only[b6U,b6T] at hf'
   obtain⟨d0,d7,d8,d9,d11,d13,d17,d18,d19,-⟩:=hf'
   have hm':=hmv.get hm (λe=>by
    rcases g6H.1 e with e|e
    ·exact h9m e.symm
    ·exact hmc e)
   generalize hQE:f3H (foF p) x.ty n b [] s=q at *
   have hma:mkAgg [PV.own k 1 (tLs q.1),.t (.int .i64 x.ty.kind),.t (.int .i64 x.ty.bits),.t (.int .i64 x.ty.len),.t (.int .i64 0)]=.agg [PV.own k 1 (tLs q.1),.t (.int .i64 x.ty.kind),.t (.int .i64 x.ty.bits),.t (.int .i64 x.ty.len),.t (.int .i64 0)]:=rfl
   have hcl:close (.agg [PV.own k 1 (tLs q.1),.t (.int .i64 x.ty.kind),.t (.int .i64 x.ty.bits),.t (.int .i64 x.ty.len),.t (.int .i64 0)])=some (.agg (tVc ⟨q.1,x.ty,0⟩)):=rfl
   have hmp:a0U 2 (T.str x.name) (T.agg (tVc ⟨q.1,x.ty,0⟩)) (iC sc)=iC (e8L x.name ⟨q.1,x.ty,0⟩ sc):=e9R (λv=>T.agg (tVc v)) x.name ⟨q.1,x.ty,0⟩ sc
   simp only[wA,seval,d0,d7,d8,d9,d11,d13,d17,d18,d19,hd',hv,hma,hm',a0X,d4X,iC,hcl,hmp,hw1]
   rw[<-hQE] at hcs hI ⊢
   exact fin n9 b a (b+n) k sg' ow' ri' hi' _ (.inr ⟨rfl,rfl,rfl,rfl⟩) b0 (by omega) (by omega) (by omega) hcs hgx hmv hoo hcx hI.symm (by simp only[wQ,seval,d0,d7,d8,d9,d17,d18])
theorem ok58 {p:Int} (hk:e2X p=true) {fa:Fs} {sg:Sg} {c r ri hi fm:Nat} {s:Cst} (h:CS sg c r ri hi fm p fa s) (hs:CsOk s) {ds:List De} {nl:Bool} (hls:ds.length<=B20) (hty:∀ d,d∈ds->tyB d.ty=true) {w:Int} (he:(d4I ds [] w).1=0) {b:Int} (b0:0<=b) (a1:(e9O ds true:Int)<=s.b.pub+s.b.sec) (b1:b+(e9O ds false:Int)<=s.b.pub+s.b.sec) (ow:Ow) :
  CallE F gl 58 [.lp c 0,.t (.sl nl (ds.map λd=>tDe d)),.t (.int .i64 b)] sg ow λv sg' ow'=>v=.mp sg.length/\ow <+: ow'/\∃ ri' hi',CS sg' c r ri' hi' fm p fa (inC (foF p) ds 0 b [] s).2/\sg'[sg.length]?=some (true,iC (inC (foF p) ds 0 b [] s).1)/\Mv [c,r,ri,hi] [c,r,ri',hi'] sg sg':=by
 have lf:=d4U h.hf
 refine XcE.of F58 rfl ?_
 simp only[c3C]
 simp only[wA,seval,wC,g5Y]
 refine g3A hk (m:=sg.length) (n8:=sg.length+1) (n9:=sg.length+2) (ri0:=ri) (hi0:=hi) (sg0:=sg++[(true,[]),(false,[.t (.int .i64 0)]),(false,[.t (.int .i64 b)])]) (ow0:=ow) hls hty (by omega) (by omega) (by omega) (by omega) (by omega) (by omega) _ ds 0 [] w 0 b [] s _ _ _ ri hi rfl (h.app _) hs (.nil _) he (Int.le_refl _) b0 (by omega) b1 (h.new (by omega)) (h.new (by omega)) (by rw[g5K (by omega)];simp) (by rw[g5K (by omega)];simp) (by simp [iC,d4V]) (.refl _ _) (List.prefix_refl _) (by simp only[wQ,seval];first|done|exact⟨rfl,rfl⟩|rfl) ?_
 intro fr' sg' ow' ri' hi' hcs hm hM hO hf
 simp only[b6U,b6T] at hf
 obtain⟨f7,-⟩:=hf
 have hMM:Mv [c,r,ri,hi] [c,r,ri',hi'] sg sg':=((((Mv.app _ sg _).trans hM).loc (by omega)).loc (by omega)).loc (by omega)
 simp only[wA,seval,f7]
 exact⟨hO,ri',hi',hcs,hm,hMM⟩
end Go.Proofs.YtdjcnfacjfnakaaGreat

/- Contracts: the compiler. -/
namespace Go.Proofs.YtdjcnfacjfnakaaGreat
open Go.Pi Go.Lx Go.Ky Go.Lib
variable {gl:Nat->Option (List T)}
theorem PgB.g {p:Pg} (h:PgB p):PG p:=⟨h.ok,λf hf=>(h.fs f hf).2,h.bs⟩
theorem g3B {p:Pg} (hp:PgB p) (he:(d4S p).2.2=0):0<=(d4S p).1/\(d4S p).1<=63:=by
 obtain⟨s1,s2,s3⟩:=e8D hp.g
 obtain⟨t1,t2,t3,t4⟩:=s2 (s1.1 he)
 omega
def g3C (p:Pg) (n:Int):Bool:=decide ((d4S p).2.2=0)&&(e2X n&&decide (n > 2 ^ (d4S p).1.toNat))
theorem g3D {p:Pg} (hp:PgB p) (n:Int) {K:PV->Prop}:XcP F gl 14 [.agg (tPg p),.int .u64 n] K ⟨⟩↔K (.t (.bool (g3C p n))):=by
 refine Ret.iff (Ret.of F14 rfl ?_)
 simp only[c1N]
 have he2:=λK=>@ok37 gl p hp K
 have hfv:=λK=>@e2Z gl n K
 unfold g3C
 by_cases he:(d4S p).2.2=0
 ·have he':((d4S p).2.2=0)=True:=g7N he
  obtain⟨b1,b2⟩:=g3B hp he
  have hn:¬((d4S p).1 < 0):=by omega
  have hsh:=f0B b1 b2
  cases hb:e2X n with
  |false =>
   simp only[wA,seval,he2,hfv,hb,he']
   all_goals simp
  |true =>
   simp only[wA,seval,he2,hfv,hb,he',hn,hsh]
   all_goals simp
 ·have he':((d4S p).2.2=0)=False:=g7M he
  simp only[wA,seval,he2,hfv,he']
  all_goals simp
theorem g3E {ls:List Fu} {nl:Bool} (hls:ls.length<=B20) {c fm r:Nat} {p rows:Int} {full:Bool} {S2 S4 S7 S8 S9 S1:PV} {sg0:Sg} (hc0:sg0[c]?=some (cCm p r fm rows full)) (hne:c≠fm) {ow:Ow} (Q:Ex->S->Prop):∀ (l:List Fu) (i:Nat) (cur:Fs) (fr:List PV) (sg:Sg),ls.drop i=l->Mv [fm] [fm] sg0 sg->sg[fm]?=some (true,iFc cur) ->
  b6S fr [(1,S1),(2,S2),(4,S4),(7,S7),(8,S8),(9,S9),(11,.lp c 0),(53,.t (.sl nl (ls.map λf=>tFu f))),(54,.t (.int .i64 ls.length)),(55,.t (.int .i64 i))] ->
  (∀ fr' sg',Mv [fm] [fm] sg0 sg'->sg'[fm]?=some (true,iFc (e9S l cur))->b6S fr' [(1,S1),(2,S2),(4,S4),(7,S7),(8,S8),(9,S9),(11,.lp c 0)]->Q (.exit 0) ⟨fr',sg',ow⟩) ->
  Xl F gl c1S ⟨fr,sg,ow⟩ Q ⟨⟩:=by
 intro l
 induction l with
 |nil =>
  intro i cur fr sg hd hg hk hf k1
  have hd:=b6N hd
  simp only[b6U,b6T] at hf
  obtain⟨f1,f2,f4,f7,f8,f9,f11,f53,f54,f55,-⟩:=hf
  refine Xl.step ?_
  simp only[c1S]
  have c1:¬((i:Int) < (ls.length:Int)):=by omega
  rw[e9S] at k1
  simp only[wA,seval,f1,f2,f4,f7,f8,f9,f11,f53,f54,f55,c1]
  exact k1 _ _ hg hk (by simp only[wQ,seval,f1,f2,f4,f7,f8,f9,f11])
 |cons x l ih =>
  intro i cur fr sg hd hg hk hf k1
  obtain⟨hx,hr,hi⟩:=b6M hd
  simp only[b6U,b6T] at hf
  obtain⟨f1,f2,f4,f7,f8,f9,f11,f53,f54,f55,-⟩:=hf
  refine Xl.step ?_
  simp only[c1S]
  have c1:(i:Int) < (ls.length:Int):=by omega
  have hw1:=d5F hi (show ls.length<=281474976710656 by have:B20=1100000:=rfl;omega)
  rw[e9S] at k1
  have hkl:=d4U hk
  have hc1:=hg.get hc0 (by simpa using hne)
  have hcl:=d4U hc1
  have hmp:=e9R (λx=>T.agg (tFu x)) x.name x cur
  simp only[wA,seval,f1,f2,f4,f7,f8,f9,f11,f53,f54,f55,c1,hw1,g4Z,hi,g5P,hx,g7F,d5I hcl,hc1,d5I hkl,hk,a0X,d4X,iFc,hmp,wC,allT]
  refine ih (i+1) (e8L x.name x cur) _ _ hr ((hg.app2 _).set (.inl (by simp)) _) (by rw[g5T (by rw[g5W];omega)]) (by simp only[wQ,seval,f1,f2,f4,f7,f8,f9,f11,f53,f54];first|done|rfl) k1
theorem g3F (cs:List PV):cellsP (mkAgg cs)=cs:=by
 unfold mkAgg
 cases h:allT cs with
 |none=>rfl
 |some ts =>
  show ts.map PV.t=cs
  induction cs generalizing ts with
  |nil=>simp [allT] at h;subst h;rfl
  |cons a r ih =>
   cases a <;> simp only[allT,reduceCtorEq] at h
   cases hr:allT r with
   |none=>rw[hr] at h;cases h
   |some ts' =>
    rw[hr] at h
    injection h with h
    rw[<-h,g6E,ih ts' hr]
theorem g3G (sg:Sg) (cs:List PV):retSl sg (mkAgg cs)=(cs.mapM (ret1 sg)).map T.agg:=by
 unfold mkAgg
 cases h:allT cs with
 |none=>rfl
 |some ts =>
  show some (T.agg ts)=_
  have:cs.mapM (ret1 sg)=some ts:=by
    induction cs generalizing ts with
   |nil=>simp [allT] at h;subst h;rfl
   |cons a r ih =>
    cases a <;> simp only[allT,reduceCtorEq] at h
    cases hr:allT r with
    |none=>rw[hr] at h;cases h
    |some ts' =>
     rw[hr] at h
     injection h with h
     rw[g6C,ih ts' hr,<-h]
     rfl
  rw[this];rfl
def tCi (p:Int):Option Bd->T
 |none=>.agg [.int .u64 0,.int .i64 0,.int .i64 0,.sl true [],.int .i64 0,.sl true []]
 |some b=>.agg [.int .u64 p,.int .i64 b.pub,.int .i64 b.vars,.sl (decide (b.rows.length=0)) (b.rows.map tRw),.int .i64 b.sec,.sl (decide (b.hints.length=0)) (b.hints.map tHt)]
theorem g3H {α:Type} {t:α->List T} {sz:Nat} (h:∀ x,(t x).length=sz) (ha:∀ x,(t x).any T.isAgg=false) {sg:Sg} {r:Nat} {v:PV} {id:Nat} {l:List α} (hb:Bf sg r v id sz l.length (cG t l)):ret1 sg v=some (.sl (decide (l.length=0)) (l.map t)):=by
 rcases hb with⟨h0,rfl,_,_⟩|⟨h0,rfl,h1,_⟩
 ·rw[h0,List.length_eq_zero_iff.1 h0];rfl
 ·have he:a0K sg sz (.bf id l.length sz)=some (l.map t):=f5Z h ha h1
  have hn:decide (l.length=0)=false:=g7I (by omega)
  rw[hn]
  show(a0K sg sz (.bf id l.length sz)).map (T.sl false)=_
  rw[he];rfl
theorem g3I:∀ (l:List De),(∀ d,d∈l->tyB d.ty=true)->e9O l true<=64 * l.length/\e9O l false<=64 * l.length:=by
 intro l
 induction l with
 |nil=>intro _;exact⟨g6U _,g6U _⟩
 |cons d r ih =>
  intro h
  obtain⟨i1,i2⟩:=ih λx hx=>h x (by simp [hx])
  obtain⟨t1,t2⟩:=e9J (h d (by simp))
  have hm2:1<=e8S d.ty.len/\e8S d.ty.len<=64:=by unfold e8S;split <;> omega
  rw[e9O,e9O,g5X]
  constructor <;> split <;> omega
set_option maxHeartbeats 1000000 in
theorem g3J {q:Pg} (hp:PgB q) (k:Int) {K:PV->Prop}:XcP F gl 24 [.agg (tPg q),.int .u64 k] K ⟨⟩↔K (.tup [.t (tCi k (Ky.compC (foF k) q (e2X k)).1),.t (.int .i64 (Ky.compC (foF k) q (e2X k)).2)]):=by
 refine Ret.iff (Ret.of F24 rfl ?_)
 simp only[c1T]
 have hex:=λK=>@ok32 gl q hp K
 have hft:=λK=>@g3D gl q hp k K
 have hin:=λK=>@ok13 gl q hp K
 have hpk:(foF k).p=k:=rfl
 have hnone:tCi k none=.agg [.int .u64 0,.int .i64 0,.int .i64 0,.sl true [],.int .i64 0,.sl true []]:=rfl
 unfold Ky.compC
 rw[hpk]
 by_cases c0:(d4S q).2.2=0
 ·have c0':((d4S q).2.2=0)=True:=g7N c0
  rw[if_neg (by simpa using c0)]
  unfold g3C at hft
  by_cases c1:e2X k=true/\k > 2 ^ (d4S q).1.toNat
  ·rw[if_neg (by simpa using c1)]
   obtain⟨e2,e3⟩:=c1
   have e2':decide (k > 2 ^ (d4S q).1.toNat)=true:=g7K e3
   simp only[c0,decide_true,e2,e2',Bool.and_self] at hft
   obtain⟨v0,v2,v3⟩:=exam_ok.1 c0
   obtain⟨g1,g2,g3⟩:=prog_ok.1 v2
   obtain⟨w1,w2,w3,w4,w5⟩:=valid_zero.1 v0
   have hdt:∀ d,d∈q.decls->tyB d.ty=true:=λd hd=>by
    have:=g5A.1 w2 d hd
    unfold deB at this
    simp only[g4S] at this
    exact this.2
   have hfu:∀ f,f∈q.funcs->FuOk f/\fuB f=true/\f.params.length<=B20/\d2G f.body<=B20/\szE f.ret<=B20:=λf hf=>⟨hp.ok.fo f hf,g5A.1 w1 f hf,hp.fs f hf⟩
   have hΨ:=f5A (f6I e2) q.funcs fc0 [] 0 .nil (λf hf=>⟨(hfu f hf).1,(hfu f hf).2.1,(hfu f hf).2.2.2⟩) g1
   have hR:=g0U (gl:=gl) e2 (fa:=(d4H q.funcs [] 0).2.1) q.funcs fc0 [] 0 .nil g0V hfu g1 (λ_ _ h=>h)
   have hB20:B20=1100000:=rfl
   have hsum:=e9Q q.decls 0 0 hdt (Int.le_refl _) (Int.le_refl _) (by have:=hp.dl;omega) (by have:=hp.dl;omega)
   have hinp:d7W q=d7V q.decls 0 0:=by unfold d7W;rw[if_neg (by simpa using c0)]
   have hi1:(d7W q).1=(e9O q.decls true:Int):=by rw[hinp,hsum];simp
   have hi2:(d7W q).2=(e9O q.decls false:Int):=by rw[hinp,hsum];simp
   have hdl:=hp.dl
   have hs1:=g3I q.decls hdt
   generalize hpu:(d7W q).1=pu at *
   generalize hse:(d7W q).2=se at *
   have hw:IntKind.i64.wrap (pu+se)=pu+se:=IntWalk.i64_in _ (by omega)
   by_cases c2:pu+se>=65536
   ·rw[if_pos c2]
    simp only[wA,seval,hex,hft,hin,c0',hw,c2,wC,allT,hnone,d5E (show 6 < 1000 by decide)]
   ·rw[if_neg c2]
    have p0:0<=pu:=by omega
    have s0:0<=se:=by omega
    simp only[wA,seval,hex,hft,hin,c0',hw,c2]
    refine CallE.mono (ok56 e2 p0 s0 (by omega) _ _) ?_
    rintro y sg1 ow1 ⟨rfl,rfl,hb1,hg1⟩
    have j01:=hg1.get (i:=0) (x:=(false,[PV.t (.sl q.fnl (q.funcs.map λf=>tFu f)),.t (.sl q.dnl (q.decls.map λd=>tDe d)),.t (.sl q.bnl (d1M q.body))])) rfl
    have j11:=hg1.get (i:=1) (x:=(false,[PV.t (.int .u64 0),.t (.int .i64 0),.t (.int .i64 0),.t (.sl true []),.t (.int .i64 0),.t (.sl true [])])) rfl
    have lg1:=hg1.len
    have l0:=d4U j01
    simp only[g5X,g5Z] at hb1 lg1
    obtain⟨lr,_,_⟩:=hb1.lt
    simp only[wA,seval,d5I l0,j01,wC,g5Y,allT]
    refine g3E (c:=sg1.length+1) (fm:=sg1.length) (r:=4) (p:=k) (rows:=0) (full:=false) (S1:=.t (.int .u64 k)) (S2:=.lp 0 0) (S4:=.lp 1 0) (S7:=.t (.int .i64 pu)) (S8:=.t (.int .i64 se)) (S9:=.lp 4 0) (sg0:=sg1++[(true,[]),cCm k 4 sg1.length 0 false]) hp.fl (by rw[g5K (by omega)];simp) (by omega) _ q.funcs 0 [] _ _ rfl (.refl _ _) (by simp [iFc,d4V]) (by simp only[wQ,seval];first|done|exact⟨rfl,rfl⟩|rfl) ?_
    intro fr2 sg2 hM2 hf2 hfr2
    simp only[b6U,b6T] at hfr2
    obtain⟨f1,f2,f4,f7,f8,f9,f11,-⟩:=hfr2
    rw[e9U _ _ _ g1] at hf2
    have nf:∀ i,i≠sg1.length->i ∉ [sg1.length]:=λi hi=>by simpa using hi
    have j02:=hM2.get (b0R j01) (nf _ (by omega))
    have j12:=hM2.get (b0R j11) (nf _ (by have:=d4U j11;omega))
    have hcc:=hM2.get (i:=sg1.length+1) (v:=cCm k 4 sg1.length 0 false) (by rw[g5K (by omega)];simp) (nf _ (by omega))
    have hcs:CS sg2 (sg1.length+1) 4 4 4 sg1.length k (d4H q.funcs [] 0).2.1 ⟨f3I pu se,0,false⟩:=⟨hcc,hf2,(hb1.app _).mv hM2 (nf _ (by omega)) (nf _ (by omega)) (nf _ (by omega)),by simp;omega,by simp;omega⟩
    have hs0:CsOk ⟨f3I pu se,0,false⟩:=⟨⟨p0,s0,by show pu+se<=65535;omega,by show 1+pu+se=1+pu+se+((0:Nat):Int);omega⟩,Int.le_refl 0,Int.le_refl 0,(by decide:(0:Int)<=16384),g6U 0⟩
    have f8G:=λow=>ok58 (gl:=gl) e2 hcs hs0 (nl:=q.dnl) hp.dl hdt g2 (b:=pu) p0 (by show(e9O q.decls true:Int)<=pu+se;omega) (by show pu+(e9O q.decls false:Int)<=pu+se;omega) ow
    obtain⟨hs1',hle1',hsc1⟩:=f5C (f6I e2) q.decls 0 pu [] [] ⟨f3I pu se,0,false⟩ (d4H q.funcs [] 0).2.2 hdt hs0 (.nil _) g2 (Int.le_refl _) p0 (by show 0+(e9O q.decls true:Int)<=pu+se;omega) (by show pu+(e9O q.decls false:Int)<=pu+se;omega)
    have hrun:runC (foF k) q pu se=(f3C (foF k) (f3G (foF k) q.funcs fc0) q.body (inC (foF k) q.decls 0 pu [] ⟨f3I pu se,0,false⟩).1 (inC (foF k) q.decls 0 pu [] ⟨f3I pu se,0,false⟩).2).2:=rfl
    have hst:∀ x,x∈q.body->StOk x/\stB x=true/\szS x<=B20:=λx hx=>⟨hp.ok.bo x hx,g5A.1 w3 x hx,g6V (d2M hx) hp.bs⟩
    have hbl:q.body.length<=B20:=g6V (d2O _) hp.bs
    have hso:=f4S (Φ:=foF k) (Ψ:=f3G (foF k) q.funcs fc0) (fs:=(d4H q.funcs [] 0).2.1) q.body (λx hx=>f4V (f6I e2) hΨ x (hst x hx).1 (hst x hx).2.2 (hst x hx).2.1) _ _ _ _ hs1' (.inr hsc1) g3
    rw[hrun]
    have c0h:0 ∉ [sg1.length+1,4,4,4]:=by simp
    have c1h:1 ∉ [sg1.length+1,4,4,4]:=λe=>by
     simp only[g6H,g6N,or_false] at e
     omega
    generalize inC (foF k) q.decls 0 pu [] ⟨f3I pu se,0,false⟩=qi at *
    obtain⟨sci,si⟩:=qi
    simp only at f8G hs1' hle1' hsc1 hso ⊢
    simp only[wA,seval,f1,f2,f4,f7,f8,f9,f11,j02,a1C,lenS,d5Q,d5P,d5O,d5L]
    refine CallE.mono (f8G _) ?_
    rintro y sg3 ow3 ⟨rfl,o3,ri3,hi3,hcs3,hm3,hM3⟩
    have j03:=hM3.get j02 c0h
    have j13:=hM3.get j12 c1h
    have c0h3:=hM3.cold (d4U j02) c0h
    have c1h3:=hM3.cold (d4U j12) c1h
    have hex3:=λow=>g0R (gl:=gl) (nl:=q.bnl) e2 hΨ hR hbl hst _ _ sg3 (sg1.length+1) 4 ri3 hi3 sg1.length sg2.length si sci ow hcs3 hs1' (by have:=d4U hf2;omega) hm3 (.inr hsc1) g3
    simp only[wA,seval,f1,f2,f4,f7,f8,f9,f11,j02,j03,a1C,lenS,d5Q,d5P,d5O,d5L]
    refine CallE.mono (hex3 _) ?_
    rintro y sg4 ow4 ⟨o4,ri4,hi4,hcs4,hm4,hM4⟩
    have c0h3':0 ∉ [sg2.length,sg1.length+1,4,ri3,hi3]:=λe=>by
     rcases g6H.1 e with e|e
     ·have:=d4U j02;omega
     ·exact c0h3 e
    have c1h3':1 ∉ [sg2.length,sg1.length+1,4,ri3,hi3]:=λe=>by
     rcases g6H.1 e with e|e
     ·have:=d4U j12;omega
     ·exact c1h3 e
    have j04:=hM4.get j03 c0h3'
    have j14:=hM4.get j13 c1h3'
    have hc4:=hcs4.hc
    have hcsR:=hso.cs
    generalize f3C (foF k) (f3G (foF k) q.funcs fc0) q.body sci si=R at *
    obtain⟨sc4,s4⟩:=R
    simp only at hcs4 hc4 hcsR ⊢
    cases hfu:s4.full with
    |true =>
     rw[hfu] at hc4
     rw[if_pos rfl]
     simp only[wA,seval,f1,f2,f4,f7,f8,f9,f11,j03,j04,d5Q,d5P,d5O,d5L,hc4,j14,d4T j14,wC,allT,hnone,d5E (show 6 < 1000 by decide)]
    |false =>
     rw[hfu] at hc4
     rw[if_neg (by simp)]
     have hhl:s4.b.hints.length<=1000000:=by have:=hcsR.hs;have:=hcsR.rows;have:=hcsR.le;omega
     simp only[wA,seval,f1,f2,f4,f7,f8,f9,f11,j03,j04,d5Q,d5P,d5O,d5L,hc4]
     refine CallE.mono (ok59 hcs4.hb (hcsR.rm (by decide)) hhl ow4) ?_
     rintro v sg5 ow5 ⟨⟨rv,hv,ri5,hi5,hv5,hB1,hB2,hone,hr5,hh5⟩,hM5⟩
     have j15:=hM5.get j14 (by simp)
     have l15:=d4U j15
     have hcel:cellsP v=[.t (.int .u64 k),.t (.int .i64 s4.b.pub),.t (.int .i64 s4.b.vars),rv,.t (.int .i64 s4.b.sec),hv]:=by rw[hv5,g3F]
     have hmk:mkAgg [.t (.int .u64 k),.t (.int .i64 s4.b.pub),.t (.int .i64 s4.b.vars),rv,.t (.int .i64 s4.b.sec),hv]=v:=hv5.symm
     have hor:Pi.one rv=true:=by rcases hB1 with⟨_,rfl,_⟩|⟨_,rfl,_⟩ <;> rfl
     have hov:Pi.one hv=true:=by rcases hB2 with⟨_,rfl,_⟩|⟨_,rfl,_⟩ <;> rfl
     have hlen:=hB1.len
     by_cases cr:(s4.b.rows.length:Int) > 16384\/s4.b.vars > 65536
     ·rw[if_pos cr]
      have cr':(16384:Int) < (s4.b.rows.length:Int)\/(¬(16384:Int) < (s4.b.rows.length:Int)/\(65536:Int) < s4.b.vars):=by omega
      rcases cr' with cr'|⟨cr',cv⟩
      ·simp only[wA,seval,f1,f2,f4,f7,f8,f9,f11,hcel,hor,hov,hlen,cr',d5I l15,j15,d4T (b0R j15),wC,allT,hnone,d5E (show 6 < 1000 by decide)]
      ·simp only[wA,seval,f1,f2,f4,f7,f8,f9,f11,hcel,hor,hov,hlen,cr',cv,d5I l15,j15,d4T (b0R j15),wC,allT,hnone,d5E (show 6 < 1000 by decide)]
     ·rw[if_neg cr]
      have cr':¬(16384:Int) < (s4.b.rows.length:Int):=by omega
      have cv:¬(65536:Int) < s4.b.vars:=by omega
      simp only[wA,seval] at hmk
      have hj2:∀ (y:Bool×List PV) (t:Sg),(sg5.set 1 y++t)[1]?=some y:=λy t=>by rw[g5J (by rw[g6A];exact l15),g5T l15]
      have l14:=d4U j14
      have hgo:∀ (y:Bool×List PV) (t:Sg) (id:Nat),id≠1->id < sg5.length->(sg5.set 1 y++t)[id]?=sg5[id]?:=λy t id h1 h2=>by rw[g5J (by rw[g6A];exact h2),g5S (Ne.symm h1)]
      have hrs:∀ (y:Bool×List PV) (t:Sg),retSl (sg5.set 1 y++t) v=some (tCi k (some s4.b)):=λy t=>by
       have b1:=g3H f8N f8P (hB1.get (sg':=sg5.set 1 y++t) λhn hl=>hgo y t _ (by omega) hl)
       have b2:=g3H f8O f8Q (hB2.get (sg':=sg5.set 1 y++t) λhn hl=>hgo y t _ (by omega) hl)
       rw[hv5,g3G]
       simp only[g6C,List.mapM_nil,b1,b2]
       rfl
      have hrt:∀ (sg:Sg) (n:Int),retSl sg (.t (.int .i64 n))=some (.int .i64 n):=λ_ _=>rfl
      have hj:=λz y=>d4T (y:=y) (b0R (r:=[z]) j15)
      simp only[wA,seval,f1,f2,f4,f7,f8,f9,f11,hcel,hor,hov,hlen,hmk,cr',cv,d5I l15,j15,hj,hj2,d5J l15,wC,hrs,hrt,d5E (show 6 < 1000 by decide)]
  ·rw[if_pos (by simpa using c1)]
   have e3:(decide ((d4S q).2.2=0)&&(e2X k&&decide (k > 2 ^ (d4S q).1.toNat)))=false:=by
    cases hk:e2X k with
    |false=>simp
    |true =>
     have:¬k > 2 ^ (d4S q).1.toNat:=λh=>c1 ⟨hk,h⟩
     rw[g7I this];simp
   rw[e3] at hft
   simp only[wA,seval,hex,hft,c0',wC,allT,hnone,d5E (show 6 < 1000 by decide)]
 ·have c0':((d4S q).2.2=0)=False:=g7M c0
  rw[if_pos c0]
  simp only[wA,seval,hex,c0',wC,allT,hnone,d5E (show 6 < 1000 by decide)]
end Go.Proofs.YtdjcnfacjfnakaaGreat

/- Contracts: the examples of the laws of the compiler. -/
namespace Go.Proofs.YtdjcnfacjfnakaaGreat
open Go.Pi Go.Lx Go.Ky Go.Lib
variable {gl:Nat->Option (List T)}
abbrev nmE (n:Nm):Exp:=.mk 2 0 n true []
def g3K:Pg:=⟨true,[],false,[⟨true,[120],⟨1,0,0⟩⟩,⟨false,[121],⟨2,0,0⟩⟩],false,[.mk 2 [] false zTy (.mk 14 0 [] false [nmE [120],nmE [121]]) 0 0 true []]⟩
def g3L:Pg:=⟨true,[],true,[],false,[.mk 2 [] false zTy (.mk 3 0 [] true []) 0 0 true []]⟩
theorem g3M:PgB g3K:=by
 refine⟨d8H (p:=g3K) rfl (by decide +kernel) (by decide +kernel) (by decide) (by decide) (λh=>by cases h) (λh=>by cases h),by decide,by decide,λf hf=>(by cases hf),by decide +kernel⟩
theorem g3N:PgB g3L:=by
 refine⟨d8H (p:=g3L) rfl (by decide +kernel) (by decide +kernel) (by decide) (by decide) (λ_=>rfl) (λh=>by cases h),by decide,by decide,λf hf=>(by cases hf),by decide +kernel⟩
theorem g3O:((Ky.compC (foF 17) g3K (e2X 17)).1.map λb=>(b.rows.length,b.hints.length,b.pub,b.sec,b.vars))=some (5,2,1,1,5)/\(Ky.compC (foF 17) g3K (e2X 17)).2=0:=by decide +kernel
theorem g3P:((Ky.compC (foF 17) g3L (e2X 17)).1.map λb=>b.rows.map λr=>(r.a.ts.length,r.b.ts.length,r.c.ts.length))=some [(0,1,0)]/\(Ky.compC (foF 17) g3L (e2X 17)).2=0:=by decide +kernel
theorem g3Q:∃ b,Ky.compC (foF 17) g3K (e2X 17)=(some b,0)/\b.rows.length=5/\b.hints.length=2/\b.pub=1/\b.sec=1/\b.vars=5:=by
 obtain⟨h1,h2⟩:=g3O
 cases h:Ky.compC (foF 17) g3K (e2X 17) with
 |mk x y =>
  rw[h] at h1 h2
  cases x with
  |none=>cases h1
  |some b =>
   simp only[g7F,g7G,Prod.mk.injEq] at h1
   exact⟨b,by rw[show y=0 from h2],h1⟩
theorem g3R:∃ b r,Ky.compC (foF 17) g3L (e2X 17)=(some b,0)/\b.rows=[r]/\r.a.ts.length=0/\r.b.ts.length=1/\r.c.ts.length=0:=by
 obtain⟨h1,h2⟩:=g3P
 cases h:Ky.compC (foF 17) g3L (e2X 17) with
 |mk x y =>
  rw[h] at h1 h2
  cases x with
  |none=>cases h1
  |some b =>
   simp only[g7F,g7G] at h1
   cases hb:b.rows with
   |nil=>rw[hb] at h1;cases h1
   |cons r l =>
    rw[hb] at h1
    cases l with
    |nil =>
     simp only[g6E,g6F,g5D,Prod.mk.injEq,and_true] at h1
     exact⟨b,r,by rw[show y=0 from h2],hb,h1⟩
    |cons r2 l2=>simp at h1
theorem ok54 (s:Nm) (sg:Sg) (ow:Ow):RetE F gl 54 [.t (.str s)] sg ow (.t (.agg [.int .i64 2,.int .u64 0,.str s,.sl true []])) (sg++[(false,[.t (.int .i64 2),.t (.int .u64 0),.t (.str s),.t (.sl true [])])]) ow:=by
 refine RetE.of F54 rfl ?_
 simp only[c2U]
 simp only[wA,seval]
 all_goals (try exact⟨rfl,rfl,rfl⟩)
theorem g3S {K:PV->Prop}:XcP F gl 22 [] K ⟨⟩↔K (.t (.bool true)):=by
 refine Ret.iff (Ret.of F22 rfl ?_)
 simp only[c1P]
 obtain⟨b1,e1,r1,r2,r3,r4,r5⟩:=g3Q
 obtain⟨b2,w,e2,q1,q2,q3,q4⟩:=g3R
 have h1:=λK=>g3J (gl:=gl) g3M 17 (K:=K)
 have h2:=λK=>g3J (gl:=gl) g3N 17 (K:=K)
 rw[e1] at h1
 rw[e2] at h2
 replace h1:=λK=>(show XcP F gl 24 [.agg [.sl true [],.sl false [[.bool true,.str [120],.int .i64 1,.int .i64 0,.int .i64 0],[.bool false,.str [121],.int .i64 2,.int .i64 0,.int .i64 0]],.sl false [[.int .i64 2,.str [],.bool false,.int .i64 0,.int .i64 0,.int .i64 0,.int .i64 14,.int .u64 0,.str [],.sl false [[.int .i64 2,.int .u64 0,.str [120],.sl true []],[.int .i64 2,.int .u64 0,.str [121],.sl true []]],.int .i64 0,.int .i64 0,.sl true []]]],.int .u64 17] K ⟨⟩↔K (.tup [.t (.agg [.int .u64 17,.int .i64 b1.pub,.int .i64 b1.vars,.sl (decide (b1.rows.length=0)) (b1.rows.map tRw),.int .i64 b1.sec,.sl (decide (b1.hints.length=0)) (b1.hints.map tHt)]),.t (.int .i64 0)]) from h1 K)
 replace h2:=λK=>(show XcP F gl 24 [.agg [.sl true [],.sl true [],.sl false [[.int .i64 2,.str [],.bool false,.int .i64 0,.int .i64 0,.int .i64 0,.int .i64 3,.int .u64 0,.str [],.sl true [],.int .i64 0,.int .i64 0,.sl true []]]],.int .u64 17] K ⟨⟩↔K (.tup [.t (.agg [.int .u64 17,.int .i64 b2.pub,.int .i64 b2.vars,.sl (decide (b2.rows.length=0)) (b2.rows.map tRw),.int .i64 b2.sec,.sl (decide (b2.hints.length=0)) (b2.hints.map tHt)]),.t (.int .i64 0)]) from h2 K)
 rw[q1] at h2
 have g1:(tTs w.a.ts).length=0:=by rw[f5D,q2]
 have g2:(tTs w.b.ts).length=1:=by rw[f5D,q3]
 have g3:(tTs w.c.ts).length=0:=by rw[f5D,q4]
 simp only[r1,r2,r3,r4,r5,g5X,g5Z,g6E,g6F,tLi] at h1 h2
 have hn:=λs sg ow K=>RetE.iff (K:=K) (ok54 (gl:=gl) s sg ow)
 simp only[wA,seval,h1,h2,hn,List.cons_append,List.nil_append,r1,r2,g1,g2,g3,b4J,a0C,a0L,T.isAgg,List.replicate,g5H,g5I,g5C,g5Y]
 all_goals (try rfl)
end Go.Proofs.YtdjcnfacjfnakaaGreat

/- Contracts: rounds of loops; the law of the compiler's errors, argument by argument. -/
namespace Go.Proofs.YtdjcnfacjfnakaaGreat
open Go.Pi Go.Lx Go.Ky Go.Lib
variable {gl:Nat->Option (List T)}
theorem PgB.q {p:Pg} (h:PgB p):PgQ p:=⟨h.ok,h.fl,h.dl,h.fs,h.bs⟩
theorem g3T {p:Pg} (hp:PgB p) (n:Int) {K:PV->Prop}:XcP F gl 15 [.agg (tPg p),.int .u64 n] K ⟨⟩↔K (.t (.bool (g3C p n))):=by
 refine Ret.iff (Ret.of F15 rfl ?_)
 simp only[c1O]
 have he2:=λK=>@g2Y gl p hp.q K
 have hfv:=λK=>@ok48 gl n K
 obtain⟨s1,s2,s3⟩:=e8D hp.g
 unfold g3C
 by_cases he:(e5E p).err=0
 ·have he':((e5E p).err=0)=True:=g7N he
  obtain⟨t1,t2,t3,t4⟩:=s2 he
  obtain⟨b1,b2⟩:=g3B hp (s1.2 he)
  have hn:¬((e5E p).bits < 0):=by omega
  have hw:IntKind.wrap .u64 (e5E p).bits=(e5E p).bits:=by rw[e5K];omega
  have hsh:=f0B b1 b2
  rw[t1] at hsh
  rw[t1,g7K (s1.2 he)]
  cases hb:e2X n with
  |false =>
   simp only[wA,seval,he2,hfv,hb,he']
   all_goals simp
  |true =>
   simp only[wA,seval,he2,hfv,hb,he',hw,hn,hsh]
   all_goals simp
 ·have he':((e5E p).err=0)=False:=g7M he
  rw[g7I (λh=>he (s1.1 h))]
  simp only[wA,seval,he2,hfv,he']
  all_goals simp
theorem g3U (x:Int):mxT false (.t (.int .i64 x)) (.t (.int .i64 1000000))=some (.int .i64 (mn6 x)):=rfl
theorem g3V {ls:List St} {nl:Bool} (hls:ls.length<=B20) (hrec:∀ s,s∈ls->∀ (nl:Bool) (K:PV->Prop),XcP F gl 55 [.sl nl (d1M s.body)] K ⟨⟩↔K (.t (.int .i64 (rdM s.body 0)))) {sg:Sg} {ow:Ow} (Q:Ex->S->Prop):∀ (l:List St) (i:Nat) (n:Int) (fr:List PV),ls.drop i=l ->
  b6S fr [(0,.t (.sl nl (d1M ls))),(3,.t (.int .i64 n)),(4,.t (.int .i64 i))] ->
  (∀ fr',a0A fr' 3=.t (.int .i64 (rdM l n))->Q (.exit 0) ⟨fr',sg,ow⟩) ->
  Xl F gl c2V ⟨fr,sg,ow⟩ Q ⟨⟩:=by
 intro l
 induction l with
 |nil =>
  intro i n fr hd hf k1
  have hd:=b6N hd
  simp only[b6U,b6T] at hf
  obtain⟨f0,f3,f4,-⟩:=hf
  refine Xl.step ?_
  simp only[c2V]
  have c1:¬((i:Int) < (ls.length:Int)):=by omega
  rw[rdM] at k1
  simp only[wA,seval,f0,f3,f4,c1,d1P]
  exact k1 _ (by simp only[wQ,seval,f3])
 |cons x l ih =>
  intro i n fr hd hf k1
  obtain⟨hx,hr,hi⟩:=b6M hd
  simp only[b6U,b6T] at hf
  obtain⟨f0,f3,f4,-⟩:=hf
  refine Xl.step ?_
  simp only[c2V]
  have c1:(i:Int) < (ls.length:Int):=by omega
  have hw1:=d5F hi (show ls.length<=281474976710656 by have:B20=1100000:=rfl;omega)
  have hm:=g6K hx
  have hq:=λnl K=>hrec x hm nl K
  rw[f0D,f0C] at k1
  by_cases h3:x.kind=3
  ·by_cases hlh:x.hi<=x.lo
   ·rw[if_pos (.inr hlh)] at k1
    simp only[wA,seval,f0,f3,f4,c1,hw1,d1P,g4Z,hi,d1Q,hx,g7F,d1O,h3,hlh]
    exact ih (i+1) n _ hr (by simp only[wQ,seval,f0,f3];first|done|rfl) k1
   ·rw[if_neg (by rintro(h|h);exact h h3;exact hlh h)] at k1
    unfold tmV at k1
    by_cases ct:1000000 < IntKind.u64.wrap (IntKind.u64.wrap x.hi - IntKind.u64.wrap x.lo)
    ·rw[if_pos ct] at k1
     simp only[wA,seval,f0,f3,f4,c1,hw1,d1P,g4Z,hi,d1Q,hx,g7F,d1O,h3,hlh,ct,hq,g3U]
     exact ih (i+1) _ _ hr (by simp only[wQ,seval,f0,f3];first|done|rfl) k1
    ·rw[if_neg ct] at k1
     simp only[wA,seval,f0,f3,f4,c1,hw1,d1P,g4Z,hi,d1Q,hx,g7F,d1O,h3,hlh,ct,hq,g3U]
     exact ih (i+1) _ _ hr (by simp only[wQ,seval,f0,f3];first|done|rfl) k1
  ·rw[if_pos (.inl h3)] at k1
   simp only[wA,seval,f0,f3,f4,c1,hw1,d1P,g4Z,hi,d1Q,hx,g7F,d1O,h3]
   exact ih (i+1) n _ hr (by simp only[wQ,seval,f0,f3];first|done|rfl) k1
theorem g3W {ls:List St} (hls:ls.length<=B20) (hrec:∀ s,s∈ls->∀ (nl:Bool) (K:PV->Prop),XcP F gl 55 [.sl nl (d1M s.body)] K ⟨⟩↔K (.t (.int .i64 (rdM s.body 0)))) (nl:Bool) (K:PV->Prop):XcP F gl 55 [.sl nl (d1M ls)] K ⟨⟩↔K (.t (.int .i64 (rdM ls 0))):=by
 refine Ret.iff (Ret.of F55 rfl ?_)
 simp only[c2W]
 simp only[wA,seval]
 refine g3V (nl:=nl) hls hrec _ ls 0 0 _ rfl (by simp only[wQ,seval];first|done|exact⟨rfl,rfl⟩|rfl) ?_
 intro fr' f3
 simp only[wA,seval,f3]
theorem g3X:∀ s,szS s<=B20->∀ (nl:Bool) (K:PV->Prop),XcP F gl 55 [.sl nl (d1M s.body)] K ⟨⟩↔K (.t (.int .i64 (rdM s.body 0))):=by
 refine St.ind λs ih hsz=>?_
 have hb:=d6L hsz
 exact g3W hb.1 (λx hx=>ih x hx (hb.2 x hx))
theorem ok55 {ls:List St} (h:d2G ls<=B20) (nl:Bool) {K:PV->Prop}:XcP F gl 55 [.sl nl (d1M ls)] K ⟨⟩↔K (.t (.int .i64 (rdM ls 0))) :=
 g3W (g6V (d2O _) h) (λx hx=>g3X x (g6V (d2M hx) h)) nl K
theorem g3Y {p:Pg} (hp:PgB p) {sg:Sg} (h0:sg[0]?=some (false,[PV.t (.sl p.fnl (p.funcs.map λf=>tFu f)),.t (.sl p.dnl (p.decls.map λd=>tDe d)),.t (.sl p.bnl (d1M p.body))])) {ow:Ow} (Q:Ex->S->Prop):∀ (l:List Fu) (i:Nat) (n:Int) (fr:List PV),p.funcs.drop i=l ->
  b6S fr [(1,.lp 0 0),(3,.t (.int .i64 n)),(4,.t (.int .i64 i))] ->
  (∀ fr',a0A fr' 3=.t (.int .i64 (rdG l n))->Q (.exit 0) ⟨fr',sg,ow⟩) ->
  Xl F gl c1Q ⟨fr,sg,ow⟩ Q ⟨⟩:=by
 intro l
 induction l with
 |nil =>
  intro i n fr hd hf k1
  have hd:=b6N hd
  simp only[b6U,b6T] at hf
  obtain⟨f1,f3,f4,-⟩:=hf
  refine Xl.step ?_
  simp only[c1Q]
  have c1:¬((i:Int) < (p.funcs.length:Int)):=by omega
  rw[rdG] at k1
  simp only[wA,seval,f1,f3,f4,c1,h0,g5Y]
  exact k1 _ (by simp only[wQ,seval,f3])
 |cons x l ih =>
  intro i n fr hd hf k1
  obtain⟨hx,hr,hi⟩:=b6M hd
  simp only[b6U,b6T] at hf
  obtain⟨f1,f3,f4,-⟩:=hf
  refine Xl.step ?_
  simp only[c1Q]
  have c1:(i:Int) < (p.funcs.length:Int):=by omega
  have hw1:=d5F hi (show p.funcs.length<=281474976710656 by have:B20=1100000:=rfl;have:=hp.fl;omega)
  have hq:=λK=>ok55 (gl:=gl) (hp.fs x (g6K hx)).2.1 x.bnl (K:=K)
  have hmx:∀ y:Int,mxT true (.t (.int .i64 n)) (.t (.int .i64 y))=some (.int .i64 (if y > n then y else n)):=λy=>rfl
  rw[rdG] at k1
  simp only[wA,seval,f1,f3,f4,c1,h0,hw1,g5Y,g4Z,hi,g5P,hx,g7F,hq,hmx]
  exact ih (i+1) _ _ hr (by simp only[wQ,seval,f1];first|done|rfl) k1
theorem ok23 {p:Pg} (hp:PgB p) {K:PV->Prop}:XcP F gl 23 [.agg (tPg p)] K ⟨⟩↔K (.t (.int .i64 (rdP p))):=by
 refine Ret.iff (Ret.of F23 rfl ?_)
 simp only[c1R]
 have hq:=λK=>ok55 (gl:=gl) hp.bs p.bnl (K:=K)
 simp only[wA,seval,hq]
 refine g3Y hp rfl _ p.funcs 0 _ _ rfl (by simp only[wQ,seval];first|done|exact⟨rfl,rfl⟩|rfl) ?_
 intro fr' f3
 simp only[wA,seval,f3,rdP]
theorem ok25 {p:Pg} (hp:PgB p) {K:PV->Prop}:XcP F gl 25 [.agg (tPg p)] K ⟨⟩↔K (.t (.int .i64 (e5E p).err)):=by
 refine Ret.iff (Ret.of F25 rfl ?_)
 simp only[c1U]
 have h2:=λK=>@g2Y gl p hp.q K
 simp only[wA,seval,h2]
theorem g3Z (k:Int) (x:Option Bd):∃ a b c d1 d2 e f1 f2,tCi k x=.agg [.int .u64 a,.int .i64 b,.int .i64 c,.sl d1 d2,.int .i64 e,.sl f1 f2]:=by
 cases x with
 |none=>exact⟨_,_,_,_,_,_,_,_,rfl⟩
 |some b=>exact⟨_,_,_,_,_,_,_,_,rfl⟩
theorem law7 {p:Pg} (hp:PgB p) (k:Int):Ret F gl 7 [.agg (tPg p),.int .u64 k] (.t (.bool true)):=by
 refine Ret.of F7 rfl ?_
 simp only[ir7]
 have h1:=λK=>@ok10 gl p hp K
 have h2:=λK=>@g2Y gl p hp.q K
 have h3:=λK=>@ok23 gl p hp K
 have h4:=λK=>g3J (gl:=gl) hp k (K:=K)
 have h5:=λK=>@ok25 gl p hp K
 have h6:=λK=>@g3T gl p hp k K
 cases c1:d7U p with
 |false =>
  rw[c1] at h1
  simp only[wA,seval,h1,g3S]
 |true =>
  rw[c1] at h1
  by_cases c2:(e5E p).steps > 300
  ·simp only[wA,seval,h1,h2,c2,g3S]
  by_cases c3:rdP p > 1000
  ·simp only[wA,seval,h1,h2,h3,c2,c3,g3S]
  have hx:=e8I hp.g
  obtain⟨a,b,c,d1,d2,e,f1,f2,h7⟩:=g3Z k (Ky.compC (foF k) p (e2X k)).1
  rw[h7] at h4
  by_cases c4:(e5E p).err=0
  ·have c4':((e5E p).err=0)=True:=g7N c4
   cases c5:g3C p k with
   |false =>
    rw[c5] at h6
    have c7:(Ky.compC (foF k) p (e2X k)).2=7:=by
     unfold g3C at c5
     rw[hx,g7K c4,g4X] at c5
     unfold Ky.compC
     rw[if_neg (by rw[hx];simpa using c4),if_pos]
     rintro⟨x,y⟩
     rw[x,g4X] at c5
     exact absurd y (g7O c5)
    rw[c7] at h4
    simp only[wA,seval,h1,h2,h3,h4,h5,h6,c2,c3,c4',g3S,allT]
   |true =>
    rw[c5] at h6
    have c7:(Ky.compC (foF k) p (e2X k)).2=0\/(Ky.compC (foF k) p (e2X k)).2=3:=by
     unfold g3C at c5
     rw[hx,g7K c4,g4X,g4S,g7L] at c5
     unfold Ky.compC
     rw[if_neg (by rw[hx];simpa using c4),if_neg (λh=>h c5)]
     split
     ·exact .inr rfl
     ·simp only
      split
      ·exact .inr rfl
      ·split
       ·exact .inr rfl
       ·exact .inl rfl
    rcases c7 with c7|c7
    ·rw[c7] at h4
     simp only[wA,seval,h1,h2,h3,h4,h5,h6,c2,c3,c4',g3S,allT]
    ·rw[c7] at h4
     simp only[wA,seval,h1,h2,h3,h4,h5,h6,c2,c3,c4',g3S,allT]
  ·have c4':((e5E p).err=0)=False:=g7M c4
   have c7:(Ky.compC (foF k) p (e2X k)).2=(e5E p).err:=by
    unfold Ky.compC
    rw[if_pos (by rw[hx];exact c4)]
    exact hx
   rw[c7] at h4
   simp only[wA,seval,h1,h2,h3,h4,h5,h6,c2,c3,c4',g3S,allT]
theorem g4A {x:T} (h:b3D (d1X 44 49) 1048576 (true,d1W 44 49) x) (hs:tBk x<=1048576):∃ p,x=.agg (tPg p)/\PgB p:=by
 obtain⟨xs,rfl,hw⟩:=d0W h
 clear h
 have h:=hw
 clear hw
 obtain⟨a,r,rfl,ha,h⟩:=d0P h
 obtain⟨b,r,rfl,hb,h⟩:=d0P h
 obtain⟨c,r,rfl,hc,h⟩:=d0P h
 obtain rfl:=d0O h
 obtain⟨p,rfl,rfl,rfl,hp⟩:=d2E (by decide) d1Y (d1Z (by decide)) ha hb hc
 have hz:=d8O (p:=p) (M:=1048576) hs
 have hb:B20=1100000:=rfl
 refine⟨p,rfl,hp,by omega,by omega,λf hf=>?_,by omega⟩
 have:=hz.2.2.1 f hf
 omega
theorem g4B:∀ xs,b3E (d1X 44 49) 1048576 [(true,d1W 44 49),(false,[.int .u64])] xs->b2R xs<=1048576->∃ n sg ow,a1M F gl n 7 (xs.map .t) [] []=some (.t (.bool true),sg,ow):=by
 intro xs h hs
 obtain⟨x,r,rfl,hx,h⟩:=d0Y h
 obtain⟨y,r,rfl,hy,h⟩:=d0Y h
 obtain rfl:=d0Z h
 obtain⟨p,rfl,hp⟩:=g4A hx (by simp only[b2R] at hs;omega)
 obtain⟨a,rfl,a1,a2⟩:=d0S (d0X hy)
 exact CallP.law (law7 hp a)
end Go.Proofs.YtdjcnfacjfnakaaGreat
