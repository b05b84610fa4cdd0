/- Contracts: the inputs. -/
import Derived.Test.YtdjcnfacjfnakaaGreatE18
import Derived.Test.YtdjcnfacjfnakaaGreatK18
import Derived.Test.YtdjcnfacjfnakaaGreatKx27
import Derived.Test.YtdjcnfacjfnakaaGreatKx80
import Derived.Test.YtdjcnfacjfnakaaGreatKx19
import Derived.Test.YtdjcnfacjfnakaaGreatKx91
import Derived.Test.YtdjcnfacjfnakaaGreatKx19
import Derived.Test.YtdjcnfacjfnakaaGreatPi31
set_option maxRecDepth 10000
set_option linter.unusedVariables false
set_option linter.unusedSimpArgs false
namespace Go.Proofs.YtdjcnfacjfnakaaGreat
open Go.Pi Go.Lx Go.Ky Go.Lib
variable {gl:Nat→Option (List T)}
abbrev cDe (d:De):List PV:=[.t (.bool d.pub),.t (.str d.name),.t (.int .i64 d.ty.kind),.t (.int .i64 d.ty.bits),.t (.int .i64 d.ty.len)]
theorem g0K {p:Int} (hk:e2N p=true) {fa:Fs} {c r fm m d11 nx v13 n8 n9 ri0 hi0 n:Nat} {x:De} (ht:tyB x.ty=true) (hn:n≤64) {S1 S2 S3:PV} {sg0:Sg} {ow0:Ow} (hd0:sg0[d11]?=some (false,cDe x)) (cd:d11 ∉ [v13,nx,c,r,ri0,hi0]) (hnf:nx≠fm) (hvf:v13≠fm) (l13:v13 < sg0.length) (lnx:nx < sg0.length) (Q:Ex→S→Prop):∀ (k:Nat) (j:Nat) (a:Int) (done:List Li) (s:Cst) (ev:PV) (fr:List PV) (sg:Sg) (ow:Ow) (ri hi:Nat),j+k=n→done.length=j→CS sg c r ri hi fm p fa s→CsOk s→0≤a→a+k≤s.b.pub+s.b.sec→nx ∉ [v13,c,r,ri,hi]→v13 ∉ [nx,c,r,ri,hi]→sg[nx]?=some (false,[.t (.int .i64 a)])→sg[v13]?=some (false,[ev,.t (.int .i64 x.ty.kind),.t (.int .i64 x.ty.bits),.t (.int .i64 x.ty.len),.t (.int .i64 0)])→Elw ow ev done→(∀ k z es,ev=.own k z es→ow0.length≤k)→Mv [v13,nx,c,r,ri0,hi0] [v13,nx,c,r,ri,hi] sg0 sg→ow0 <+: ow →
  b9P fr [(0,.lp c 0),(7,.mp m),(8,.lp n8 0),(9,.lp n9 0),(11,.lp d11 0),(12,.lp nx 0),(13,.lp v13 0),(17,S1),(18,S2),(19,S3),(31,.t (.int .i64 n)),(32,.t (.int .i64 j))] →
  (∀ fr' sg' ow' ri' hi' ev',CS sg' c r ri' hi' fm p fa (f1V (foF p) x.ty k a done s).2→nx ∉ [v13,c,r,ri',hi']→v13 ∉ [nx,c,r,ri',hi']→sg'[nx]?=some (false,[.t (.int .i64 (a+k))])→sg'[v13]?=some (false,[ev',.t (.int .i64 x.ty.kind),.t (.int .i64 x.ty.bits),.t (.int .i64 x.ty.len),.t (.int .i64 0)])→Elw ow' ev' (f1V (foF p) x.ty k a done s).1→Mv [v13,nx,c,r,ri0,hi0] [v13,nx,c,r,ri',hi'] sg0 sg'→ow0 <+: ow' →
   b9P fr' [(0,.lp c 0),(7,.mp m),(8,.lp n8 0),(9,.lp n9 0),(11,.lp d11 0),(13,.lp v13 0),(17,S1),(18,S2),(19,S3)]→Q (.exit 2) ⟨fr',sg',ow'⟩) →
  Xl F gl c5D ⟨fr,sg,ow⟩ Q ⟨⟩:=by
 intro k
 induction k with
 |zero =>
  intro j a done s ev fr sg ow ri hi hjk hdn h hs a0 a1 cn cv hx h13 hE hEk hM hO hf k1
  simp only[b9R,b9Q] at hf
  obtain⟨f0,f7,f8,f9,f11,f12,f13,f17,f18,f19,f31,f32,-⟩:=hf
  refine Xl.step ?_
  simp only[c5D]
  have c1:¬((j:Int) < (n:Int)):=by omega
  rw[f1V] at k1
  simp only[wA,seval,reduceCtorEq,reduceIte,f0,f7,f8,f9,f11,f12,f13,f17,f18,f19,f31,f32,c1]
  have hz:a+((0:Nat):Int)=a:=by omega
  rw[hz] at k1
  exact k1 _ _ _ ri hi ev h cn cv hx h13 hE hM hO (by simp only[wQ,Nat.reduceEqDiff,reduceIte,f0,f7,f8,f9,f11,f13,f17,f18,f19])
 |succ k ih =>
  intro j a done s ev fr sg ow ri hi hjk hdn h hs a0 a1 cn cv hx h13 hE hEk hM hO hf k1
  simp only[b9R,b9Q] at hf
  obtain⟨f0,f7,f8,f9,f11,f12,f13,f17,f18,f19,f31,f32,-⟩:=hf
  have hd:=hM.get hd0 cd
  have cd':=hM.cold (d4Y hd0) cd
  have hc:=h.hc
  have hlt:j < n:=by omega
  have c1:((j:Int) < (n:Int)):=by omega
  have hw1:=d5J hlt (by omega)
  have hmost:=hs.b.most
  have hwa:IntKind.i64.wrap (a+1)=a+1:=IntWalk.i64_in _ (by omega)
  have nxv:nx≠v13:=fun e=>cn (by simp [e])
  have cn':nx ∉ [c,r,ri,hi]:=fun e=>cn (g4H _ e)
  have cv':v13 ∉ [c,r,ri,hi]:=fun e=>cv (g4H _ e)
  have cdx:d11≠nx:=fun e=>cd' (by simp [e])
  have cdv:d11≠v13:=fun e=>cd' (by simp [e])
  have cd2:d11 ∉ [c,r,ri,hi]:=fun e=>cd' (g4H _ (g4H _ e))
  have hin:=fun K=>RetE.iff (K:=K) (ok91 (gl:=gl) hk h.hb hs.b a0 (show a < s.b.pub+s.b.sec by omega) ow)
  have hcs1:∀ y,CS (sg.set nx y) c r ri hi fm p fa s:=fun y=>h.set cn' hnf y
  have gd1:∀ y,(sg.set nx y)[d11]?=some (false,cDe x):=fun y=>by rw[g3R (Ne.symm cdx)];exact hd
  have gv1:∀ y,(sg.set nx y)[v13]?=sg[v13]?:=fun y=>g3R nxv
  have hvar:LiOk s.b.vars (e8V (foF p) (1+a)):=.var (f5W hk).nn (by omega) (by have:=hs.b.vars;omega)
  obtain⟨q1,q2⟩:=f3F (Φ:=foF p) (x:=e8V (foF p) (1+a)) (t:=x.ty) hs (e8N ht)
  have hck:=fun y=>ok86 (gl:=gl) hk (hcs1 y) hs hvar (g0A ht) ow
  simp only[tTy] at hck
  rw[f1V] at k1
  refine Xl.step ?_
  simp only[c5D]
  simp only[wA,seval,reduceCtorEq,reduceIte,f0,f7,f8,f9,f11,f12,f13,f17,f18,f19,f31,f32,c1,hc,hx,hin,d4X hx,hwa,wC,gd1,allT]
  refine CallE.mono (hck _) ?_
  rintro y sg1 ow1 ⟨o1,ri1,hi1,hcs,hm1⟩
  have x1:=hm1.get (d4X hx) cn'
  have v1:=hm1.get (show(sg.set nx _)[v13]?=_ by rw[gv1];exact h13) cv'
  have d1:=hm1.get (gd1 _) cd2
  have cn1:=hm1.cold (by rw[g3Z];exact d4Y hx) cn'
  have cv1:=hm1.cold (by rw[g3Z];exact d4Y h13) cv'
  have lv:=d4Y v1
  obtain⟨v',ow',e1,e2,e3,e4,e5,e6⟩:=(hE.pre o1).app (hO.trans o1) hEk (by omega) (e8V (foF p) (1+a)) false sg1
  simp only[wA,seval,reduceCtorEq,reduceIte,f0,f7,f8,f9,f11,f12,f13,f17,f18,f19,f31,f32,v1,f8V,e1,e5,e6,wC,hw1]
  refine ih (j+1) (a+1) (done++[e8V (foF p) (1+a)]) _ v' _ _ _ ri1 hi1 (by omega) (by rw[g3V,List.length_singleton];omega) (hcs.set cv1 hvf _) q1 (by omega) (by rw[q2.pub,q2.sec];omega) (fun e=>by
   rcases g4G.1 e with e|e
   ·exact nxv e
   ·exact cn1 e) (fun e=>by
   rcases g4G.1 e with e|e
   ·exact nxv e.symm
   ·exact cv1 e) (by rw[g3R (Ne.symm nxv)];exact x1) (by rw[g3S lv]) e2 e4 (((hM.set (.inl (by simp)) _).trans ((hm1.cons nx).cons v13)).set (.inl (by simp)) _) e3 (by simp only[wQ,Nat.reduceEqDiff,reduceIte,f0,f7,f8,f9,f11,f12,f13,f17,f18,f19,f31]) ?_
  have hz:a+1+(k:Int)=a+((k+1:Nat):Int):=by omega
  rw[hz]
  exact k1
theorem g0L {p:Int} (hk:e2N p=true) {fa:Fs} {c r fm m n8 n9 ri0 hi0:Nat} {ds:List De} {nl:Bool} (hls:ds.length≤B20) (hty:∀ d,d∈ds→tyB d.ty=true) (hfm:fm≠m) (h8f:n8≠fm) (h9f:n9≠fm) (h89:n8≠n9) (h8m:n8≠m) (h9m:n9≠m) {sg0:Sg} {ow0:Ow} (Q:Ex→S→Prop):∀ (l:List De) (i:Nat) (ns:Ns) (w:Int) (a b:Int) (sc:Sx) (s:Cst) (fr:List PV) (sg:Sg) (ow:Ow) (ri hi:Nat),ds.drop i=l→CS sg c r ri hi fm p fa s→CsOk s→ScC s.b.vars ns sc→(d4M l ns w).1=0→0≤a→0≤b→a+(e8C l true:Int)≤s.b.pub+s.b.sec→b+(e8C l false:Int)≤s.b.pub+s.b.sec→n8 ∉ [c,r,ri,hi]→n9 ∉ [c,r,ri,hi]→sg[n8]?=some (false,[.t (.int .i64 a)])→sg[n9]?=some (false,[.t (.int .i64 b)])→sg[m]?=some (true,iC sc)→Mv [n8,n9,m,c,r,ri0,hi0] [n8,n9,m,c,r,ri,hi] sg0 sg→ow0 <+: ow →
  b9P fr [(0,.lp c 0),(7,.mp m),(8,.lp n8 0),(9,.lp n9 0),(17,.t (.sl nl (ds.map fun d=>tDe d))),(18,.t (.int .i64 ds.length)),(19,.t (.int .i64 i))] →
  (∀ fr' sg' ow' ri' hi',CS sg' c r ri' hi' fm p fa (inC (foF p) l a b sc s).2→sg'[m]?=some (true,iC (inC (foF p) l a b sc s).1)→Mv [n8,n9,m,c,r,ri0,hi0] [n8,n9,m,c,r,ri',hi'] sg0 sg'→ow0 <+: ow'→b9P fr' [(7,.mp m)]→Q (.exit 0) ⟨fr',sg',ow'⟩) →
  Xl F gl c5E ⟨fr,sg,ow⟩ Q ⟨⟩:=by
 intro l
 induction l with
 |nil =>
  intro i ns w a b sc s fr sg ow ri hi hd h hs hsc he a0 b0 a1 b1 c8 c9 g8 g9 hm hM hO hf k1
  have hd:=b9K hd
  simp only[b9R,b9Q] at hf
  obtain⟨f0,f7,f8,f9,f17,f18,f19,-⟩:=hf
  refine Xl.step ?_
  simp only[c5E]
  have c1:¬((i:Int) < (ds.length:Int)):=by omega
  rw[inC] at k1
  simp only[wA,seval,reduceCtorEq,reduceIte,f0,f7,f8,f9,f17,f18,f19,c1]
  exact k1 _ _ _ ri hi h hm hM hO (by simp only[wQ,Nat.reduceEqDiff,reduceIte,f7])
 |cons x l ih =>
  intro i ns w a b sc s fr sg ow ri hi hd h hs hsc he a0 b0 a1 b1 c8 c9 g8 g9 hm hM hO hf k1
  obtain⟨hx,hr,hil⟩:=b9J hd
  simp only[b9R,b9Q] at hf
  obtain⟨f0,f7,f8,f9,f17,f18,f19,-⟩:=hf
  have hxt:=hty x (g4K hx)
  obtain⟨t1,t2⟩:=e7X hxt
  have hl2:1≤e7G x.ty.len∧e7G x.ty.len≤64:=by unfold e7G;split <;> omega
  obtain⟨n,hn⟩:∃ n:Nat,e7G x.ty.len=(n:Int):=⟨(e7G x.ty.len).toNat,by omega⟩
  have hmx:mxT true (.t (.int .i64 x.ty.len)) (.t (.int .i64 1))=some (.int .i64 (n:Int)):=by rw[←hn];rfl
  have hB20:B20=1100000:=rfl
  have hw1:=d5J hil (show ds.length≤281474976710656 by omega)
  have c1:(i:Int) < (ds.length:Int):=by omega
  have hf1:fillP [PV.t (.sl true []),.t (.int .i64 0),.t (.int .i64 0),.t (.int .i64 0),.t (.int .i64 0)] [(1,3,.t (.agg [.int .i64 x.ty.kind,.int .i64 x.ty.bits,.int .i64 x.ty.len]))]=some [PV.t (.sl true []),.t (.int .i64 x.ty.kind),.t (.int .i64 x.ty.bits),.t (.int .i64 x.ty.len),.t (.int .i64 0)]:=rfl
  rw[d6W] at he
  have e':(d4E x.name ⟨x.ty,false,0,0⟩ ns w).1=0:=by
   by_cases e:(d4E x.name ⟨x.ty,false,0,0⟩ ns w).1≠0
   ·rw[if_pos e] at he;exact absurd he e
   ·simpa using e
  rw[if_neg (by simpa using e')] at he
  have hnew:=e7W e'
  rw[d6I e'] at he
  simp only at he
  rw[e8C] at a1 b1
  have k1':=k1
  have hI:inC (foF p) (x::l) a b sc s=inC (foF p) l (if x.pub then a+n else a) (if x.pub then b else b+n) (e6Z x.name ⟨(f1V (foF p) x.ty n (if x.pub then a else b) [] s).1,x.ty,0⟩ sc) (f1V (foF p) x.ty n (if x.pub then a else b) [] s).2:=by
   rw[inC]
   simp only[hn,g2X]
  simp only[hn,g2X] at a1 b1
  have lm:=d4Y hm
  have l8:=d4Y g8
  have l9:=d4Y g9
  have lf:=d4Y h.hf
  have hmc:=h.map hm
  have hlt:=h.lt
  have base:∀ (nx:Nat) (st:Int),(nx=n8∨nx=n9)→sg[nx]?=some (false,[.t (.int .i64 st)])→0≤st→st+(n:Int)≤s.b.pub+s.b.sec→∀ (fr1:List PV) (Q1:Ex→S→Prop),b9P fr1 [(0,.lp c 0),(7,.mp m),(8,.lp n8 0),(9,.lp n9 0),(11,.lp sg.length 0),(12,.lp nx 0),(13,.lp (sg.length+1) 0),(17,.t (.sl nl (ds.map fun d=>tDe d))),(18,.t (.int .i64 ds.length)),(19,.t (.int .i64 i)),(31,.t (.int .i64 n)),(32,.t (.int .i64 0))] →
    (∀ fr' sg' ow' ri' hi' k,CS sg' c r ri' hi' fm p fa (f1V (foF p) x.ty n st [] s).2→sg'[nx]?=some (false,[.t (.int .i64 (st+n))])→sg'[sg.length+1]?=some (false,[.own k 1 (tLs (f1V (foF p) x.ty n st [] s).1),.t (.int .i64 x.ty.kind),.t (.int .i64 x.ty.bits),.t (.int .i64 x.ty.len),.t (.int .i64 0)])→sg'[sg.length]?=some (false,cDe x)→Mv [nx,c,r,ri,hi] [nx,c,r,ri',hi'] sg sg'→ow <+: ow'→nx ∉ [c,r,ri',hi'] →
     b9P fr' [(0,.lp c 0),(7,.mp m),(8,.lp n8 0),(9,.lp n9 0),(11,.lp sg.length 0),(13,.lp (sg.length+1) 0),(17,.t (.sl nl (ds.map fun d=>tDe d))),(18,.t (.int .i64 ds.length)),(19,.t (.int .i64 i))]→Q1 (.exit 2) ⟨fr',sg',ow'⟩) →
    Xl F gl c5D ⟨fr1,sg++[(false,cDe x),(false,[.t (.sl true []),.t (.int .i64 x.ty.kind),.t (.int .i64 x.ty.bits),.t (.int .i64 x.ty.len),.t (.int .i64 0)])],ow⟩ Q1 ⟨⟩:=by
   intro nx st hnx hgx s0 s1 fr1 Q1 hf1 hQ1
   have lx:=d4Y hgx
   have cx:nx ∉ [c,r,ri,hi]:=by rcases hnx with rfl|rfl <;> assumption
   have xf:nx≠fm:=by rcases hnx with rfl|rfl <;> assumption
   have n11:sg.length ∉ [sg.length+1,nx,c,r,ri,hi]:=fun e=>by
    rcases g4G.1 e with e|e
    ·omega
    rcases g4G.1 e with e|e
    ·omega
    ·exact h.new (g4U _) e
   have nx1:nx ∉ [sg.length+1,c,r,ri,hi]:=fun e=>by
    rcases g4G.1 e with e|e
    ·omega
    ·exact cx e
   have v1:sg.length+1 ∉ [nx,c,r,ri,hi]:=fun e=>by
    rcases g4G.1 e with e|e
    ·omega
    ·exact h.new (by omega) e
   refine g0K hk (d11:=sg.length) (nx:=nx) (v13:=sg.length+1) (n8:=n8) (n9:=n9) (ri0:=ri) (hi0:=hi) (n:=n) (m:=m) (sg0:=sg++[(false,cDe x),(false,[.t (.sl true []),.t (.int .i64 x.ty.kind),.t (.int .i64 x.ty.bits),.t (.int .i64 x.ty.len),.t (.int .i64 0)])]) (ow0:=ow) hxt (by omega) (by simp) n11 xf (by omega) (by simp) (by simp;omega) Q1 n 0 st [] s (.t (.sl true [])) fr1 _ ow ri hi (by omega) rfl (h.app _) hs s0 s1 nx1 v1 (b1V hgx) (by rw[g3J (by omega)];simp) (.inl ⟨rfl,rfl⟩) (fun k z es e=>by cases e) (.refl _ _) (List.prefix_refl _) hf1 ?_
   intro fr' sg' ow' ri' hi' ev' x1 x2 x3 x4 x5 x6 x7 x8 x9
   obtain⟨q1,q2,q3,q4⟩:=f3Q (f5W hk) hxt n st [] s hs s0 s1 (fun z hz=>by cases hz)
   obtain⟨k,rfl⟩:=x6.own (fun e=>by rw[e] at q3;simp at q3;omega)
   have d1:=x7.get (i:=sg.length) (v:=(false,cDe x)) (by simp) n11
   exact hQ1 fr' sg' ow' ri' hi' k x1 x4 x5 d1 (((Mv.app _ sg _).trans x7).loc (by omega)) x8 (fun e=>x2 (g4H _ e)) x9
  have fin:∀ (nx:Nat) (st:Int) (a' b':Int) (k:Nat) (sg':Sg) (ow':Ow) (ri' hi':Nat) (fr2:List PV),(nx=n8∧st=a∧a'=a+n∧b'=b∨nx=n9∧st=b∧a'=a∧b'=b+n)→0≤st→st+(n:Int)≤s.b.pub+s.b.sec→a'+(e8C l true:Int)≤s.b.pub+s.b.sec→b'+(e8C l false:Int)≤s.b.pub+s.b.sec→CS sg' c r ri' hi' fm p fa (f1V (foF p) x.ty n st [] s).2→sg'[nx]?=some (false,[.t (.int .i64 (st+n))])→Mv [nx,c,r,ri,hi] [nx,c,r,ri',hi'] sg sg'→ow <+: ow'→nx ∉ [c,r,ri',hi']→inC (foF p) l a' b' (e6Z x.name ⟨(f1V (foF p) x.ty n st [] s).1,x.ty,0⟩ sc) (f1V (foF p) x.ty n st [] s).2=inC (foF p) (x::l) a b sc s →
    b9P fr2 [(0,.lp c 0),(7,.mp m),(8,.lp n8 0),(9,.lp n9 0),(17,.t (.sl nl (ds.map fun d=>tDe d))),(18,.t (.int .i64 ds.length)),(19,.t (.int .i64 ((i+1:Nat):Int)))] →
    Xl F gl c5E ⟨fr2,sg'.set m (true,iC (e6Z x.name ⟨(f1V (foF p) x.ty n st [] s).1,x.ty,0⟩ sc)),ow'⟩ Q ⟨⟩:=by
   intro nx st a' b' k sg' ow' ri' hi' fr2 hcase s0 s1 sa sb hcs hgx hmv hoo cx hE hf2
   have hmx':m ∉ [nx,c,r,ri,hi]:=fun e=>by
    rcases g4G.1 e with e|e
    ·rcases hcase with⟨q,_⟩|⟨q,_⟩
     ·exact h8m (by rw[←q,←e])
     ·exact h9m (by rw[←q,←e])
    ·exact hmc e
   have hm':=hmv.get hm hmx'
   have lm':=d4Y hm'
   obtain⟨q1,q2,q3,q4⟩:=f3Q (f5W hk) hxt n st [] s hs s0 s1 (fun z hz=>by cases hz)
   have hn2:=(hsc.mono q2.vars).new hnew (s:=⟨x.ty,false,0,0⟩) (v:=⟨(f1V (foF p) x.ty n st [] s).1,x.ty,0⟩) ⟨t1,by show x.ty.len≤1100000;omega,by
    show(((f1V (foF p) x.ty n st [] s).1.length:Nat):Int)=e7G x.ty.len
    rw[q3,hn];simp,q4,f2F hxt⟩ (fun h=>by cases h)
   have o8:n8≠nx→sg'[n8]?=some (false,[.t (.int .i64 a)])∧n8 ∉ [c,r,ri',hi']:=fun hne=>by
    have:n8 ∉ [nx,c,r,ri,hi]:=fun e=>by
     rcases g4G.1 e with e|e
     ·exact hne e
     ·exact c8 e
    exact⟨hmv.get g8 this,fun e=>hmv.cold l8 this (g4H _ e)⟩
   have o9:n9≠nx→sg'[n9]?=some (false,[.t (.int .i64 b)])∧n9 ∉ [c,r,ri',hi']:=fun hne=>by
    have:n9 ∉ [nx,c,r,ri,hi]:=fun e=>by
     rcases g4G.1 e with e|e
     ·exact hne e
     ·exact c9 e
    exact⟨hmv.get g9 this,fun e=>hmv.cold l9 this (g4H _ e)⟩
   have hMM:Mv [n8,n9,m,c,r,ri,hi] [n8,n9,m,c,r,ri',hi'] sg sg':=by
    refine hmv.perm (fun z hz=>?_) (fun z hz=>?_)
    ·rcases g4G.1 hz with e|e
     ·rcases hcase with⟨q,_⟩|⟨q,_⟩
      ·simp [e,q]
      ·simp [e,q]
     ·exact g4H _ (g4H _ (g4H _ e))
    ·rcases g4G.1 hz with e|hz
     ·exact .inr (by simp [e])
     rcases g4G.1 hz with e|hz
     ·exact .inr (by simp [e])
     rcases g4G.1 hz with e|hz
     ·exact .inr (by simp [e])
     ·exact .inl (g4H _ hz)
   have gm:∀ z j,j≠m→(sg'.set m z)[j]?=sg'[j]?:=fun z j hj=>g3R (Ne.symm hj)
   have F8:sg'[n8]?=some (false,[.t (.int .i64 a')])∧n8 ∉ [c,r,ri',hi']:=by
    rcases hcase with⟨q,q',q'',_⟩|⟨q,_,q'',_⟩
    ·rw[←q,q'',←q'];exact⟨hgx,cx⟩
    ·rw[q''];exact o8 (by rw[q];exact h89)
   have F9:sg'[n9]?=some (false,[.t (.int .i64 b')])∧n9 ∉ [c,r,ri',hi']:=by
    rcases hcase with⟨q,_,_,q''⟩|⟨q,q',_,q''⟩
    ·rw[q''];exact o9 (by rw[q];exact Ne.symm h89)
    ·rw[←q,q'',←q'];exact⟨hgx,cx⟩
   refine ih (i+1) (ns++[(x.name,⟨x.ty,false,0,0⟩)]) (d4F x.ty w) a' b' _ _ fr2 _ ow' ri' hi' hr (g0B hcs hfm hm' _) q1 hn2 he (by omega) (by omega) (by rw[q2.pub,q2.sec];exact sa) (by rw[q2.pub,q2.sec];exact sb) F8.2 F9.2 (by rw[gm _ _ h8m];exact F8.1) (by rw[gm _ _ h9m];exact F9.1) (by rw[g3S lm']) ((hM.trans hMM).set (.inl (by simp)) _) (hO.trans hoo) hf2 ?_
   rw[hE]
   exact k1'
  cases hpub:x.pub with
  |true =>
   rw[hpub] at hI a1 b1
   simp only[cDe,hpub] at base
   simp only[g2S,reduceCtorEq,if_true,if_false] at hI a1 b1
   refine Xl.step ?_
   simp only[c5E]
   simp only[wA,seval,reduceCtorEq,reduceIte,f0,f7,f8,f9,f17,f18,f19,c1,hw1,hil,g2X,g3O,hx,g5F,hpub,hmx,hf1,a1K,List.zip_cons_cons,List.zip_nil_left,wC,allT]
   refine base n8 a (.inl rfl) g8 a0 (by omega) _ _ (by simp only[wQ,Nat.reduceEqDiff,reduceIte,f0,f7,f8,f9,f17,f18,f19];first|done|exact⟨rfl,rfl⟩|rfl) ?_
   intro fr' sg' ow' ri' hi' k hcs hgx hv hd' hmv hoo hcx hf'
   simp only[b9R,b9Q] at hf'
   obtain⟨d0,d7,d8,d9,d11,d13,d17,d18,d19,-⟩:=hf'
   have hm':=hmv.get hm (fun e=>by
    rcases g4G.1 e with e|e
    ·exact h8m e.symm
    ·exact hmc e)
   generalize hQE:f1V (foF p) x.ty n a [] s=q at *
   have hma:mkAgg [PV.own k 1 (tLs q.1),.t (.int .i64 x.ty.kind),.t (.int .i64 x.ty.bits),.t (.int .i64 x.ty.len),.t (.int .i64 0)]=.agg [PV.own k 1 (tLs q.1),.t (.int .i64 x.ty.kind),.t (.int .i64 x.ty.bits),.t (.int .i64 x.ty.len),.t (.int .i64 0)]:=rfl
   have hcl:close (.agg [PV.own k 1 (tLs q.1),.t (.int .i64 x.ty.kind),.t (.int .i64 x.ty.bits),.t (.int .i64 x.ty.len),.t (.int .i64 0)])=some (.agg (tVc ⟨q.1,x.ty,0⟩)):=rfl
   have hmp:a1A 2 (T.str x.name) (T.agg (tVc ⟨q.1,x.ty,0⟩)) (iC sc)=iC (e6Z x.name ⟨q.1,x.ty,0⟩ sc):=e8H (fun v=>T.agg (tVc v)) x.name ⟨q.1,x.ty,0⟩ sc
   simp only[wA,seval,reduceCtorEq,reduceIte,d0,d7,d8,d9,d11,d13,d17,d18,d19,hd',hv,hma,hm',a1D,d5B,iC,hcl,hmp,hw1]
   rw[←hQE] at hcs hI ⊢
   exact fin n8 a (a+n) b k sg' ow' ri' hi' _ (.inl ⟨rfl,rfl,rfl,rfl⟩) a0 (by omega) (by omega) (by omega) hcs hgx hmv hoo hcx hI.symm (by simp only[wQ,Nat.reduceEqDiff,reduceIte,d0,d7,d8,d9,d17,d18])
  |false =>
   rw[hpub] at hI a1 b1
   simp only[cDe,hpub] at base
   simp only[g2S,reduceCtorEq,if_true,if_false] at hI a1 b1
   refine Xl.step ?_
   simp only[c5E]
   simp only[wA,seval,reduceCtorEq,reduceIte,f0,f7,f8,f9,f17,f18,f19,c1,hw1,hil,g2X,g3O,hx,g5F,hpub,hmx,hf1,a1K,List.zip_cons_cons,List.zip_nil_left,wC,allT]
   refine base n9 b (.inr rfl) g9 b0 (by omega) _ _ (by simp only[wQ,Nat.reduceEqDiff,reduceIte,f0,f7,f8,f9,f17,f18,f19];first|done|exact⟨rfl,rfl⟩|rfl) ?_
   intro fr' sg' ow' ri' hi' k hcs hgx hv hd' hmv hoo hcx hf'
   simp only[b9R,b9Q] at hf'
   obtain⟨d0,d7,d8,d9,d11,d13,d17,d18,d19,-⟩:=hf'
   have hm':=hmv.get hm (fun e=>by
    rcases g4G.1 e with e|e
    ·exact h9m e.symm
    ·exact hmc e)
   generalize hQE:f1V (foF p) x.ty n b [] s=q at *
   have hma:mkAgg [PV.own k 1 (tLs q.1),.t (.int .i64 x.ty.kind),.t (.int .i64 x.ty.bits),.t (.int .i64 x.ty.len),.t (.int .i64 0)]=.agg [PV.own k 1 (tLs q.1),.t (.int .i64 x.ty.kind),.t (.int .i64 x.ty.bits),.t (.int .i64 x.ty.len),.t (.int .i64 0)]:=rfl
   have hcl:close (.agg [PV.own k 1 (tLs q.1),.t (.int .i64 x.ty.kind),.t (.int .i64 x.ty.bits),.t (.int .i64 x.ty.len),.t (.int .i64 0)])=some (.agg (tVc ⟨q.1,x.ty,0⟩)):=rfl
   have hmp:a1A 2 (T.str x.name) (T.agg (tVc ⟨q.1,x.ty,0⟩)) (iC sc)=iC (e6Z x.name ⟨q.1,x.ty,0⟩ sc):=e8H (fun v=>T.agg (tVc v)) x.name ⟨q.1,x.ty,0⟩ sc
   simp only[wA,seval,reduceCtorEq,reduceIte,d0,d7,d8,d9,d11,d13,d17,d18,d19,hd',hv,hma,hm',a1D,d5B,iC,hcl,hmp,hw1]
   rw[←hQE] at hcs hI ⊢
   exact fin n9 b a (b+n) k sg' ow' ri' hi' _ (.inr ⟨rfl,rfl,rfl,rfl⟩) b0 (by omega) (by omega) (by omega) hcs hgx hmv hoo hcx hI.symm (by simp only[wQ,Nat.reduceEqDiff,reduceIte,d0,d7,d8,d9,d17,d18])
theorem ok58 {p:Int} (hk:e2N p=true) {fa:Fs} {sg:Sg} {c r ri hi fm:Nat} {s:Cst} (h:CS sg c r ri hi fm p fa s) (hs:CsOk s) {ds:List De} {nl:Bool} (hls:ds.length≤B20) (hty:∀ d,d∈ds→tyB d.ty=true) {w:Int} (he:(d4M ds [] w).1=0) {b:Int} (b0:0≤b) (a1:(e8C ds true:Int)≤s.b.pub+s.b.sec) (b1:b+(e8C ds false:Int)≤s.b.pub+s.b.sec) (ow:Ow) :
  CallE F gl 58 [.lp c 0,.t (.sl nl (ds.map fun d=>tDe d)),.t (.int .i64 b)] sg ow fun v sg' ow'=>v=.mp sg.length∧ow <+: ow'∧∃ ri' hi',CS sg' c r ri' hi' fm p fa (inC (foF p) ds 0 b [] s).2∧sg'[sg.length]?=some (true,iC (inC (foF p) ds 0 b [] s).1)∧Mv [c,r,ri,hi] [c,r,ri',hi'] sg sg':=by
 have lf:=d4Y h.hf
 refine XcE.of F58 rfl ?_
 simp only[c5F]
 simp only[wA,seval,reduceCtorEq,reduceIte,wC,g3X]
 refine g0L hk (m:=sg.length) (n8:=sg.length+1) (n9:=sg.length+2) (ri0:=ri) (hi0:=hi) (sg0:=sg++[(true,[]),(false,[.t (.int .i64 0)]),(false,[.t (.int .i64 b)])]) (ow0:=ow) hls hty (by omega) (by omega) (by omega) (by omega) (by omega) (by omega) _ ds 0 [] w 0 b [] s _ _ _ ri hi rfl (h.app _) hs (.nil _) he (Int.le_refl _) b0 (by omega) b1 (h.new (by omega)) (h.new (by omega)) (by rw[g3J (by omega)];simp) (by rw[g3J (by omega)];simp) (by simp [iC,d4Z]) (.refl _ _) (List.prefix_refl _) (by simp only[wQ,Nat.reduceEqDiff,reduceIte];first|done|exact⟨rfl,rfl⟩|rfl) ?_
 intro fr' sg' ow' ri' hi' hcs hm hM hO hf
 simp only[b9R,b9Q] at hf
 obtain⟨f7,-⟩:=hf
 have hMM:Mv [c,r,ri,hi] [c,r,ri',hi'] sg sg':=((((Mv.app _ sg _).trans hM).loc (by omega)).loc (by omega)).loc (by omega)
 simp only[wA,seval,reduceCtorEq,reduceIte,f7]
 exact⟨hO,ri',hi',hcs,hm,hMM⟩
end Go.Proofs.YtdjcnfacjfnakaaGreat

/- Contracts: the compiler. -/
namespace Go.Proofs.YtdjcnfacjfnakaaGreat
open Go.Pi Go.Lx Go.Ky Go.Lib
variable {gl:Nat→Option (List T)}
theorem PgB.g {p:Pg} (h:PgB p):PG p:=⟨h.ok,fun f hf=>(h.fs f hf).2,h.bs⟩
theorem g0M {p:Pg} (hp:PgB p) (he:(d4W p).2.2=0):0≤(d4W p).1∧(d4W p).1≤63:=by
 obtain⟨s1,s2,s3⟩:=e6W hp.g
 obtain⟨t1,t2,t3,t4⟩:=s2 (s1.1 he)
 omega
def g0N (p:Pg) (n:Int):Bool:=decide ((d4W p).2.2=0)&&(e2N n&&decide (n > 2 ^ (d4W p).1.toNat))
theorem g0O {p:Pg} (hp:PgB p) (n:Int) {K:PV→Prop}:XcP F gl 14 [.agg (tPg p),.int .u64 n] K ⟨⟩↔K (.t (.bool (g0N p n))):=by
 refine Ret.iff (Ret.of F14 rfl ?_)
 simp only[c4P]
 have he2:=fun K=>@ok37 gl p hp K
 have hfv:=fun K=>@e2P gl n K
 unfold g0N
 by_cases he:(d4W p).2.2=0
 ·have he':((d4W p).2.2=0)=True:=eq_true he
  obtain⟨b1,b2⟩:=g0M hp he
  have hn:¬((d4W p).1 < 0):=by omega
  have hsh:=e8R b1 b2
  cases hb:e2N n with
  |false =>
   simp only[wA,seval,reduceCtorEq,reduceIte,he2,hfv,hb,he']
   all_goals simp
  |true =>
   simp only[wA,seval,reduceCtorEq,reduceIte,he2,hfv,hb,he',hn,hsh]
   all_goals simp
 ·have he':((d4W p).2.2=0)=False:=eq_false he
  simp only[wA,seval,reduceCtorEq,reduceIte,he2,hfv,he']
  all_goals simp
theorem g0P {ls:List Fu} {nl:Bool} (hls:ls.length≤B20) {c fm r:Nat} {p rows:Int} {full:Bool} {S2 S4 S7 S8 S9 S1:PV} {sg0:Sg} (hc0:sg0[c]?=some (cCm p r fm rows full)) (hne:c≠fm) {ow:Ow} (Q:Ex→S→Prop):∀ (l:List Fu) (i:Nat) (cur:Fs) (fr:List PV) (sg:Sg),ls.drop i=l→Mv [fm] [fm] sg0 sg→sg[fm]?=some (true,iFc cur) →
  b9P fr [(1,S1),(2,S2),(4,S4),(7,S7),(8,S8),(9,S9),(11,.lp c 0),(53,.t (.sl nl (ls.map fun f=>tFu f))),(54,.t (.int .i64 ls.length)),(55,.t (.int .i64 i))] →
  (∀ fr' sg',Mv [fm] [fm] sg0 sg'→sg'[fm]?=some (true,iFc (e8I l cur))→b9P fr' [(1,S1),(2,S2),(4,S4),(7,S7),(8,S8),(9,S9),(11,.lp c 0)]→Q (.exit 0) ⟨fr',sg',ow⟩) →
  Xl F gl c4S ⟨fr,sg,ow⟩ Q ⟨⟩:=by
 intro l
 induction l with
 |nil =>
  intro i cur fr sg hd hg hk hf k1
  have hd:=b9K hd
  simp only[b9R,b9Q] at hf
  obtain⟨f1,f2,f4,f7,f8,f9,f11,f53,f54,f55,-⟩:=hf
  refine Xl.step ?_
  simp only[c4S]
  have c1:¬((i:Int) < (ls.length:Int)):=by omega
  rw[e8I] at k1
  simp only[wA,seval,reduceCtorEq,reduceIte,f1,f2,f4,f7,f8,f9,f11,f53,f54,f55,c1]
  exact k1 _ _ hg hk (by simp only[wQ,Nat.reduceEqDiff,reduceIte,f1,f2,f4,f7,f8,f9,f11])
 |cons x l ih =>
  intro i cur fr sg hd hg hk hf k1
  obtain⟨hx,hr,hi⟩:=b9J hd
  simp only[b9R,b9Q] at hf
  obtain⟨f1,f2,f4,f7,f8,f9,f11,f53,f54,f55,-⟩:=hf
  refine Xl.step ?_
  simp only[c4S]
  have c1:(i:Int) < (ls.length:Int):=by omega
  have hw1:=d5J hi (show ls.length≤281474976710656 by have:B20=1100000:=rfl;omega)
  rw[e8I] at k1
  have hkl:=d4Y hk
  have hc1:=hg.get hc0 (by simpa using hne)
  have hcl:=d4Y hc1
  have hmp:=e8H (fun x=>T.agg (tFu x)) x.name x cur
  simp only[wA,seval,reduceCtorEq,reduceIte,f1,f2,f4,f7,f8,f9,f11,f53,f54,f55,c1,hw1,g2X,hi,g3O,hx,g5F,d5M hcl,hc1,d5M hkl,hk,a1D,d5B,iFc,hmp,wC,allT]
  refine ih (i+1) (e6Z x.name x cur) _ _ hr ((hg.app2 _).set (.inl (by simp)) _) (by rw[g3S (by rw[g3V];omega)]) (by simp only[wQ,Nat.reduceEqDiff,reduceIte,f1,f2,f4,f7,f8,f9,f11,f53,f54];first|done|rfl) k1
theorem g0Q (cs:List PV):cellsP (mkAgg cs)=cs:=by
 unfold mkAgg
 cases h:allT cs with
 |none=>rfl
 |some ts =>
  show ts.map PV.t=cs
  induction cs generalizing ts with
  |nil=>simp [allT] at h;subst h;rfl
  |cons a r ih =>
   cases a <;> simp only[allT,reduceCtorEq] at h
   cases hr:allT r with
   |none=>rw[hr] at h;cases h
   |some ts' =>
    rw[hr] at h
    injection h with h
    rw[←h,g4D,ih ts' hr]
theorem g0R (sg:Sg) (cs:List PV):retSl sg (mkAgg cs)=(cs.mapM (ret1 sg)).map T.agg:=by
 unfold mkAgg
 cases h:allT cs with
 |none=>rfl
 |some ts =>
  show some (T.agg ts)=_
  have:cs.mapM (ret1 sg)=some ts:=by
    induction cs generalizing ts with
   |nil=>simp [allT] at h;subst h;rfl
   |cons a r ih =>
    cases a <;> simp only[allT,reduceCtorEq] at h
    cases hr:allT r with
    |none=>rw[hr] at h;cases h
    |some ts' =>
     rw[hr] at h
     injection h with h
     rw[g4B,ih ts' hr,←h]
     rfl
  rw[this];rfl
def tCi (p:Int):Option Bd→T
 |none=>.agg [.int .u64 0,.int .i64 0,.int .i64 0,.sl true [],.int .i64 0,.sl true []]
 |some b=>.agg [.int .u64 p,.int .i64 b.pub,.int .i64 b.vars,.sl (decide (b.rows.length=0)) (b.rows.map tRw),.int .i64 b.sec,.sl (decide (b.hints.length=0)) (b.hints.map tHt)]
theorem g0S {α:Type} {t:α→List T} {sz:Nat} (h:∀ x,(t x).length=sz) (ha:∀ x,(t x).any T.isAgg=false) {sg:Sg} {r:Nat} {v:PV} {id:Nat} {l:List α} (hb:Bf sg r v id sz l.length (cG t l)):ret1 sg v=some (.sl (decide (l.length=0)) (l.map t)):=by
 rcases hb with⟨h0,rfl,_,_⟩|⟨h0,rfl,h1,_⟩
 ·rw[h0,List.length_eq_zero_iff.1 h0];rfl
 ·have he:a0L sg sz (.bf id l.length sz)=some (l.map t):=f4O h ha h1
  have hn:decide (l.length=0)=false:=g5I (by omega)
  rw[hn]
  show(a0L sg sz (.bf id l.length sz)).map (T.sl false)=_
  rw[he];rfl
theorem g0T:∀ (l:List De),(∀ d,d∈l→tyB d.ty=true)→e8C l true≤64 * l.length∧e8C l false≤64 * l.length:=by
 intro l
 induction l with
 |nil=>intro _;exact⟨g4U _,g4U _⟩
 |cons d r ih =>
  intro h
  obtain⟨i1,i2⟩:=ih fun x hx=>h x (by simp [hx])
  obtain⟨t1,t2⟩:=e7X (h d (by simp))
  have hm2:1≤e7G d.ty.len∧e7G d.ty.len≤64:=by unfold e7G;split <;> omega
  rw[e8C,e8C,g3W]
  constructor <;> split <;> omega
set_option maxHeartbeats 1000000 in
theorem g0U {q:Pg} (hp:PgB q) (k:Int) {K:PV→Prop}:XcP F gl 24 [.agg (tPg q),.int .u64 k] K ⟨⟩↔K (.tup [.t (tCi k (Ky.compC (foF k) q (e2N k)).1),.t (.int .i64 (Ky.compC (foF k) q (e2N k)).2)]):=by
 refine Ret.iff (Ret.of F24 rfl ?_)
 simp only[c4T]
 have hex:=fun K=>@ok32 gl q hp K
 have hft:=fun K=>@g0O gl q hp k K
 have hin:=fun K=>@ok13 gl q hp K
 have hpk:(foF k).p=k:=rfl
 have hnone:tCi k none=.agg [.int .u64 0,.int .i64 0,.int .i64 0,.sl true [],.int .i64 0,.sl true []]:=rfl
 unfold Ky.compC
 rw[hpk]
 by_cases c0:(d4W q).2.2=0
 ·have c0':((d4W q).2.2=0)=True:=eq_true c0
  rw[if_neg (by simpa using c0)]
  unfold g0N at hft
  by_cases c1:e2N k=true∧k > 2 ^ (d4W q).1.toNat
  ·rw[if_neg (by simpa using c1)]
   obtain⟨e2,e3⟩:=c1
   have e2':decide (k > 2 ^ (d4W q).1.toNat)=true:=g5K e3
   simp only[c0,decide_true,e2,e2',Bool.and_self] at hft
   obtain⟨v0,v2,v3⟩:=exam_ok.1 c0
   obtain⟨g1,g2,g3⟩:=prog_ok.1 v2
   obtain⟨w1,w2,w3,w4,w5⟩:=valid_zero.1 v0
   have hdt:∀ d,d∈q.decls→tyB d.ty=true:=fun d hd=>by
    have:=g2Y.1 w2 d hd
    unfold deB at this
    simp only[g2R] at this
    exact this.2
   have hfu:∀ f,f∈q.funcs→FuOk f∧fuB f=true∧f.params.length≤B20∧d2K f.body≤B20∧szE f.ret≤B20:=fun f hf=>⟨hp.ok.fo f hf,g2Y.1 w1 f hf,hp.fs f hf⟩
   have hΨ:=f3P (f5W e2) q.funcs fc0 [] 0 .nil (fun f hf=>⟨(hfu f hf).1,(hfu f hf).2.1,(hfu f hf).2.2.2⟩) g1
   have hR:=g0I (gl:=gl) e2 (fa:=(d4L q.funcs [] 0).2.1) q.funcs fc0 [] 0 .nil g0J hfu g1 (fun _ _ h=>h)
   have hB20:B20=1100000:=rfl
   have hsum:=e8E q.decls 0 0 hdt (Int.le_refl _) (Int.le_refl _) (by have:=hp.dl;omega) (by have:=hp.dl;omega)
   have hinp:d7U q=d7T q.decls 0 0:=by unfold d7U;rw[if_neg (by simpa using c0)]
   have hi1:(d7U q).1=(e8C q.decls true:Int):=by rw[hinp,hsum];simp
   have hi2:(d7U q).2=(e8C q.decls false:Int):=by rw[hinp,hsum];simp
   have hdl:=hp.dl
   have hs1:=g0T q.decls hdt
   generalize hpu:(d7U q).1=pu at *
   generalize hse:(d7U q).2=se at *
   have hw:IntKind.i64.wrap (pu+se)=pu+se:=IntWalk.i64_in _ (by omega)
   by_cases c2:pu+se≥65536
   ·rw[if_pos c2]
    simp only[wA,seval,reduceCtorEq,reduceIte,hex,hft,hin,c0',hw,c2,wC,allT,hnone,d5I (show 6 < 1000 by decide)]
   ·rw[if_neg c2]
    have p0:0≤pu:=by omega
    have s0:0≤se:=by omega
    simp only[wA,seval,reduceCtorEq,reduceIte,hex,hft,hin,c0',hw,c2]
    refine CallE.mono (ok56 e2 p0 s0 (by omega) _ _) ?_
    rintro y sg1 ow1 ⟨rfl,rfl,hb1,hg1⟩
    have j01:=hg1.get (i:=0) (x:=(false,[PV.t (.sl q.fnl (q.funcs.map fun f=>tFu f)),.t (.sl q.dnl (q.decls.map fun d=>tDe d)),.t (.sl q.bnl (d2C q.body))])) rfl
    have j11:=hg1.get (i:=1) (x:=(false,[PV.t (.int .u64 0),.t (.int .i64 0),.t (.int .i64 0),.t (.sl true []),.t (.int .i64 0),.t (.sl true [])])) rfl
    have lg1:=hg1.len
    have l0:=d4Y j01
    simp only[g3W,g3Y] at hb1 lg1
    obtain⟨lr,_,_⟩:=hb1.lt
    simp only[wA,seval,reduceCtorEq,reduceIte,d5M l0,j01,wC,g3X,allT]
    refine g0P (c:=sg1.length+1) (fm:=sg1.length) (r:=4) (p:=k) (rows:=0) (full:=false) (S1:=.t (.int .u64 k)) (S2:=.lp 0 0) (S4:=.lp 1 0) (S7:=.t (.int .i64 pu)) (S8:=.t (.int .i64 se)) (S9:=.lp 4 0) (sg0:=sg1++[(true,[]),cCm k 4 sg1.length 0 false]) hp.fl (by rw[g3J (by omega)];simp) (by omega) _ q.funcs 0 [] _ _ rfl (.refl _ _) (by simp [iFc,d4Z]) (by simp only[wQ,Nat.reduceEqDiff,reduceIte];first|done|exact⟨rfl,rfl⟩|rfl) ?_
    intro fr2 sg2 hM2 hf2 hfr2
    simp only[b9R,b9Q] at hfr2
    obtain⟨f1,f2,f4,f7,f8,f9,f11,-⟩:=hfr2
    rw[e8K _ _ _ g1] at hf2
    have nf:∀ i,i≠sg1.length→i ∉ [sg1.length]:=fun i hi=>by simpa using hi
    have j02:=hM2.get (b1V j01) (nf _ (by omega))
    have j12:=hM2.get (b1V j11) (nf _ (by have:=d4Y j11;omega))
    have hcc:=hM2.get (i:=sg1.length+1) (v:=cCm k 4 sg1.length 0 false) (by rw[g3J (by omega)];simp) (nf _ (by omega))
    have hcs:CS sg2 (sg1.length+1) 4 4 4 sg1.length k (d4L q.funcs [] 0).2.1 ⟨f1W pu se,0,false⟩:=⟨hcc,hf2,(hb1.app _).mv hM2 (nf _ (by omega)) (nf _ (by omega)) (nf _ (by omega)),by simp;omega,by simp;omega⟩
    have hs0:CsOk ⟨f1W pu se,0,false⟩:=⟨⟨p0,s0,by show pu+se≤65535;omega,by show 1+pu+se=1+pu+se+((0:Nat):Int);omega⟩,Int.le_refl 0,Int.le_refl 0,(by decide:(0:Int)≤16384),g4U 0⟩
    have f7U:=fun ow=>ok58 (gl:=gl) e2 hcs hs0 (nl:=q.dnl) hp.dl hdt g2 (b:=pu) p0 (by show(e8C q.decls true:Int)≤pu+se;omega) (by show pu+(e8C q.decls false:Int)≤pu+se;omega) ow
    obtain⟨hs1',hle1',hsc1⟩:=f3R (f5W e2) q.decls 0 pu [] [] ⟨f1W pu se,0,false⟩ (d4L q.funcs [] 0).2.2 hdt hs0 (.nil _) g2 (Int.le_refl _) p0 (by show 0+(e8C q.decls true:Int)≤pu+se;omega) (by show pu+(e8C q.decls false:Int)≤pu+se;omega)
    have hrun:f1X (foF k) q pu se=(f1Q (foF k) (f1U (foF k) q.funcs fc0) q.body (inC (foF k) q.decls 0 pu [] ⟨f1W pu se,0,false⟩).1 (inC (foF k) q.decls 0 pu [] ⟨f1W pu se,0,false⟩).2).2:=rfl
    have hst:∀ x,x∈q.body→StOk x∧stB x=true∧szS x≤B20:=fun x hx=>⟨hp.ok.bo x hx,g2Y.1 w3 x hx,g4V (d2Q hx) hp.bs⟩
    have hbl:q.body.length≤B20:=g4V (d2S _) hp.bs
    have hso:=f3H (Φ:=foF k) (Ψ:=f1U (foF k) q.funcs fc0) (fs:=(d4L q.funcs [] 0).2.1) q.body (fun x hx=>f3K (f5W e2) hΨ x (hst x hx).1 (hst x hx).2.2 (hst x hx).2.1) _ _ _ _ hs1' (.inr hsc1) g3
    rw[hrun]
    have c0h:0 ∉ [sg1.length+1,4,4,4]:=by simp
    have c1h:1 ∉ [sg1.length+1,4,4,4]:=fun e=>by
     simp only[g4G,g4N,or_false] at e
     omega
    generalize inC (foF k) q.decls 0 pu [] ⟨f1W pu se,0,false⟩=qi at *
    obtain⟨sci,si⟩:=qi
    simp only at f7U hs1' hle1' hsc1 hso ⊢
    simp only[wA,seval,reduceCtorEq,reduceIte,f1,f2,f4,f7,f8,f9,f11,j02,a1I,lenS,d5U,d5T,d5S,d5P]
    refine CallE.mono (f7U _) ?_
    rintro y sg3 ow3 ⟨rfl,o3,ri3,hi3,hcs3,hm3,hM3⟩
    have j03:=hM3.get j02 c0h
    have j13:=hM3.get j12 c1h
    have c0h3:=hM3.cold (d4Y j02) c0h
    have c1h3:=hM3.cold (d4Y j12) c1h
    have hex3:=fun ow=>g0F (gl:=gl) (nl:=q.bnl) e2 hΨ hR hbl hst _ _ sg3 (sg1.length+1) 4 ri3 hi3 sg1.length sg2.length si sci ow hcs3 hs1' (by have:=d4Y hf2;omega) hm3 (.inr hsc1) g3
    simp only[wA,seval,reduceCtorEq,reduceIte,f1,f2,f4,f7,f8,f9,f11,j02,j03,a1I,lenS,d5U,d5T,d5S,d5P]
    refine CallE.mono (hex3 _) ?_
    rintro y sg4 ow4 ⟨o4,ri4,hi4,hcs4,hm4,hM4⟩
    have c0h3':0 ∉ [sg2.length,sg1.length+1,4,ri3,hi3]:=fun e=>by
     rcases g4G.1 e with e|e
     ·have:=d4Y j02;omega
     ·exact c0h3 e
    have c1h3':1 ∉ [sg2.length,sg1.length+1,4,ri3,hi3]:=fun e=>by
     rcases g4G.1 e with e|e
     ·have:=d4Y j12;omega
     ·exact c1h3 e
    have j04:=hM4.get j03 c0h3'
    have j14:=hM4.get j13 c1h3'
    have hc4:=hcs4.hc
    have hcsR:=hso.cs
    generalize f1Q (foF k) (f1U (foF k) q.funcs fc0) q.body sci si=R at *
    obtain⟨sc4,s4⟩:=R
    simp only at hcs4 hc4 hcsR ⊢
    cases hfu:s4.full with
    |true =>
     rw[hfu] at hc4
     rw[if_pos rfl]
     simp only[wA,seval,reduceCtorEq,reduceIte,f1,f2,f4,f7,f8,f9,f11,j03,j04,d5U,d5T,d5S,d5P,hc4,j14,d4X j14,wC,allT,hnone,d5I (show 6 < 1000 by decide)]
    |false =>
     rw[hfu] at hc4
     rw[if_neg (by simp)]
     have hhl:s4.b.hints.length≤1000000:=by have:=hcsR.hs;have:=hcsR.rows;have:=hcsR.le;omega
     simp only[wA,seval,reduceCtorEq,reduceIte,f1,f2,f4,f7,f8,f9,f11,j03,j04,d5U,d5T,d5S,d5P,hc4]
     refine CallE.mono (ok59 hcs4.hb (hcsR.rm (by decide)) hhl ow4) ?_
     rintro v sg5 ow5 ⟨⟨rv,hv,ri5,hi5,hv5,hB1,hB2,hone,hr5,hh5⟩,hM5⟩
     have j15:=hM5.get j14 (by simp)
     have l15:=d4Y j15
     have hcel:cellsP v=[.t (.int .u64 k),.t (.int .i64 s4.b.pub),.t (.int .i64 s4.b.vars),rv,.t (.int .i64 s4.b.sec),hv]:=by rw[hv5,g0Q]
     have hmk:mkAgg [.t (.int .u64 k),.t (.int .i64 s4.b.pub),.t (.int .i64 s4.b.vars),rv,.t (.int .i64 s4.b.sec),hv]=v:=hv5.symm
     have hor:Pi.one rv=true:=by rcases hB1 with⟨_,rfl,_⟩|⟨_,rfl,_⟩ <;> rfl
     have hov:Pi.one hv=true:=by rcases hB2 with⟨_,rfl,_⟩|⟨_,rfl,_⟩ <;> rfl
     have hlen:=hB1.len
     by_cases cr:(s4.b.rows.length:Int) > 16384∨s4.b.vars > 65536
     ·rw[if_pos cr]
      have cr':(16384:Int) < (s4.b.rows.length:Int)∨(¬(16384:Int) < (s4.b.rows.length:Int)∧(65536:Int) < s4.b.vars):=by omega
      rcases cr' with cr'|⟨cr',cv⟩
      ·simp only[wA,seval,reduceCtorEq,reduceIte,f1,f2,f4,f7,f8,f9,f11,hcel,hor,hov,hlen,cr',d5M l15,j15,d4X (b1V j15),wC,allT,hnone,d5I (show 6 < 1000 by decide)]
      ·simp only[wA,seval,reduceCtorEq,reduceIte,f1,f2,f4,f7,f8,f9,f11,hcel,hor,hov,hlen,cr',cv,d5M l15,j15,d4X (b1V j15),wC,allT,hnone,d5I (show 6 < 1000 by decide)]
     ·rw[if_neg cr]
      have cr':¬(16384:Int) < (s4.b.rows.length:Int):=by omega
      have cv:¬(65536:Int) < s4.b.vars:=by omega
      simp only[wA,seval,reduceCtorEq,reduceIte] at hmk
      have hj2:∀ (y:Bool×List PV) (t:Sg),(sg5.set 1 y++t)[1]?=some y:=fun y t=>by rw[g3I (by rw[g3Z];exact l15),g3S l15]
      have l14:=d4Y j14
      have hgo:∀ (y:Bool×List PV) (t:Sg) (id:Nat),id≠1→id < sg5.length→(sg5.set 1 y++t)[id]?=sg5[id]?:=fun y t id h1 h2=>by rw[g3I (by rw[g3Z];exact h2),g3R (Ne.symm h1)]
      have hrs:∀ (y:Bool×List PV) (t:Sg),retSl (sg5.set 1 y++t) v=some (tCi k (some s4.b)):=fun y t=>by
       have b1:=g0S f8B f8D (hB1.get (sg':=sg5.set 1 y++t) fun hn hl=>hgo y t _ (by omega) hl)
       have b2:=g0S f8C f8E (hB2.get (sg':=sg5.set 1 y++t) fun hn hl=>hgo y t _ (by omega) hl)
       rw[hv5,g0R]
       simp only[g4B,List.mapM_nil,b1,b2]
       rfl
      have hrt:∀ (sg:Sg) (n:Int),retSl sg (.t (.int .i64 n))=some (.int .i64 n):=fun _ _=>rfl
      have hj:=fun z y=>d4X (y:=y) (b1V (r:=[z]) j15)
      simp only[wA,seval,reduceCtorEq,reduceIte,f1,f2,f4,f7,f8,f9,f11,hcel,hor,hov,hlen,hmk,cr',cv,d5M l15,j15,hj,hj2,d5N l15,wC,hrs,hrt,d5I (show 6 < 1000 by decide)]
  ·rw[if_pos (by simpa using c1)]
   have e3:(decide ((d4W q).2.2=0)&&(e2N k&&decide (k > 2 ^ (d4W q).1.toNat)))=false:=by
    cases hk:e2N k with
    |false=>simp
    |true =>
     have:¬k > 2 ^ (d4W q).1.toNat:=fun h=>c1 ⟨hk,h⟩
     rw[g5I this];simp
   rw[e3] at hft
   simp only[wA,seval,reduceCtorEq,reduceIte,hex,hft,c0',wC,allT,hnone,d5I (show 6 < 1000 by decide)]
 ·have c0':((d4W q).2.2=0)=False:=eq_false c0
  rw[if_pos c0]
  simp only[wA,seval,reduceCtorEq,reduceIte,hex,c0',wC,allT,hnone,d5I (show 6 < 1000 by decide)]
end Go.Proofs.YtdjcnfacjfnakaaGreat

/- Contracts: the examples of the laws of the compiler. -/
namespace Go.Proofs.YtdjcnfacjfnakaaGreat
open Go.Pi Go.Lx Go.Ky Go.Lib
variable {gl:Nat→Option (List T)}
abbrev nmE (n:Nm):Exp:=.mk 2 0 n true []
def g0V:Pg:=⟨true,[],false,[⟨true,[120],⟨1,0,0⟩⟩,⟨false,[121],⟨2,0,0⟩⟩],false,[.mk 2 [] false zTy (.mk 14 0 [] false [nmE [120],nmE [121]]) 0 0 true []]⟩
def g0W:Pg:=⟨true,[],true,[],false,[.mk 2 [] false zTy (.mk 3 0 [] true []) 0 0 true []]⟩
theorem g0X:PgB g0V:=by
 refine⟨d8F (p:=g0V) rfl (by decide +kernel) (by decide +kernel) (by decide) (by decide) (fun h=>by cases h) (fun h=>by cases h),by decide,by decide,fun f hf=>(by cases hf),by decide +kernel⟩
theorem g0Y:PgB g0W:=by
 refine⟨d8F (p:=g0W) rfl (by decide +kernel) (by decide +kernel) (by decide) (by decide) (fun _=>rfl) (fun h=>by cases h),by decide,by decide,fun f hf=>(by cases hf),by decide +kernel⟩
theorem g0Z:((Ky.compC (foF 17) g0V (e2N 17)).1.map fun b=>(b.rows.length,b.hints.length,b.pub,b.sec,b.vars))=some (5,2,1,1,5)∧(Ky.compC (foF 17) g0V (e2N 17)).2=0:=by decide +kernel
theorem g1A:((Ky.compC (foF 17) g0W (e2N 17)).1.map fun b=>b.rows.map fun r=>(r.a.ts.length,r.b.ts.length,r.c.ts.length))=some [(0,1,0)]∧(Ky.compC (foF 17) g0W (e2N 17)).2=0:=by decide +kernel
theorem g1B:∃ b,Ky.compC (foF 17) g0V (e2N 17)=(some b,0)∧b.rows.length=5∧b.hints.length=2∧b.pub=1∧b.sec=1∧b.vars=5:=by
 obtain⟨h1,h2⟩:=g0Z
 cases h:Ky.compC (foF 17) g0V (e2N 17) with
 |mk x y =>
  rw[h] at h1 h2
  cases x with
  |none=>cases h1
  |some b =>
   simp only[g5F,g5G,Prod.mk.injEq] at h1
   exact⟨b,by rw[show y=0 from h2],h1⟩
theorem g1C:∃ b r,Ky.compC (foF 17) g0W (e2N 17)=(some b,0)∧b.rows=[r]∧r.a.ts.length=0∧r.b.ts.length=1∧r.c.ts.length=0:=by
 obtain⟨h1,h2⟩:=g1A
 cases h:Ky.compC (foF 17) g0W (e2N 17) with
 |mk x y =>
  rw[h] at h1 h2
  cases x with
  |none=>cases h1
  |some b =>
   simp only[g5F,g5G] at h1
   cases hb:b.rows with
   |nil=>rw[hb] at h1;cases h1
   |cons r l =>
    rw[hb] at h1
    cases l with
    |nil =>
     simp only[g4D,g4E,g3C,Prod.mk.injEq,and_true] at h1
     exact⟨b,r,by rw[show y=0 from h2],hb,h1⟩
    |cons r2 l2=>simp at h1
theorem ok54 (s:Nm) (sg:Sg) (ow:Ow):RetE F gl 54 [.t (.str s)] sg ow (.t (.agg [.int .i64 2,.int .u64 0,.str s,.sl true []])) (sg++[(false,[.t (.int .i64 2),.t (.int .u64 0),.t (.str s),.t (.sl true [])])]) ow:=by
 refine RetE.of F54 rfl ?_
 simp only[c4Z]
 simp only[wA,seval,reduceCtorEq,reduceIte]
 all_goals (try exact⟨rfl,rfl,rfl⟩)
theorem ok22 {K:PV→Prop}:XcP F gl 22 [] K ⟨⟩↔K (.t (.bool true)):=by
 refine Ret.iff (Ret.of F22 rfl ?_)
 simp only[c4R]
 obtain⟨b1,e1,r1,r2,r3,r4,r5⟩:=g1B
 obtain⟨b2,w,e2,q1,q2,q3,q4⟩:=g1C
 have h1:=fun K=>g0U (gl:=gl) g0X 17 (K:=K)
 have h2:=fun K=>g0U (gl:=gl) g0Y 17 (K:=K)
 rw[e1] at h1
 rw[e2] at h2
 replace h1:=fun K=>(show XcP F gl 24 [.agg [.sl true [],.sl false [[.bool true,.str [120],.int .i64 1,.int .i64 0,.int .i64 0],[.bool false,.str [121],.int .i64 2,.int .i64 0,.int .i64 0]],.sl false [[.int .i64 2,.str [],.bool false,.int .i64 0,.int .i64 0,.int .i64 0,.int .i64 14,.int .u64 0,.str [],.sl false [[.int .i64 2,.int .u64 0,.str [120],.sl true []],[.int .i64 2,.int .u64 0,.str [121],.sl true []]],.int .i64 0,.int .i64 0,.sl true []]]],.int .u64 17] K ⟨⟩↔K (.tup [.t (.agg [.int .u64 17,.int .i64 b1.pub,.int .i64 b1.vars,.sl (decide (b1.rows.length=0)) (b1.rows.map tRw),.int .i64 b1.sec,.sl (decide (b1.hints.length=0)) (b1.hints.map tHt)]),.t (.int .i64 0)]) from h1 K)
 replace h2:=fun K=>(show XcP F gl 24 [.agg [.sl true [],.sl true [],.sl false [[.int .i64 2,.str [],.bool false,.int .i64 0,.int .i64 0,.int .i64 0,.int .i64 3,.int .u64 0,.str [],.sl true [],.int .i64 0,.int .i64 0,.sl true []]]],.int .u64 17] K ⟨⟩↔K (.tup [.t (.agg [.int .u64 17,.int .i64 b2.pub,.int .i64 b2.vars,.sl (decide (b2.rows.length=0)) (b2.rows.map tRw),.int .i64 b2.sec,.sl (decide (b2.hints.length=0)) (b2.hints.map tHt)]),.t (.int .i64 0)]) from h2 K)
 rw[q1] at h2
 have g1:(tTs w.a.ts).length=0:=by rw[f3S,q2]
 have g2:(tTs w.b.ts).length=1:=by rw[f3S,q3]
 have g3:(tTs w.c.ts).length=0:=by rw[f3S,q4]
 simp only[r1,r2,r3,r4,r5,g3W,g3Y,g4D,g4E,tLi] at h1 h2
 have hn:=fun s sg ow K=>RetE.iff (K:=K) (ok54 (gl:=gl) s sg ow)
 simp only[wA,seval,reduceCtorEq,reduceIte,h1,h2,hn,List.cons_append,List.nil_append,r1,r2,g1,g2,g3,b6V,a0C,a0M,T.isAgg,List.replicate,g3G,g3H,g3B,g3X]
 all_goals (try rfl)
end Go.Proofs.YtdjcnfacjfnakaaGreat

/- Contracts: the law of the compiler's limit. -/
namespace Go.Proofs.YtdjcnfacjfnakaaGreat
open Go.Pi Go.Lx Go.Ky Go.Lib
variable {gl:Nat→Option (List T)}
def knownL:List Int:=[17,97,193,257,12289,65537,18446744069414584321]
theorem ok16 {K:PV→Prop}:XcP F gl 16 [] K ⟨⟩↔K (.t (.sl false (uL knownL))):=by
 refine Ret.iff (Ret.of F16 rfl ?_)
 simp only[c4Q]
 simp only[wA,seval,reduceCtorEq,reduceIte,b6V,a0C,a0M,T.isAgg,List.replicate,g3G,g3H,g3B]
 try rfl
def g1D (n:Int):Int:=knownL.getD (n.tmod 7).toNat 0
theorem ok26 {n:Int} (h0:0≤n) (h1:n≤255) {K:PV→Prop}:XcP F gl 26 [.int .u8 n] K ⟨⟩↔K (.t (.int .u64 (g1D n))):=by
 refine Ret.iff (Ret.of F26 rfl ?_)
 simp only[c4U]
 have hw:IntKind.i64.wrap n=n:=IntWalk.i64_in _ (by omega)
 have t0:0≤n.tmod 7:=Int.tmod_nonneg _ h0
 have t1:n.tmod 7 < 7:=Int.tmod_lt_of_pos _ (by decide)
 have hw2:IntKind.i64.wrap (n.tmod 7)=n.tmod 7:=IntWalk.i64_in _ (by omega)
 have hg:knownL[(n.tmod 7).toNat]?=some (g1D n):=by
  unfold g1D
  rw[List.getD_eq_getElem?_getD,g3L (by show(n.tmod 7).toNat < 7;omega)];rfl
 have hl:n.tmod 7 < (knownL.length:Int):=t1
 have hl2:(n.tmod 7).toNat < knownL.length:=by show(n.tmod 7).toNat < 7;omega
 simp only[wA,seval,reduceCtorEq,reduceIte,ok16,hw,hw2,e8F,e8G,hg,hl,hl2,t0,g5F]
theorem g1E {n:Int} (h0:0≤n):e2N (g1D n)=true∧1 < g1D n∧((e2Q (g1D n)).2.2=3∨(e2Q (g1D n)).2.2=5∨(e2Q (g1D n)).2.2=7):=by
 have t0:0≤n.tmod 7:=Int.tmod_nonneg _ h0
 have t1:n.tmod 7 < 7:=Int.tmod_lt_of_pos _ (by decide)
 have hm:∀ i,i∈List.range 7→e2N (knownL.getD i 0)=true∧1 < knownL.getD i 0∧((e2Q (knownL.getD i 0)).2.2=3∨(e2Q (knownL.getD i 0)).2.2=5∨(e2Q (knownL.getD i 0)).2.2=7):=by decide +kernel
 exact hm _ (g4L.2 (by omega))
abbrev g1F:List T:=[.int .i64 1,.int .u64 1,.str [],.sl true []]
def g1G (i:Nat):PV:=if i=0 then .t (.sl true []) else .own 0 4 (List.replicate i g1F)
def g1H (i:Nat):Ow:=if i=0 then [] else [i]
theorem d8J (dr:Bool) (sg:Sg) {i:Nat} (hi:i≤100):a0U dr sg (g1H i) 4 56 (g1G i) (.lit [g1F])=some (g1G (i+1),g1H (i+1)):=by
 have hr:a0N (i+1) 56=true:=by unfold a0N;simp only[g5L];omega
 cases i with
 |zero=>rfl
 |succ i =>
  have e:List.replicate (i+1) g1F++[g1F]=List.replicate (i+1+1) g1F:=by rw[List.replicate_succ' (n:=i+1)]
  show a0U dr sg [i+1] 4 56 (.own 0 4 (List.replicate (i+1) g1F)) (.lit [g1F])=some (.own 0 4 (List.replicate (i+1+1) g1F),[i+1+1])
  unfold a0U
  simp only[a0L,elems,List.length_replicate,g3W,g3Y,g5A,hr,e]
  rw[if_pos ⟨rfl,by decide⟩,if_pos ⟨rfl,trivial,trivial⟩];rfl
theorem g1I (i:Nat):cellsP (g1G (i+1))=[g1G (i+1)]:=rfl
theorem g1J (i:Nat):Go.Pi.one (g1G (i+1))=true:=rfl
theorem g1K {m:Nat} (hm:m≤8) {a0 a1 a2 a7:PV} (Q:Ex→S→Prop):∀ (k i:Nat) (fr:List PV),i+k=m →
  b9P fr [(0,a0),(1,a1),(2,a2),(7,a7),(8,.lp 0 0),(26,.t (.int .u8 m)),(27,.t (.int .u8 i))] →
  (∀ fr',b9P fr' [(0,a0),(1,a1),(2,a2),(7,a7),(8,.lp 0 0)]→Q (.exit 0) ⟨fr',[(false,[.t (.int .i64 6),.t (.int .u64 5),.t (.str []),g1G m])],g1H m⟩) →
  Xl F gl c4M ⟨fr,[(false,[.t (.int .i64 6),.t (.int .u64 5),.t (.str []),g1G i])],g1H i⟩ Q ⟨⟩:=by
 intro k
 induction k with
 |zero =>
  intro i fr hd hf k1
  have hd:i=m:=by omega
  subst hd
  simp only[b9R,b9Q] at hf
  obtain⟨f0,f1,f2,f7,f8,f26,f27,-⟩:=hf
  refine Xl.step ?_
  simp only[c4M]
  have c1:¬((i:Int) < (i:Int)):=by omega
  simp only[wA,seval,reduceCtorEq,reduceIte,f26,f27,c1]
  exact k1 _ (by simp only[wQ,Nat.reduceEqDiff,reduceIte,f0,f1,f2,f7,f8];first|done|exact⟨rfl,rfl⟩|rfl)
 |succ k ih =>
  intro i fr hd hf k1
  simp only[b9R,b9Q] at hf
  obtain⟨f0,f1,f2,f7,f8,f26,f27,-⟩:=hf
  refine Xl.step ?_
  simp only[c4M]
  have c1:(i:Int) < (m:Int):=by omega
  have hw:IntKind.u8.wrap ((i:Int)+1)=((i+1:Nat):Int):=by rw[show IntKind.u8.wrap ((i:Int)+1)=((i:Int)+1) % 256 from rfl];omega
  have ha:=fun dr sg=>d8J dr sg (i:=i) (by omega)
  simp only[wA,seval,reduceCtorEq,reduceIte,f8,f26,f27,c1,hw,ha,g1I,g1J,List.all_cons,List.all_nil,g3W,g3Y,Bool.and_self,g5A,g5H,setRange,List.take,List.drop,b6V,a0C,a0M,T.isAgg,List.replicate,g3G,g3H,g3B]
  exact ih (i+1) _ (by omega) (by simp only[wQ,Nat.reduceEqDiff,reduceIte,f0,f1,f2,f7,f8,f26];first|done|exact⟨rfl,rfl⟩|rfl) k1
theorem g1L:∀ m,d1X (List.replicate m f4V)=List.replicate m g1F
 |0=>rfl
 |m+1=>by rw[List.replicate_succ,List.replicate_succ,d1X,g1L m];rfl
theorem g1M {n:Int} (h:0≤n) (h2:n≤1000):I64 n:=by unfold I64;omega
abbrev limT (h:Int) (k:Nat):List T:=[.sl true [],.sl true [],.sl false [[.int .i64 3,.str [105],.bool false,.int .i64 0,.int .i64 0,.int .i64 0,.int .i64 0,.int .u64 0,.str [],.sl true [],.int .i64 0,.int .i64 h,.sl false [[.int .i64 1,.str [104],.bool false,.int .i64 0,.int .i64 0,.int .i64 0,.int .i64 6,.int .u64 5,.str [],.sl false (g1F::List.replicate k g1F),.int .i64 0,.int .i64 0,.sl true []]]]]]
theorem g1N (h:Int) (k:Nat):tPg (f4Z h (k+1))=limT h k:=by
 show([.sl true [],.sl true [],.sl false [[.int .i64 3,.str [105],.bool false,.int .i64 0,.int .i64 0,.int .i64 0,.int .i64 0,.int .u64 0,.str [],.sl true [],.int .i64 0,.int .i64 h,.sl false [[.int .i64 1,.str [104],.bool false,.int .i64 0,.int .i64 0,.int .i64 0,.int .i64 6,.int .u64 5,.str [],.sl false (d1X (List.replicate (k+1) f4V)),.int .i64 0,.int .i64 0,.sl true []]]]]]:List T)=_
 rw[g1L];rfl
theorem g1O:1≤B47:=by have:B47=140737488355328:=rfl;omega
theorem g1P:d2H zTy:=⟨g1M (n:=0) (by decide) (by decide),g1M (n:=0) (by decide) (by decide),g1M (n:=0) (by decide) (by decide)⟩
theorem g1Q:ExpOk zE:=.mk _ (g1M (n:=0) (by decide) (by decide)) (by unfold U64;decide) (g5B _) (g5B _) (fun _=>rfl) (fun a ha=>by cases ha)
theorem g1R:ExpOk f4V:=.mk _ (g1M (n:=1) (by decide) (by decide)) (by unfold U64;decide) (g5B _) (g5B _) (fun _=>rfl) (fun a ha=>by cases ha)
theorem g1S {m:Nat} (m8:m≤8):ExpOk (f4W m):=.mk _ (g1M (n:=6) (by decide) (by decide)) (show U64 5 by unfold U64;decide) (g5B _)
 (by
  have hb:B47=140737488355328:=rfl
  have hl:(f4W m).args.length=m:=List.length_replicate
  omega) (fun h=>by cases h) (fun a ha=>by rw[(List.mem_replicate.1 ha).2];exact g1R)
theorem g1T {m:Nat} (m8:m≤8):StOk (f4X m):=.mk _ (g1M (n:=1) (by decide) (by decide)) g1O g1P (g1S m8) (g1M (n:=0) (by decide) (by decide)) (g1M (n:=0) (by decide) (by decide)) (g5B _) (fun _=>rfl) (fun a ha=>by cases ha)
theorem g1U {h:Int} (h0:0≤h) (hh:h≤800) {m:Nat} (m8:m≤8):StOk (f4Y h m):=.mk _ (g1M (n:=3) (by decide) (by decide)) g1O g1P g1Q (g1M (n:=0) (by decide) (by decide)) (g1M (n:=h) (by omega) (by omega)) g1O (fun h=>by cases h) (fun a ha=>by rw[g4M.1 ha];exact g1T m8)
theorem g1V {h:Int} (h0:0≤h) (hh:h≤800) {m:Nat} (m1:1≤m) (h8:m≤8):PgB (f4Z h m):=by
 have hs:szS (f4X m)≤1000:=m8 (P:=fun m=>szS (f4X m)≤1000) (by decide +kernel) m1 h8
 have hb:B20=1100000:=rfl
 refine⟨⟨g5B _,fun _=>rfl,(fun f hf=>by cases hf),g5B _,fun _=>rfl,(fun f hf=>by cases hf),g1O,(fun h=>by cases h),(fun s hs=>by rw[g4M.1 hs];exact g1U h0 hh h8)⟩,g5B _,g5B _,(fun f hf=>by cases hf),?_⟩
 show d2K [f4Y h m]≤B20
 have e0:d2K []=0:=rfl
 have e1:d2K [f4Y h m]=szS (f4Y h m):=by rw[d2O];omega
 have e2:d2K [f4X m]=szS (f4X m):=by rw[d2O];omega
 have e3:=d2N (f4Y h m)
 have e4:(f4Y h m).body=[f4X m]:=rfl
 have e5:(f4Y h m).name.length=1:=rfl
 have e6:(f4Y h m).ex.name.length=0:=rfl
 have e7:d2J (f4Y h m).ex.args=0:=rfl
 rw[e4] at e3
 omega
set_option maxHeartbeats 1000000 in
theorem law8 {n h e:Int} (n0:0≤n) (n1:n≤255) (h0:0≤h) (h1:h≤65535) (e0:0≤e) (e1:e≤255):Ret F gl 8 [.int .u8 n,.int .u16 h,.int .u8 e] (.t (.bool true)):=by
 refine Ret.of F8 rfl ?_
 simp only[ir8]
 by_cases c1:h > 800
 ·simp only[wA,seval,reduceCtorEq,reduceIte,ok22,c1]
 obtain⟨m,hm,m1,m8⟩:∃ m:Nat,(m:Int)=1+e.tmod 8∧1≤m∧m≤8:=by
  have t0:0≤e.tmod 8:=Int.tmod_nonneg _ e0
  have t1:e.tmod 8 < 8:=Int.tmod_lt_of_pos _ (by decide)
  exact⟨(1+e.tmod 8).toNat,by omega,by omega,by omega⟩
 have hp:=fun K=>ok26 (gl:=gl) n0 n1 (K:=K)
 have hw1:IntKind.u8.wrap (e.tmod 8)=e.tmod 8:=by rw[show IntKind.u8.wrap (e.tmod 8)=e.tmod 8 % 256 from rfl];omega
 have hw2:IntKind.u8.wrap (1+e.tmod 8)=(m:Int):=by rw[show IntKind.u8.wrap (1+e.tmod 8)=(1+e.tmod 8) % 256 from rfl];omega
 simp only[wA,seval,reduceCtorEq,reduceIte,ok22,c1,hp,hw1,hw2]
 refine g1K (a0:=.t (.int .u8 n)) (a1:=.t (.int .u16 h)) (a2:=.t (.int .u8 e)) (a7:=.t (.int .u64 (g1D n))) m8 _ m 0 _ (by omega) (by simp only[wQ,Nat.reduceEqDiff,reduceIte];first|done|exact⟨rfl,rfl⟩|rfl) ?_
 intro fr hf
 simp only[b9R,b9Q] at hf
 obtain⟨f0,f1,f2,f7,f8,-⟩:=hf
 obtain⟨k,rfl⟩:∃ k,m=k+1:=⟨m - 1,by omega⟩
 have ev:g1G (k+1)=.own 0 4 (List.replicate (k+1) g1F):=rfl
 have eo:g1H (k+1)=[k+1]:=rfl
 rw[ev,eo]
 obtain⟨p1,p2,p3⟩:=g1E n0
 have hC:=fun K=>g0U (gl:=gl) (g1V h0 (by omega) m1 m8) (g1D n) (K:=K)
 have hX:=fun K=>ok27 (gl:=gl) (g1D n) (K:=K)
 have hPl:=f5T (Φ:=foF (g1D n)) p3 p2 h0 (by omega) m1 m8
 have hfx:(foF (g1D n)).ex=(e2Q (g1D n)).2.2:=rfl
 rw[hfx] at hPl
 rw[p1] at hC
 have hw3:IntKind.i64.wrap h=h:=IntWalk.i64_in _ (by omega)
 obtain⟨q,hq,hq2,hq4⟩:∃ q:Int,(((k+1:Nat):Int)+1).tdiv 2=q∧(((k+1+1) / 2:Nat):Int)=q∧(q=1∨q=2∨q=3∨q=4):=by
  refine⟨_,rfl,?_,?_⟩
  ·rw[Int.tdiv_eq_ediv_of_nonneg (by omega)];omega
  ·rw[Int.tdiv_eq_ediv_of_nonneg (by omega)];omega
 have hw4:IntKind.i64.wrap (((k+1:Nat):Int)+1)=((k+1:Nat):Int)+1:=IntWalk.i64_in _ (by omega)
 have hw5:IntKind.i64.wrap q=q:=IntWalk.i64_in _ (by omega)
 have b1:0≤h * q∧h * q≤3200:=by rcases hq4 with c|c|c|c <;> rw[c] <;> omega
 have hw6:IntKind.i64.wrap (h * q)=h * q:=IntWalk.i64_in _ (by omega)
 have hw7:IntKind.i64.wrap (h * q * 24)=h * q * 24:=IntWalk.i64_in _ (by omega)
 rw[g1N] at hC
 have hl1:((List.replicate k g1F).length:Int)+1=((k+1:Nat):Int):=by simp
 rcases p3 with x|x|x
 ·rw[x] at hPl hX
  have hr:h * f0H 3 (k+1)=h * q * 24 * 2:=by
   have e:f0H 3 (k+1)=q * 24 * 2:=by
    unfold f0H f0C;rw[hq2,Int.mul_assoc];rfl
   rw[e,←Int.mul_assoc,←Int.mul_assoc]
  rw[hr] at hPl
  have hw8:IntKind.i64.wrap (h * q * 24 * 2)=h * q * 24 * 2:=IntWalk.i64_in _ (by omega)
  by_cases c2:16384 < h * q * 24 * 2
  ·rw[hPl.1 c2] at hC
   simp only[tCi] at hC
   simp only[wA,seval,reduceCtorEq,reduceIte,f0,f1,f2,f7,f8,hC,hX,hw3,hw4,hw5,hw6,hw7,hw8,hq,c2,hl1,g3W,List.length_replicate,b6V,a0C,a0M,T.isAgg,List.replicate,g3G,g3H,g3B,allT]
  ·obtain⟨b,hb,hb2⟩:=hPl.2 (by omega)
   rw[hb] at hC
   simp only[tCi] at hC
   simp only[wA,seval,reduceCtorEq,reduceIte,f0,f1,f2,f7,f8,hC,hX,hw3,hw4,hw5,hw6,hw7,hw8,hq,c2,hl1,hb2,g3X,g3W,List.length_replicate,b6V,a0C,a0M,T.isAgg,List.replicate,g3G,g3H,g3B,allT]
 ·rw[x] at hPl hX
  have hr:h * f0H 5 (k+1)=h * q * 24 * 3:=by
   have e:f0H 5 (k+1)=q * 24 * 3:=by
    unfold f0H f0C;rw[hq2,Int.mul_assoc];rfl
   rw[e,←Int.mul_assoc,←Int.mul_assoc]
  rw[hr] at hPl
  have hw8:IntKind.i64.wrap (h * q * 24 * 3)=h * q * 24 * 3:=IntWalk.i64_in _ (by omega)
  by_cases c2:16384 < h * q * 24 * 3
  ·rw[hPl.1 c2] at hC
   simp only[tCi] at hC
   simp only[wA,seval,reduceCtorEq,reduceIte,f0,f1,f2,f7,f8,hC,hX,hw3,hw4,hw5,hw6,hw7,hw8,hq,c2,hl1,g3W,List.length_replicate,b6V,a0C,a0M,T.isAgg,List.replicate,g3G,g3H,g3B,allT]
  ·obtain⟨b,hb,hb2⟩:=hPl.2 (by omega)
   rw[hb] at hC
   simp only[tCi] at hC
   simp only[wA,seval,reduceCtorEq,reduceIte,f0,f1,f2,f7,f8,hC,hX,hw3,hw4,hw5,hw6,hw7,hw8,hq,c2,hl1,hb2,g3X,g3W,List.length_replicate,b6V,a0C,a0M,T.isAgg,List.replicate,g3G,g3H,g3B,allT]
 ·rw[x] at hPl hX
  have hr:h * f0H 7 (k+1)=h * q * 24 * 4:=by
   have e:f0H 7 (k+1)=q * 24 * 4:=by
    unfold f0H f0C;rw[hq2,Int.mul_assoc];rfl
   rw[e,←Int.mul_assoc,←Int.mul_assoc]
  rw[hr] at hPl
  have hw8:IntKind.i64.wrap (h * q * 24 * 4)=h * q * 24 * 4:=IntWalk.i64_in _ (by omega)
  by_cases c2:16384 < h * q * 24 * 4
  ·rw[hPl.1 c2] at hC
   simp only[tCi] at hC
   simp only[wA,seval,reduceCtorEq,reduceIte,f0,f1,f2,f7,f8,hC,hX,hw3,hw4,hw5,hw6,hw7,hw8,hq,c2,hl1,g3W,List.length_replicate,b6V,a0C,a0M,T.isAgg,List.replicate,g3G,g3H,g3B,allT]
  ·obtain⟨b,hb,hb2⟩:=hPl.2 (by omega)
   rw[hb] at hC
   simp only[tCi] at hC
   simp only[wA,seval,reduceCtorEq,reduceIte,f0,f1,f2,f7,f8,hC,hX,hw3,hw4,hw5,hw6,hw7,hw8,hq,c2,hl1,hb2,g3X,g3W,List.length_replicate,b6V,a0C,a0M,T.isAgg,List.replicate,g3G,g3H,g3B,allT]
end Go.Proofs.YtdjcnfacjfnakaaGreat

/- The law of the compiler's limit, argument by argument. -/
namespace Go.Proofs.YtdjcnfacjfnakaaGreat
open Go.Pi Go.Lx Go.Ky Go.Lib
variable {gl:Nat→Option (List T)}
theorem g1W (N:Nat):∀ xs,b5P (d2I 44 49) N [(false,[.int .u8]),(false,[.int .u16]),(false,[.int .u8])] xs→b5C xs≤N→∃ n sg ow,a1S F gl n 8 (xs.map .t) [] []=some (.t (.bool true),sg,ow):=by
 intro xs h hs
 obtain⟨x,r,rfl,hx,h⟩:=d1O h
 obtain⟨y,r,rfl,hy,h⟩:=d1O h
 obtain⟨z,r,rfl,hz,h⟩:=d1O h
 obtain rfl:=d1P h
 obtain⟨a,rfl,a1,a2⟩:=d1L (d1N hx)
 obtain⟨b,rfl,b1,b2⟩:=d1M (d1N hy)
 obtain⟨c,rfl,c1,c2⟩:=d1L (d1N hz)
 exact CallP.law (law8 a1 a2 b1 b2 c1 c2)
end Go.Proofs.YtdjcnfacjfnakaaGreat
