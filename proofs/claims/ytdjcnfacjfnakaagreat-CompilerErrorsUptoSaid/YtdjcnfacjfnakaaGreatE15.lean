/- Contracts: the value of an expression: its arguments, a name, an index. -/
import Derived.Test.YtdjcnfacjfnakaaGreatE13
set_option maxRecDepth 10000
set_option linter.unusedVariables false
set_option linter.unusedSimpArgs false
namespace Go.Proofs.YtdjcnfacjfnakaaGreat
open Go.Pi Go.Lx Go.Ky Go.Lib
variable {gl:Nat->Option (List T)}
def VaC (gl:Nat->Option (List T)) (p:Int) (fa fs:Fs) (ns:Ns) (Ψ:Fc) (e:Exp):Prop :=
 ∀ (sg:Sg) (c r ri hi fm m:Nat) (s:Cst) (sc:Sx) (ow:Ow) (w:Int),CS sg c r ri hi fm p fa s->CsOk s->sg[m]?=some (true,iC sc)->ScC s.b.vars ns sc->(exM fs ns e w).1.2=0 ->
  CallE F gl 85 [.lp c 0,.t (.agg (tEx e)),.mp m] sg ow λx sg' ow'=>x=.t (.agg (tVc (evC (foF p) Ψ sc e s).1))/\Cd sg ow c r ri hi fm p fa (evC (foF p) Ψ sc e s).2 sg' ow'
theorem g0C {Φ:Fo} (hΦ:Φ.Ok) {Ψ:Fc} {fs:Fs} (hΨ:FcOk fs Ψ) {ns:Ns} {sc:Sx} {x:Exp} (hx:ExpOk x) (hz:szE x<=B20) (hB:exB x=true) {w:Int} {s:Cst} (hs:CsOk s) (hsc:ScC s.b.vars ns sc) (he:(exM fs ns x w).1.2=0):CsOk (evC Φ Ψ sc x s).2/\ScC (evC Φ Ψ sc x s).2.b.vars ns sc:=by
 have:=f4J hΦ hΨ x hx hz hB w s hs hsc he
 exact⟨this.cs,hsc.mono this.le.vars⟩
theorem g0D {p:Int} (hk:e2X p=true) {fa fs:Fs} {ns:Ns} {Ψ:Fc} (hΨ:FcOk fs Ψ) {e:Exp} (hxo:∀ a,a∈e.args->ExpOk a/\szE a<=B20/\exB a=true) (hrec:∀ a,a∈e.args->VaC gl p fa fs ns Ψ a) (hn:e.args.length<=B47) {c r ri0 hi0 fm m a b4 b6:Nat} {sc:Sx} {v:PV} {sgB:Sg} {owB:Ow} (hm0:sgB[m]?=some (true,iC sc)) (hcm:m ∉ [a,c,r,ri0,hi0]) (haf:a≠fm) (hla:e.args≠[]->a < sgB.length)
  (hv:0 < e.args.length->v=.ls a 0 e.args.length 5) (Q:Ex->S->Prop):∀ (l:List Exp) (i:Nat) (done:List Vc) (w:Int) (s:Cst) (fr:List PV) (sg:Sg) (ow:Ow) (ri hi:Nat),e.args.drop i=l->i<=e.args.length->done.length=i->CS sg c r ri hi fm p fa s->CsOk s->ScC s.b.vars ns sc->a ∉ [c,r,ri,hi]->Mv [a,c,r,ri0,hi0] [a,c,r,ri,hi] sgB sg->owB <+: ow ->
  (0 < e.args.length->sg[a]?=some (false,f5J tVc zVt e.args.length done))->(d3Y fs ns l w).1.2=0 ->
  b6S fr [(0,.lp c 0),(2,.mp m),(4,.lp b4 0),(6,.lp b6 0),(8,v),(51,.t (.sl e.nl (d1H e.args))),(52,.t (.int .i64 e.args.length)),(53,.t (.int .i64 i))] ->
  (∀ fr' sg' ow' ri' hi',CS sg' c r ri' hi' fm p fa (f2Y (foF p) Ψ sc l s).2->a ∉ [c,r,ri',hi']->Mv [a,c,r,ri0,hi0] [a,c,r,ri',hi'] sgB sg'->owB <+: ow'->(0 < e.args.length->sg'[a]?=some (false,cG tVc (done++(f2Y (foF p) Ψ sc l s).1))) ->
   b6S fr' [(0,.lp c 0),(2,.mp m),(4,.lp b4 0),(6,.lp b6 0),(8,v)]->Q (.exit 1) ⟨fr',sg',ow'⟩) ->
  Xl F gl c4I ⟨fr,sg,ow⟩ Q ⟨⟩:=by
 intro l
 induction l with
 |nil =>
  intro i done w s fr sg ow ri hi hd hil hdn h hs hsc hca hM hO har he hf k1
  have hd:=b6N hd
  simp only[b6U,b6T] at hf
  obtain⟨f0,f2,f4,f6,f8,f51,f52,f53,-⟩:=hf
  refine Xl.step ?_
  simp only[c4I]
  have c1:¬((i:Int) < (e.args.length:Int)):=by omega
  rw[f2Y] at k1
  simp only[wA,seval,f0,f2,f4,f6,f8,f51,f52,f53,c1]
  refine k1 _ _ _ ri hi h hca hM hO (λhp=>?_) (by simp only[wQ,seval,f0,f2,f4,f6,f8])
  rw[har hp,f5Q (by omega),g5C]
 |cons x l ih =>
  intro i done w s fr sg ow ri hi hd hil hdn h hs hsc hca hM hO har he hf k1
  obtain⟨hx,hr,hi'⟩:=b6M hd
  simp only[b6U,b6T] at hf
  obtain⟨f0,f2,f4,f6,f8,f51,f52,f53,-⟩:=hf
  refine Xl.step ?_
  simp only[c4I]
  have c1:(i:Int) < (e.args.length:Int):=by omega
  have hpos:0 < e.args.length:=by omega
  have hvv:=hv hpos
  subst hvv
  have hw1:=d5F hi' (show e.args.length<=281474976710656 by have:B47=140737488355328:=rfl;omega)
  rw[d5Y] at he
  have e1:(exM fs ns x w).1.2=0:=by
   by_cases h:(exM fs ns x w).1.2≠0
   ·rw[if_pos h] at he;exact absurd he h
   ·simpa using h
  rw[if_neg (by simpa using e1)] at he
  have e2:(d3Y fs ns l (exM fs ns x w).2).1.2=0:=by
   by_cases h:(d3Y fs ns l (exM fs ns x w).2).1.2≠0
   ·rw[if_pos h] at he;exact absurd he h
   ·simpa using h
  have hxm:=g6K hx
  obtain⟨xo,xz,xb⟩:=hxo x hxm
  obtain⟨s1,s2⟩:=g0C (f6I hk) hΨ xo xz xb hs hsc e1
  have hmm:=hM.get hm0 hcm
  have ha:=har hpos
  have la:=d4U ha
  have hq:=λt=>hrec x hxm (sg++t) c r ri hi fm m s sc ow w (h.app t) hs (b0R hmm) hsc e1
  simp only[d1J] at hq
  rw[f2Y] at k1
  simp only at k1
  simp only[wA,seval,f0,f2,f4,f6,f8,f51,f52,f53,c1,hw1,g4Z,hi',d1L,hx,g7F,d1J,wC]
  refine CallE.mono (hq _) ?_
  rintro y sg' ow' ⟨rfl,o1,ri1,hi1,hcs,hm1⟩
  generalize hxr:evC (foF p) Ψ sc x s=q at *
  obtain⟨vx,sx⟩:=q
  have ha1:=hm1.get (b0R ha) hca
  have hca1:=hm1.cold (by rw[g5W];omega) hca
  have ma:=d4U ha1
  have hle:i * 5+5<=(f5J tVc zVt e.args.length done).length:=by rw[f5R f6E rfl (by omega)];omega
  have hset:=f5S (t:=tVc) (z:=zVt) f6E rfl (n:=e.args.length) (l:=done) (by omega) vx
  rw[hdn] at hset
  simp only[g6E,g6F,setRange] at hset
  simp only[wA,seval,f0,f2,f4,f6,f8,f51,f52,f53,c1,hw1,g4Z,hi',ha1,hle,wC,hset]
  refine ih (i+1) (done++[vx]) (exM fs ns x w).2 sx _ _ _ ri1 hi1 hr (by omega) (by simp [hdn]) (hcs.set hca1 haf _) s1 s2 hca1 (((hM.app2 _).trans (hm1.cons a)).set (.inl (by simp)) _) (hO.trans o1) (λ_=>by rw[g5T ma]) e2 (by simp only[wQ,seval,f0,f2,f4,f6,f8,f51,f52]) ?_
  intro fr' sg2 ow2 ri' hi'' x1 x2 x3 x4 x5 x6
  refine k1 fr' sg2 ow2 ri' hi'' x1 x2 x3 x4 (λh=>?_) x6
  rw[x5 h,g5B];rfl
theorem g0E {p:Int} {fa fs:Fs} {ns:Ns} {Ψ:Fc} {e:Exp} (o2:e.op=2):VaC gl p fa fs ns Ψ e:=by
 intro sg c r ri hi fm m s sc ow w h hs hm hsc he
 obtain⟨v,hl⟩:∃ v,Ky.look e.name sc=some v:=by
  rw[d3Z,if_neg (by omega)] at he
  simp only at he
  by_cases c:(d3Y fs ns e.args w).1.2≠0
  ·rw[if_pos c] at he;exact absurd he c
  rw[if_neg c] at he
  unfold opM at he
  rw[if_neg (by omega),if_neg (by omega),if_pos o2] at he
  cases hk:Ky.look e.name ns with
  |none=>simp only[hk] at he;cases he
  |some s =>
   obtain⟨v,k1,_⟩:=hsc _ _ hk
   exact⟨v,k1⟩
 have hP:evC (foF p) Ψ sc e s=(v,s):=by rw[f2Z,if_pos o2];unfold lkC;rw[hl];rfl
 rw[hP]
 have hml:=d4U hm
 have h5:(1000:Nat) < 1005:=by decide
 have hcl:clo (.t (.agg (tVc v)))=.t (.agg (tVc v)):=rfl
 refine XcE.of F85 rfl ?_
 simp only[c4J]
 simp only[wA,seval,d1J,o2,d5I hml,hm,a0W,iC,d4X,hl,g7D,Option.isSome_some,wC,allT,c1B h5,hcl]
 exact Cd.app (.same (h.app _) ow)
theorem g0F {p:Int} (hk:e2X p=true) {fa fs:Fs} {ns:Ns} {Ψ:Fc} (hΨ:FcOk fs Ψ) {e a b:Exp} (o8:e.op=8) (hab:e.args=[a,b]) (hxo:ExpOk e) (hsz:szE e<=B20) (heb:exB e=true) (hrec:VaC gl p fa fs ns Ψ a):VaC gl p fa fs ns Ψ e:=by
 intro sg c r ri hi fm m s sc ow w h hs hm hsc he
 have he':(d3X ns (exM fs ns a w) b).1.2=0:=by
  rw[d3Z,if_pos o8,hab] at he
  exact he
 obtain⟨i1,i2,i3,i4⟩:=e9E he'
 obtain⟨x1,x2,x3⟩:=e9C hxo
 have hba:=d5U heb
 have hR:=f4J (f6I hk) hΨ a (x3 a (by rw[hab];simp)) ((d6A hsz).2 a (by rw[hab];simp)) (hba a (by rw[hab];simp)) w s hs hsc i1
 have hv:=hR.v
 obtain⟨p1,p2⟩:=f4P (hsc.mono hR.le.vars) (x3 b (by rw[hab];simp)) hv.n0 hv.n1 i2
 have hP:evC (foF p) Ψ sc e s=(f2J ((evC (foF p) Ψ sc a s).1.els.getD (f2X b sc).toNat f0E) ⟨(evC (foF p) Ψ sc a s).1.typ.kind,(evC (foF p) Ψ sc a s).1.typ.bits,0⟩,(evC (foF p) Ψ sc a s).2):=by rw[f2Z,if_neg (by omega),if_pos o8,hab]
 rw[hP]
 have hml:=d4U hm
 have hmc:=h.map hm
 have lf:=d4U h.hf
 refine XcE.of F85 rfl ?_
 simp only[c4J]
 have hq:=λt=>hrec (sg++t) c r ri hi fm m s sc ow w (h.app t) hs (b0R hm) hsc i1
 simp only[d1J] at hq
 simp only[wA,seval,d1J,o8,hab,d1H,wC]
 refine CallE.mono (hq _) ?_
 rintro y sg' ow' ⟨rfl,o1,ri1,hi1,hcs,hm1⟩
 have j4:=hm1.get (i:=sg.length) (v:=(false,[PV.t (.int .i64 8),.t (.int .u64 e.val),.t (.str e.name),.t (.sl e.nl [tEx a,tEx b])])) (by simp [d1J]) (h.new (g6U _))
 have j6:=hm1.get (i:=sg.length+1) (v:=(false,zVt.map PV.t)) (by rw[g5K (by omega)];simp) (h.new (by omega))
 have n6:=hm1.cold (i:=sg.length+1) (by simp) (h.new (by omega))
 have hm':=hm1.get (b0R hm) hmc
 have m4:=d4U j4
 have m6:=d4U j6
 simp only[d1J] at j4
 have hq2:=λt=>f9U (gl:=gl) (sg:=sg'++t) (m:=m) (sc:=sc) (b0R hm') b (hba b (by rw[hab];simp)) ow'
 simp only[d1J] at hq2
 have hcsR:=hR.cs
 generalize hqa:evC (foF p) Ψ sc a s=q at *
 obtain⟨va,sa⟩:=q
 have hlen:f2X b sc < (va.els.length:Int):=by
  rw[hv.len]
  unfold e8S
  split <;> omega
 have hlt:(f2X b sc).toNat < va.els.length:=by omega
 have hget:va.els[(f2X b sc).toNat]?=some (va.els.getD (f2X b sc).toNat f0E):=by
  rw[List.getD_eq_getElem?_getD,g5M hlt];rfl
 have hsc2:=λsg ow=>f9I (gl:=gl) (.lp c 0) (va.els.getD (f2X b sc).toNat f0E) ⟨va.typ.kind,va.typ.bits,0⟩ sg ow
 have h5:(1000:Nat) < 1005:=by decide
 simp only[wA,seval,d5I m4,j4,wC,a1C,lenS]
 refine CallE.mono (hq2 _) ?_
 rintro y sg2 ow2 ⟨rfl,hg2,rfl⟩
 have j7:=hg2.get (i:=sg'.length) (x:=(false,[PV.t (.sl false (tLs va.els)),.t (.int .i64 va.typ.kind),.t (.int .i64 va.typ.bits),.t (.int .i64 0),.t (.int .i64 va.num)])) (by simp)
 have j42:=hg2.get (b0R j4)
 simp only[wA,seval,d5I m4,j4,j42,j7,d5Q,d5P,d5O,d5L,f5G,f5F,hget,hlen,hlt,p1,g7F,a1C,lenS,allT]
 refine CallE.mono (hsc2 _ _) ?_
 rintro y sg3 ow3 ⟨rfl,hg3,rfl⟩
 have j73:=hg3.get j7
 have j43:=hg3.get j42
 have j63:=hg3.get (hg2.get (b0R j6))
 have g4:∀ z,(sg3.set (sg.length+1) z)[sg.length]?=sg3[sg.length]?:=λz=>g5S (by omega)
 have g7:∀ z,(sg3.set (sg.length+1) z)[sg'.length]?=sg3[sg'.length]?:=λz=>g5S (by omega)
 have hcl:∀ l t,clo (.t (.agg (tVc (f2J l t))))=.t (.agg (tVc (f2J l t))):=λ_ _=>rfl
 simp only[wA,seval,j42,j43,j7,j73,j63,d4T j63,g4,g7,d5Q,d5P,d5O,d5L,wC,c1B h5,hcl,allT]
 have hG:Grow sg' sg3:=((Grow.app sg' _).trans hg2).trans hg3
 refine⟨o1,ri1,hi1,(hcs.grow hG).set n6 (by omega) _,Mv.set ((Mv.app _ sg _).trans (hm1.trans (.grow hG))) (.inr (by omega)) _⟩
end Go.Proofs.YtdjcnfacjfnakaaGreat

/- Contracts: the value of an operator, a list, a hash, a choice, a call. -/
namespace Go.Proofs.YtdjcnfacjfnakaaGreat
open Go.Pi Go.Lx Go.Ky Go.Lib
variable {gl:Nat->Option (List T)}
def g0G (sg:Sg) (v:PV) (vs:List Vc):Prop:=(vs=[]/\∃ k,v=.own k 5 [])\/(vs≠[]/\∃ a,v=.ls a 0 vs.length 5/\sg[a]?=some (false,cG tVc vs))
def g0H (gl:Nat->Option (List T)) (p:Int) (fa fs:Fs) (Ψ:Fc):Prop:=∀ (nm:Nm) (f:Fu),Ky.look nm fs=some f->Ky.look nm fa=some f/\∀ (sg:Sg) (c r ri hi fm:Nat) (s:Cst) (ow:Ow) (vs:List Vc) (v:PV),CS sg c r ri hi fm p fa s->CsOk s->g0G sg v vs->vs.length<=B20->PsC s.b.vars f.params vs ->
  CallE F gl 123 [.lp c 0,.t (.agg (tFu f)),v] sg ow λx sg' ow'=>x=.t (.agg (tVc (Ψ nm vs s).1))/\Cd sg ow c r ri hi fm p fa (Ψ nm vs s).2 sg' ow'
theorem g0I {op n v:Int} {nm:Nm} (h:opB op n v nm=true):(op=20->n=3)/\(op=9\/op=10->n=1)/\(op=11\/op=12\/op=13\/op=14\/op=15\/op=16\/op=17\/op=18\/op=19->n=2)/\(op=6\/op=7->1<=n):=by
 refine⟨λe=>?_,λe=>?_,λe=>?_,λe=>?_⟩
 ·subst e;unfold opB at h;simp at h;omega
 ·rcases e with rfl|rfl <;> (unfold opB at h;simp at h;omega)
 ·rcases e with rfl|rfl|rfl|rfl|rfl|rfl|rfl|rfl|rfl <;> (unfold opB at h;simp at h;omega)
 ·rcases e with rfl|rfl <;> (unfold opB at h;simp at h;omega)
set_option maxHeartbeats 1000000 in
theorem g0J {p:Int} (hk:e2X p=true) {fa fs:Fs} {ns:Ns} {Ψ:Fc} (hΨ:FcOk fs Ψ) (hR:g0H gl p fa fs Ψ) {e:Exp} (o2:e.op≠2) (o8:e.op≠8) (hxo:ExpOk e) (hsz:szE e<=B20) (heb:exB e=true) (hrec:∀ a,a∈e.args->VaC gl p fa fs ns Ψ a):VaC gl p fa fs ns Ψ e:=by
 intro sg c r ri hi fm m s sc ow w h hs hm hsc he
 have hP:evC (foF p) Ψ sc e s=opC (foF p) Ψ e.op e.val e.name (f2Y (foF p) Ψ sc e.args s).1 (f2Y (foF p) Ψ sc e.args s).2:=by rw[f2Z,if_neg o2,if_neg o8]
 rw[hP]
 rw[d3Z,if_neg o8] at he
 simp only at he
 have e1:(d3Y fs ns e.args w).1.2=0:=by
  by_cases c:(d3Y fs ns e.args w).1.2≠0
  ·rw[if_pos c] at he;exact absurd he c
  ·simpa using c
 rw[if_neg (by simpa using e1)] at he
 have hml:=d4U hm
 have hmc:=h.map hm
 have lf:=d4U h.hf
 have lc:=d4U h.hc
 have hn:e.args.length<=B20:=(d6A hsz).1
 have hb20:B20=1100000:=rfl
 have hb47:B47=140737488355328:=rfl
 obtain⟨x1,x2,x3⟩:=e9C hxo
 have hba:=d5U heb
 have xval:0<=e.val/\e.val<=18446744073709551615:=by cases hxo with|mk _ h1 h2 h3 h4 h5 h=>exact h2
 refine XcE.of F85 rfl ?_
 simp only[c4J]
 simp only[wA,seval,d1J,o2,o8,d1K]
 have hroom:a0M e.args.length 56=true:=by unfold a0M;simp only[g7L];omega
 obtain⟨v,rr,ow1,hmk,hpo,hv⟩:=f6D tVc zVt (sz:=5) rfl (by decide) (sg++[(false,[.t (.int .i64 e.op),.t (.int .u64 e.val),.t (.str e.name),.t (.sl e.nl (d1H e.args))]),(false,[PV.t (.sl true []),.t (.int .i64 0),.t (.int .i64 0),.t (.int .i64 0),.t (.int .i64 0)])]) ow hroom
 rw[hmk]
 (simp only[wA,seval,d1J,o2,o8,d1K,g5B])
 have hvl:(sg++[(false,[PV.t (.int .i64 e.op),.t (.int .u64 e.val),.t (.str e.name),.t (.sl e.nl (d1H e.args))]),(false,[PV.t (.sl true []),.t (.int .i64 0),.t (.int .i64 0),.t (.int .i64 0),.t (.int .i64 0)])]).length=sg.length+2:=by simp
 rw[hvl] at hv
 have hv':0 < e.args.length->v=.ls (sg.length+2) 0 e.args.length 5:=λh=>by
  rcases hv with⟨h0,_⟩|⟨_,h1,_⟩
  ·omega
  ·exact h1
 have hrr:0 < e.args.length->rr=[(false,f5J tVc zVt e.args.length [])]:=λh=>by
  rcases hv with⟨h0,_⟩|⟨_,_,h1⟩
  ·omega
  ·exact h1
 have hcel:0 < e.args.length->(sg++((false,[PV.t (.int .i64 e.op),.t (.int .u64 e.val),.t (.str e.name),.t (.sl e.nl (d1H e.args))])::(false,[PV.t (.sl true []),.t (.int .i64 0),.t (.int .i64 0),.t (.int .i64 0),.t (.int .i64 0)])::rr))[sg.length+2]?=some (false,f5J tVc zVt e.args.length []):=λh=>by
  rw[hrr h,g5K (by omega)];simp
 have nn:∀ i,sg.length<=i->i ∉ [c,r,ri,hi]:=λi hi=>h.new hi
 have nm2:m ∉ [sg.length+2,c,r,ri,hi]:=λe=>by
  rcases g6H.1 e with e|e
  ·omega
  ·exact hmc e
 refine g0D hk hΨ (λa ha=>⟨x3 a ha,(d6A hsz).2 a ha,hba a ha⟩) hrec (by omega) (c:=c) (r:=r) (ri0:=ri) (hi0:=hi) (fm:=fm) (m:=m) (a:=sg.length+2) (b4:=sg.length) (b6:=sg.length+1) (sc:=sc) (v:=v) (sgB:=sg++((false,[PV.t (.int .i64 e.op),.t (.int .u64 e.val),.t (.str e.name),.t (.sl e.nl (d1H e.args))])::(false,[PV.t (.sl true []),.t (.int .i64 0),.t (.int .i64 0),.t (.int .i64 0),.t (.int .i64 0)])::rr)) (owB:=ow1) (b0R hm) nm2 (by omega) (λh0=>by rw[hrr (List.length_pos_iff.2 h0)];simp) hv' _ e.args 0 [] w s _ _ _ ri hi rfl (by omega) rfl (h.app _) hs hsc (nn _ (by omega)) (.refl _ _) (List.prefix_refl _) hcel e1 (by simp only[wQ,seval];first|done|exact⟨rfl,rfl⟩|rfl) ?_
 intro fr' sg' ow' ri1 hi1 hcs na hM hO ha hf'
 simp only[b6U,b6T] at hf'
 obtain⟨f0,f2,f4,f6,f8,-⟩:=hf'
 have nb4:sg.length ∉ [sg.length+2,c,r,ri,hi]:=λe=>by
  rcases g6H.1 e with e|e
  ·omega
  ·exact nn _ (g6U _) e
 have nb6:sg.length+1 ∉ [sg.length+2,c,r,ri,hi]:=λe=>by
  rcases g6H.1 e with e|e
  ·omega
  ·exact nn _ (by omega) e
 have g4:(sg++((false,[PV.t (.int .i64 e.op),.t (.int .u64 e.val),.t (.str e.name),.t (.sl e.nl (d1H e.args))])::(false,[PV.t (.sl true []),.t (.int .i64 0),.t (.int .i64 0),.t (.int .i64 0),.t (.int .i64 0)])::rr))[sg.length]?=some (false,[PV.t (.int .i64 e.op),.t (.int .u64 e.val),.t (.str e.name),.t (.sl e.nl (d1H e.args))]):=by simp
 have g6:(sg++((false,[PV.t (.int .i64 e.op),.t (.int .u64 e.val),.t (.str e.name),.t (.sl e.nl (d1H e.args))])::(false,[PV.t (.sl true []),.t (.int .i64 0),.t (.int .i64 0),.t (.int .i64 0),.t (.int .i64 0)])::rr))[sg.length+1]?=some (false,[PV.t (.sl true []),.t (.int .i64 0),.t (.int .i64 0),.t (.int .i64 0),.t (.int .i64 0)]):=by rw[g5K (by omega)];simp
 have j4:=hM.get g4 nb4
 have j6:=hM.get g6 nb6
 have q4:=hM.cold (d4U g4) nb4
 have q6:=hM.cold (d4U g6) nb6
 have q6':sg.length+1 ∉ [c,r,ri1,hi1]:=λe=>q6 (g6I _ e)
 have q4':sg.length ∉ [c,r,ri1,hi1]:=λe=>q4 (g6I _ e)
 have hVs:=f4I (Φ:=foF p) (Ψ:=Ψ) (sc:=sc) (fs:=fs) (ns:=ns) e.args (λa ha w s hs hsc he=>f4J (f6I hk) hΨ a (x3 a ha) ((d6A hsz).2 a ha) (hba a ha) w s hs hsc he) w s hs hsc e1
 obtain⟨hs1,hle1,hVs⟩:=hVs
 have hlen:=hVs.len
 rw[e9B _ _ _ _ e1] at hlen
 have hlen2:=e9B _ _ _ _ e1
 simp only[List.nil_append] at ha
 have hOp:=f4H (f6I hk) hΨ (ns:=ns) (nm:=e.name) (w:=(d3Y fs ns e.args w).2) hs1 x1 o2 o8 (by rw[hlen2];omega) (by rw[hlen2];exact(e9D heb).2) hVs he
 have hB2:=g0I (e9D heb).2
 generalize hq:f2Y (foF p) Ψ sc e.args s=q at *
 obtain⟨vs,s'⟩:=q
 simp only at ha hcs hlen hVs hs1 hle1 hOp ⊢
 have hMs:Mv [c,r,ri,hi] [c,r,ri1,hi1] sg sg':=((Mv.app _ sg _).trans hM).loc (by omega)
 have hOs:ow <+: ow':=hpo.trans hO
 have lsg:sg.length+2<=sg'.length:=by have:=hM.1;simp only[g5W,g5X] at this;omega
 have h5:(1000:Nat) < 1005:=by decide
 have hcl:∀ v,clo (.t (.agg (tVc v)))=.t (.agg (tVc v)):=λ_=>rfl
 have hc1:=hcs.hc
 have lf1:=d4U hcs.hf
 have finG:∀ (sgb:Sg) (owb:Ow),Mv [c,r,ri,hi] [c,r,ri1,hi1] sg sgb->ow <+: owb->sg.length+1 < sgb.length->∀ (s2:Cst) (sg2:Sg) (ow2:Ow) (x:Bool×List PV),Cd sgb owb c r ri1 hi1 fm p fa s2 sg2 ow2->Cd sg ow c r ri hi fm p fa s2 (sg2.set (sg.length+1) x) ow2:=by
  intro sgb owb hb ho hl s2 sg2 ow2 x hD
  obtain⟨o2,ri2,hi2,hcs2,hm2⟩:=hD
  exact⟨ho.trans o2,ri2,hi2,hcs2.set (hm2.cold hl q6') (by omega) x,Mv.set (hb.trans hm2) (.inr (by omega)) x⟩
 have ls6:=d4U j6
 by_cases o1:e.op=1
 ·have hP1:opC (foF p) Ψ e.op e.val e.name vs s'=(f2J (f0G (foF p) e.val) (d3M e.val),s'):=by unfold opC;rw[if_pos o1]
  rw[hP1]
  have hcon:=λK=>@f6M gl p e.val hk xval.1 K
  have hnum:=λK=>@f9J gl e.val xval.1 xval.2 K
  simp only[wA,seval,f0,f2,f4,f6,f8,j4,o1,hc1,hcon,hnum]
  refine CallE.mono (f9I (.lp c 0) (f0G (foF p) e.val) (d3M e.val) sg' ow') ?_
  rintro y sg2 ow2 ⟨rfl,hg,rfl⟩
  have j62:=hg.get j6
  simp only[wA,seval,f0,f2,f4,f6,f8,j62,d4T j62,wC,c1B h5,hcl,allT]
  first|exact finG sg' ow2 hMs hOs ls6 _ _ _ _ ⟨List.prefix_refl _,ri1,hi1,hcs.grow hg,.grow hg⟩|exact⟨rfl,finG sg' ow2 hMs hOs ls6 _ _ _ _ ⟨List.prefix_refl _,ri1,hi1,hcs.grow hg,.grow hg⟩⟩
 by_cases o5:e.op=5
 ·have hP5:opC (foF p) Ψ e.op e.val e.name vs s'=Ψ e.name vs s':=by unfold opC;rw[if_neg o1,if_pos o5]
  rw[hP5]
  obtain⟨f,hlk,hps⟩:∃ f,Ky.look e.name fs=some f/\PsC s'.b.vars f.params vs:=by
   unfold opM at he
   rw[if_neg (by omega),if_neg (by omega),if_neg o2,if_pos o5] at he
   simp only at he
   unfold d3R at he
   cases hx:Ky.look e.name fs with
   |none=>rw[hx] at he;cases he
   |some f =>
    rw[hx] at he
    simp only at he
    split at he
    ·cases he
    ·rename_i c
     split at he
     ·rename_i cf
      exact⟨f,rfl,f3W _ _ _ hVs (by omega) cf⟩
     ·cases he
  obtain⟨hlf,hcall⟩:=hR e.name f hlk
  have harg:g0G sg' v vs:=by
   by_cases h0:vs=[]
   ·rw[h0] at hlen
    rcases hv with⟨_,h1,_⟩|⟨h1,_⟩
    ·exact .inl ⟨h0,h1⟩
    ·simp at hlen;omega
   ·have hp:0 < e.args.length:=by rw[<-hlen];exact List.length_pos_iff.2 h0
    exact .inr ⟨h0,_,by rw[hlen];exact hv' hp,ha hp⟩
  have hcl2:=hcall sg' c r ri1 hi1 fm s' ow' vs v hcs hs1 harg (by omega) hps
  simp only[tFu] at hcl2
  have hff:=hcs.hf
  simp only[wA,seval,f0,f2,f4,f6,f8,j4,o1,o5,hc1,hff,a0W,iFc,d4X,hlf,g7D,Option.isSome_some]
  refine CallE.mono hcl2 ?_
  rintro y sg2 ow2 ⟨rfl,o2',ri2,hi2,hcs2,hm2⟩
  have j62:=hm2.get j6 q6'
  simp only[wA,seval,f0,f2,f4,f6,f8,j62,d4T j62,wC,c1B h5,hcl,allT]
  first|exact finG sg' ow' hMs hOs ls6 _ _ _ _ ⟨o2',ri2,hi2,hcs2,hm2⟩|exact⟨rfl,finG sg' ow' hMs hOs ls6 _ _ _ _ ⟨o2',ri2,hi2,hcs2,hm2⟩⟩
 have hpv:∀ x,x∈vs->0 < x.els.length:=λx hx=>(hVs.mem x hx).choose_spec.pos
 have hels:∀ K,XcP F gl 125 [.sl false (vs.map tVc)] K ⟨⟩↔K (.t (.sl false (tLs (vs.map f2K)))):=λK=>f9M (by omega) hpv
 have hlfs:(vs.map f2K).length=e.args.length:=by rw[g5Y];exact hlen
 by_cases o7:e.op=7
 ·have hP7:opC (foF p) Ψ e.op e.val e.name vs s'=(⟨vs.map f2K,⟨(f2P vs).kind,(f2P vs).bits,(vs.length:Int)⟩,0⟩,s'):=by unfold opC;rw[if_neg o1,if_neg o5,if_neg (by omega),if_pos o7]
  rw[hP7]
  have hp:0 < e.args.length:=by have:=hB2.2.2.2 (.inr o7);omega
  have hne:vs≠[]:=λh=>by rw[h] at hlen;simp at hlen;omega
  have hvv:=hv' hp
  subst hvv
  have ha':=ha hp
  have hcom:=λow=>f9W (gl:=gl) hne (by omega) ha' ow
  rw[hlen] at hcom
  simp only[wA,seval,f0,f2,f4,f6,f8,j4,o1,o5,o7]
  refine CallE.mono (hcom _) ?_
  rintro y sg2 ow2 ⟨rfl,hg,rfl⟩
  generalize hT:f2P vs=t
  have lg:=hg.len
  have ha2:=hg.get ha'
  have j62:=hg.get j6
  have j42:=hg.get j4
  have hfz:=λ(x:Bool×List PV)=>f5Y (t:=tVc) (sz:=5) (by decide) f6E f6F (b0R (r:=[x]) ha2) hne
  rw[hlen] at hfz
  have gs:∀ (x z:Bool×List PV),((sg2++[x]).set (sg.length+2) z)[sg2.length]?=some x:=λx z=>by rw[g5S (by have:=d4U ha2;omega)];simp
  have g6':∀ (x z:Bool×List PV),((sg2++[x]).set (sg.length+2) z)[sg.length+1]?=sg2[sg.length+1]?:=λx z=>by rw[g5S (by omega),g5J (d4U j62)]
  have gs2:∀ (x z y:Bool×List PV),(((sg2++[x]).set (sg.length+2) z).set (sg.length+1) y)[sg2.length]?=some x:=λx z y=>by rw[g5S (by have:=d4U j62;omega)];exact gs x z
  have g6s:∀ (x z y:Bool×List PV),(((sg2++[x]).set (sg.length+2) z).set (sg.length+1) y)[sg.length+1]?=some y:=λx z y=>g5T (by rw[g6A,g5W];have:=d4U j62;omega)
  have hb1:fillP [PV.t (.sl true []),.t (.int .i64 0),.t (.int .i64 0),.t (.int .i64 0),.t (.int .i64 0)] [(0,1,PV.t (.sl false (tLs (vs.map f2K)))),(1,3,.t (.agg [.int .i64 t.kind,.int .i64 t.bits,.int .i64 (e.args.length:Int)]))]=some [PV.t (.sl false (tLs (vs.map f2K))),.t (.int .i64 t.kind),.t (.int .i64 t.bits),.t (.int .i64 (e.args.length:Int)),.t (.int .i64 0)]:=rfl
  simp only[wA,seval,f0,f2,f4,f6,f8,j4,wC,a1E,hfz,hels,gs,gs2,g6',g6s,j62,a1C,lenS,d5Q,d5P,d5O,d5L,List.zip_cons_cons,List.zip_nil_left,hb1,allT,c1B h5]
  have hcl7:clo (.t (.agg [.sl false (tLs (vs.map f2K)),.int .i64 t.kind,.int .i64 t.bits,.int .i64 (e.args.length:Int),.int .i64 0]))=.t (.agg (tVc ⟨vs.map f2K,⟨t.kind,t.bits,(vs.length:Int)⟩,0⟩)):=by rw[hlen];rfl
  have hMq:Mv [c,r,ri,hi] [c,r,ri1,hi1] sg ((sg2++[(false,[PV.t (.int .i64 t.kind),.t (.int .i64 t.bits),.t (.int .i64 (e.args.length:Int))])]).set (sg.length+2) (false,[])):=(hMs.trans (.grow (hg.trans (.app _ _)))).set (.inr (by omega)) _
  have hcq:CS ((sg2++[(false,[PV.t (.int .i64 t.kind),.t (.int .i64 t.bits),.t (.int .i64 (e.args.length:Int))])]).set (sg.length+2) (false,[])) c r ri1 hi1 fm p fa s':=((hcs.grow hg).app _).set na (by omega) _
  exact⟨hcl7,finG _ ow2 hMq hOs (by rw[g6A,g5W];have:=d4U j62;omega) _ _ _ _ (.same hcq ow2)⟩
 by_cases o20:e.op=20
 ·have h3:e.args.length=3:=by have:=hB2.1 o20;omega
  have hp:0 < e.args.length:=by omega
  have hvv:=hv' hp
  subst hvv
  have ha':=ha hp
  obtain⟨x,y,z,rfl⟩:∃ x y z,vs=[x,y,z]:=by
   have h4:vs.length=3:=by omega
   match vs,h4 with
   |[x,y,z],_=>exact⟨x,y,z,rfl⟩
  obtain⟨k0,v0⟩:=hVs.mem x (by simp)
  have hx0:=f9K v0.pos
  have hP20:opC (foF p) Ψ e.op e.val e.name [x,y,z] s'=f2W (foF p) (f2K x) y z s':=by unfold opC;rw[if_neg o1,if_neg o5,if_neg (by omega),if_neg o7,if_pos o20];rfl
  rw[hP20]
  obtain⟨k1,v1⟩:=hVs.mem y (by simp)
  obtain⟨k2,v2⟩:=hVs.mem z (by simp)
  have hkk:y.els.length=z.els.length/\y.els.length<=2000000:=by
   have w1:=hVs.at 1 (by omega)
   have w2:=hVs.at 2 (by omega)
   have hty:((d3Y fs ns e.args w).1.1.getD 1 zTy).len=((d3Y fs ns e.args w).1.1.getD 2 zTy).len:=by
    unfold opM at he
    rw[if_neg (by omega),if_neg (by omega),if_neg o2,if_neg o5,if_neg (by omega),if_neg o7,if_pos o20] at he
    simp only at he
    unfold d3U at he
    split at he
    ·cases he
    ·split at he
     ·rename_i cb
      rw[cb]
     ·split at he
      ·rename_i cc
       simp only[g4S,d3N,g7L] at cc
       rw[cc.1,cc.2]
      ·cases he
   have y1:=w1.len
   have y2:=w2.len
   have y3:=w1.n1
   have e1':[x,y,z].getD 1 zVc=y:=rfl
   have e2':[x,y,z].getD 2 zVc=z:=rfl
   rw[e1'] at y1
   rw[e2',<-hty] at y2
   have hl1:e8S ((d3Y fs ns e.args w).1.1.getD 1 zTy).len<=1100000:=by unfold e8S;split <;> omega
   omega
  replace ha':sg'[sg.length+2]?=some (false,[PV.t (.sl false (tLs x.els)),.t (.int .i64 x.typ.kind),.t (.int .i64 x.typ.bits),.t (.int .i64 x.typ.len),.t (.int .i64 x.num),.t (.sl false (tLs y.els)),.t (.int .i64 y.typ.kind),.t (.int .i64 y.typ.bits),.t (.int .i64 y.typ.len),.t (.int .i64 y.num),.t (.sl false (tLs z.els)),.t (.int .i64 z.typ.kind),.t (.int .i64 z.typ.bits),.t (.int .i64 z.typ.len),.t (.int .i64 z.num)]):=ha'
  simp only[wA,seval,f0,f2,f4,f6,f8,j4,o1,o5,o7,o20,h3,ha',f5G,hx0,g7F,allT]
  refine CallE.mono (g0B hk hcs hs1 v0.fst hkk.2 v1.pos hkk.1 v1.els v2.els ow') ?_
  rintro y' sg2 ow2 ⟨rfl,o2',ri2,hi2,hcs2,hm2⟩
  have j62:=hm2.get j6 q6'
  simp only[wA,seval,f0,f2,f4,f6,f8,j62,d4T j62,wC,c1B h5,hcl,allT]
  first|exact finG sg' ow' hMs hOs ls6 _ _ _ _ ⟨o2',ri2,hi2,hcs2,hm2⟩|exact⟨rfl,finG sg' ow' hMs hOs ls6 _ _ _ _ ⟨o2',ri2,hi2,hcs2,hm2⟩⟩
 obtain⟨sgz,v2,hfz,hclo,hz⟩:∃ sgz v2,a1E sg' [v]=some ([v2],sgz)/\close v2=some (.sl false (vs.map tVc))/\(sgz=sg'\/sgz=sg'.set (sg.length+2) (false,[])):=by
  by_cases h0:vs=[]
  ·subst h0
   rcases hv with⟨_,⟨k,rfl⟩,_⟩|⟨h1,_⟩
   ·exact⟨sg',.own k 5 [],rfl,rfl,.inl rfl⟩
   ·simp at hlen;omega
  ·have hp:0 < e.args.length:=by rw[<-hlen];exact List.length_pos_iff.2 h0
   have hvv:=hv' hp
   subst hvv
   have hz:=f5Y (t:=tVc) (sz:=5) (by decide) f6E f6F (ha hp) h0
   rw[hlen] at hz
   exact⟨sg'.set (sg.length+2) (false,[]),.t (.sl false (vs.map tVc)),by simp only[a1E,hz];rfl,rfl,.inr rfl⟩
 have hzg:∀ i,i≠sg.length+2->sgz[i]?=sg'[i]?:=λi hi=>by
  rcases hz with rfl|rfl
  ·rfl
  ·exact g5S (Ne.symm hi)
 have hcz:CS sgz c r ri1 hi1 fm p fa s':=by
  rcases hz with rfl|rfl
  ·exact hcs
  ·exact hcs.set na (by omega) _
 have hMz:Mv [c,r,ri,hi] [c,r,ri1,hi1] sg sgz:=by
  rcases hz with rfl|rfl
  ·exact hMs
  ·exact hMs.set (.inr (by omega)) _
 have hcz1:=hcz.hc
 have j4z:sgz[sg.length]?=some (false,[PV.t (.int .i64 e.op),.t (.int .u64 e.val),.t (.str e.name),.t (.sl e.nl (d1H e.args))]):=by rw[hzg _ (by omega)];exact j4
 have j6z:sgz[sg.length+1]?=some (false,[PV.t (.sl true []),.t (.int .i64 0),.t (.int .i64 0),.t (.int .i64 0),.t (.int .i64 0)]):=by rw[hzg _ (by omega)];exact j6
 have lz6:=d4U j6z
 by_cases o6:e.op=6
 ·have hP6:opC (foF p) Ψ e.op e.val e.name vs s'=(f2J (f2R (foF p) e.val (vs.map f2K) s').1 fieldT,(f2R (foF p) e.val (vs.map f2K) s').2):=by unfold opC;rw[if_neg o1,if_neg o5,if_pos o6]
  rw[hP6]
  have hne:vs.map f2K≠[]:=λh=>by
   have h0:e.args.length=0:=by rw[<-hlfs,h];rfl
   have:=hB2.2.2.2 (.inl o6)
   omega
  simp only[wA,seval,f0,f2,f4,f6,f8,j4,j4z,o1,o5,o6,hc1,hcz1,hfz,hclo,hels,a1C,lenS,d5Q,d5P,d5O,d5L]
  refine CallE.mono (f9N hk hcz hs1 (l:=vs.map f2K) (by omega) hne hVs.fsts xval.1 ow') ?_
  rintro y sg2 ow2 ⟨rfl,o2',ri2,hi2,hcs2,hm2⟩
  have j42:=hm2.get j4z q4'
  have j62:=hm2.get j6z q6'
  simp only[wA,seval,f0,f2,f4,f6,f8,j4z,j42,a1C,lenS,d5Q,d5P,d5O,d5L]
  refine CallE.mono (f9I (.lp c 0) _ fieldT sg2 ow2) ?_
  rintro y sg3 ow3 ⟨rfl,hg3,rfl⟩
  have j43:=hg3.get j42
  have j63:=hg3.get j62
  have k43:∀ z,(sg3.set (sg.length+1) z)[sg.length]?=sg3[sg.length]?:=λz=>g5S (by omega)
  simp only[wA,seval,f0,f2,f4,f6,f8,j42,j43,j63,d4T j63,k43,a1C,lenS,d5Q,d5P,d5O,d5L,wC,c1B h5,hcl,allT]
  first|exact finG sgz ow' hMz hOs lz6 _ _ _ _ ⟨o2',ri2,hi2,hcs2.grow hg3,hm2.trans (.grow hg3)⟩|exact⟨rfl,finG sgz ow' hMz hOs lz6 _ _ _ _ ⟨o2',ri2,hi2,hcs2.grow hg3,hm2.trans (.grow hg3)⟩⟩
 by_cases o9:e.op=9\/e.op=11\/e.op=12\/e.op=13
 ·have hP9:opC (foF p) Ψ e.op e.val e.name vs s'=(f2J (f2S (foF p) e.op (vs.map f2K) s').1 fieldT,(f2S (foF p) e.op (vs.map f2K) s').2):=by unfold opC;rw[if_neg o1,if_neg o5,if_neg o6,if_neg o7,if_neg o20,if_pos o9]
  rw[hP9]
  have hnl:(e.op=9->(vs.map f2K).length=1)/\(e.op≠9->(vs.map f2K).length=2):=⟨λh=>by have:=hB2.2.1 (.inl h);omega,λh=>by have:=hB2.2.2.1 (by omega);omega⟩
  by_cases k9:e.op=9
  ·have d9:(e.op=9)=True:=g7N k9
   simp only[wA,seval,f0,f2,f4,f6,f8,j4,j4z,o1,o5,o6,o7,o20,d9,hc1,hcz1,hfz,hclo,hels,a1C,lenS,d5Q,d5P,d5O,d5L]
   refine CallE.mono (f9R hk hcz hs1 o9 (l:=vs.map f2K) hnl hVs.fsts ow') ?_
   rintro y sg2 ow2 ⟨rfl,o2',ri2,hi2,hcs2,hm2⟩
   have j42:=hm2.get j4z q4'
   have j62:=hm2.get j6z q6'
   simp only[wA,seval,f0,f2,f4,f6,f8,j4z,j42,a1C,lenS,d5Q,d5P,d5O,d5L]
   refine CallE.mono (f9I (.lp c 0) _ fieldT sg2 ow2) ?_
   rintro y sg3 ow3 ⟨rfl,hg3,rfl⟩
   have j43:=hg3.get j42
   have j63:=hg3.get j62
   have k43:∀ z,(sg3.set (sg.length+1) z)[sg.length]?=sg3[sg.length]?:=λz=>g5S (by omega)
   simp only[wA,seval,f0,f2,f4,f6,f8,j42,j43,j63,d4T j63,k43,a1C,lenS,d5Q,d5P,d5O,d5L,wC,c1B h5,hcl,allT]
   first|exact finG sgz ow' hMz hOs lz6 _ _ _ _ ⟨o2',ri2,hi2,hcs2.grow hg3,hm2.trans (.grow hg3)⟩|exact⟨rfl,finG sgz ow' hMz hOs lz6 _ _ _ _ ⟨o2',ri2,hi2,hcs2.grow hg3,hm2.trans (.grow hg3)⟩⟩
  have d9:(e.op=9)=False:=g7M k9
  by_cases k11:e.op=11
  ·have d11:(e.op=11)=True:=g7N k11
   simp only[wA,seval,f0,f2,f4,f6,f8,j4,j4z,o1,o5,o6,o7,o20,d9,d11,hc1,hcz1,hfz,hclo,hels,a1C,lenS,d5Q,d5P,d5O,d5L]
   refine CallE.mono (f9R hk hcz hs1 o9 (l:=vs.map f2K) hnl hVs.fsts ow') ?_
   rintro y sg2 ow2 ⟨rfl,o2',ri2,hi2,hcs2,hm2⟩
   have j42:=hm2.get j4z q4'
   have j62:=hm2.get j6z q6'
   simp only[wA,seval,f0,f2,f4,f6,f8,j4z,j42,a1C,lenS,d5Q,d5P,d5O,d5L]
   refine CallE.mono (f9I (.lp c 0) _ fieldT sg2 ow2) ?_
   rintro y sg3 ow3 ⟨rfl,hg3,rfl⟩
   have j43:=hg3.get j42
   have j63:=hg3.get j62
   have k43:∀ z,(sg3.set (sg.length+1) z)[sg.length]?=sg3[sg.length]?:=λz=>g5S (by omega)
   simp only[wA,seval,f0,f2,f4,f6,f8,j42,j43,j63,d4T j63,k43,a1C,lenS,d5Q,d5P,d5O,d5L,wC,c1B h5,hcl,allT]
   first|exact finG sgz ow' hMz hOs lz6 _ _ _ _ ⟨o2',ri2,hi2,hcs2.grow hg3,hm2.trans (.grow hg3)⟩|exact⟨rfl,finG sgz ow' hMz hOs lz6 _ _ _ _ ⟨o2',ri2,hi2,hcs2.grow hg3,hm2.trans (.grow hg3)⟩⟩
  have d11:(e.op=11)=False:=g7M k11
  by_cases k12:e.op=12
  ·have d12:(e.op=12)=True:=g7N k12
   simp only[wA,seval,f0,f2,f4,f6,f8,j4,j4z,o1,o5,o6,o7,o20,d9,d11,d12,hc1,hcz1,hfz,hclo,hels,a1C,lenS,d5Q,d5P,d5O,d5L]
   refine CallE.mono (f9R hk hcz hs1 o9 (l:=vs.map f2K) hnl hVs.fsts ow') ?_
   rintro y sg2 ow2 ⟨rfl,o2',ri2,hi2,hcs2,hm2⟩
   have j42:=hm2.get j4z q4'
   have j62:=hm2.get j6z q6'
   simp only[wA,seval,f0,f2,f4,f6,f8,j4z,j42,a1C,lenS,d5Q,d5P,d5O,d5L]
   refine CallE.mono (f9I (.lp c 0) _ fieldT sg2 ow2) ?_
   rintro y sg3 ow3 ⟨rfl,hg3,rfl⟩
   have j43:=hg3.get j42
   have j63:=hg3.get j62
   have k43:∀ z,(sg3.set (sg.length+1) z)[sg.length]?=sg3[sg.length]?:=λz=>g5S (by omega)
   simp only[wA,seval,f0,f2,f4,f6,f8,j42,j43,j63,d4T j63,k43,a1C,lenS,d5Q,d5P,d5O,d5L,wC,c1B h5,hcl,allT]
   first|exact finG sgz ow' hMz hOs lz6 _ _ _ _ ⟨o2',ri2,hi2,hcs2.grow hg3,hm2.trans (.grow hg3)⟩|exact⟨rfl,finG sgz ow' hMz hOs lz6 _ _ _ _ ⟨o2',ri2,hi2,hcs2.grow hg3,hm2.trans (.grow hg3)⟩⟩
  have d12:(e.op=12)=False:=g7M k12
  have d13:(e.op=13)=True:=g7N (by omega)
  simp only[wA,seval,f0,f2,f4,f6,f8,j4,j4z,o1,o5,o6,o7,o20,d9,d11,d12,d13,hc1,hcz1,hfz,hclo,hels,a1C,lenS,d5Q,d5P,d5O,d5L]
  refine CallE.mono (f9R hk hcz hs1 o9 (l:=vs.map f2K) hnl hVs.fsts ow') ?_
  rintro y sg2 ow2 ⟨rfl,o2',ri2,hi2,hcs2,hm2⟩
  have j42:=hm2.get j4z q4'
  have j62:=hm2.get j6z q6'
  simp only[wA,seval,f0,f2,f4,f6,f8,j4z,j42,a1C,lenS,d5Q,d5P,d5O,d5L]
  refine CallE.mono (f9I (.lp c 0) _ fieldT sg2 ow2) ?_
  rintro y sg3 ow3 ⟨rfl,hg3,rfl⟩
  have j43:=hg3.get j42
  have j63:=hg3.get j62
  have k43:∀ z,(sg3.set (sg.length+1) z)[sg.length]?=sg3[sg.length]?:=λz=>g5S (by omega)
  simp only[wA,seval,f0,f2,f4,f6,f8,j42,j43,j63,d4T j63,k43,a1C,lenS,d5Q,d5P,d5O,d5L,wC,c1B h5,hcl,allT]
  first|exact finG sgz ow' hMz hOs lz6 _ _ _ _ ⟨o2',ri2,hi2,hcs2.grow hg3,hm2.trans (.grow hg3)⟩|exact⟨rfl,finG sgz ow' hMz hOs lz6 _ _ _ _ ⟨o2',ri2,hi2,hcs2.grow hg3,hm2.trans (.grow hg3)⟩⟩
 have n9:¬e.op=9:=λh=>o9 (.inl h)
 have n11:¬e.op=11:=λh=>o9 (.inr (.inl h))
 have n12:¬e.op=12:=λh=>o9 (.inr (.inr (.inl h)))
 have n13:¬e.op=13:=λh=>o9 (.inr (.inr (.inr h)))
 by_cases o16:e.op=16\/e.op=17
 ·have hP16:opC (foF p) Ψ e.op e.val e.name vs s'=(f2J (f2T (foF p) e.op (vs.map f2K) (mx (vs.getD 0 zVc).typ.bits (vs.getD 1 zVc).typ.bits) s').1 d1G,(f2T (foF p) e.op (vs.map f2K) (mx (vs.getD 0 zVc).typ.bits (vs.getD 1 zVc).typ.bits) s').2):=by unfold opC;rw[if_neg o1,if_neg o5,if_neg o6,if_neg o7,if_neg o20,if_neg o9,if_pos o16]
  rw[hP16]
  have h2:e.args.length=2:=by have:=hB2.2.2.1 (by omega);omega
  have hp:0 < e.args.length:=by omega
  have hvv:=hv' hp
  subst hvv
  have ha':=ha hp
  obtain⟨x,y,rfl⟩:∃ x y,vs=[x,y]:=by
   have h4:vs.length=2:=by omega
   match vs,h4 with
   |[x,y],_=>exact⟨x,y,rfl⟩
  have v1:=(hVs.mem x (by simp)).choose_spec
  have v2':=(hVs.mem y (by simp)).choose_spec
  have hmx:mxT true (.t (.int .i64 x.typ.bits)) (.t (.int .i64 y.typ.bits))=some (.int .i64 (mx x.typ.bits y.typ.bits)):=rfl
  have hw0:0<=mx x.typ.bits y.typ.bits/\mx x.typ.bits y.typ.bits<=62:=by
   unfold mx
   split
   ·exact v2'.ty
   ·exact v1.ty
  have e1':[x,y].getD 0 zVc=x:=rfl
  have e2':[x,y].getD 1 zVc=y:=rfl
  rw[e1',e2']
  replace ha':sg'[sg.length+2]?=some (false,[PV.t (.sl false (tLs x.els)),.t (.int .i64 x.typ.kind),.t (.int .i64 x.typ.bits),.t (.int .i64 x.typ.len),.t (.int .i64 x.num),.t (.sl false (tLs y.els)),.t (.int .i64 y.typ.kind),.t (.int .i64 y.typ.bits),.t (.int .i64 y.typ.len),.t (.int .i64 y.num)]):=ha'
  have hfz2:=hfz
  rw[h2] at hfz2
  have hels2:=hels
  simp only[g6E,g6F] at hels2
  by_cases k16:e.op=16
  ·have d16:(e.op=16)=True:=g7N k16
   simp only[wA,seval,f0,f2,f4,f6,f8,j4,j4z,o1,o5,o6,o7,o20,n9,n11,n12,n13,d16,h2,ha',hmx,hfz2,hels2,hc1,hcz1,hfz,hclo,hels,a1C,lenS,d5Q,d5P,d5O,d5L]
   refine CallE.mono (f9S hk hcz hs1 v1.fst v2'.fst hw0.1 (by omega) ow') ?_
   rintro y sg2 ow2 ⟨rfl,o2',ri2,hi2,hcs2,hm2⟩
   have j42:=hm2.get j4z q4'
   have j62:=hm2.get j6z q6'
   simp only[wA,seval,f0,f2,f4,f6,f8,j4z,j42,a1C,lenS,d5Q,d5P,d5O,d5L]
   refine CallE.mono (f9I (.lp c 0) _ d1G sg2 ow2) ?_
   rintro y sg3 ow3 ⟨rfl,hg3,rfl⟩
   have j43:=hg3.get j42
   have j63:=hg3.get j62
   have k43:∀ z,(sg3.set (sg.length+1) z)[sg.length]?=sg3[sg.length]?:=λz=>g5S (by omega)
   simp only[wA,seval,f0,f2,f4,f6,f8,j42,j43,j63,d4T j63,k43,a1C,lenS,d5Q,d5P,d5O,d5L,wC,c1B h5,hcl,allT]
   first|exact finG sgz ow' hMz hOs lz6 _ _ _ _ ⟨o2',ri2,hi2,hcs2.grow hg3,hm2.trans (.grow hg3)⟩|exact⟨rfl,finG sgz ow' hMz hOs lz6 _ _ _ _ ⟨o2',ri2,hi2,hcs2.grow hg3,hm2.trans (.grow hg3)⟩⟩
  have d16:(e.op=16)=False:=g7M k16
  have d17:(e.op=17)=True:=g7N (by omega)
  simp only[wA,seval,f0,f2,f4,f6,f8,j4,j4z,o1,o5,o6,o7,o20,n9,n11,n12,n13,d16,d17,h2,ha',hmx,hfz2,hels2,hc1,hcz1,hfz,hclo,hels,a1C,lenS,d5Q,d5P,d5O,d5L]
  refine CallE.mono (f9S hk hcz hs1 v1.fst v2'.fst hw0.1 (by omega) ow') ?_
  rintro y sg2 ow2 ⟨rfl,o2',ri2,hi2,hcs2,hm2⟩
  have j42:=hm2.get j4z q4'
  have j62:=hm2.get j6z q6'
  simp only[wA,seval,f0,f2,f4,f6,f8,j4z,j42,a1C,lenS,d5Q,d5P,d5O,d5L]
  refine CallE.mono (f9I (.lp c 0) _ d1G sg2 ow2) ?_
  rintro y sg3 ow3 ⟨rfl,hg3,rfl⟩
  have j43:=hg3.get j42
  have j63:=hg3.get j62
  have k43:∀ z,(sg3.set (sg.length+1) z)[sg.length]?=sg3[sg.length]?:=λz=>g5S (by omega)
  simp only[wA,seval,f0,f2,f4,f6,f8,j42,j43,j63,d4T j63,k43,a1C,lenS,d5Q,d5P,d5O,d5L,wC,c1B h5,hcl,allT]
  first|exact finG sgz ow' hMz hOs lz6 _ _ _ _ ⟨o2',ri2,hi2,hcs2.grow hg3,hm2.trans (.grow hg3)⟩|exact⟨rfl,finG sgz ow' hMz hOs lz6 _ _ _ _ ⟨o2',ri2,hi2,hcs2.grow hg3,hm2.trans (.grow hg3)⟩⟩
 have hPt:opC (foF p) Ψ e.op e.val e.name vs s'=(f2J (f2U (foF p) e.op (vs.map f2K) s').1 d1G,(f2U (foF p) e.op (vs.map f2K) s').2):=by unfold opC;rw[if_neg o1,if_neg o5,if_neg o6,if_neg o7,if_neg o20,if_neg o9,if_neg o16]
 rw[hPt]
 have n16:¬e.op=16:=λh=>o16 (.inl h)
 have n17:¬e.op=17:=λh=>o16 (.inr h)
 have hnl:(e.op=10->(vs.map f2K).length=1)/\(e.op=14\/e.op=15\/e.op=18\/e.op=19->(vs.map f2K).length=2):=⟨λh=>by have:=hB2.2.1 (.inr h);omega,λh=>by have:=hB2.2.2.1 (by omega);omega⟩
 simp only[wA,seval,f0,f2,f4,f6,f8,j4,j4z,o1,o5,o6,o7,o20,n9,n11,n12,n13,n16,n17,hc1,hcz1,hfz,hclo,hels,a1C,lenS,d5Q,d5P,d5O,d5L]
 refine CallE.mono (f9T hk hcz hs1 (l:=vs.map f2K) hnl hVs.fsts ow') ?_
 rintro y sg2 ow2 ⟨rfl,o2',ri2,hi2,hcs2,hm2⟩
 have j42:=hm2.get j4z q4'
 have j62:=hm2.get j6z q6'
 simp only[wA,seval,f0,f2,f4,f6,f8,j4z,j42,a1C,lenS,d5Q,d5P,d5O,d5L]
 refine CallE.mono (f9I (.lp c 0) _ d1G sg2 ow2) ?_
 rintro y sg3 ow3 ⟨rfl,hg3,rfl⟩
 have j43:=hg3.get j42
 have j63:=hg3.get j62
 have k43:∀ z,(sg3.set (sg.length+1) z)[sg.length]?=sg3[sg.length]?:=λz=>g5S (by omega)
 simp only[wA,seval,f0,f2,f4,f6,f8,j42,j43,j63,d4T j63,k43,a1C,lenS,d5Q,d5P,d5O,d5L,wC,c1B h5,hcl,allT]
 first|exact finG sgz ow' hMz hOs lz6 _ _ _ _ ⟨o2',ri2,hi2,hcs2.grow hg3,hm2.trans (.grow hg3)⟩|exact⟨rfl,finG sgz ow' hMz hOs lz6 _ _ _ _ ⟨o2',ri2,hi2,hcs2.grow hg3,hm2.trans (.grow hg3)⟩⟩
theorem ok85 {p:Int} (hk:e2X p=true) {fa fs:Fs} {ns:Ns} {Ψ:Fc} (hΨ:FcOk fs Ψ) (hR:g0H gl p fa fs Ψ):∀ e,ExpOk e->szE e<=B20->exB e=true->VaC gl p fa fs ns Ψ e:=by
 refine Exp.ind λe ih hxo hsz heb=>?_
 have hrec:∀ a,a∈e.args->VaC gl p fa fs ns Ψ a:=λa ha=>ih a ha ((e9C hxo).2.2 a ha) ((d6A hsz).2 a ha) (d5U heb a ha)
 by_cases o2:e.op=2
 ·exact g0E o2
 by_cases o8:e.op=8
 ·obtain⟨a,b,hab⟩:=d5R heb (.inl o8)
  exact g0F hk hΨ o8 hab hxo hsz heb (hrec a (by rw[hab];simp))
 ·exact g0J hk hΨ hR o2 o8 hxo hsz heb hrec
end Go.Proofs.YtdjcnfacjfnakaaGreat
