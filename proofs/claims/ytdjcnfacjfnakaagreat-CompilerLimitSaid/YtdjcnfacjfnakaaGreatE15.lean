/- Contracts: the value of an expression: its arguments, a name, an index. -/
import Derived.Test.YtdjcnfacjfnakaaGreatE13
set_option maxRecDepth 10000
set_option linter.unusedVariables false
set_option linter.unusedSimpArgs false
namespace Go.Proofs.YtdjcnfacjfnakaaGreat
open Go.Pi Go.Lx Go.Ky Go.Lib
variable {gl:Nat→Option (List T)}
def VaC (gl:Nat→Option (List T)) (p:Int) (fa fs:Fs) (ns:Ns) (Ψ:Fc) (e:Exp):Prop :=
 ∀ (sg:Sg) (c r ri hi fm m:Nat) (s:Cst) (sc:Sx) (ow:Ow) (w:Int),CS sg c r ri hi fm p fa s→CsOk s→sg[m]?=some (true,iC sc)→ScC s.b.vars ns sc→(exM fs ns e w).1.2=0 →
  CallE F gl 85 [.lp c 0,.t (.agg (tEx e)),.mp m] sg ow fun x sg' ow'=>x=.t (.agg (tVc (evC (foF p) Ψ sc e s).1))∧Cd sg ow c r ri hi fm p fa (evC (foF p) Ψ sc e s).2 sg' ow'
theorem f9Q {Φ:Fo} (hΦ:Φ.Ok) {Ψ:Fc} {fs:Fs} (hΨ:FcOk fs Ψ) {ns:Ns} {sc:Sx} {x:Exp} (hx:ExpOk x) (hz:szE x≤B20) (hB:exB x=true) {w:Int} {s:Cst} (hs:CsOk s) (hsc:ScC s.b.vars ns sc) (he:(exM fs ns x w).1.2=0):CsOk (evC Φ Ψ sc x s).2∧ScC (evC Φ Ψ sc x s).2.b.vars ns sc:=by
 have:=f2Y hΦ hΨ x hx hz hB w s hs hsc he
 exact⟨this.cs,hsc.mono this.le.vars⟩
theorem f9R {p:Int} (hk:e2N p=true) {fa fs:Fs} {ns:Ns} {Ψ:Fc} (hΨ:FcOk fs Ψ) {e:Exp} (hxo:∀ a,a∈e.args→ExpOk a∧szE a≤B20∧exB a=true) (hrec:∀ a,a∈e.args→VaC gl p fa fs ns Ψ a) (hn:e.args.length≤B47) {c r ri0 hi0 fm m a b4 b6:Nat} {sc:Sx} {v:PV} {sgB:Sg} {owB:Ow} (hm0:sgB[m]?=some (true,iC sc)) (hcm:m ∉ [a,c,r,ri0,hi0]) (haf:a≠fm) (hla:e.args≠[]→a < sgB.length)
  (hv:0 < e.args.length→v=.ls a 0 e.args.length 5) (Q:Ex→S→Prop):∀ (l:List Exp) (i:Nat) (done:List Vc) (w:Int) (s:Cst) (fr:List PV) (sg:Sg) (ow:Ow) (ri hi:Nat),e.args.drop i=l→i≤e.args.length→done.length=i→CS sg c r ri hi fm p fa s→CsOk s→ScC s.b.vars ns sc→a ∉ [c,r,ri,hi]→Mv [a,c,r,ri0,hi0] [a,c,r,ri,hi] sgB sg→owB <+: ow →
  (0 < e.args.length→sg[a]?=some (false,f3Y tVc zVt e.args.length done))→(d4C fs ns l w).1.2=0 →
  b9P fr [(0,.lp c 0),(2,.mp m),(4,.lp b4 0),(6,.lp b6 0),(8,v),(51,.t (.sl e.nl (d1X e.args))),(52,.t (.int .i64 e.args.length)),(53,.t (.int .i64 i))] →
  (∀ fr' sg' ow' ri' hi',CS sg' c r ri' hi' fm p fa (f1M (foF p) Ψ sc l s).2→a ∉ [c,r,ri',hi']→Mv [a,c,r,ri0,hi0] [a,c,r,ri',hi'] sgB sg'→owB <+: ow'→(0 < e.args.length→sg'[a]?=some (false,cG tVc (done++(f1M (foF p) Ψ sc l s).1))) →
   b9P fr' [(0,.lp c 0),(2,.mp m),(4,.lp b4 0),(6,.lp b6 0),(8,v)]→Q (.exit 1) ⟨fr',sg',ow'⟩) →
  Xl F gl c5Q ⟨fr,sg,ow⟩ Q ⟨⟩:=by
 intro l
 induction l with
 |nil =>
  intro i done w s fr sg ow ri hi hd hil hdn h hs hsc hca hM hO har he hf k1
  have hd:=b9K hd
  simp only[b9R,b9Q] at hf
  obtain⟨f0,f2,f4,f6,f8,f51,f52,f53,-⟩:=hf
  refine Xl.step ?_
  simp only[c5Q]
  have c1:¬((i:Int) < (e.args.length:Int)):=by omega
  rw[f1M] at k1
  simp only[wA,seval,reduceCtorEq,reduceIte,f0,f2,f4,f6,f8,f51,f52,f53,c1]
  refine k1 _ _ _ ri hi h hca hM hO (fun hp=>?_) (by simp only[wQ,Nat.reduceEqDiff,reduceIte,f0,f2,f4,f6,f8])
  rw[har hp,f4F (by omega),g3B]
 |cons x l ih =>
  intro i done w s fr sg ow ri hi hd hil hdn h hs hsc hca hM hO har he hf k1
  obtain⟨hx,hr,hi'⟩:=b9J hd
  simp only[b9R,b9Q] at hf
  obtain⟨f0,f2,f4,f6,f8,f51,f52,f53,-⟩:=hf
  refine Xl.step ?_
  simp only[c5Q]
  have c1:(i:Int) < (e.args.length:Int):=by omega
  have hpos:0 < e.args.length:=by omega
  have hvv:=hv hpos
  subst hvv
  have hw1:=d5J hi' (show e.args.length≤281474976710656 by have:B47=140737488355328:=rfl;omega)
  rw[d6C] at he
  have e1:(exM fs ns x w).1.2=0:=by
   by_cases h:(exM fs ns x w).1.2≠0
   ·rw[if_pos h] at he;exact absurd he h
   ·simpa using h
  rw[if_neg (by simpa using e1)] at he
  have e2:(d4C fs ns l (exM fs ns x w).2).1.2=0:=by
   by_cases h:(d4C fs ns l (exM fs ns x w).2).1.2≠0
   ·rw[if_pos h] at he;exact absurd he h
   ·simpa using h
  have hxm:=g4K hx
  obtain⟨xo,xz,xb⟩:=hxo x hxm
  obtain⟨s1,s2⟩:=f9Q (f5W hk) hΨ xo xz xb hs hsc e1
  have hmm:=hM.get hm0 hcm
  have ha:=har hpos
  have la:=d4Y ha
  have hq:=fun t=>hrec x hxm (sg++t) c r ri hi fm m s sc ow w (h.app t) hs (b1V hmm) hsc e1
  simp only[d1Z] at hq
  rw[f1M] at k1
  simp only at k1
  simp only[wA,seval,reduceCtorEq,reduceIte,f0,f2,f4,f6,f8,f51,f52,f53,c1,hw1,g2X,hi',d2B,hx,g5F,d1Z,wC]
  refine CallE.mono (hq _) ?_
  rintro y sg' ow' ⟨rfl,o1,ri1,hi1,hcs,hm1⟩
  generalize hxr:evC (foF p) Ψ sc x s=q at *
  obtain⟨vx,sx⟩:=q
  have ha1:=hm1.get (b1V ha) hca
  have hca1:=hm1.cold (by rw[g3V];omega) hca
  have ma:=d4Y ha1
  have hle:i * 5+5≤(f3Y tVc zVt e.args.length done).length:=by rw[f4G f4T rfl (by omega)];omega
  have hset:=f4H (t:=tVc) (z:=zVt) f4T rfl (n:=e.args.length) (l:=done) (by omega) vx
  rw[hdn] at hset
  simp only[g4D,g4E,setRange] at hset
  simp only[wA,seval,reduceCtorEq,reduceIte,f0,f2,f4,f6,f8,f51,f52,f53,c1,hw1,g2X,hi',ha1,hle,wC,hset]
  refine ih (i+1) (done++[vx]) (exM fs ns x w).2 sx _ _ _ ri1 hi1 hr (by omega) (by simp [hdn]) (hcs.set hca1 haf _) s1 s2 hca1 (((hM.app2 _).trans (hm1.cons a)).set (.inl (by simp)) _) (hO.trans o1) (fun _=>by rw[g3S ma]) e2 (by simp only[wQ,Nat.reduceEqDiff,reduceIte,f0,f2,f4,f6,f8,f51,f52]) ?_
  intro fr' sg2 ow2 ri' hi'' x1 x2 x3 x4 x5 x6
  refine k1 fr' sg2 ow2 ri' hi'' x1 x2 x3 x4 (fun h=>?_) x6
  rw[x5 h,g3A];rfl
theorem f9S {p:Int} {fa fs:Fs} {ns:Ns} {Ψ:Fc} {e:Exp} (o2:e.op=2):VaC gl p fa fs ns Ψ e:=by
 intro sg c r ri hi fm m s sc ow w h hs hm hsc he
 obtain⟨v,hl⟩:∃ v,Ky.look e.name sc=some v:=by
  rw[d4D,if_neg (by omega)] at he
  simp only at he
  by_cases c:(d4C fs ns e.args w).1.2≠0
  ·rw[if_pos c] at he;exact absurd he c
  rw[if_neg c] at he
  unfold opM at he
  rw[if_neg (by omega),if_neg (by omega),if_pos o2] at he
  cases hk:Ky.look e.name ns with
  |none=>simp only[hk] at he;cases he
  |some s =>
   obtain⟨v,k1,_⟩:=hsc _ _ hk
   exact⟨v,k1⟩
 have hP:evC (foF p) Ψ sc e s=(v,s):=by rw[f1N,if_pos o2];unfold lkC;rw[hl];rfl
 rw[hP]
 have hml:=d4Y hm
 have h5:(1000:Nat) < 1005:=by decide
 have hcl:clo (.t (.agg (tVc v)))=.t (.agg (tVc v)):=rfl
 refine XcE.of F85 rfl ?_
 simp only[c5R]
 simp only[wA,seval,reduceCtorEq,reduceIte,d1Z,o2,d5M hml,hm,a1C,iC,d5B,hl,g5D,Option.isSome_some,wC,allT,c4J h5,hcl]
 exact Cd.app (.same (h.app _) ow)
theorem f9T {p:Int} (hk:e2N p=true) {fa fs:Fs} {ns:Ns} {Ψ:Fc} (hΨ:FcOk fs Ψ) {e a b:Exp} (o8:e.op=8) (hab:e.args=[a,b]) (hxo:ExpOk e) (hsz:szE e≤B20) (heb:exB e=true) (hrec:VaC gl p fa fs ns Ψ a):VaC gl p fa fs ns Ψ e:=by
 intro sg c r ri hi fm m s sc ow w h hs hm hsc he
 have he':(d4B ns (exM fs ns a w) b).1.2=0:=by
  rw[d4D,if_pos o8,hab] at he
  exact he
 obtain⟨i1,i2,i3,i4⟩:=e7S he'
 obtain⟨x1,x2,x3⟩:=e7Q hxo
 have hba:=d5Y heb
 have hR:=f2Y (f5W hk) hΨ a (x3 a (by rw[hab];simp)) ((d6E hsz).2 a (by rw[hab];simp)) (hba a (by rw[hab];simp)) w s hs hsc i1
 have hv:=hR.v
 obtain⟨p1,p2⟩:=f3E (hsc.mono hR.le.vars) (x3 b (by rw[hab];simp)) hv.n0 hv.n1 i2
 have hP:evC (foF p) Ψ sc e s=(f0X ((evC (foF p) Ψ sc a s).1.els.getD (f1L b sc).toNat e8S) ⟨(evC (foF p) Ψ sc a s).1.typ.kind,(evC (foF p) Ψ sc a s).1.typ.bits,0⟩,(evC (foF p) Ψ sc a s).2):=by rw[f1N,if_neg (by omega),if_pos o8,hab]
 rw[hP]
 have hml:=d4Y hm
 have hmc:=h.map hm
 have lf:=d4Y h.hf
 refine XcE.of F85 rfl ?_
 simp only[c5R]
 have hq:=fun t=>hrec (sg++t) c r ri hi fm m s sc ow w (h.app t) hs (b1V hm) hsc i1
 simp only[d1Z] at hq
 simp only[wA,seval,reduceCtorEq,reduceIte,d1Z,o8,hab,d1X,wC]
 refine CallE.mono (hq _) ?_
 rintro y sg' ow' ⟨rfl,o1,ri1,hi1,hcs,hm1⟩
 have j4:=hm1.get (i:=sg.length) (v:=(false,[PV.t (.int .i64 8),.t (.int .u64 e.val),.t (.str e.name),.t (.sl e.nl [tEx a,tEx b])])) (by simp [d1Z]) (h.new (g4U _))
 have j6:=hm1.get (i:=sg.length+1) (v:=(false,zVt.map PV.t)) (by rw[g3J (by omega)];simp) (h.new (by omega))
 have n6:=hm1.cold (i:=sg.length+1) (by simp) (h.new (by omega))
 have hm':=hm1.get (b1V hm) hmc
 have m4:=d4Y j4
 have m6:=d4Y j6
 simp only[d1Z] at j4
 have hq2:=fun t=>f9I (gl:=gl) (sg:=sg'++t) (m:=m) (sc:=sc) (b1V hm') b (hba b (by rw[hab];simp)) ow'
 simp only[d1Z] at hq2
 have hcsR:=hR.cs
 generalize hqa:evC (foF p) Ψ sc a s=q at *
 obtain⟨va,sa⟩:=q
 have hlen:f1L b sc < (va.els.length:Int):=by
  rw[hv.len]
  unfold e7G
  split <;> omega
 have hlt:(f1L b sc).toNat < va.els.length:=by omega
 have hget:va.els[(f1L b sc).toNat]?=some (va.els.getD (f1L b sc).toNat e8S):=by
  rw[List.getD_eq_getElem?_getD,g3L hlt];rfl
 have hsc2:=fun sg ow=>f8W (gl:=gl) (.lp c 0) (va.els.getD (f1L b sc).toNat e8S) ⟨va.typ.kind,va.typ.bits,0⟩ sg ow
 have h5:(1000:Nat) < 1005:=by decide
 simp only[wA,seval,reduceCtorEq,reduceIte,d5M m4,j4,wC,a1I,lenS]
 refine CallE.mono (hq2 _) ?_
 rintro y sg2 ow2 ⟨rfl,hg2,rfl⟩
 have j7:=hg2.get (i:=sg'.length) (x:=(false,[PV.t (.sl false (tLs va.els)),.t (.int .i64 va.typ.kind),.t (.int .i64 va.typ.bits),.t (.int .i64 0),.t (.int .i64 va.num)])) (by simp)
 have j42:=hg2.get (b1V j4)
 simp only[wA,seval,reduceCtorEq,reduceIte,d5M m4,j4,j42,j7,d5U,d5T,d5S,d5P,f3V,f3U,hget,hlen,hlt,p1,g5F,a1I,lenS,allT]
 refine CallE.mono (hsc2 _ _) ?_
 rintro y sg3 ow3 ⟨rfl,hg3,rfl⟩
 have j73:=hg3.get j7
 have j43:=hg3.get j42
 have j63:=hg3.get (hg2.get (b1V j6))
 have g4:∀ z,(sg3.set (sg.length+1) z)[sg.length]?=sg3[sg.length]?:=fun z=>g3R (by omega)
 have g7:∀ z,(sg3.set (sg.length+1) z)[sg'.length]?=sg3[sg'.length]?:=fun z=>g3R (by omega)
 have hcl:∀ l t,clo (.t (.agg (tVc (f0X l t))))=.t (.agg (tVc (f0X l t))):=fun _ _=>rfl
 simp only[wA,seval,reduceCtorEq,reduceIte,j42,j43,j7,j73,j63,d4X j63,g4,g7,d5U,d5T,d5S,d5P,wC,c4J h5,hcl,allT]
 have hG:Grow sg' sg3:=((Grow.app sg' _).trans hg2).trans hg3
 refine⟨o1,ri1,hi1,(hcs.grow hG).set n6 (by omega) _,Mv.set ((Mv.app _ sg _).trans (hm1.trans (.grow hG))) (.inr (by omega)) _⟩
end Go.Proofs.YtdjcnfacjfnakaaGreat

/- Contracts: the value of an operator, a list, a hash, a choice, a call. -/
namespace Go.Proofs.YtdjcnfacjfnakaaGreat
open Go.Pi Go.Lx Go.Ky Go.Lib
variable {gl:Nat→Option (List T)}
def f9U (sg:Sg) (v:PV) (vs:List Vc):Prop:=(vs=[]∧∃ k,v=.own k 5 [])∨(vs≠[]∧∃ a,v=.ls a 0 vs.length 5∧sg[a]?=some (false,cG tVc vs))
def f9V (gl:Nat→Option (List T)) (p:Int) (fa fs:Fs) (Ψ:Fc):Prop:=∀ (nm:Nm) (f:Fu),Ky.look nm fs=some f→Ky.look nm fa=some f∧∀ (sg:Sg) (c r ri hi fm:Nat) (s:Cst) (ow:Ow) (vs:List Vc) (v:PV),CS sg c r ri hi fm p fa s→CsOk s→f9U sg v vs→vs.length≤B20→PsC s.b.vars f.params vs →
  CallE F gl 123 [.lp c 0,.t (.agg (tFu f)),v] sg ow fun x sg' ow'=>x=.t (.agg (tVc (Ψ nm vs s).1))∧Cd sg ow c r ri hi fm p fa (Ψ nm vs s).2 sg' ow'
theorem f9W {op n v:Int} {nm:Nm} (h:opB op n v nm=true):(op=20→n=3)∧(op=9∨op=10→n=1)∧(op=11∨op=12∨op=13∨op=14∨op=15∨op=16∨op=17∨op=18∨op=19→n=2)∧(op=6∨op=7→1≤n):=by
 refine⟨fun e=>?_,fun e=>?_,fun e=>?_,fun e=>?_⟩
 ·subst e;unfold opB at h;simp at h;omega
 ·rcases e with rfl|rfl <;> (unfold opB at h;simp at h;omega)
 ·rcases e with rfl|rfl|rfl|rfl|rfl|rfl|rfl|rfl|rfl <;> (unfold opB at h;simp at h;omega)
 ·rcases e with rfl|rfl <;> (unfold opB at h;simp at h;omega)
set_option maxHeartbeats 1000000 in
theorem f9X {p:Int} (hk:e2N p=true) {fa fs:Fs} {ns:Ns} {Ψ:Fc} (hΨ:FcOk fs Ψ) (hR:f9V gl p fa fs Ψ) {e:Exp} (o2:e.op≠2) (o8:e.op≠8) (hxo:ExpOk e) (hsz:szE e≤B20) (heb:exB e=true) (hrec:∀ a,a∈e.args→VaC gl p fa fs ns Ψ a):VaC gl p fa fs ns Ψ e:=by
 intro sg c r ri hi fm m s sc ow w h hs hm hsc he
 have hP:evC (foF p) Ψ sc e s=opC (foF p) Ψ e.op e.val e.name (f1M (foF p) Ψ sc e.args s).1 (f1M (foF p) Ψ sc e.args s).2:=by rw[f1N,if_neg o2,if_neg o8]
 rw[hP]
 rw[d4D,if_neg o8] at he
 simp only at he
 have e1:(d4C fs ns e.args w).1.2=0:=by
  by_cases c:(d4C fs ns e.args w).1.2≠0
  ·rw[if_pos c] at he;exact absurd he c
  ·simpa using c
 rw[if_neg (by simpa using e1)] at he
 have hml:=d4Y hm
 have hmc:=h.map hm
 have lf:=d4Y h.hf
 have lc:=d4Y h.hc
 have hn:e.args.length≤B20:=(d6E hsz).1
 have hb20:B20=1100000:=rfl
 have hb47:B47=140737488355328:=rfl
 obtain⟨x1,x2,x3⟩:=e7Q hxo
 have hba:=d5Y heb
 have xval:0≤e.val∧e.val≤18446744073709551615:=by cases hxo with|mk _ h1 h2 h3 h4 h5 h=>exact h2
 refine XcE.of F85 rfl ?_
 simp only[c5R]
 simp only[wA,seval,reduceCtorEq,reduceIte,d1Z,o2,o8,d2A]
 have hroom:a0N e.args.length 56=true:=by unfold a0N;simp only[g5L];omega
 obtain⟨v,rr,ow1,hmk,hpo,hv⟩:=f4S tVc zVt (sz:=5) rfl (by decide) (sg++[(false,[.t (.int .i64 e.op),.t (.int .u64 e.val),.t (.str e.name),.t (.sl e.nl (d1X e.args))]),(false,[PV.t (.sl true []),.t (.int .i64 0),.t (.int .i64 0),.t (.int .i64 0),.t (.int .i64 0)])]) ow hroom
 rw[hmk]
 (simp only[wA,seval,reduceCtorEq,reduceIte,d1Z,o2,o8,d2A,g3A])
 have hvl:(sg++[(false,[PV.t (.int .i64 e.op),.t (.int .u64 e.val),.t (.str e.name),.t (.sl e.nl (d1X e.args))]),(false,[PV.t (.sl true []),.t (.int .i64 0),.t (.int .i64 0),.t (.int .i64 0),.t (.int .i64 0)])]).length=sg.length+2:=by simp
 rw[hvl] at hv
 have hv':0 < e.args.length→v=.ls (sg.length+2) 0 e.args.length 5:=fun h=>by
  rcases hv with⟨h0,_⟩|⟨_,h1,_⟩
  ·omega
  ·exact h1
 have hrr:0 < e.args.length→rr=[(false,f3Y tVc zVt e.args.length [])]:=fun h=>by
  rcases hv with⟨h0,_⟩|⟨_,_,h1⟩
  ·omega
  ·exact h1
 have hcel:0 < e.args.length→(sg++((false,[PV.t (.int .i64 e.op),.t (.int .u64 e.val),.t (.str e.name),.t (.sl e.nl (d1X e.args))])::(false,[PV.t (.sl true []),.t (.int .i64 0),.t (.int .i64 0),.t (.int .i64 0),.t (.int .i64 0)])::rr))[sg.length+2]?=some (false,f3Y tVc zVt e.args.length []):=fun h=>by
  rw[hrr h,g3J (by omega)];simp
 have nn:∀ i,sg.length≤i→i ∉ [c,r,ri,hi]:=fun i hi=>h.new hi
 have nm2:m ∉ [sg.length+2,c,r,ri,hi]:=fun e=>by
  rcases g4G.1 e with e|e
  ·omega
  ·exact hmc e
 refine f9R hk hΨ (fun a ha=>⟨x3 a ha,(d6E hsz).2 a ha,hba a ha⟩) hrec (by omega) (c:=c) (r:=r) (ri0:=ri) (hi0:=hi) (fm:=fm) (m:=m) (a:=sg.length+2) (b4:=sg.length) (b6:=sg.length+1) (sc:=sc) (v:=v) (sgB:=sg++((false,[PV.t (.int .i64 e.op),.t (.int .u64 e.val),.t (.str e.name),.t (.sl e.nl (d1X e.args))])::(false,[PV.t (.sl true []),.t (.int .i64 0),.t (.int .i64 0),.t (.int .i64 0),.t (.int .i64 0)])::rr)) (owB:=ow1) (b1V hm) nm2 (by omega) (fun h0=>by rw[hrr (List.length_pos_iff.2 h0)];simp) hv' _ e.args 0 [] w s _ _ _ ri hi rfl (by omega) rfl (h.app _) hs hsc (nn _ (by omega)) (.refl _ _) (List.prefix_refl _) hcel e1 (by simp only[wQ,Nat.reduceEqDiff,reduceIte];first|done|exact⟨rfl,rfl⟩|rfl) ?_
 intro fr' sg' ow' ri1 hi1 hcs na hM hO ha hf'
 simp only[b9R,b9Q] at hf'
 obtain⟨f0,f2,f4,f6,f8,-⟩:=hf'
 have nb4:sg.length ∉ [sg.length+2,c,r,ri,hi]:=fun e=>by
  rcases g4G.1 e with e|e
  ·omega
  ·exact nn _ (g4U _) e
 have nb6:sg.length+1 ∉ [sg.length+2,c,r,ri,hi]:=fun e=>by
  rcases g4G.1 e with e|e
  ·omega
  ·exact nn _ (by omega) e
 have g4:(sg++((false,[PV.t (.int .i64 e.op),.t (.int .u64 e.val),.t (.str e.name),.t (.sl e.nl (d1X e.args))])::(false,[PV.t (.sl true []),.t (.int .i64 0),.t (.int .i64 0),.t (.int .i64 0),.t (.int .i64 0)])::rr))[sg.length]?=some (false,[PV.t (.int .i64 e.op),.t (.int .u64 e.val),.t (.str e.name),.t (.sl e.nl (d1X e.args))]):=by simp
 have g6:(sg++((false,[PV.t (.int .i64 e.op),.t (.int .u64 e.val),.t (.str e.name),.t (.sl e.nl (d1X e.args))])::(false,[PV.t (.sl true []),.t (.int .i64 0),.t (.int .i64 0),.t (.int .i64 0),.t (.int .i64 0)])::rr))[sg.length+1]?=some (false,[PV.t (.sl true []),.t (.int .i64 0),.t (.int .i64 0),.t (.int .i64 0),.t (.int .i64 0)]):=by rw[g3J (by omega)];simp
 have j4:=hM.get g4 nb4
 have j6:=hM.get g6 nb6
 have q4:=hM.cold (d4Y g4) nb4
 have q6:=hM.cold (d4Y g6) nb6
 have q6':sg.length+1 ∉ [c,r,ri1,hi1]:=fun e=>q6 (g4H _ e)
 have q4':sg.length ∉ [c,r,ri1,hi1]:=fun e=>q4 (g4H _ e)
 have hVs:=f2X (Φ:=foF p) (Ψ:=Ψ) (sc:=sc) (fs:=fs) (ns:=ns) e.args (fun a ha w s hs hsc he=>f2Y (f5W hk) hΨ a (x3 a ha) ((d6E hsz).2 a ha) (hba a ha) w s hs hsc he) w s hs hsc e1
 obtain⟨hs1,hle1,hVs⟩:=hVs
 have hlen:=hVs.len
 rw[e7P _ _ _ _ e1] at hlen
 have hlen2:=e7P _ _ _ _ e1
 simp only[List.nil_append] at ha
 have hOp:=f2W (f5W hk) hΨ (ns:=ns) (nm:=e.name) (w:=(d4C fs ns e.args w).2) hs1 x1 o2 o8 (by rw[hlen2];omega) (by rw[hlen2];exact(e7R heb).2) hVs he
 have hB2:=f9W (e7R heb).2
 generalize hq:f1M (foF p) Ψ sc e.args s=q at *
 obtain⟨vs,s'⟩:=q
 simp only at ha hcs hlen hVs hs1 hle1 hOp ⊢
 have hMs:Mv [c,r,ri,hi] [c,r,ri1,hi1] sg sg':=((Mv.app _ sg _).trans hM).loc (by omega)
 have hOs:ow <+: ow':=hpo.trans hO
 have lsg:sg.length+2≤sg'.length:=by have:=hM.1;simp only[g3V,g3W] at this;omega
 have h5:(1000:Nat) < 1005:=by decide
 have hcl:∀ v,clo (.t (.agg (tVc v)))=.t (.agg (tVc v)):=fun _=>rfl
 have hc1:=hcs.hc
 have lf1:=d4Y hcs.hf
 have finG:∀ (sgb:Sg) (owb:Ow),Mv [c,r,ri,hi] [c,r,ri1,hi1] sg sgb→ow <+: owb→sg.length+1 < sgb.length→∀ (s2:Cst) (sg2:Sg) (ow2:Ow) (x:Bool×List PV),Cd sgb owb c r ri1 hi1 fm p fa s2 sg2 ow2→Cd sg ow c r ri hi fm p fa s2 (sg2.set (sg.length+1) x) ow2:=by
  intro sgb owb hb ho hl s2 sg2 ow2 x hD
  obtain⟨o2,ri2,hi2,hcs2,hm2⟩:=hD
  exact⟨ho.trans o2,ri2,hi2,hcs2.set (hm2.cold hl q6') (by omega) x,Mv.set (hb.trans hm2) (.inr (by omega)) x⟩
 have ls6:=d4Y j6
 by_cases o1:e.op=1
 ·have hP1:opC (foF p) Ψ e.op e.val e.name vs s'=(f0X (e8U (foF p) e.val) (d3Q e.val),s'):=by unfold opC;rw[if_pos o1]
  rw[hP1]
  have hcon:=fun K=>@f6A gl p e.val hk xval.1 K
  have hnum:=fun K=>@f8X gl e.val xval.1 xval.2 K
  simp only[wA,seval,reduceCtorEq,reduceIte,f0,f2,f4,f6,f8,j4,o1,hc1,hcon,hnum]
  refine CallE.mono (f8W (.lp c 0) (e8U (foF p) e.val) (d3Q e.val) sg' ow') ?_
  rintro y sg2 ow2 ⟨rfl,hg,rfl⟩
  have j62:=hg.get j6
  simp only[wA,seval,reduceCtorEq,reduceIte,f0,f2,f4,f6,f8,j62,d4X j62,wC,c4J h5,hcl,allT]
  first|exact finG sg' ow2 hMs hOs ls6 _ _ _ _ ⟨List.prefix_refl _,ri1,hi1,hcs.grow hg,.grow hg⟩|exact⟨rfl,finG sg' ow2 hMs hOs ls6 _ _ _ _ ⟨List.prefix_refl _,ri1,hi1,hcs.grow hg,.grow hg⟩⟩
 by_cases o5:e.op=5
 ·have hP5:opC (foF p) Ψ e.op e.val e.name vs s'=Ψ e.name vs s':=by unfold opC;rw[if_neg o1,if_pos o5]
  rw[hP5]
  obtain⟨f,hlk,hps⟩:∃ f,Ky.look e.name fs=some f∧PsC s'.b.vars f.params vs:=by
   unfold opM at he
   rw[if_neg (by omega),if_neg (by omega),if_neg o2,if_pos o5] at he
   simp only at he
   unfold d3V at he
   cases hx:Ky.look e.name fs with
   |none=>rw[hx] at he;cases he
   |some f =>
    rw[hx] at he
    simp only at he
    split at he
    ·cases he
    ·rename_i c
     split at he
     ·rename_i cf
      exact⟨f,rfl,f2L _ _ _ hVs (by omega) cf⟩
     ·cases he
  obtain⟨hlf,hcall⟩:=hR e.name f hlk
  have harg:f9U sg' v vs:=by
   by_cases h0:vs=[]
   ·rw[h0] at hlen
    rcases hv with⟨_,h1,_⟩|⟨h1,_⟩
    ·exact .inl ⟨h0,h1⟩
    ·simp at hlen;omega
   ·have hp:0 < e.args.length:=by rw[←hlen];exact List.length_pos_iff.2 h0
    exact .inr ⟨h0,_,by rw[hlen];exact hv' hp,ha hp⟩
  have hcl2:=hcall sg' c r ri1 hi1 fm s' ow' vs v hcs hs1 harg (by omega) hps
  simp only[tFu] at hcl2
  have hff:=hcs.hf
  simp only[wA,seval,reduceCtorEq,reduceIte,f0,f2,f4,f6,f8,j4,o1,o5,hc1,hff,a1C,iFc,d5B,hlf,g5D,Option.isSome_some]
  refine CallE.mono hcl2 ?_
  rintro y sg2 ow2 ⟨rfl,o2',ri2,hi2,hcs2,hm2⟩
  have j62:=hm2.get j6 q6'
  simp only[wA,seval,reduceCtorEq,reduceIte,f0,f2,f4,f6,f8,j62,d4X j62,wC,c4J h5,hcl,allT]
  first|exact finG sg' ow' hMs hOs ls6 _ _ _ _ ⟨o2',ri2,hi2,hcs2,hm2⟩|exact⟨rfl,finG sg' ow' hMs hOs ls6 _ _ _ _ ⟨o2',ri2,hi2,hcs2,hm2⟩⟩
 have hpv:∀ x,x∈vs→0 < x.els.length:=fun x hx=>(hVs.mem x hx).choose_spec.pos
 have hels:∀ K,XcP F gl 125 [.sl false (vs.map tVc)] K ⟨⟩↔K (.t (.sl false (tLs (vs.map f0Y)))):=fun K=>f9A (by omega) hpv
 have hlfs:(vs.map f0Y).length=e.args.length:=by rw[g3X];exact hlen
 by_cases o7:e.op=7
 ·have hP7:opC (foF p) Ψ e.op e.val e.name vs s'=(⟨vs.map f0Y,⟨(f1D vs).kind,(f1D vs).bits,(vs.length:Int)⟩,0⟩,s'):=by unfold opC;rw[if_neg o1,if_neg o5,if_neg (by omega),if_pos o7]
  rw[hP7]
  have hp:0 < e.args.length:=by have:=hB2.2.2.2 (.inr o7);omega
  have hne:vs≠[]:=fun h=>by rw[h] at hlen;simp at hlen;omega
  have hvv:=hv' hp
  subst hvv
  have ha':=ha hp
  have hcom:=fun ow=>f9K (gl:=gl) hne (by omega) ha' ow
  rw[hlen] at hcom
  simp only[wA,seval,reduceCtorEq,reduceIte,f0,f2,f4,f6,f8,j4,o1,o5,o7]
  refine CallE.mono (hcom _) ?_
  rintro y sg2 ow2 ⟨rfl,hg,rfl⟩
  generalize hT:f1D vs=t
  have lg:=hg.len
  have ha2:=hg.get ha'
  have j62:=hg.get j6
  have j42:=hg.get j4
  have hfz:=fun (x:Bool×List PV)=>f4N (t:=tVc) (sz:=5) (by decide) f4T f4U (b1V (r:=[x]) ha2) hne
  rw[hlen] at hfz
  have gs:∀ (x z:Bool×List PV),((sg2++[x]).set (sg.length+2) z)[sg2.length]?=some x:=fun x z=>by rw[g3R (by have:=d4Y ha2;omega)];simp
  have g6':∀ (x z:Bool×List PV),((sg2++[x]).set (sg.length+2) z)[sg.length+1]?=sg2[sg.length+1]?:=fun x z=>by rw[g3R (by omega),g3I (d4Y j62)]
  have gs2:∀ (x z y:Bool×List PV),(((sg2++[x]).set (sg.length+2) z).set (sg.length+1) y)[sg2.length]?=some x:=fun x z y=>by rw[g3R (by have:=d4Y j62;omega)];exact gs x z
  have g6s:∀ (x z y:Bool×List PV),(((sg2++[x]).set (sg.length+2) z).set (sg.length+1) y)[sg.length+1]?=some y:=fun x z y=>g3S (by rw[g3Z,g3V];have:=d4Y j62;omega)
  have hb1:fillP [PV.t (.sl true []),.t (.int .i64 0),.t (.int .i64 0),.t (.int .i64 0),.t (.int .i64 0)] [(0,1,PV.t (.sl false (tLs (vs.map f0Y)))),(1,3,.t (.agg [.int .i64 t.kind,.int .i64 t.bits,.int .i64 (e.args.length:Int)]))]=some [PV.t (.sl false (tLs (vs.map f0Y))),.t (.int .i64 t.kind),.t (.int .i64 t.bits),.t (.int .i64 (e.args.length:Int)),.t (.int .i64 0)]:=rfl
  simp only[wA,seval,reduceCtorEq,reduceIte,f0,f2,f4,f6,f8,j4,wC,a1K,hfz,hels,gs,gs2,g6',g6s,j62,a1I,lenS,d5U,d5T,d5S,d5P,List.zip_cons_cons,List.zip_nil_left,hb1,allT,c4J h5]
  have hcl7:clo (.t (.agg [.sl false (tLs (vs.map f0Y)),.int .i64 t.kind,.int .i64 t.bits,.int .i64 (e.args.length:Int),.int .i64 0]))=.t (.agg (tVc ⟨vs.map f0Y,⟨t.kind,t.bits,(vs.length:Int)⟩,0⟩)):=by rw[hlen];rfl
  have hMq:Mv [c,r,ri,hi] [c,r,ri1,hi1] sg ((sg2++[(false,[PV.t (.int .i64 t.kind),.t (.int .i64 t.bits),.t (.int .i64 (e.args.length:Int))])]).set (sg.length+2) (false,[])):=(hMs.trans (.grow (hg.trans (.app _ _)))).set (.inr (by omega)) _
  have hcq:CS ((sg2++[(false,[PV.t (.int .i64 t.kind),.t (.int .i64 t.bits),.t (.int .i64 (e.args.length:Int))])]).set (sg.length+2) (false,[])) c r ri1 hi1 fm p fa s':=((hcs.grow hg).app _).set na (by omega) _
  exact⟨hcl7,finG _ ow2 hMq hOs (by rw[g3Z,g3V];have:=d4Y j62;omega) _ _ _ _ (.same hcq ow2)⟩
 by_cases o20:e.op=20
 ·have h3:e.args.length=3:=by have:=hB2.1 o20;omega
  have hp:0 < e.args.length:=by omega
  have hvv:=hv' hp
  subst hvv
  have ha':=ha hp
  obtain⟨x,y,z,rfl⟩:∃ x y z,vs=[x,y,z]:=by
   have h4:vs.length=3:=by omega
   match vs,h4 with
   |[x,y,z],_=>exact⟨x,y,z,rfl⟩
  obtain⟨k0,v0⟩:=hVs.mem x (by simp)
  have hx0:=f8Y v0.pos
  have hP20:opC (foF p) Ψ e.op e.val e.name [x,y,z] s'=f1K (foF p) (f0Y x) y z s':=by unfold opC;rw[if_neg o1,if_neg o5,if_neg (by omega),if_neg o7,if_pos o20];rfl
  rw[hP20]
  obtain⟨k1,v1⟩:=hVs.mem y (by simp)
  obtain⟨k2,v2⟩:=hVs.mem z (by simp)
  have hkk:y.els.length=z.els.length∧y.els.length≤2000000:=by
   have w1:=hVs.at 1 (by omega)
   have w2:=hVs.at 2 (by omega)
   have hty:((d4C fs ns e.args w).1.1.getD 1 zTy).len=((d4C fs ns e.args w).1.1.getD 2 zTy).len:=by
    unfold opM at he
    rw[if_neg (by omega),if_neg (by omega),if_neg o2,if_neg o5,if_neg (by omega),if_neg o7,if_pos o20] at he
    simp only at he
    unfold d3Y at he
    split at he
    ·cases he
    ·split at he
     ·rename_i cb
      rw[cb]
     ·split at he
      ·rename_i cc
       simp only[g2R,d3R,g5L] at cc
       rw[cc.1,cc.2]
      ·cases he
   have y1:=w1.len
   have y2:=w2.len
   have y3:=w1.n1
   have e1':[x,y,z].getD 1 zVc=y:=rfl
   have e2':[x,y,z].getD 2 zVc=z:=rfl
   rw[e1'] at y1
   rw[e2',←hty] at y2
   have hl1:e7G ((d4C fs ns e.args w).1.1.getD 1 zTy).len≤1100000:=by unfold e7G;split <;> omega
   omega
  replace ha':sg'[sg.length+2]?=some (false,[PV.t (.sl false (tLs x.els)),.t (.int .i64 x.typ.kind),.t (.int .i64 x.typ.bits),.t (.int .i64 x.typ.len),.t (.int .i64 x.num),.t (.sl false (tLs y.els)),.t (.int .i64 y.typ.kind),.t (.int .i64 y.typ.bits),.t (.int .i64 y.typ.len),.t (.int .i64 y.num),.t (.sl false (tLs z.els)),.t (.int .i64 z.typ.kind),.t (.int .i64 z.typ.bits),.t (.int .i64 z.typ.len),.t (.int .i64 z.num)]):=ha'
  simp only[wA,seval,reduceCtorEq,reduceIte,f0,f2,f4,f6,f8,j4,o1,o5,o7,o20,h3,ha',f3V,hx0,g5F,allT]
  refine CallE.mono (f9P hk hcs hs1 v0.fst hkk.2 v1.pos hkk.1 v1.els v2.els ow') ?_
  rintro y' sg2 ow2 ⟨rfl,o2',ri2,hi2,hcs2,hm2⟩
  have j62:=hm2.get j6 q6'
  simp only[wA,seval,reduceCtorEq,reduceIte,f0,f2,f4,f6,f8,j62,d4X j62,wC,c4J h5,hcl,allT]
  first|exact finG sg' ow' hMs hOs ls6 _ _ _ _ ⟨o2',ri2,hi2,hcs2,hm2⟩|exact⟨rfl,finG sg' ow' hMs hOs ls6 _ _ _ _ ⟨o2',ri2,hi2,hcs2,hm2⟩⟩
 obtain⟨sgz,v2,hfz,hclo,hz⟩:∃ sgz v2,a1K sg' [v]=some ([v2],sgz)∧close v2=some (.sl false (vs.map tVc))∧(sgz=sg'∨sgz=sg'.set (sg.length+2) (false,[])):=by
  by_cases h0:vs=[]
  ·subst h0
   rcases hv with⟨_,⟨k,rfl⟩,_⟩|⟨h1,_⟩
   ·exact⟨sg',.own k 5 [],rfl,rfl,.inl rfl⟩
   ·simp at hlen;omega
  ·have hp:0 < e.args.length:=by rw[←hlen];exact List.length_pos_iff.2 h0
   have hvv:=hv' hp
   subst hvv
   have hz:=f4N (t:=tVc) (sz:=5) (by decide) f4T f4U (ha hp) h0
   rw[hlen] at hz
   exact⟨sg'.set (sg.length+2) (false,[]),.t (.sl false (vs.map tVc)),by simp only[a1K,hz];rfl,rfl,.inr rfl⟩
 have hzg:∀ i,i≠sg.length+2→sgz[i]?=sg'[i]?:=fun i hi=>by
  rcases hz with rfl|rfl
  ·rfl
  ·exact g3R (Ne.symm hi)
 have hcz:CS sgz c r ri1 hi1 fm p fa s':=by
  rcases hz with rfl|rfl
  ·exact hcs
  ·exact hcs.set na (by omega) _
 have hMz:Mv [c,r,ri,hi] [c,r,ri1,hi1] sg sgz:=by
  rcases hz with rfl|rfl
  ·exact hMs
  ·exact hMs.set (.inr (by omega)) _
 have hcz1:=hcz.hc
 have j4z:sgz[sg.length]?=some (false,[PV.t (.int .i64 e.op),.t (.int .u64 e.val),.t (.str e.name),.t (.sl e.nl (d1X e.args))]):=by rw[hzg _ (by omega)];exact j4
 have j6z:sgz[sg.length+1]?=some (false,[PV.t (.sl true []),.t (.int .i64 0),.t (.int .i64 0),.t (.int .i64 0),.t (.int .i64 0)]):=by rw[hzg _ (by omega)];exact j6
 have lz6:=d4Y j6z
 by_cases o6:e.op=6
 ·have hP6:opC (foF p) Ψ e.op e.val e.name vs s'=(f0X (f1F (foF p) e.val (vs.map f0Y) s').1 d1V,(f1F (foF p) e.val (vs.map f0Y) s').2):=by unfold opC;rw[if_neg o1,if_neg o5,if_pos o6]
  rw[hP6]
  have hne:vs.map f0Y≠[]:=fun h=>by
   have h0:e.args.length=0:=by rw[←hlfs,h];rfl
   have:=hB2.2.2.2 (.inl o6)
   omega
  simp only[wA,seval,reduceCtorEq,reduceIte,f0,f2,f4,f6,f8,j4,j4z,o1,o5,o6,hc1,hcz1,hfz,hclo,hels,a1I,lenS,d5U,d5T,d5S,d5P]
  refine CallE.mono (f9B hk hcz hs1 (l:=vs.map f0Y) (by omega) hne hVs.fsts xval.1 ow') ?_
  rintro y sg2 ow2 ⟨rfl,o2',ri2,hi2,hcs2,hm2⟩
  have j42:=hm2.get j4z q4'
  have j62:=hm2.get j6z q6'
  simp only[wA,seval,reduceCtorEq,reduceIte,f0,f2,f4,f6,f8,j4z,j42,a1I,lenS,d5U,d5T,d5S,d5P]
  refine CallE.mono (f8W (.lp c 0) _ d1V sg2 ow2) ?_
  rintro y sg3 ow3 ⟨rfl,hg3,rfl⟩
  have j43:=hg3.get j42
  have j63:=hg3.get j62
  have k43:∀ z,(sg3.set (sg.length+1) z)[sg.length]?=sg3[sg.length]?:=fun z=>g3R (by omega)
  simp only[wA,seval,reduceCtorEq,reduceIte,f0,f2,f4,f6,f8,j42,j43,j63,d4X j63,k43,a1I,lenS,d5U,d5T,d5S,d5P,wC,c4J h5,hcl,allT]
  first|exact finG sgz ow' hMz hOs lz6 _ _ _ _ ⟨o2',ri2,hi2,hcs2.grow hg3,hm2.trans (.grow hg3)⟩|exact⟨rfl,finG sgz ow' hMz hOs lz6 _ _ _ _ ⟨o2',ri2,hi2,hcs2.grow hg3,hm2.trans (.grow hg3)⟩⟩
 by_cases o9:e.op=9∨e.op=11∨e.op=12∨e.op=13
 ·have hP9:opC (foF p) Ψ e.op e.val e.name vs s'=(f0X (f1G (foF p) e.op (vs.map f0Y) s').1 d1V,(f1G (foF p) e.op (vs.map f0Y) s').2):=by unfold opC;rw[if_neg o1,if_neg o5,if_neg o6,if_neg o7,if_neg o20,if_pos o9]
  rw[hP9]
  have hnl:(e.op=9→(vs.map f0Y).length=1)∧(e.op≠9→(vs.map f0Y).length=2):=⟨fun h=>by have:=hB2.2.1 (.inl h);omega,fun h=>by have:=hB2.2.2.1 (by omega);omega⟩
  by_cases k9:e.op=9
  ·have d9:(e.op=9)=True:=eq_true k9
   simp only[wA,seval,reduceCtorEq,reduceIte,f0,f2,f4,f6,f8,j4,j4z,o1,o5,o6,o7,o20,d9,hc1,hcz1,hfz,hclo,hels,a1I,lenS,d5U,d5T,d5S,d5P]
   refine CallE.mono (f9F hk hcz hs1 o9 (l:=vs.map f0Y) hnl hVs.fsts ow') ?_
   rintro y sg2 ow2 ⟨rfl,o2',ri2,hi2,hcs2,hm2⟩
   have j42:=hm2.get j4z q4'
   have j62:=hm2.get j6z q6'
   simp only[wA,seval,reduceCtorEq,reduceIte,f0,f2,f4,f6,f8,j4z,j42,a1I,lenS,d5U,d5T,d5S,d5P]
   refine CallE.mono (f8W (.lp c 0) _ d1V sg2 ow2) ?_
   rintro y sg3 ow3 ⟨rfl,hg3,rfl⟩
   have j43:=hg3.get j42
   have j63:=hg3.get j62
   have k43:∀ z,(sg3.set (sg.length+1) z)[sg.length]?=sg3[sg.length]?:=fun z=>g3R (by omega)
   simp only[wA,seval,reduceCtorEq,reduceIte,f0,f2,f4,f6,f8,j42,j43,j63,d4X j63,k43,a1I,lenS,d5U,d5T,d5S,d5P,wC,c4J h5,hcl,allT]
   first|exact finG sgz ow' hMz hOs lz6 _ _ _ _ ⟨o2',ri2,hi2,hcs2.grow hg3,hm2.trans (.grow hg3)⟩|exact⟨rfl,finG sgz ow' hMz hOs lz6 _ _ _ _ ⟨o2',ri2,hi2,hcs2.grow hg3,hm2.trans (.grow hg3)⟩⟩
  have d9:(e.op=9)=False:=eq_false k9
  by_cases k11:e.op=11
  ·have d11:(e.op=11)=True:=eq_true k11
   simp only[wA,seval,reduceCtorEq,reduceIte,f0,f2,f4,f6,f8,j4,j4z,o1,o5,o6,o7,o20,d9,d11,hc1,hcz1,hfz,hclo,hels,a1I,lenS,d5U,d5T,d5S,d5P]
   refine CallE.mono (f9F hk hcz hs1 o9 (l:=vs.map f0Y) hnl hVs.fsts ow') ?_
   rintro y sg2 ow2 ⟨rfl,o2',ri2,hi2,hcs2,hm2⟩
   have j42:=hm2.get j4z q4'
   have j62:=hm2.get j6z q6'
   simp only[wA,seval,reduceCtorEq,reduceIte,f0,f2,f4,f6,f8,j4z,j42,a1I,lenS,d5U,d5T,d5S,d5P]
   refine CallE.mono (f8W (.lp c 0) _ d1V sg2 ow2) ?_
   rintro y sg3 ow3 ⟨rfl,hg3,rfl⟩
   have j43:=hg3.get j42
   have j63:=hg3.get j62
   have k43:∀ z,(sg3.set (sg.length+1) z)[sg.length]?=sg3[sg.length]?:=fun z=>g3R (by omega)
   simp only[wA,seval,reduceCtorEq,reduceIte,f0,f2,f4,f6,f8,j42,j43,j63,d4X j63,k43,a1I,lenS,d5U,d5T,d5S,d5P,wC,c4J h5,hcl,allT]
   first|exact finG sgz ow' hMz hOs lz6 _ _ _ _ ⟨o2',ri2,hi2,hcs2.grow hg3,hm2.trans (.grow hg3)⟩|exact⟨rfl,finG sgz ow' hMz hOs lz6 _ _ _ _ ⟨o2',ri2,hi2,hcs2.grow hg3,hm2.trans (.grow hg3)⟩⟩
  have d11:(e.op=11)=False:=eq_false k11
  by_cases k12:e.op=12
  ·have d12:(e.op=12)=True:=eq_true k12
   simp only[wA,seval,reduceCtorEq,reduceIte,f0,f2,f4,f6,f8,j4,j4z,o1,o5,o6,o7,o20,d9,d11,d12,hc1,hcz1,hfz,hclo,hels,a1I,lenS,d5U,d5T,d5S,d5P]
   refine CallE.mono (f9F hk hcz hs1 o9 (l:=vs.map f0Y) hnl hVs.fsts ow') ?_
   rintro y sg2 ow2 ⟨rfl,o2',ri2,hi2,hcs2,hm2⟩
   have j42:=hm2.get j4z q4'
   have j62:=hm2.get j6z q6'
   simp only[wA,seval,reduceCtorEq,reduceIte,f0,f2,f4,f6,f8,j4z,j42,a1I,lenS,d5U,d5T,d5S,d5P]
   refine CallE.mono (f8W (.lp c 0) _ d1V sg2 ow2) ?_
   rintro y sg3 ow3 ⟨rfl,hg3,rfl⟩
   have j43:=hg3.get j42
   have j63:=hg3.get j62
   have k43:∀ z,(sg3.set (sg.length+1) z)[sg.length]?=sg3[sg.length]?:=fun z=>g3R (by omega)
   simp only[wA,seval,reduceCtorEq,reduceIte,f0,f2,f4,f6,f8,j42,j43,j63,d4X j63,k43,a1I,lenS,d5U,d5T,d5S,d5P,wC,c4J h5,hcl,allT]
   first|exact finG sgz ow' hMz hOs lz6 _ _ _ _ ⟨o2',ri2,hi2,hcs2.grow hg3,hm2.trans (.grow hg3)⟩|exact⟨rfl,finG sgz ow' hMz hOs lz6 _ _ _ _ ⟨o2',ri2,hi2,hcs2.grow hg3,hm2.trans (.grow hg3)⟩⟩
  have d12:(e.op=12)=False:=eq_false k12
  have d13:(e.op=13)=True:=eq_true (by omega)
  simp only[wA,seval,reduceCtorEq,reduceIte,f0,f2,f4,f6,f8,j4,j4z,o1,o5,o6,o7,o20,d9,d11,d12,d13,hc1,hcz1,hfz,hclo,hels,a1I,lenS,d5U,d5T,d5S,d5P]
  refine CallE.mono (f9F hk hcz hs1 o9 (l:=vs.map f0Y) hnl hVs.fsts ow') ?_
  rintro y sg2 ow2 ⟨rfl,o2',ri2,hi2,hcs2,hm2⟩
  have j42:=hm2.get j4z q4'
  have j62:=hm2.get j6z q6'
  simp only[wA,seval,reduceCtorEq,reduceIte,f0,f2,f4,f6,f8,j4z,j42,a1I,lenS,d5U,d5T,d5S,d5P]
  refine CallE.mono (f8W (.lp c 0) _ d1V sg2 ow2) ?_
  rintro y sg3 ow3 ⟨rfl,hg3,rfl⟩
  have j43:=hg3.get j42
  have j63:=hg3.get j62
  have k43:∀ z,(sg3.set (sg.length+1) z)[sg.length]?=sg3[sg.length]?:=fun z=>g3R (by omega)
  simp only[wA,seval,reduceCtorEq,reduceIte,f0,f2,f4,f6,f8,j42,j43,j63,d4X j63,k43,a1I,lenS,d5U,d5T,d5S,d5P,wC,c4J h5,hcl,allT]
  first|exact finG sgz ow' hMz hOs lz6 _ _ _ _ ⟨o2',ri2,hi2,hcs2.grow hg3,hm2.trans (.grow hg3)⟩|exact⟨rfl,finG sgz ow' hMz hOs lz6 _ _ _ _ ⟨o2',ri2,hi2,hcs2.grow hg3,hm2.trans (.grow hg3)⟩⟩
 have n9:¬e.op=9:=fun h=>o9 (.inl h)
 have n11:¬e.op=11:=fun h=>o9 (.inr (.inl h))
 have n12:¬e.op=12:=fun h=>o9 (.inr (.inr (.inl h)))
 have n13:¬e.op=13:=fun h=>o9 (.inr (.inr (.inr h)))
 by_cases o16:e.op=16∨e.op=17
 ·have hP16:opC (foF p) Ψ e.op e.val e.name vs s'=(f0X (f1H (foF p) e.op (vs.map f0Y) (mx (vs.getD 0 zVc).typ.bits (vs.getD 1 zVc).typ.bits) s').1 d1W,(f1H (foF p) e.op (vs.map f0Y) (mx (vs.getD 0 zVc).typ.bits (vs.getD 1 zVc).typ.bits) s').2):=by unfold opC;rw[if_neg o1,if_neg o5,if_neg o6,if_neg o7,if_neg o20,if_neg o9,if_pos o16]
  rw[hP16]
  have h2:e.args.length=2:=by have:=hB2.2.2.1 (by omega);omega
  have hp:0 < e.args.length:=by omega
  have hvv:=hv' hp
  subst hvv
  have ha':=ha hp
  obtain⟨x,y,rfl⟩:∃ x y,vs=[x,y]:=by
   have h4:vs.length=2:=by omega
   match vs,h4 with
   |[x,y],_=>exact⟨x,y,rfl⟩
  have v1:=(hVs.mem x (by simp)).choose_spec
  have v2':=(hVs.mem y (by simp)).choose_spec
  have hmx:mxT true (.t (.int .i64 x.typ.bits)) (.t (.int .i64 y.typ.bits))=some (.int .i64 (mx x.typ.bits y.typ.bits)):=rfl
  have hw0:0≤mx x.typ.bits y.typ.bits∧mx x.typ.bits y.typ.bits≤62:=by
   unfold mx
   split
   ·exact v2'.ty
   ·exact v1.ty
  have e1':[x,y].getD 0 zVc=x:=rfl
  have e2':[x,y].getD 1 zVc=y:=rfl
  rw[e1',e2']
  replace ha':sg'[sg.length+2]?=some (false,[PV.t (.sl false (tLs x.els)),.t (.int .i64 x.typ.kind),.t (.int .i64 x.typ.bits),.t (.int .i64 x.typ.len),.t (.int .i64 x.num),.t (.sl false (tLs y.els)),.t (.int .i64 y.typ.kind),.t (.int .i64 y.typ.bits),.t (.int .i64 y.typ.len),.t (.int .i64 y.num)]):=ha'
  have hfz2:=hfz
  rw[h2] at hfz2
  have hels2:=hels
  simp only[g4D,g4E] at hels2
  by_cases k16:e.op=16
  ·have d16:(e.op=16)=True:=eq_true k16
   simp only[wA,seval,reduceCtorEq,reduceIte,f0,f2,f4,f6,f8,j4,j4z,o1,o5,o6,o7,o20,n9,n11,n12,n13,d16,h2,ha',hmx,hfz2,hels2,hc1,hcz1,hfz,hclo,hels,a1I,lenS,d5U,d5T,d5S,d5P]
   refine CallE.mono (f9G hk hcz hs1 v1.fst v2'.fst hw0.1 (by omega) ow') ?_
   rintro y sg2 ow2 ⟨rfl,o2',ri2,hi2,hcs2,hm2⟩
   have j42:=hm2.get j4z q4'
   have j62:=hm2.get j6z q6'
   simp only[wA,seval,reduceCtorEq,reduceIte,f0,f2,f4,f6,f8,j4z,j42,a1I,lenS,d5U,d5T,d5S,d5P]
   refine CallE.mono (f8W (.lp c 0) _ d1W sg2 ow2) ?_
   rintro y sg3 ow3 ⟨rfl,hg3,rfl⟩
   have j43:=hg3.get j42
   have j63:=hg3.get j62
   have k43:∀ z,(sg3.set (sg.length+1) z)[sg.length]?=sg3[sg.length]?:=fun z=>g3R (by omega)
   simp only[wA,seval,reduceCtorEq,reduceIte,f0,f2,f4,f6,f8,j42,j43,j63,d4X j63,k43,a1I,lenS,d5U,d5T,d5S,d5P,wC,c4J h5,hcl,allT]
   first|exact finG sgz ow' hMz hOs lz6 _ _ _ _ ⟨o2',ri2,hi2,hcs2.grow hg3,hm2.trans (.grow hg3)⟩|exact⟨rfl,finG sgz ow' hMz hOs lz6 _ _ _ _ ⟨o2',ri2,hi2,hcs2.grow hg3,hm2.trans (.grow hg3)⟩⟩
  have d16:(e.op=16)=False:=eq_false k16
  have d17:(e.op=17)=True:=eq_true (by omega)
  simp only[wA,seval,reduceCtorEq,reduceIte,f0,f2,f4,f6,f8,j4,j4z,o1,o5,o6,o7,o20,n9,n11,n12,n13,d16,d17,h2,ha',hmx,hfz2,hels2,hc1,hcz1,hfz,hclo,hels,a1I,lenS,d5U,d5T,d5S,d5P]
  refine CallE.mono (f9G hk hcz hs1 v1.fst v2'.fst hw0.1 (by omega) ow') ?_
  rintro y sg2 ow2 ⟨rfl,o2',ri2,hi2,hcs2,hm2⟩
  have j42:=hm2.get j4z q4'
  have j62:=hm2.get j6z q6'
  simp only[wA,seval,reduceCtorEq,reduceIte,f0,f2,f4,f6,f8,j4z,j42,a1I,lenS,d5U,d5T,d5S,d5P]
  refine CallE.mono (f8W (.lp c 0) _ d1W sg2 ow2) ?_
  rintro y sg3 ow3 ⟨rfl,hg3,rfl⟩
  have j43:=hg3.get j42
  have j63:=hg3.get j62
  have k43:∀ z,(sg3.set (sg.length+1) z)[sg.length]?=sg3[sg.length]?:=fun z=>g3R (by omega)
  simp only[wA,seval,reduceCtorEq,reduceIte,f0,f2,f4,f6,f8,j42,j43,j63,d4X j63,k43,a1I,lenS,d5U,d5T,d5S,d5P,wC,c4J h5,hcl,allT]
  first|exact finG sgz ow' hMz hOs lz6 _ _ _ _ ⟨o2',ri2,hi2,hcs2.grow hg3,hm2.trans (.grow hg3)⟩|exact⟨rfl,finG sgz ow' hMz hOs lz6 _ _ _ _ ⟨o2',ri2,hi2,hcs2.grow hg3,hm2.trans (.grow hg3)⟩⟩
 have hPt:opC (foF p) Ψ e.op e.val e.name vs s'=(f0X (f1I (foF p) e.op (vs.map f0Y) s').1 d1W,(f1I (foF p) e.op (vs.map f0Y) s').2):=by unfold opC;rw[if_neg o1,if_neg o5,if_neg o6,if_neg o7,if_neg o20,if_neg o9,if_neg o16]
 rw[hPt]
 have n16:¬e.op=16:=fun h=>o16 (.inl h)
 have n17:¬e.op=17:=fun h=>o16 (.inr h)
 have hnl:(e.op=10→(vs.map f0Y).length=1)∧(e.op=14∨e.op=15∨e.op=18∨e.op=19→(vs.map f0Y).length=2):=⟨fun h=>by have:=hB2.2.1 (.inr h);omega,fun h=>by have:=hB2.2.2.1 (by omega);omega⟩
 simp only[wA,seval,reduceCtorEq,reduceIte,f0,f2,f4,f6,f8,j4,j4z,o1,o5,o6,o7,o20,n9,n11,n12,n13,n16,n17,hc1,hcz1,hfz,hclo,hels,a1I,lenS,d5U,d5T,d5S,d5P]
 refine CallE.mono (f9H hk hcz hs1 (l:=vs.map f0Y) hnl hVs.fsts ow') ?_
 rintro y sg2 ow2 ⟨rfl,o2',ri2,hi2,hcs2,hm2⟩
 have j42:=hm2.get j4z q4'
 have j62:=hm2.get j6z q6'
 simp only[wA,seval,reduceCtorEq,reduceIte,f0,f2,f4,f6,f8,j4z,j42,a1I,lenS,d5U,d5T,d5S,d5P]
 refine CallE.mono (f8W (.lp c 0) _ d1W sg2 ow2) ?_
 rintro y sg3 ow3 ⟨rfl,hg3,rfl⟩
 have j43:=hg3.get j42
 have j63:=hg3.get j62
 have k43:∀ z,(sg3.set (sg.length+1) z)[sg.length]?=sg3[sg.length]?:=fun z=>g3R (by omega)
 simp only[wA,seval,reduceCtorEq,reduceIte,f0,f2,f4,f6,f8,j42,j43,j63,d4X j63,k43,a1I,lenS,d5U,d5T,d5S,d5P,wC,c4J h5,hcl,allT]
 first|exact finG sgz ow' hMz hOs lz6 _ _ _ _ ⟨o2',ri2,hi2,hcs2.grow hg3,hm2.trans (.grow hg3)⟩|exact⟨rfl,finG sgz ow' hMz hOs lz6 _ _ _ _ ⟨o2',ri2,hi2,hcs2.grow hg3,hm2.trans (.grow hg3)⟩⟩
theorem ok85 {p:Int} (hk:e2N p=true) {fa fs:Fs} {ns:Ns} {Ψ:Fc} (hΨ:FcOk fs Ψ) (hR:f9V gl p fa fs Ψ):∀ e,ExpOk e→szE e≤B20→exB e=true→VaC gl p fa fs ns Ψ e:=by
 refine Exp.ind fun e ih hxo hsz heb=>?_
 have hrec:∀ a,a∈e.args→VaC gl p fa fs ns Ψ a:=fun a ha=>ih a ha ((e7Q hxo).2.2 a ha) ((d6E hsz).2 a ha) (d5Y heb a ha)
 by_cases o2:e.op=2
 ·exact f9S o2
 by_cases o8:e.op=8
 ·obtain⟨a,b,hab⟩:=d5V heb (.inl o8)
  exact f9T hk hΨ o8 hab hxo hsz heb (hrec a (by rw[hab];simp))
 ·exact f9X hk hΨ hR o2 o8 hxo hsz heb hrec
end Go.Proofs.YtdjcnfacjfnakaaGreat
