/- The law: two asserts change places. -/
import Derived.Test.YtdjcnfacjfnakaaGreatU15
import Derived.Test.YtdjcnfacjfnakaaGreatPi43
import Derived.Test.YtdjcnfacjfnakaaGreatPi42
import Derived.Test.YtdjcnfacjfnakaaGreatKx19
import Derived.Test.YtdjcnfacjfnakaaGreatPi31
set_option maxRecDepth 10000
set_option linter.unusedVariables false
set_option linter.unusedSimpArgs false
namespace Go.Proofs.YtdjcnfacjfnakaaGreat
open Go.Pi Go.Lx Go.Ky Go.Lib
variable {gl:Nat→Option (List T)}
abbrev g1J (n:Nm):Exp:=.mk 2 0 n true []
def exP:Pg:=⟨true,[],false,[⟨true,[120],⟨1,0,0⟩⟩,⟨false,[121],⟨3,4,0⟩⟩],false,[.mk 2 [] false zTy (.mk 14 0 [] false [.mk 11 0 [] false [g1J [121],g1J [121]],g1J [120]]) 0 0 true []]⟩
theorem ok50 {K:PV→Prop}:XcP F gl 50 [] K ⟨⟩↔K (.t (.agg (tPg exP))):=by
 refine Ret.iff (Ret.of F50 rfl ?_)
 simp only[c5W]
 have hy:=fun K=>ok83 (gl:=gl) [121] (K:=K)
 have hx:=fun K=>ok83 (gl:=gl) [120] (K:=K)
 replace hy:=fun K=>(show XcP F gl 83 [.str [121]] K ⟨⟩↔K (.t (.agg [.int .i64 2,.int .u64 0,.str [121],.sl true []])) from hy K)
 replace hx:=fun K=>(show XcP F gl 83 [.str [120]] K ⟨⟩↔K (.t (.agg [.int .i64 2,.int .u64 0,.str [120],.sl true []])) from hx K)
 simp only[wA,seval,reduceCtorEq,reduceIte,hy,hx,b6Q,a0C,a0M,T.isAgg,List.replicate,g3S,g3T,g3O]
 all_goals (try rfl)
theorem g1K:PgB exP:=by
 refine⟨e0A (p:=exP) rfl (by decide +kernel) (by decide +kernel) (by decide) (by decide) (fun h=>by cases h) (fun h=>by cases h),by decide,by decide,fun f hf=>(by cases hf),by decide +kernel⟩
theorem ho_a:f2P (oF 97) exP 97 (known 97) [49] [7]=(true,0):=by decide +kernel
theorem ho_b:f2P (oF 97) exP 97 (known 97) [49] [90]=(false,0):=by decide +kernel
theorem g1L {K:PV→Prop}:XcP F gl 17 [] K ⟨⟩↔K (.t (.bool true)):=by
 refine Ret.iff (Ret.of F17 rfl ?_)
 simp only[c4O]
 have hb:B20=1100000:=rfl
 have h1:=fun K=>g0H (gl:=gl) g1K 97 (pu:=[49]) (se:=[7]) (by decide) (by decide) (by decide) (by decide) (K:=K)
 have h2:=fun K=>g0H (gl:=gl) g1K 97 (pu:=[49]) (se:=[90]) (by decide) (by decide) (by decide) (by decide) (K:=K)
 rw[ho_a] at h1
 rw[ho_b] at h2
 have h3:=fun K=>ok52 (gl:=gl) 3 (K:=K)
 have h5:=fun K=>ok52 (gl:=gl) 5 (K:=K)
 have he:=fun K=>@ok50 gl K
 generalize tPg exP=ex at *
 simp only[uL,g4R,g4S] at h1 h2
 replace h3:=fun K=>(show XcP F gl 52 [.int .u64 3] K ⟨⟩↔K (.t (.agg [.int .i64 1,.int .u64 3,.str [],.sl true []])) from h3 K)
 replace h5:=fun K=>(show XcP F gl 52 [.int .u64 5] K ⟨⟩↔K (.t (.agg [.int .i64 1,.int .u64 5,.str [],.sl true []])) from h5 K)
 have hx:a0Q gl 10 exArgs=some (.tup [.t (.int .u64 15),.t (.int .i64 0)]):=rfl
 unfold exArgs at hx
 simp only[wA,seval,reduceCtorEq,reduceIte,he,h1,h2,h3,h5,b6Q,a0C,a0M,T.isAgg,List.replicate,g3S,g3T,g3O,hx]
abbrev cAs (e:Exp):List T:=[.int .i64 2,.str [],.bool false,.int .i64 0,.int .i64 0,.int .i64 0,.int .i64 e.op,.int .u64 e.val,.str e.name,.sl e.nl (d3B e.args),.int .i64 0,.int .i64 0,.sl true []]
theorem g1M (e:Exp):tSt (asr e)=cAs e:=by rw[d3I];rfl
theorem PgB.wb {p:Pg} (hp:PgB p) {l:List St} (h1:∀ s,s∈l→StOk s) (h2:d4B l≤B20):PgB (Ky.wb p l):=by
 have h3:=d4J l
 have hb:B20=1100000:=rfl
 have hb2:B47=140737488355328:=rfl
 refine⟨⟨hp.ok.fl,hp.ok.fn,hp.ok.fo,hp.ok.dl,hp.ok.dn,hp.ok.dok,?_,fun h=>(by cases h),h1⟩,hp.fl,hp.dl,hp.fs,h2⟩
 show l.length≤B47
 omega
theorem g1N {n:Int} (h:0≤n∧n≤9):I64 n:=by unfold I64;omega
theorem g1O {e:Exp} (h:ExpOk e):StOk (asr e):=.mk _ (g1N (n:=2) (by decide)) (g5R _) ⟨g1N (n:=0) (by decide),g1N (n:=0) (by decide),g1N (n:=0) (by decide)⟩ h (g1N (n:=0) (by decide)) (g1N (n:=0) (by decide)) (g5R _) (fun _=>rfl) (fun a ha=>by cases ha)
theorem g1P (e:Exp):szS (asr e)≤13+szE e:=by
 rw[d4E,d4C]
 show 13+0+e.name.length+d4A e.args+d4B []≤_
 have:d4B []=0:=rfl
 omega
theorem PgB.two {p:Pg} (hp:PgB p) {l:List Exp} (hl:∀ e,e∈l→ExpOk e) (hz:d4B p.body+d4B (l.map asr)≤B20):PgB (Ky.wb p (p.body++l.map asr)):=by
 refine hp.wb (fun s hs=>?_) (by rw[e0W];exact hz)
 rcases g4T.1 hs with h|h
 ·exact hp.ok.bo s h
 ·obtain⟨e,he,rfl⟩:=List.mem_map.1 h
  exact g1O (hl e he)
set_option maxHeartbeats 2000000 in
theorem law6 {c:Cas} (hc:CasOk c) {a b:Exp} (ha:ExpOk a) (hb:ExpOk b) (hsz:d4B c.p.body+szE a+szE b+100≤B20):Ret F gl 6 [.agg (g0Q c),.agg (tEx a),.agg (tEx b)] (.t (.bool true)):=by
 refine Ret.of F6 rfl ?_
 simp only[ir6]
 have hB:B20=1100000:=rfl
 have za:=g1P a
 have zb:=g1P b
 have hbl:=d4J c.p.body
 have zz:∀ s,d4B [s]=szS s:=fun s=>by rw[d4F];rfl
 have zz2:∀ s t,d4B [s,t]=szS s+szS t:=fun s t=>by rw[d4F,zz]
 have p1:PgB (Ky.wb c.p (c.p.body++[asr a,asr b])):=hc.p.two (l:=[a,b]) (fun e he=>by rcases g4U.1 he with rfl|he;exact ha;rcases g4U.1 he with rfl|he;exact hb;cases he) (by show _+d4B [asr a,asr b]≤_;rw[zz2];omega)
 have p2:PgB (Ky.wb c.p (c.p.body++[asr b,asr a])):=hc.p.two (l:=[b,a]) (fun e he=>by rcases g4U.1 he with rfl|he;exact hb;rcases g4U.1 he with rfl|he;exact ha;cases he) (by show _+d4B [asr b,asr a]≤_;rw[zz2];omega)
 have p3:PgB (Ky.wb c.p (c.p.body++[asr a])):=hc.p.two (l:=[a]) (fun e he=>by rcases g4U.1 he with rfl|he;exact ha;cases he) (by show _+d4B [asr a]≤_;rw[zz];omega)
 have p4:PgB (Ky.wb c.p (c.p.body++[asr b])):=hc.p.two (l:=[b]) (fun e he=>by rcases g4U.1 he with rfl|he;exact hb;cases he) (by show _+d4B [asr b]≤_;rw[zz];omega)
 have m1:=fun K=>g0O (gl:=gl) (p:=c.p) (l:=[asr a,asr b]) (by show _+2≤_;omega) (by simp) false (K:=K)
 have m2:=fun K=>g0O (gl:=gl) (p:=c.p) (l:=[asr b,asr a]) (by show _+2≤_;omega) (by simp) false (K:=K)
 have m3:=fun K=>g0O (gl:=gl) (p:=c.p) (l:=[asr a]) (by show _+1≤_;omega) (by simp) false (K:=K)
 have m4:=fun K=>g0O (gl:=gl) (p:=c.p) (l:=[asr b]) (by show _+1≤_;omega) (by simp) false (K:=K)
 simp only[d3G,g1M] at m1 m2 m3 m4
 have s1:=fun K=>@ok20 gl _ p1 K
 have h1:=fun K=>g0R (gl:=gl) hc p1 (K:=K)
 have h2:=fun K=>g0R (gl:=gl) hc p2 (K:=K)
 have h3:=fun K=>g0R (gl:=gl) hc p3 (K:=K)
 have h4:=fun K=>g0R (gl:=gl) hc p4 (K:=K)
 have a1:=fun K=>ok19 (gl:=gl) a (K:=K)
 have a2:=fun K=>ok19 (gl:=gl) b (K:=K)
 replace a1:=fun K=>(show XcP F gl 19 [.agg (tEx a)] K ⟨⟩↔K (.t (.agg (tSt (asr a)))) from a1 K)
 replace a2:=fun K=>(show XcP F gl 19 [.agg (tEx b)] K ⟨⟩↔K (.t (.agg (tSt (asr b)))) from a2 K)
 simp only[g1M,d3D] at a1 a2
 have L:=f4N (oF (prV c)) c.p c.p.body a b (prV c) (known (prV c)) c.pu c.se
 have hL:∀ q,f2P (oF (prV c)) q (prV c) (known (prV c)) c.pu c.se=hoV c q:=fun q=>rfl
 simp only[hL] at L
 cases hs:g0N (Ky.wb c.p (c.p.body++[asr a,asr b])) with
 |false =>
  simp only[wA,seval,reduceCtorEq,reduceIte,g1L,m1,s1,a1,a2,d3D,hs,b6Q,a0C,a0M,T.isAgg,List.replicate,g3S,g3T,g3O]
 |true =>
  by_cases h50:(50:Int) < (c.p.body.length:Int)
  ·simp only[wA,seval,reduceCtorEq,reduceIte,g1L,m1,s1,a1,a2,d3D,hs,b6Q,a0C,a0M,T.isAgg,List.replicate,g3S,g3T,g3O,d3J,h50]
  generalize e1:Ky.wb c.p (c.p.body++[asr a,asr b])=x1 at *
  generalize e2:Ky.wb c.p (c.p.body++[asr b,asr a])=x2 at *
  generalize e3:Ky.wb c.p (c.p.body++[asr a])=x3 at *
  generalize e4:Ky.wb c.p (c.p.body++[asr b])=x4 at *
  by_cases c1:(hoV c x1).2=0
  ·have c2:(hoV c x2).2=0:=g3I fun h=>by
    rw[if_pos (.inr h)] at L
    exact h (L.2.2.1 c1)
   rw[if_neg (by rintro(h|h);exact h c1;exact h c2)] at L
   obtain⟨L1,L2⟩:=L
   have c1':((hoV c x1).2=0)=True:=g6D c1
   have c2':((hoV c x2).2=0)=True:=g6D c2
   generalize (hoV c x1).1=r1 at *
   generalize (hoV c x2).1=r2 at *
   generalize (hoV c x3).1=r3 at *
   generalize (hoV c x4).1=r4 at *
   subst L1
   subst L2
   cases r3 <;> cases r4
   ·(simp only[wA,seval,reduceCtorEq,reduceIte,g1L,m1,m2,m3,m4,s1,h1,h2,h3,h4,a1,a2,d3D,hs,b6Q,a0C,a0M,T.isAgg,List.replicate,g3S,g3T,g3O,d3J,h50,c1',c2',beq_self_eq_true])
   ·(simp only[wA,seval,reduceCtorEq,reduceIte,g1L,m1,m2,m3,m4,s1,h1,h2,h3,h4,a1,a2,d3D,hs,b6Q,a0C,a0M,T.isAgg,List.replicate,g3S,g3T,g3O,d3J,h50,c1',c2',beq_self_eq_true])
   ·(simp only[wA,seval,reduceCtorEq,reduceIte,g1L,m1,m2,m3,m4,s1,h1,h2,h3,h4,a1,a2,d3D,hs,b6Q,a0C,a0M,T.isAgg,List.replicate,g3S,g3T,g3O,d3J,h50,c1',c2',beq_self_eq_true])
   ·(simp only[wA,seval,reduceCtorEq,reduceIte,g1L,m1,m2,m3,m4,s1,h1,h2,h3,h4,a1,a2,d3D,hs,b6Q,a0C,a0M,T.isAgg,List.replicate,g3S,g3T,g3O,d3J,h50,c1',c2',beq_self_eq_true])
  ·have hx:(hoV c x1).2≠0∨(hoV c x2).2≠0:=.inl c1
   rw[if_pos hx] at L
   obtain⟨L1,L2,L3⟩:=L
   have c2:¬(hoV c x2).2=0:=fun h=>c1 (L3.2 h)
   have c1':((hoV c x1).2=0)=False:=g6C c1
   have c2':((hoV c x2).2=0)=False:=g6C c2
   simp only[wA,seval,reduceCtorEq,reduceIte,g1L,m1,m2,m3,m4,s1,h1,h2,a1,a2,d3D,hs,b6Q,a0C,a0M,T.isAgg,List.replicate,g3S,g3T,g3O,d3J,h50,c1',c2',L1,L2]
   all_goals rfl
end Go.Proofs.YtdjcnfacjfnakaaGreat

/- Contracts: Eval of 3 - 5 over the field of 17 elements, in every order that may be a3Z. -/
namespace Go.Proofs.YtdjcnfacjfnakaaGreat
open Go.Pi Go.Lx Go.Ky Go.Lib Go.Pi.Iz
variable {gl:Nat→Option (List T)}
abbrev exNu (n:Int):Exp:=.mk 1 n [] true []
def exE:Exp:=.mk 13 0 [] false [exNu 3,exNu 5]
def exQ:Pg:=⟨true,[],true,[],false,[.mk 1 [120] false zTy exE 0 0 true []]⟩
theorem g1Q:PgB exQ:=by
 refine⟨e0A (p:=exQ) rfl (by decide +kernel) (by decide +kernel) (by decide) (by decide) (fun h=>rfl) (fun h=>by cases h),by decide,by decide,fun f hf=>(by cases hf),by decide +kernel⟩
theorem g1R:f2O exQ 17 (known 17)=0:=by decide +kernel
theorem g1S:evV (oF 17) fi0 [] exE false=(f1Y 15,false):=by
 have h:(evV (oF 17) fi0 [] exE false).1.els=[15]∧(evV (oF 17) fi0 [] exE false).1.arr=false∧(evV (oF 17) fi0 [] exE false).1.num=0∧(evV (oF 17) fi0 [] exE false).2=false:=by decide +kernel
 generalize evV (oF 17) fi0 [] exE false=x at h
 obtain⟨⟨a,b,c⟩,d⟩:=x
 obtain⟨rfl,rfl,rfl,rfl⟩:=h
 rfl
theorem g1T:(exM [] [] exE 0).1.2=0:=by decide +kernel
def evC (l:List Ins):Co:=(q (r [n 2 (.box (.s 0)),n 4 (.mov (j 0)),n 5 (.mov (i 0))]) (q (r [n 9 (.load true 4 (.s 2)),n 10 (.build [(.int .i64 0),(.str []),(.bool false),(.int .i64 0),(.int .i64 0),(.int .i64 0),(.int .i64 0),(.int .u64 0),(.str []),(.sl true []),(.int .i64 0),(.int .i64 0),(.sl true [])] [(0,(1,(i 1))),(1,(1,(.c (.t (.str [120]))))),(6,(4,(.s 9)))]),n 11 (.bsl 13 1 [(.int .i64 0),(.str []),(.bool false),(.int .i64 0),(.int .i64 0),(.int .i64 0),(.int .i64 0),(.int .u64 0),(.str []),(.sl true []),(.int .i64 0),(.int .i64 0),(.sl true [])] [(0,(.s 10))]),n 12 (.build [(.sl true []),(.sl true []),(.sl true [])] [(2,(1,(.s 11)))]),n 6 (.alloc [(.sl true []),(.sl true []),(.sl true [])]),u (.store 3 (.s 6) (.s 12))]) (q (q (r [n 13 (.load true 3 (.s 6)),n 14 (.mov (.s 1)),n 15 (.call 78 [(.s 13),(.s 14)]),n 7 (.mov (.s 15))]) (q (r [n 16 (.mov (.s 7)),n 17 (.bin .neq (.s 16) (i 0))]) (.cond (.s 17) (q (r [n 18 (.mov (.s 7)),n 4 (.mov (j 0)),n 5 (.mov (.s 18))]) .ret) .skip))) (q (rt ([n 19 (.ldk true 3 (.s 6) 6),n 20 (.mov (.s 1)),n 22 (.ldk true 4 (.s 2) 2)]++l++[u (.stok 3 (.s 8) (.s 24) [6,2])])) (q (q (r [n 25 (f 1 8),n 26 (Iz.l 25)]) (.cond (.s 26) (q (r [n 4 (.mov (j 0)),n 5 (.mov (i 6))]) .ret) .skip)) (q (r [n 27 (f 0 8),n 28 (Iz.l 27),n 29 (.ias 1 (.s 28) (i 0)),n 30 (Iz.l 29),n 4 (.mov (.s 30)),n 5 (.mov (i 0))]) .ret))))))
def i21:Ins:=n 21 (.calk 80 [(.s 19),(.s 20)] [6,2])
def i23:Ins:=⟨(some 23),none,.mkm⟩
def i24:Ins:=n 24 (.calk 84 [(.s 21),(.s 22),(.s 23)] [6,2])
def i8:Ins:=n 8 (.alloc [(.sl true []),(.bool false),(.int .i64 0)])
def evs:List Co:=[evC [i21,i23,i24,i8],evC [i21,i23,i8,i24],evC [i21,i8,i23,i24],evC [i23,i21,i24,i8],evC [i23,i21,i8,i24],evC [i23,i8,i21,i24],evC [i8,i21,i23,i24],evC [i8,i23,i21,i24]]
abbrev QE (gl:Nat→Option (List T)):Ex→S→Prop:=fun ex s1=>(ex=.normal∨ex=.ret)∧a1Q gl s1 [(4,none),(5,none)]=some (.tup [.t (.int .u64 15),.t (.int .i64 0)])
theorem g1U:known 17=true:=by decide
theorem g1V {K:PV→Prop}:XcP F gl 78 [.agg [.sl true [],.sl true [],.sl false [[.int .i64 1,.str [120],.bool false,.int .i64 0,.int .i64 0,.int .i64 0,.int .i64 13,.int .u64 0,.str [],.sl false [[.int .i64 1,.int .u64 3,.str [],.sl true []],[.int .i64 1,.int .u64 5,.str [],.sl true []]],.int .i64 0,.int .i64 0,.sl true []]]],.int .u64 17] K ⟨⟩↔K (.t (.int .i64 0)):=by
 have h:=ok78 (gl:=gl) g1Q 17 (K:=K)
 rw[g1R] at h
 exact h
theorem g1W (sg:Sg) (ow:Ow):RetE F gl 80 [.agg [.t (.sl true []),.t (.sl true []),.lit [[.int .i64 1,.str [120],.bool false,.int .i64 0,.int .i64 0,.int .i64 0,.int .i64 13,.int .u64 0,.str [],.sl false [[.int .i64 1,.int .u64 3,.str [],.sl true []],[.int .i64 1,.int .u64 5,.str [],.sl true []]],.int .i64 0,.int .i64 0,.sl true []]]],.t (.int .u64 17)] sg ow (.lp (sg.length+2) 0) (sg++[(false,[.t (.sl true []),.t (.sl true []),.lit [[.int .i64 1,.str [120],.bool false,.int .i64 0,.int .i64 0,.int .i64 0,.int .i64 13,.int .u64 0,.str [],.sl false [[.int .i64 1,.int .u64 3,.str [],.sl true []],[.int .i64 1,.int .u64 5,.str [],.sl true []]],.int .i64 0,.int .i64 0,.sl true []]]]),(true,[]),(false,[.t (.int .u64 17),.mp (sg.length+1),.t (.bool false)])]) ow:=by
 refine RetE.of F80 rfl ?_
 simp only[c7G]
 simp only[wA,seval,reduceCtorEq,reduceIte,g4L]
 refine Xl.step ?_
 simp only[c7F]
 simp only[wA,seval,reduceCtorEq,reduceIte]
theorem g1X {sg:Sg} {ow:Ow} {K:PV→Sg→Ow→Prop}:XcE F gl 80 [.agg [.t (.sl true []),.t (.sl true []),.lit [[.int .i64 1,.str [120],.bool false,.int .i64 0,.int .i64 0,.int .i64 0,.int .i64 13,.int .u64 0,.str [],.sl false [[.int .i64 1,.int .u64 3,.str [],.sl true []],[.int .i64 1,.int .u64 5,.str [],.sl true []]],.int .i64 0,.int .i64 0,.sl true []]]],.t (.int .u64 17)] sg ow K ⟨⟩↔K (.lp (sg.length+2) 0) (sg++[(false,[.t (.sl true []),.t (.sl true []),.lit [[.int .i64 1,.str [120],.bool false,.int .i64 0,.int .i64 0,.int .i64 0,.int .i64 13,.int .u64 0,.str [],.sl false [[.int .i64 1,.int .u64 3,.str [],.sl true []],[.int .i64 1,.int .u64 5,.str [],.sl true []]],.int .i64 0,.int .i64 0,.sl true []]]]),(true,[]),(false,[.t (.int .u64 17),.mp (sg.length+1),.t (.bool false)])]) ow:=(g1W sg ow).iff
theorem g1Y {sg:Sg} {r fm m:Nat} {ow:Ow} (h1:sg[r]?=some (cR 17 fm false)) (h2:sg[fm]?=some (true,[])) (h3:sg[m]?=some (true,[])):CallE F gl 84 [.lp r 0,.t (.agg [.int .i64 13,.int .u64 0,.str [],.sl false [[.int .i64 1,.int .u64 3,.str [],.sl true []],[.int .i64 1,.int .u64 5,.str [],.sl true []]]]),.mp m] sg ow fun x sg' ow'=>x=.t (.agg [.sl false [[.int .u64 15]],.bool false,.int .i64 0])∧Fr r sg sg':=by
 have h:=f7O (gl:=gl) g1U FiOk.nil (fa:=[]) g0G exE (d9Y exE (by decide +kernel)) (by decide +kernel) (by decide +kernel) (ns:=[]) sg r fm m false [] ow 0 h1 h2 h3 .nil g1T
 rw[g1S] at h
 exact CallE.mono h fun v sg' ow' ⟨a,b,c⟩=>⟨a,c⟩
set_option maxHeartbeats 1000000 in
theorem ev1:Xp F gl (evC [i21,i23,i24,i8]) ⟨exArgs.map .t,[],[]⟩ (QE gl) ⟨⟩:=by
 simp only[evC,i21,i23,i24,i8,exArgs,g4R,g4S,List.cons_append,List.nil_append]
 simp only[wA,seval,reduceCtorEq,reduceIte,g1V,g1X,b6Q,a0C,a0M,T.isAgg,List.replicate,g3S,g3T,g3O,d7J,d7I,d7H,d7G,a1I]
 refine CallE.mono (g1Y (fm:=3) ?_ ?_ ?_) ?_
 ·rfl
 ·rfl
 ·rfl
 rintro y sg' ow' ⟨rfl,hfr⟩
 have j0:=hfr.get (i:=0) rfl (by decide)
 have j1:=hfr.get (i:=1) rfl (by decide)
 have m0:=d6P j0
 have m1:=d6P j1
 have e0:∀ x y,((sg'++[x]).set sg'.length y)[0]?=(sg'++[x])[0]?:=fun x y=>by rw[g4E (by omega)]
 have e1:∀ x y,((sg'++[x]).set sg'.length y)[1]?=(sg'++[x])[1]?:=fun x y=>by rw[g4E (by omega)]
 simp only[wA,seval,reduceCtorEq,reduceIte,j0,j1,d7D m0,d7D m1,e0,e1,d7J,d7I,d7H,d7G,a1I,d6Z,cellsP,setRange,Go.Pi.one]
 refine⟨.inr rfl,?_⟩
 simp only[a1Q,g4O,g4P,a1P,wQ,Nat.reduceEqDiff,reduceIte]
 rfl
set_option maxHeartbeats 1000000 in
theorem ev2:Xp F gl (evC [i21,i23,i8,i24]) ⟨exArgs.map .t,[],[]⟩ (QE gl) ⟨⟩:=by
 simp only[evC,i21,i23,i24,i8,exArgs,g4R,g4S,List.cons_append,List.nil_append]
 simp only[wA,seval,reduceCtorEq,reduceIte,g1V,g1X,b6Q,a0C,a0M,T.isAgg,List.replicate,g3S,g3T,g3O,d7J,d7I,d7H,d7G,a1I]
 refine CallE.mono (g1Y (fm:=3) ?_ ?_ ?_) ?_
 ·rfl
 ·rfl
 ·rfl
 rintro y sg' ow' ⟨rfl,hfr⟩
 have j0:=hfr.get (i:=0) rfl (by decide)
 have j1:=hfr.get (i:=1) rfl (by decide)
 have m0:=d6P j0
 have m1:=d6P j1
 have j8:=hfr.get (i:=6) rfl (by decide)
 have e0:∀ y,(sg'.set 6 y)[0]?=sg'[0]?:=fun y=>by rw[g4E (by decide)]
 have e1:∀ y,(sg'.set 6 y)[1]?=sg'[1]?:=fun y=>by rw[g4E (by decide)]
 simp only[wA,seval,reduceCtorEq,reduceIte,j0,j1,j8,e0,e1,d6O j8,d7J,d7I,d7H,d7G,a1I,d6Z,cellsP,setRange,Go.Pi.one]
 refine⟨.inr rfl,?_⟩
 simp only[a1Q,g4O,g4P,a1P,wQ,Nat.reduceEqDiff,reduceIte]
 rfl
set_option maxHeartbeats 1000000 in
theorem ev3:Xp F gl (evC [i21,i8,i23,i24]) ⟨exArgs.map .t,[],[]⟩ (QE gl) ⟨⟩:=by
 simp only[evC,i21,i23,i24,i8,exArgs,g4R,g4S,List.cons_append,List.nil_append]
 simp only[wA,seval,reduceCtorEq,reduceIte,g1V,g1X,b6Q,a0C,a0M,T.isAgg,List.replicate,g3S,g3T,g3O,d7J,d7I,d7H,d7G,a1I]
 refine CallE.mono (g1Y (fm:=3) ?_ ?_ ?_) ?_
 ·rfl
 ·rfl
 ·rfl
 rintro y sg' ow' ⟨rfl,hfr⟩
 have j0:=hfr.get (i:=0) rfl (by decide)
 have j1:=hfr.get (i:=1) rfl (by decide)
 have m0:=d6P j0
 have m1:=d6P j1
 have j8:=hfr.get (i:=5) rfl (by decide)
 have e0:∀ y,(sg'.set 5 y)[0]?=sg'[0]?:=fun y=>by rw[g4E (by decide)]
 have e1:∀ y,(sg'.set 5 y)[1]?=sg'[1]?:=fun y=>by rw[g4E (by decide)]
 simp only[wA,seval,reduceCtorEq,reduceIte,j0,j1,j8,e0,e1,d6O j8,d7J,d7I,d7H,d7G,a1I,d6Z,cellsP,setRange,Go.Pi.one]
 refine⟨.inr rfl,?_⟩
 simp only[a1Q,g4O,g4P,a1P,wQ,Nat.reduceEqDiff,reduceIte]
 rfl
set_option maxHeartbeats 1000000 in
theorem ev4:Xp F gl (evC [i23,i21,i24,i8]) ⟨exArgs.map .t,[],[]⟩ (QE gl) ⟨⟩:=by
 simp only[evC,i21,i23,i24,i8,exArgs,g4R,g4S,List.cons_append,List.nil_append]
 simp only[wA,seval,reduceCtorEq,reduceIte,g1V,g1X,b6Q,a0C,a0M,T.isAgg,List.replicate,g3S,g3T,g3O,d7J,d7I,d7H,d7G,a1I]
 refine CallE.mono (g1Y (fm:=4) ?_ ?_ ?_) ?_
 ·rfl
 ·rfl
 ·rfl
 rintro y sg' ow' ⟨rfl,hfr⟩
 have j0:=hfr.get (i:=0) rfl (by decide)
 have j1:=hfr.get (i:=1) rfl (by decide)
 have m0:=d6P j0
 have m1:=d6P j1
 have e0:∀ x y,((sg'++[x]).set sg'.length y)[0]?=(sg'++[x])[0]?:=fun x y=>by rw[g4E (by omega)]
 have e1:∀ x y,((sg'++[x]).set sg'.length y)[1]?=(sg'++[x])[1]?:=fun x y=>by rw[g4E (by omega)]
 simp only[wA,seval,reduceCtorEq,reduceIte,j0,j1,d7D m0,d7D m1,e0,e1,d7J,d7I,d7H,d7G,a1I,d6Z,cellsP,setRange,Go.Pi.one]
 refine⟨.inr rfl,?_⟩
 simp only[a1Q,g4O,g4P,a1P,wQ,Nat.reduceEqDiff,reduceIte]
 rfl
set_option maxHeartbeats 1000000 in
theorem ev5:Xp F gl (evC [i23,i21,i8,i24]) ⟨exArgs.map .t,[],[]⟩ (QE gl) ⟨⟩:=by
 simp only[evC,i21,i23,i24,i8,exArgs,g4R,g4S,List.cons_append,List.nil_append]
 simp only[wA,seval,reduceCtorEq,reduceIte,g1V,g1X,b6Q,a0C,a0M,T.isAgg,List.replicate,g3S,g3T,g3O,d7J,d7I,d7H,d7G,a1I]
 refine CallE.mono (g1Y (fm:=4) ?_ ?_ ?_) ?_
 ·rfl
 ·rfl
 ·rfl
 rintro y sg' ow' ⟨rfl,hfr⟩
 have j0:=hfr.get (i:=0) rfl (by decide)
 have j1:=hfr.get (i:=1) rfl (by decide)
 have m0:=d6P j0
 have m1:=d6P j1
 have j8:=hfr.get (i:=6) rfl (by decide)
 have e0:∀ y,(sg'.set 6 y)[0]?=sg'[0]?:=fun y=>by rw[g4E (by decide)]
 have e1:∀ y,(sg'.set 6 y)[1]?=sg'[1]?:=fun y=>by rw[g4E (by decide)]
 simp only[wA,seval,reduceCtorEq,reduceIte,j0,j1,j8,e0,e1,d6O j8,d7J,d7I,d7H,d7G,a1I,d6Z,cellsP,setRange,Go.Pi.one]
 refine⟨.inr rfl,?_⟩
 simp only[a1Q,g4O,g4P,a1P,wQ,Nat.reduceEqDiff,reduceIte]
 rfl
set_option maxHeartbeats 1000000 in
theorem ev6:Xp F gl (evC [i23,i8,i21,i24]) ⟨exArgs.map .t,[],[]⟩ (QE gl) ⟨⟩:=by
 simp only[evC,i21,i23,i24,i8,exArgs,g4R,g4S,List.cons_append,List.nil_append]
 simp only[wA,seval,reduceCtorEq,reduceIte,g1V,g1X,b6Q,a0C,a0M,T.isAgg,List.replicate,g3S,g3T,g3O,d7J,d7I,d7H,d7G,a1I]
 refine CallE.mono (g1Y (fm:=5) ?_ ?_ ?_) ?_
 ·rfl
 ·rfl
 ·rfl
 rintro y sg' ow' ⟨rfl,hfr⟩
 have j0:=hfr.get (i:=0) rfl (by decide)
 have j1:=hfr.get (i:=1) rfl (by decide)
 have m0:=d6P j0
 have m1:=d6P j1
 have j8:=hfr.get (i:=3) rfl (by decide)
 have e0:∀ y,(sg'.set 3 y)[0]?=sg'[0]?:=fun y=>by rw[g4E (by decide)]
 have e1:∀ y,(sg'.set 3 y)[1]?=sg'[1]?:=fun y=>by rw[g4E (by decide)]
 simp only[wA,seval,reduceCtorEq,reduceIte,j0,j1,j8,e0,e1,d6O j8,d7J,d7I,d7H,d7G,a1I,d6Z,cellsP,setRange,Go.Pi.one]
 refine⟨.inr rfl,?_⟩
 simp only[a1Q,g4O,g4P,a1P,wQ,Nat.reduceEqDiff,reduceIte]
 rfl
set_option maxHeartbeats 1000000 in
theorem ev7:Xp F gl (evC [i8,i21,i23,i24]) ⟨exArgs.map .t,[],[]⟩ (QE gl) ⟨⟩:=by
 simp only[evC,i21,i23,i24,i8,exArgs,g4R,g4S,List.cons_append,List.nil_append]
 simp only[wA,seval,reduceCtorEq,reduceIte,g1V,g1X,b6Q,a0C,a0M,T.isAgg,List.replicate,g3S,g3T,g3O,d7J,d7I,d7H,d7G,a1I]
 refine CallE.mono (g1Y (fm:=4) ?_ ?_ ?_) ?_
 ·rfl
 ·rfl
 ·rfl
 rintro y sg' ow' ⟨rfl,hfr⟩
 have j0:=hfr.get (i:=0) rfl (by decide)
 have j1:=hfr.get (i:=1) rfl (by decide)
 have m0:=d6P j0
 have m1:=d6P j1
 have j8:=hfr.get (i:=2) rfl (by decide)
 have e0:∀ y,(sg'.set 2 y)[0]?=sg'[0]?:=fun y=>by rw[g4E (by decide)]
 have e1:∀ y,(sg'.set 2 y)[1]?=sg'[1]?:=fun y=>by rw[g4E (by decide)]
 simp only[wA,seval,reduceCtorEq,reduceIte,j0,j1,j8,e0,e1,d6O j8,d7J,d7I,d7H,d7G,a1I,d6Z,cellsP,setRange,Go.Pi.one]
 refine⟨.inr rfl,?_⟩
 simp only[a1Q,g4O,g4P,a1P,wQ,Nat.reduceEqDiff,reduceIte]
 rfl
set_option maxHeartbeats 1000000 in
theorem ev8:Xp F gl (evC [i8,i23,i21,i24]) ⟨exArgs.map .t,[],[]⟩ (QE gl) ⟨⟩:=by
 simp only[evC,i21,i23,i24,i8,exArgs,g4R,g4S,List.cons_append,List.nil_append]
 simp only[wA,seval,reduceCtorEq,reduceIte,g1V,g1X,b6Q,a0C,a0M,T.isAgg,List.replicate,g3S,g3T,g3O,d7J,d7I,d7H,d7G,a1I]
 refine CallE.mono (g1Y (fm:=5) ?_ ?_ ?_) ?_
 ·rfl
 ·rfl
 ·rfl
 rintro y sg' ow' ⟨rfl,hfr⟩
 have j0:=hfr.get (i:=0) rfl (by decide)
 have j1:=hfr.get (i:=1) rfl (by decide)
 have m0:=d6P j0
 have m1:=d6P j1
 have j8:=hfr.get (i:=2) rfl (by decide)
 have e0:∀ y,(sg'.set 2 y)[0]?=sg'[0]?:=fun y=>by rw[g4E (by decide)]
 have e1:∀ y,(sg'.set 2 y)[1]?=sg'[1]?:=fun y=>by rw[g4E (by decide)]
 simp only[wA,seval,reduceCtorEq,reduceIte,j0,j1,j8,e0,e1,d6O j8,d7J,d7I,d7H,d7G,a1I,d6Z,cellsP,setRange,Go.Pi.one]
 refine⟨.inr rfl,?_⟩
 simp only[a1Q,g4O,g4P,a1P,wQ,Nat.reduceEqDiff,reduceIte]
 rfl
theorem g1Z:∀ x,x∈evs→Wp F gl x ⟨exArgs.map .t,[],[]⟩ (QE gl):=by
 intro x hx
 unfold evs at hx
 simp only[g4U,g5D,or_false] at hx
 rcases hx with rfl|rfl|rfl|rfl|rfl|rfl|rfl|rfl
 ·exact ev1
 ·exact ev2
 ·exact ev3
 ·exact ev4
 ·exact ev5
 ·exact ev6
 ·exact ev7
 ·exact ev8
end Go.Proofs.YtdjcnfacjfnakaaGreat

/- The law of SemanticsSwap, argument by argument. -/
namespace Go.Proofs.YtdjcnfacjfnakaaGreat
open Go.Pi Go.Lx Go.Ky Go.Lib
variable {gl:Nat→Option (List T)}
theorem g2A {env:Nat→List CT} {N:Nat} {y:T} (h:Wt env N (.sl [.int .u64]) y):∃ (nl:Bool) (l:List Int),y=.sl nl (uL l)∧∀ x,x∈l→0≤x:=by
 obtain⟨nl,es,rfl,h1,h2,h3⟩:=d2H h
 obtain⟨l,h4,h5⟩:=d2Q (enc:=fun n:Int=>[T.int .u64 n]) (p:=fun n=>0≤n) (es:=es) fun e he=>by
  obtain⟨y,r,rfl,w,hw⟩:=d2J (h3 e he)
  obtain rfl:=d2I hw
  obtain⟨n,rfl,n1,n2⟩:=d2M w
  exact⟨n,rfl,n1⟩
 exact⟨nl,l,by rw[h4],h5⟩
theorem g2B:∀ xs,b5K (d3S 44 49) 1048576 [(true,[.sl (d3Q 44 49),.sl d3R,.slr 49,.int .u8,.int .u64,.sl [.int .u64],.sl [.int .u64]]),(true,d3O 44),(true,d3O 44)] xs→b4X xs≤1048576→∃ n sg ow,a1R F gl n 6 (xs.map .t) [] []=some (.t (.bool true),sg,ow):=by
 intro xs h hs
 obtain⟨x,r,rfl,hx,h⟩:=d2S h
 obtain⟨y,r,rfl,hy,h⟩:=d2S h
 obtain⟨z,r,rfl,hz,h⟩:=d2S h
 obtain rfl:=d2T h
 obtain⟨xs,rfl,hw⟩:=d2R hx
 obtain⟨ys,rfl,hwy⟩:=d2R hy
 obtain⟨zs,rfl,hwz⟩:=d2R hz
 obtain⟨x1,r,rfl,h1,hw⟩:=d2J hw
 obtain⟨x2,r,rfl,h2,hw⟩:=d2J hw
 obtain⟨x3,r,rfl,h3,hw⟩:=d2J hw
 obtain⟨x4,r,rfl,h4,hw⟩:=d2J hw
 obtain⟨x5,r,rfl,h5,hw⟩:=d2J hw
 obtain⟨x6,r,rfl,h6,hw⟩:=d2J hw
 obtain⟨x7,r,rfl,h7,hw⟩:=d2J hw
 obtain rfl:=d2I hw
 obtain⟨y1,r,rfl,k1,hwy⟩:=d2J hwy
 obtain⟨y2,r,rfl,k2,hwy⟩:=d2J hwy
 obtain⟨y3,r,rfl,k3,hwy⟩:=d2J hwy
 obtain⟨y4,r,rfl,k4,hwy⟩:=d2J hwy
 obtain rfl:=d2I hwy
 obtain⟨z1,r,rfl,l1,hwz⟩:=d2J hwz
 obtain⟨z2,r,rfl,l2,hwz⟩:=d2J hwz
 obtain⟨z3,r,rfl,l3,hwz⟩:=d2J hwz
 obtain⟨z4,r,rfl,l4,hwz⟩:=d2J hwz
 obtain rfl:=d2I hwz
 obtain⟨p,rfl,rfl,rfl,hp⟩:=d3Z (by decide) d3T (d3U (by decide)) h1 h2 h3
 obtain⟨k,rfl,k0,k255⟩:=d2N h4
 obtain⟨q,rfl,q0,q1⟩:=d2M h5
 obtain⟨pl,pu,rfl,hpu⟩:=g2A h6
 obtain⟨sl,se,rfl,hse⟩:=g2A h7
 obtain⟨a,rfl,rfl,rfl,rfl,ha⟩:=d3X (by decide) d3T k1 k2 k3 k4
 obtain⟨b,rfl,rfl,rfl,rfl,hb⟩:=d3X (by decide) d3T l1 l2 l3 l4
 have hB:B20=1100000:=rfl
 have za:=d4C a
 have zb:=d4C b
 have t1:=e1A p
 have u1:pu.length≤b4W (uL pu):=e0Y (enc:=fun n:Int=>[T.int .u64 n]) (fun x=>by simp only[b4X,tBk];omega) pu
 have u2:se.length≤b4W (uL se):=e0Y (enc:=fun n:Int=>[T.int .u64 n]) (fun x=>by simp only[b4X,tBk];omega) se
 unfold d4A at za zb
 have hP:b4X (tPg p)=b4W (p.funcs.map tFu)+1+(b4W (p.decls.map tDe)+1)+(b4W (d3G p.body)+1):=by rw[t1];rfl
 have hS:d4B p.body=b4W (d3G p.body):=rfl
 have hf:b4W (p.funcs.map tFu)=b4W (p.funcs.map fun f=>tFu f):=rfl
 have hd:b4W (p.decls.map tDe)=b4W (p.decls.map fun d=>tDe d):=rfl
 simp only[b4X,tBk] at hs
 have hz:=e1B (p:=p) (M:=1048576) (by rw[hP];omega)
 have hpb:PgB p:=⟨hp,by omega,by omega,fun f hf=>by have:=hz.2.2.1 f hf;omega,by omega⟩
 have hc:CasOk ⟨p,k,q,pl,pu,sl,se⟩:=⟨hpb,k0,k255,by show pu.length≤_;omega,by show se.length≤_;omega,hpu,hse⟩
 have hl:=law6 (gl:=gl) hc ha hb (by show d4B p.body+_+_+_≤_;omega)
 simp only[d3D] at hl
 exact CallP.law hl
end Go.Proofs.YtdjcnfacjfnakaaGreat
