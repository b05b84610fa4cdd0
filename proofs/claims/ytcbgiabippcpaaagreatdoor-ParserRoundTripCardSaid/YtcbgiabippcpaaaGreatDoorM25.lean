/- The parser: a new one. -/
import Derived.Test.YtcbgiabippcpaaaGreatDoorM21
import Derived.Test.YtcbgiabippcpaaaGreatDoorKx43
set_option maxRecDepth 10000
set_option linter.unusedVariables false
set_option linter.unusedSimpArgs false
namespace Go.Proofs.YtcbgiabippcpaaaGreatDoor
open Go.Pi Go.Lx Go.Ky
variable {gl:Nat→Option (List T)}
theorem e5X:e3U []=.tup [.t (.sl false ([⟨0,[],0,0⟩].map e3G)),.t (.int .i64 0),.t (.int .i64 0)]:=by
 refine e3W (by decide) ?_
 rw[d1D rfl]
 rfl
theorem e5Y:∀ (n:Nat) (s:List UInt8) (pos p e:Nat),s.length=n→d0X pos s=.err p e→e≠0:=by
 intro n
 induction n using Nat.strongRecOn with
 |_ n ih =>
  intro s pos p e hs h
  rcases d1G s with h1|⟨h1,⟨e',hn⟩|⟨k,m,v,hn⟩⟩
  ·rw[d1D h1] at h;cases h
  ·rw[d1E h1 hn] at h
   injection h with h2 h3
   have:=e3R hn
   omega
  ·rw[d1F h1 hn] at h
   have hp:=d1C hn
   have hl:(s.drop (gap s+m)).length < n:=by simp only[g7M] at hp ⊢;omega
   cases hq:d0X (pos+gap s+m) (s.drop (gap s+m)) with
   |toks q=>rw[hq] at h;cases h
   |err p' e'' =>
    rw[hq] at h
    injection h with h2 h3
    rw[←h3]
    exact ih _ hl _ _ _ _ rfl hq
set_option maxHeartbeats 1000000 in
theorem ok18 (hg:GlOk gl) (s:List UInt8) {sg:Sg} {ow:Ow}:CallE F gl 18 [.t (.str s)] sg ow fun v sg' ow'=>v=.lp sg.length 0∧sg'=sg++[(false,psC (st0 (d8X s).1) (d8X s).2.1 (d8X s).2.2)]∧ow'=ow:=by
 refine XcE.of F18 rfl ?_
 simp only[c4I]
 by_cases hb:16384 < s.length
 ·have hT:d8X s=([⟨0,[],0,0⟩],3,0):=by rw[d8X,if_pos hb]
  have sl:a0T (.t (.str s)) none (some (.t (.int .i64 0)))=some (.t (.str [])):=by
   have:=e3F (s:=s) (n:=0) (g9A _)
   rw[List.take_zero] at this
   exact this
  rw[hT]
  simp only[wA,seval,reduceCtorEq,reduceIte,e3Z hg,e3V hb,e5X,sl]
  rfl
 ·cases hl:d0X 0 s with
  |toks l =>
   have hT:d8X s=(l,0,0):=by rw[d8X,if_neg hb];simp only[hl]
   rw[hT]
   simp only[wA,seval,reduceCtorEq,reduceIte,e3Z hg,e3W hb hl]
   rfl
  |err p e =>
   obtain⟨k,l,h1,h2,h3⟩:=d8W _ _ _ _ _ rfl hl
   rw[g8Z] at h1
   subst h1
   have hT:d8X s=(l,(e:Int),(p:Int)):=by rw[d8X,if_neg hb];simp only[hl,h3]
   have he:=e5Y _ _ _ _ _ rfl hl
   have he':((e:Int)=0)=False:=g9O (by omega)
   have hb2:¬16384 < (s.take p).length:=by rw[g7Q];omega
   rw[hT]
   simp only[wA,seval,reduceCtorEq,reduceIte,e3Z hg,e3X hb hl,e3W hb2 h3,e3F h2,he']
   rfl
end Go.Proofs.YtcbgiabippcpaaaGreatDoor

/- The parser: functions, the loop over parameters. -/
namespace Go.Proofs.YtcbgiabippcpaaaGreatDoor
open Go.Pi Go.Lx Go.Ky
variable {gl:Nat→Option (List T)}
def Lp (k0:Nat) (v:PV) (ow:Ow) (l:List Pa):Prop:=(v=.t (.sl true [])∧l=[])∨∃ k,v=.own k 4 (l.map tPa)∧l≠[]∧ow[k]?=some l.length∧k0≤k
theorem Lp.keep {k0:Nat} {v:PV} {ow ow':Ow} {l:List Pa} (h:Lp k0 v ow l) (ho:OwK ow ow'):Lp k0 v ow' l:=by
 rcases h with h|⟨k,rfl,hl,hk,hl0⟩
 ·exact .inl h
 ·exact .inr ⟨k,rfl,hl,by rw[ho.2 k (g7B.1 hk).1];exact hk,hl0⟩
theorem Lp.one {k0:Nat} {v:PV} {ow:Ow} {l:List Pa} (h:Lp k0 v ow l):Go.Pi.one v=true:=by
 rcases h with⟨rfl,-⟩|⟨k,rfl,-,-,-⟩ <;> rfl
theorem Lp.cl {k0:Nat} {v:PV} {ow:Ow} {l:List Pa} (h:Lp k0 v ow l):cellsP v=[v]:=by
 rcases h with⟨rfl,-⟩|⟨k,rfl,-,-,-⟩ <;> rfl
theorem e5Z {n:Nat} (h:n≤1000000):a0N n 40=true:=by
 unfold a0N
 exact g9M ⟨by omega,by omega⟩
theorem e6A {k0:Nat} {v:PV} {ow:Ow} {l:List Pa} (h:Lp k0 v ow l) (hk:k0≤ow.length) (hl:l.length < 1000000) (dr:Bool) (e:Pa):∃ x,(∀ sg,a0V dr sg ow 4 40 v (.lit [tPa e])=some x)∧Lp k0 x.1 x.2 (l++[e])∧ow.length≤x.2.length∧∀ j,j < k0→x.2[j]?=ow[j]?:=by
 have e2:∀ sg,a0L sg 4 (.lit [tPa e])=some [tPa e]:=fun sg=>rfl
 have e3:([tPa e].all (fun x=>x.length == 4))=true:=rfl
 rcases h with⟨rfl,rfl⟩|⟨k,rfl,hne,hkk,hl0⟩
 ·refine⟨(.own ow.length 4 [tPa e],ow++[1]),?_,?_,?_,?_⟩
  ·intro sg
   have r:a0N ([tPa e].length) 40=true:=e5Z (by simp)
   simp only[a0V,e2,e3,r,g9B,g9J,if_true]
   rfl
  ·refine .inr ⟨ow.length,rfl,by simp,?_,hk⟩
   exact g6X
  ·simp only[g7K];omega
  ·intro j hj
   exact g6V (by omega)
 ·refine⟨(.own k 4 (l.map tPa++[tPa e]),ow.set k ((l.map tPa).length+1)),?_,?_,?_,?_⟩
  ·intro sg
   have r:a0N ((l.map tPa).length+[tPa e].length) 40=true:=e5Z (by rw[g7N];simp only[g7L,g7O];omega)
   have hk2:ow[k]?=some (l.map tPa).length:=by rw[g7N];exact hkk
   simp only[a0V,e2,e3,hk2,r,g9B,g9J,if_true]
   rfl
  ·refine .inr ⟨k,by rw[g7S];rfl,by simp,?_,hl0⟩
   show(ow.set k ((l.map tPa).length+1))[k]?=_
   rw[g7G (g7B.1 hkk).1,g7N,g7K];rfl
  ·simp only[g7P];omega
  ·intro j hj
   exact g7F (by omega)
abbrev fC (nm:Nm) (v:PV):List PV:=[.t (.str nm),v,.t (.int .i64 0),.t (.int .i64 0),.t (.int .i64 0),.t (.sl true []),.t (.int .i64 0),.t (.int .u64 0),.t (.str []),.t (.sl true [])]
abbrev z4p:List T:=[.str [],.int .i64 0,.int .i64 0,.int .i64 0]
theorem e6B (p:Pa):b6J 4 1 z4p [(0,4,.t (.agg (tPa p)))]=some (.lit [tPa p]):=rfl
set_option maxHeartbeats 2000000 in
theorem e6C {c i3:Nat} {w2:PV} {a b:Int} {sg0:Sg} {ow0:Ow} {nm:Nm} (hc0:c < sg0.length) (h3:sg0.length≤i3) {i2:Nat} {y2:Bool×List PV} (h23:i3≠i2) (h2c:i2≠c) (X:Ex→S→Prop) :
  ∀ (m:Nat) (l:List Pa) (v:PV) (st:Ps) (sg:Sg) (ow:Ow) (fr:List PV),Lp ow0.length v ow l→OwK ow0 ow→Pre c a b st sg→l.length+st.ts.length≤200000→Q c a b sg0 st sg→sg[i3]?=some (false,fC nm v)→sg[i2]?=some y2→st.ts.length≤m →
  b8Y fr [(0,.lp c 0),(2,w2),(3,.lp i3 0)] →
  (∀ fr' sg' ow' v',Lp ow0.length v' ow' (d6M m l st).1→Q c a b sg0 (d6M m l st).2 sg'→sg'[i3]?=some (false,fC nm v')→sg'[i2]?=some y2→WfT (d6M m l st).2.ts→Suf st (d6M m l st).2→b8Y fr' [(0,.lp c 0),(2,w2),(3,.lp i3 0)]→OwK ow0 ow'→X (.exit 0) ⟨fr',sg',ow'⟩) →
  Xl F gl c4K ⟨fr,sg,ow⟩ X ⟨⟩:=by
 intro m
 induction m with
 |zero=>intro l v st sg ow fr _ _ hp _ _ _ _ hf;have:=hp.wf.len;omega
 |succ m ih =>
  intro l v st sg ow fr hv ho hp hll hq z3 z2 hf hfr k
  simp only[b9A,b8Z] at hfr
  obtain⟨f0,f2,f3,-⟩:=hfr
  refine Xl.step ?_
  simp only[c4K]
  simp only[wA,seval,reduceCtorEq,reduceIte,f0,f3]
  refine CallE.mono (e4E hp.cell hp.ne [44]) fun w sg1 ow1 h=>?_
  obtain⟨e1,q1,o1⟩:=h
  subst e1 o1
  unfold d5Q at q1
  have z3b:=q1.fr.get z3 (by omega)
  have z2b:=q1.fr.get z2 h2c
  cases ha:atM [44] st with
  |false =>
   rw[ha] at q1
   simp only[g5V,if_false] at q1
   have hB:d6M (m+1) l st=(l,st):=by rw[d6M,if_neg (by rw[ha];simp)]
   rw[hB] at k
   simp only[wA,seval,reduceCtorEq,reduceIte,f0,f3]
   refine k _ _ _ v hv (hq.trans q1) z3b z2b hp.wf (Suf.refl hp.wf) ?_ ho
   simp only[wQ,Nat.reduceEqDiff,reduceIte,f0,f2,f3]
  |true =>
   rw[ha] at q1
   simp only[reduceIte] at q1
   have l1:=d6X hp.wf (d6W ha)
   have s1:=d6V hp.wf
   have hp1:=hp.next q1 s1
   have hB:d6M (m+1) l st=d6M m (l++[(d6G (d5P st)).1]) (d6G (d5P st)).2:=by rw[d6M,if_pos ha]
   rw[hB] at k
   have hon:=hv.one
   simp only[wA,seval,reduceCtorEq,reduceIte,f0,f3,a1I,z3b,hon]
   refine CallE.mono (ok56 hp1) fun v2 sg2 ow2 h2=>?_
   obtain⟨e2,q2,o2⟩:=h2
   subst e2 o2
   have s2:=d7F hp1.wf
   have l2:=s2.le
   have z3c:=q2.fr.get z3b (by omega)
   have z2c:=q2.fr.get z2b h2c
   have gs:=fun y=>d4Z (y:=y) z3c
   obtain⟨x,hx,hx1,hx2,hx3⟩:=e6A hv ho.1 (by have:=hp.wf.len;omega) true (d6G (d5P st)).1
   have hon2:=hx1.one
   have hcl2:=hx1.cl
   have hb:=e6B (d6G (d5P st)).1
   simp only[wA,seval,reduceCtorEq,reduceIte,f0,f3,d5L,d5K,d5J,d5I,z3b,z3c,hb,hx,hon2,hon,hcl2]
   have q3:=((hq.trans q1).trans q2).hi (i:=i3) h3 (by omega) (false,fC nm x.1)
   refine ih (l++[(d6G (d5P st)).1]) x.1 (d6G (d5P st)).2 _ x.2 _ hx1 ?_ (hp1.next q3 s2) (by simp only[g7K,g7L,g7O];omega) q3 (gs _) ((e4R h23 _).trans z2c) (by omega) ?_ ?_
   ·exact⟨g8T ho.1 hx2,fun j hj=>by rw[hx3 j hj,ho.2 j hj]⟩
   ·simp only[wQ,Nat.reduceEqDiff,reduceIte,f0,f2,f3]
   ·intro fr' sg' ow' v' a1 a2 a3 a4 a5 a6 a7 a8
    exact k fr' sg' ow' v' a1 a2 a3 a4 a5 ((s1.trans s2).trans a6) a7 a8
end Go.Proofs.YtcbgiabippcpaaaGreatDoor

/- The parser: functions. -/
namespace Go.Proofs.YtcbgiabippcpaaaGreatDoor
open Go.Pi Go.Lx Go.Ky
variable {gl:Nat→Option (List T)}
theorem Lw.one {k0:Nat} {v:PV} {ow:Ow} {l:List St} (h:Lw k0 v ow l):Go.Pi.one v=true:=by
 rcases h with⟨rfl,-⟩|⟨k,rfl,-,-,-⟩ <;> rfl
theorem Lw.cl {k0:Nat} {v:PV} {ow:Ow} {l:List St} (h:Lw k0 v ow l):cellsP v=[v]:=by
 rcases h with⟨rfl,-⟩|⟨k,rfl,-,-,-⟩ <;> rfl
theorem Lw.c1 {k0:Nat} {v:PV} {ow:Ow} {l:List St} (h:Lw k0 v ow l):a0M v=some (.sl l.isEmpty (d2P l)):=by
 rcases h with⟨rfl,rfl⟩|⟨k,rfl,hne,-,-⟩
 ·rfl
 ·rw[g7J.2 hne];rfl
theorem Lp.c1 {k0:Nat} {v:PV} {ow:Ow} {l:List Pa} (h:Lp k0 v ow l):a0M v=some (.sl l.isEmpty (l.map tPa)):=by
 rcases h with⟨rfl,rfl⟩|⟨k,rfl,hne,-,-⟩
 ·rfl
 ·rw[g7J.2 hne];rfl
theorem Xk.c1 {x:PV} {e:Exp} (h:Xk x e) (hn:e.nl=false):a0M x=some (.sl e.nl (d2K e.args)):=by
 rw[hn];rcases h with rfl|⟨_,rfl⟩ <;> rfl
theorem Xk.al3 {x:PV} {e:Exp} (h:Xk x e):(∀ r,allT (x::r)=none)∧Go.Pi.one x=true∧close1 x=some (.sl false (d2K e.args)):=by
 rcases h with rfl|⟨k,rfl⟩ <;> exact⟨fun _=>rfl,rfl,rfl⟩
def Fv (v:PV) (f:Fu):Prop:=∃ p q r,cellsP v=[.t (.str f.name),p,.t (.int .i64 f.res.kind),.t (.int .i64 f.res.bits),.t (.int .i64 f.res.len),q,.t (.int .i64 f.ret.op),.t (.int .u64 f.ret.val),.t (.str f.ret.name),r]∧a0M p=some (.sl f.pnl (f.params.map tPa))∧a0M q=some (.sl f.bnl (d2P f.body))∧a0M r=some (.sl f.ret.nl (d2K f.ret.args))
structure Tf (c:Nat) (a b:Int) (sg0:Sg) (cs:List PV) (st:Ps) (sg:Sg):Prop where
 q:Q c a b sg0 st sg
 z2:sg[sg0.length]?=some (false,fC [] (.t (.sl true [])))
 z3:sg[sg0.length+1]?=some (false,cs)
theorem Tf.set {c:Nat} {a b:Int} {sg0 sg:Sg} {cs:List PV} {st:Ps} (t:Tf c a b sg0 cs st sg) (hc:c < sg0.length) (cs':List PV):Tf c a b sg0 cs' st (sg.set (sg0.length+1) (false,cs')) :=
 ⟨t.q.hi (by omega) (by omega) _,by rw[e4R (by omega)];exact t.z2,d4Z t.z3⟩
theorem Tf.call {c:Nat} {a b:Int} {sg0 sg sg':Sg} {cs:List PV} {st st':Ps} (hc:c < sg0.length) (t:Tf c a b sg0 cs st sg) (q:Q c a b sg st' sg'):Tf c a b sg0 cs st' sg' :=
 ⟨t.q.trans q,q.fr.get t.z2 (by omega),q.fr.get t.z3 (by omega)⟩
set_option maxHeartbeats 8000000 in
theorem ok20 (hg:GlOk gl) {n:Nat} {c:Nat} {a b:Int} {st:Ps} {sg:Sg} {ow:Ow} (hp:PreS c a b st sg) (hf:12 * st.ts.length+13≤n):CallE F gl 20 [.lp c 0] sg ow fun v sg' ow'=>Fv v (fnM n st).1∧Q c a b sg (fnM n st).2 sg'∧OwK ow ow':=by
 refine XcE.of F20 rfl ?_
 simp only[c4L]
 have hcl:=hp.pre.lt
 have hln:=hp.pre.ln
 have l16:=hp.l16
 simp only[wA,seval,reduceCtorEq,reduceIte]
 refine CallE.mono (e4F (hp.pre.app _).cell hp.pre.ne (by omega) [102,110]) fun v0 sg1 ow1 h0=>?_
 obtain⟨e0,q0,o0⟩:=h0
 subst e0 o0
 have t0:Tf c a b sg (fC [] (.t (.sl true []))) (d5R [102,110] st) sg1:=⟨q0.from,q0.fr.get e5I (by omega),q0.fr.get e5J (by omega)⟩
 have s0:=d6Y hp.pre.wf [102,110]
 have l0:=s0.le
 have w0:=hp.wv.of s0
 have p0:=hp.pre.next q0 s0
 simp only[wA,seval,reduceCtorEq,reduceIte]
 refine CallE.mono (e4H t0.q.cell p0.ne (by omega)) fun v1 sg2 ow2 h1=>?_
 obtain⟨e1,q1,o1⟩:=h1
 subst e1 o1
 have t1:=Tf.call hcl t0 q1
 have s1:=d6Z p0.wf
 have p1:=p0.next q1 s1
 have w1:=w0.of s1
 have l1:=s1.le
 simp only[wA,seval,reduceCtorEq,reduceIte,t1.z3]
 refine CallE.mono (e4F (t1.set hcl _).q.cell p1.ne (by omega) [40]) fun v2 sg3 ow3 h2=>?_
 obtain⟨e2,q2,o2⟩:=h2
 subst e2 o2
 have t2:=Tf.call hcl (t1.set hcl _) q2
 have s2:=d6Y p1.wf [40]
 have p2:=p1.next q2 s2
 have w2:=w1.of s2
 have l2:=s2.le
 cases ha:atM [41] (d5R [40] (d5S (d5R [102,110] st)).2) with
 |true =>
  have f0:=@c2X
  have f2:=@c2X
  have f3:=@c2X
  have t4:=t2
  have p4:=p2
  have w4:=w2
  have l4:=l2
  have ho0:=OwK.refl (ow:=ow3)
  have c0:a0M (.t (.sl true []))=some (.sl true (([]:List Pa).map tPa)):=rfl
  simp only[wA,seval,reduceCtorEq,reduceIte,e4B t2.q.cell p2.ne,ha]
  have hB:fnM n st=(⟨(d5S (d5R [102,110] st)).1,([]:List Pa).isEmpty,([]:List Pa),(tyM (d5R [58] (d5R [41] (d5R [40] (d5S (d5R [102,110] st)).2)))).1,(d6L n true [] (d5R [123] (tyM (d5R [58] (d5R [41] (d5R [40] (d5S (d5R [102,110] st)).2)))).2)).1.isEmpty,(d6L n true [] (d5R [123] (tyM (d5R [58] (d5R [41] (d5R [40] (d5S (d5R [102,110] st)).2)))).2)).1,(d5W n (d5R [114,101,116,117,114,110] (d6L n true [] (d5R [123] (tyM (d5R [58] (d5R [41] (d5R [40] (d5S (d5R [102,110] st)).2)))).2)).2)).1⟩,d5R [125] (d5R [59] (d5U (d6L n true [] (d5R [123] (tyM (d5R [58] (d5R [41] (d5R [40] (d5S (d5R [102,110] st)).2)))).2)).2.hd.pos (decide ((dEx (d5W n (d5R [114,101,116,117,114,110] (d6L n true [] (d5R [123] (tyM (d5R [58] (d5R [41] (d5R [40] (d5S (d5R [102,110] st)).2)))).2)).2)).1:Int) > 40)) (d5W n (d5R [114,101,116,117,114,110] (d6L n true [] (d5R [123] (tyM (d5R [58] (d5R [41] (d5R [40] (d5S (d5R [102,110] st)).2)))).2)).2)).2))):=by unfold fnM d6N;simp only[ha];rfl
  refine CallE.mono (e4F t4.q.cell p4.ne (by omega) [41]) fun v5 sg5 ow5 h5=>?_
  obtain⟨e5,q5,o5⟩:=h5
  subst e5 o5
  have t5:=Tf.call hcl t4 q5
  have s5:=d6Y p4.wf [41]
  have p5:=p4.next q5 s5
  have w5:=w4.of s5
  have l5:=s5.le
  simp only[wA,seval,reduceCtorEq,reduceIte,f0,f2,f3]
  refine CallE.mono (e4F t5.q.cell p5.ne (by omega) [58]) fun v6 sg6 ow6 h6=>?_
  obtain⟨e6,q6,o6⟩:=h6
  subst e6 o6
  have t6:=Tf.call hcl t5 q6
  have s6:=d6Y p5.wf [58]
  have p6:=p5.next q6 s6
  have w6:=w5.of s6
  have l6:=s6.le
  simp only[wA,seval,reduceCtorEq,reduceIte,f0,f2,f3]
  refine CallE.mono (e5O p6) fun v7 sg7 ow7 h7=>?_
  obtain⟨e7,q7,o7⟩:=h7
  subst e7 o7
  have t7:=Tf.call hcl t6 q7
  have s7:=d7E p6.wf
  have p7:=p6.next q7 s7
  have w7:=w6.of s7
  have l7:=s7.le
  simp only[wA,seval,reduceCtorEq,reduceIte,f0,f2,f3,t7.z3]
  refine CallE.mono (e4F (t7.set hcl _).q.cell p7.ne (by omega) [123]) fun v8 sg8 ow8 h8=>?_
  obtain⟨e8,q8,o8⟩:=h8
  subst e8 o8
  have t8:=Tf.call hcl (t7.set hcl _) q8
  have s8:=d6Y p7.wf [123]
  have p8:=p7.next q8 s8
  have w8:=w7.of s8
  have l8:=s8.le
  simp only[wA,seval,reduceCtorEq,reduceIte,f0,f2,f3]
  refine CallE.mono ((e5W hg n).bd true c a b _ sg8 _ ⟨p8,w8,by omega⟩ (by omega)) fun v9 sg9 ow9 h9=>?_
  obtain⟨hv9,q9,o9⟩:=h9
  have t9:=Tf.call hcl t8 q9
  have s9:=((d9W n).bd true [] _ p8.wf).suf
  have p9:=p8.next q9 s9
  have w9:=w8.of s9
  have l9:=s9.le
  obtain⟨rr,hrr⟩:=e4G p9.ne
  have hon9:=Lw.one hv9
  have hcl9:=Lw.cl hv9
  have hc9:=(t9.set hcl [.t (.str (d5S (d5R [102,110] st)).1),.t (.sl true []),.t (.int .i64 (tyM (d5R [58] (d5R [41] (d5R [40] (d5S (d5R [102,110] st)).2)))).1.kind),.t (.int .i64 (tyM (d5R [58] (d5R [41] (d5R [40] (d5S (d5R [102,110] st)).2)))).1.bits),.t (.int .i64 (tyM (d5R [58] (d5R [41] (d5R [40] (d5S (d5R [102,110] st)).2)))).1.len),v9,.t (.int .i64 0),.t (.int .u64 0),.t (.str []),.t (.sl true [])]).q.cell
  simp only[psC,hrr,g7T] at hc9
  simp only[wA,seval,reduceCtorEq,reduceIte,f0,f2,f3,t9.z3,hon9,hcl9,hc9,e3G]
  refine CallE.mono (e4F (t9.set hcl _).q.cell p9.ne (by omega) [114,101,116,117,114,110]) fun v10 sg10 ow10 h10=>?_
  obtain⟨e10,q10,o10⟩:=h10
  subst e10 o10
  have t10:=Tf.call hcl (t9.set hcl _) q10
  have s10:=d6Y p9.wf [114,101,116,117,114,110]
  have p10:=p9.next q10 s10
  have w10:=w9.of s10
  have l10:=s10.le
  simp only[wA,seval,reduceCtorEq,reduceIte,f0,f2,f3]
  refine CallE.mono ((all hg n).ex c a b _ sg10 _ p10 (by omega)) fun v11 sg11 ow11 h11=>?_
  obtain⟨hv11,q11,o11⟩:=h11
  have R11:=(d7P n).ex _ p10.wf
  have t11:=Tf.call hcl t10 q11
  have p11:=p10.next q11 R11.suf
  have l11:=R11.suf.le
  have hsz:szE (d5W n (d5R [114,101,116,117,114,110] (d6L n true [] (d5R [123] (tyM (d5R [58] (d5R [41] (d5R [40] (d5S (d5R [102,110] st)).2)))).2)).2)).1≤B20:=by have:=R11.sz;unfold B20;omega
  have hD:=fun K=>e2M (gl:=gl) (d5W n (d5R [114,101,116,117,114,110] (d6L n true [] (d5R [123] (tyM (d5R [58] (d5R [41] (d5R [40] (d5S (d5R [102,110] st)).2)))).2)).2)).1 hsz K
  simp only[d2M] at hD
  have hoo:=(ho0.trans o9).trans o11
  rcases hv11 with rfl|⟨pp,⟨hpp,hnn⟩,rfl⟩
  all_goals
   first|have hax:=Xk.al3 hpp|have hax:=@c2X
   have gs11:=fun y=>d4Z (y:=y) t11.z3
   try rw[hnn] at hD
   simp only[wA,seval,reduceCtorEq,reduceIte,f0,f2,f3,t11.z3,gs11,hax,hD]
   refine CallE.mono (e4J (t11.set hcl _).q.cell _ (decide ((dEx (d5W n (d5R [114,101,116,117,114,110] (d6L n true [] (d5R [123] (tyM (d5R [58] (d5R [41] (d5R [40] (d5S (d5R [102,110] st)).2)))).2)).2)).1:Int) > 40))) fun v12 sg12 ow12 h12=>?_
   obtain⟨e12,q12,o12⟩:=h12
   subst e12 o12
   have t12:=Tf.call hcl (t11.set hcl _) q12
   have s12:=d7C p11.wf (d6L n true [] (d5R [123] (tyM (d5R [58] (d5R [41] (d5R [40] (d5S (d5R [102,110] st)).2)))).2)).2.hd.pos (decide ((dEx (d5W n (d5R [114,101,116,117,114,110] (d6L n true [] (d5R [123] (tyM (d5R [58] (d5R [41] (d5R [40] (d5S (d5R [102,110] st)).2)))).2)).2)).1:Int) > 40))
   have p12:=p11.next q12 s12
   have l12:=s12.le
   simp only[wA,seval,reduceCtorEq,reduceIte,f0,f2,f3]
   refine CallE.mono (e4F t12.q.cell p12.ne (by omega) [59]) fun v13 sg13 ow13 h13=>?_
   obtain⟨e13,q13,o13⟩:=h13
   subst e13 o13
   have t13:=Tf.call hcl t12 q13
   have s13:=d6Y p12.wf [59]
   have p13:=p12.next q13 s13
   have l13:=s13.le
   simp only[wA,seval,reduceCtorEq,reduceIte,f0,f2,f3]
   refine CallE.mono (e4F t13.q.cell p13.ne (by omega) [125]) fun v14 sg14 ow14 h14=>?_
   obtain⟨e14,q14,o14⟩:=h14
   subst e14 o14
   have t14:=Tf.call hcl t13 q14
   have gs:=fun y=>d4Z (y:=y) t14.z2
   have c9:=Lw.c1 hv9
   rw[hB]
   rcases hv9 with⟨rfl,hA9⟩|⟨j9,rfl,hA9,-,-⟩
   all_goals
    simp only[wA,seval,reduceCtorEq,reduceIte,f0,f2,f3,t14.z3,t14.z2,gs,hax]
    first
     |exact⟨⟨_,_,_,rfl,c0,c9,rfl⟩,t14.q.hi (g8S _) (by omega) _,hoo⟩
     |exact⟨⟨_,_,_,rfl,c0,c9,Xk.c1 hpp hnn⟩,t14.q.hi (g8S _) (by omega) _,hoo⟩
 |false =>
  simp only[wA,seval,reduceCtorEq,reduceIte,e4B t2.q.cell p2.ne,ha,t2.z3,a1I]
  refine CallE.mono (ok56 p2) fun v3 sg4 ow4 h3=>?_
  obtain⟨e3,q3,o3⟩:=h3
  subst e3 o3
  have t3:=Tf.call hcl t2 q3
  have s3:=d7F p2.wf
  have p3:=p2.next q3 s3
  have l3:=s3.le
  have hv00:Lp ow4.length (.t (.sl true [])) ow4 []:=.inl ⟨rfl,rfl⟩
  obtain⟨x,hx,hx1,hx2,hx3⟩:=e6A hv00 (g8S _) (by simp) true (d6G (d5R [40] (d5S (d5R [102,110] st)).2)).1
  have hb:=e6B (d6G (d5R [40] (d5S (d5R [102,110] st)).2)).1
  have hon2:=hx1.one
  have hcl2:=hx1.cl
  simp only[wA,seval,reduceCtorEq,reduceIte,d5L,d5K,d5J,d5I,t2.z3,t3.z3,hb,hx,hon2,hcl2]
  have t3s:=t3.set hcl (fC (d5S (d5R [102,110] st)).1 x.1)
  refine e6C (i3:=sg.length+1) (i2:=sg.length) (w2:=.lp sg.length 0) (sg0:=sg) (ow0:=ow4) (a:=a) (b:=b) (c:=c) hcl (by omega) (by omega) (by omega) _ n _ x.1 (d6G (d5R [40] (d5S (d5R [102,110] st)).2)).2 _ x.2 _ hx1 ⟨hx2,hx3⟩ (p3.next t3s.q (Suf.refl p3.wf)) (by simp only[g7K,g7L,g7O];omega) t3s.q t3s.z3 t3s.z2 (by omega) ?_ ?_
  ·simp only[wQ,Nat.reduceEqDiff,reduceIte]
  intro fr' sgL owL v0 hv0 qL z3L z2L wL sL hfr ho0
  simp only[b9A,b8Z] at hfr
  obtain⟨f0,f2,f3,-⟩:=hfr
  have t4:Tf c a b sg (fC (d5S (d5R [102,110] st)).1 v0) (d6M n [(d6G (d5R [40] (d5S (d5R [102,110] st)).2)).1] (d6G (d5R [40] (d5S (d5R [102,110] st)).2)).2).2 sgL:=⟨qL,z2L,z3L⟩
  have l4:(d6M n [(d6G (d5R [40] (d5S (d5R [102,110] st)).2)).1] (d6G (d5R [40] (d5S (d5R [102,110] st)).2)).2).2.ts.length≤(d5R [40] (d5S (d5R [102,110] st)).2).ts.length:=(s3.trans sL).le
  have p4:Pre c a b (d6M n [(d6G (d5R [40] (d5S (d5R [102,110] st)).2)).1] (d6G (d5R [40] (d5S (d5R [102,110] st)).2)).2).2 sgL:=⟨qL.cell,wL,by omega⟩
  have w4:Wv (d6M n [(d6G (d5R [40] (d5S (d5R [102,110] st)).2)).1] (d6G (d5R [40] (d5S (d5R [102,110] st)).2)).2).2:=(w2.of s3).of sL
  have c0:=Lp.c1 hv0
  simp only[wA,seval,reduceCtorEq,reduceIte,f0,f2,f3]
  have hB:fnM n st=(⟨(d5S (d5R [102,110] st)).1,(d6M n [(d6G (d5R [40] (d5S (d5R [102,110] st)).2)).1] (d6G (d5R [40] (d5S (d5R [102,110] st)).2)).2).1.isEmpty,(d6M n [(d6G (d5R [40] (d5S (d5R [102,110] st)).2)).1] (d6G (d5R [40] (d5S (d5R [102,110] st)).2)).2).1,(tyM (d5R [58] (d5R [41] (d6M n [(d6G (d5R [40] (d5S (d5R [102,110] st)).2)).1] (d6G (d5R [40] (d5S (d5R [102,110] st)).2)).2).2))).1,(d6L n true [] (d5R [123] (tyM (d5R [58] (d5R [41] (d6M n [(d6G (d5R [40] (d5S (d5R [102,110] st)).2)).1] (d6G (d5R [40] (d5S (d5R [102,110] st)).2)).2).2))).2)).1.isEmpty,(d6L n true [] (d5R [123] (tyM (d5R [58] (d5R [41] (d6M n [(d6G (d5R [40] (d5S (d5R [102,110] st)).2)).1] (d6G (d5R [40] (d5S (d5R [102,110] st)).2)).2).2))).2)).1,(d5W n (d5R [114,101,116,117,114,110] (d6L n true [] (d5R [123] (tyM (d5R [58] (d5R [41] (d6M n [(d6G (d5R [40] (d5S (d5R [102,110] st)).2)).1] (d6G (d5R [40] (d5S (d5R [102,110] st)).2)).2).2))).2)).2)).1⟩,d5R [125] (d5R [59] (d5U (d6L n true [] (d5R [123] (tyM (d5R [58] (d5R [41] (d6M n [(d6G (d5R [40] (d5S (d5R [102,110] st)).2)).1] (d6G (d5R [40] (d5S (d5R [102,110] st)).2)).2).2))).2)).2.hd.pos (decide ((dEx (d5W n (d5R [114,101,116,117,114,110] (d6L n true [] (d5R [123] (tyM (d5R [58] (d5R [41] (d6M n [(d6G (d5R [40] (d5S (d5R [102,110] st)).2)).1] (d6G (d5R [40] (d5S (d5R [102,110] st)).2)).2).2))).2)).2)).1:Int) > 40)) (d5W n (d5R [114,101,116,117,114,110] (d6L n true [] (d5R [123] (tyM (d5R [58] (d5R [41] (d6M n [(d6G (d5R [40] (d5S (d5R [102,110] st)).2)).1] (d6G (d5R [40] (d5S (d5R [102,110] st)).2)).2).2))).2)).2)).2))):=by unfold fnM d6N;simp only[ha];rfl
  refine CallE.mono (e4F t4.q.cell p4.ne (by omega) [41]) fun v5 sg5 ow5 h5=>?_
  obtain⟨e5,q5,o5⟩:=h5
  subst e5 o5
  have t5:=Tf.call hcl t4 q5
  have s5:=d6Y p4.wf [41]
  have p5:=p4.next q5 s5
  have w5:=w4.of s5
  have l5:=s5.le
  simp only[wA,seval,reduceCtorEq,reduceIte,f0,f2,f3]
  refine CallE.mono (e4F t5.q.cell p5.ne (by omega) [58]) fun v6 sg6 ow6 h6=>?_
  obtain⟨e6,q6,o6⟩:=h6
  subst e6 o6
  have t6:=Tf.call hcl t5 q6
  have s6:=d6Y p5.wf [58]
  have p6:=p5.next q6 s6
  have w6:=w5.of s6
  have l6:=s6.le
  simp only[wA,seval,reduceCtorEq,reduceIte,f0,f2,f3]
  refine CallE.mono (e5O p6) fun v7 sg7 ow7 h7=>?_
  obtain⟨e7,q7,o7⟩:=h7
  subst e7 o7
  have t7:=Tf.call hcl t6 q7
  have s7:=d7E p6.wf
  have p7:=p6.next q7 s7
  have w7:=w6.of s7
  have l7:=s7.le
  simp only[wA,seval,reduceCtorEq,reduceIte,f0,f2,f3,t7.z3]
  refine CallE.mono (e4F (t7.set hcl _).q.cell p7.ne (by omega) [123]) fun v8 sg8 ow8 h8=>?_
  obtain⟨e8,q8,o8⟩:=h8
  subst e8 o8
  have t8:=Tf.call hcl (t7.set hcl _) q8
  have s8:=d6Y p7.wf [123]
  have p8:=p7.next q8 s8
  have w8:=w7.of s8
  have l8:=s8.le
  simp only[wA,seval,reduceCtorEq,reduceIte,f0,f2,f3]
  refine CallE.mono ((e5W hg n).bd true c a b _ sg8 _ ⟨p8,w8,by omega⟩ (by omega)) fun v9 sg9 ow9 h9=>?_
  obtain⟨hv9,q9,o9⟩:=h9
  have t9:=Tf.call hcl t8 q9
  have s9:=((d9W n).bd true [] _ p8.wf).suf
  have p9:=p8.next q9 s9
  have w9:=w8.of s9
  have l9:=s9.le
  obtain⟨rr,hrr⟩:=e4G p9.ne
  have hon9:=Lw.one hv9
  have hcl9:=Lw.cl hv9
  have hc9:=(t9.set hcl [.t (.str (d5S (d5R [102,110] st)).1),v0,.t (.int .i64 (tyM (d5R [58] (d5R [41] (d6M n [(d6G (d5R [40] (d5S (d5R [102,110] st)).2)).1] (d6G (d5R [40] (d5S (d5R [102,110] st)).2)).2).2))).1.kind),.t (.int .i64 (tyM (d5R [58] (d5R [41] (d6M n [(d6G (d5R [40] (d5S (d5R [102,110] st)).2)).1] (d6G (d5R [40] (d5S (d5R [102,110] st)).2)).2).2))).1.bits),.t (.int .i64 (tyM (d5R [58] (d5R [41] (d6M n [(d6G (d5R [40] (d5S (d5R [102,110] st)).2)).1] (d6G (d5R [40] (d5S (d5R [102,110] st)).2)).2).2))).1.len),v9,.t (.int .i64 0),.t (.int .u64 0),.t (.str []),.t (.sl true [])]).q.cell
  simp only[psC,hrr,g7T] at hc9
  simp only[wA,seval,reduceCtorEq,reduceIte,f0,f2,f3,t9.z3,hon9,hcl9,hc9,e3G]
  refine CallE.mono (e4F (t9.set hcl _).q.cell p9.ne (by omega) [114,101,116,117,114,110]) fun v10 sg10 ow10 h10=>?_
  obtain⟨e10,q10,o10⟩:=h10
  subst e10 o10
  have t10:=Tf.call hcl (t9.set hcl _) q10
  have s10:=d6Y p9.wf [114,101,116,117,114,110]
  have p10:=p9.next q10 s10
  have w10:=w9.of s10
  have l10:=s10.le
  simp only[wA,seval,reduceCtorEq,reduceIte,f0,f2,f3]
  refine CallE.mono ((all hg n).ex c a b _ sg10 _ p10 (by omega)) fun v11 sg11 ow11 h11=>?_
  obtain⟨hv11,q11,o11⟩:=h11
  have R11:=(d7P n).ex _ p10.wf
  have t11:=Tf.call hcl t10 q11
  have p11:=p10.next q11 R11.suf
  have l11:=R11.suf.le
  have hsz:szE (d5W n (d5R [114,101,116,117,114,110] (d6L n true [] (d5R [123] (tyM (d5R [58] (d5R [41] (d6M n [(d6G (d5R [40] (d5S (d5R [102,110] st)).2)).1] (d6G (d5R [40] (d5S (d5R [102,110] st)).2)).2).2))).2)).2)).1≤B20:=by have:=R11.sz;unfold B20;omega
  have hD:=fun K=>e2M (gl:=gl) (d5W n (d5R [114,101,116,117,114,110] (d6L n true [] (d5R [123] (tyM (d5R [58] (d5R [41] (d6M n [(d6G (d5R [40] (d5S (d5R [102,110] st)).2)).1] (d6G (d5R [40] (d5S (d5R [102,110] st)).2)).2).2))).2)).2)).1 hsz K
  simp only[d2M] at hD
  have hoo:=(ho0.trans o9).trans o11
  rcases hv11 with rfl|⟨pp,⟨hpp,hnn⟩,rfl⟩
  all_goals
   first|have hax:=Xk.al3 hpp|have hax:=@c2X
   have gs11:=fun y=>d4Z (y:=y) t11.z3
   try rw[hnn] at hD
   simp only[wA,seval,reduceCtorEq,reduceIte,f0,f2,f3,t11.z3,gs11,hax,hD]
   refine CallE.mono (e4J (t11.set hcl _).q.cell _ (decide ((dEx (d5W n (d5R [114,101,116,117,114,110] (d6L n true [] (d5R [123] (tyM (d5R [58] (d5R [41] (d6M n [(d6G (d5R [40] (d5S (d5R [102,110] st)).2)).1] (d6G (d5R [40] (d5S (d5R [102,110] st)).2)).2).2))).2)).2)).1:Int) > 40))) fun v12 sg12 ow12 h12=>?_
   obtain⟨e12,q12,o12⟩:=h12
   subst e12 o12
   have t12:=Tf.call hcl (t11.set hcl _) q12
   have s12:=d7C p11.wf (d6L n true [] (d5R [123] (tyM (d5R [58] (d5R [41] (d6M n [(d6G (d5R [40] (d5S (d5R [102,110] st)).2)).1] (d6G (d5R [40] (d5S (d5R [102,110] st)).2)).2).2))).2)).2.hd.pos (decide ((dEx (d5W n (d5R [114,101,116,117,114,110] (d6L n true [] (d5R [123] (tyM (d5R [58] (d5R [41] (d6M n [(d6G (d5R [40] (d5S (d5R [102,110] st)).2)).1] (d6G (d5R [40] (d5S (d5R [102,110] st)).2)).2).2))).2)).2)).1:Int) > 40))
   have p12:=p11.next q12 s12
   have l12:=s12.le
   simp only[wA,seval,reduceCtorEq,reduceIte,f0,f2,f3]
   refine CallE.mono (e4F t12.q.cell p12.ne (by omega) [59]) fun v13 sg13 ow13 h13=>?_
   obtain⟨e13,q13,o13⟩:=h13
   subst e13 o13
   have t13:=Tf.call hcl t12 q13
   have s13:=d6Y p12.wf [59]
   have p13:=p12.next q13 s13
   have l13:=s13.le
   simp only[wA,seval,reduceCtorEq,reduceIte,f0,f2,f3]
   refine CallE.mono (e4F t13.q.cell p13.ne (by omega) [125]) fun v14 sg14 ow14 h14=>?_
   obtain⟨e14,q14,o14⟩:=h14
   subst e14 o14
   have t14:=Tf.call hcl t13 q14
   have gs:=fun y=>d4Z (y:=y) t14.z2
   have c9:=Lw.c1 hv9
   rw[hB]
   rcases hv0 with⟨rfl,hA0⟩|⟨j0,rfl,hA0,-,-⟩ <;> rcases hv9 with⟨rfl,hA9⟩|⟨j9,rfl,hA9,-,-⟩
   all_goals
    simp only[wA,seval,reduceCtorEq,reduceIte,f0,f2,f3,t14.z3,t14.z2,gs,hax]
    first
     |exact⟨⟨_,_,_,rfl,c0,c9,rfl⟩,t14.q.hi (g8S _) (by omega) _,hoo⟩
     |exact⟨⟨_,_,_,rfl,c0,c9,Xk.c1 hpp hnn⟩,t14.q.hi (g8S _) (by omega) _,hoo⟩
end Go.Proofs.YtcbgiabippcpaaaGreatDoor

/- The parser: lists of functions and of declarations. -/
namespace Go.Proofs.YtcbgiabippcpaaaGreatDoor
open Go.Pi Go.Lx Go.Ky
variable {gl:Nat→Option (List T)}
abbrev z10:List T:=[.str [],.sl true [],.int .i64 0,.int .i64 0,.int .i64 0,.sl true [],.int .i64 0,.int .u64 0,.str [],.sl true []]
theorem bsF {v:PV} {f:Fu} (h:Fv v f):b6J 10 1 z10 [(0,10,v)]=some (.lit [tFu f]):=by
 obtain⟨p,q,r,hx,cp,cq,cr⟩:=h
 unfold b6J
 rw[fillP,hx,if_pos ⟨rfl,g8S 10⟩,fillP]
 show(([.t (.str f.name),p,.t (.int .i64 f.res.kind),.t (.int .i64 f.res.bits),.t (.int .i64 f.res.len),q,.t (.int .i64 f.ret.op),.t (.int .u64 f.ret.val),.t (.str f.ret.name),r]:List PV).mapM a0M).map _=_
 simp only[g7R,List.mapM_nil,cp,cq,cr]
 rfl
abbrev z5d:List T:=[.bool false,.str [],.int .i64 0,.int .i64 0,.int .i64 0]
theorem bsD (d:De):b6J 5 1 z5d [(0,5,.t (.agg (tDe d)))]=some (.lit [tDe d]):=rfl
def Lg {α:Type} (enc:α→List T) (sz k0:Nat) (v:PV) (ow:Ow) (l:List α):Prop:=(v=.t (.sl true [])∧l=[])∨∃ k,v=.own k sz (l.map enc)∧l≠[]∧ow[k]?=some l.length∧k0≤k
theorem Lg.keep {α:Type} {enc:α→List T} {sz k0:Nat} {v:PV} {ow ow':Ow} {l:List α} (h:Lg enc sz k0 v ow l) (ho:OwK ow ow'):Lg enc sz k0 v ow' l:=by
 rcases h with h|⟨k,rfl,hl,hk,hl0⟩
 ·exact .inl h
 ·exact .inr ⟨k,rfl,hl,by rw[ho.2 k (g7B.1 hk).1];exact hk,hl0⟩
theorem Lg.one {α:Type} {enc:α→List T} {sz k0:Nat} {v:PV} {ow:Ow} {l:List α} (h:Lg enc sz k0 v ow l):Go.Pi.one v=true∧cellsP v=[v]:=by
 rcases h with⟨rfl,-⟩|⟨k,rfl,-,-,-⟩ <;> exact⟨rfl,rfl⟩
theorem e6D {α:Type} {enc:α→List T} {sz by' k0:Nat} {v:PV} {ow:Ow} {l:List α} (hs:∀ x,(enc x).length=sz) (h0:0 < sz) (hb:by'≤200) (h:Lg enc sz k0 v ow l) (hk:k0≤ow.length) (hl:l.length < 1000000) (dr:Bool) (e:α):∃ x,(∀ sg,a0V dr sg ow sz by' v (.lit [enc e])=some x)∧Lg enc sz k0 x.1 x.2 (l++[e])∧ow.length≤x.2.length∧∀ j,j < k0→x.2[j]?=ow[j]?:=by
 have e2:∀ sg,a0L sg sz (.lit [enc e])=some [enc e]:=fun sg=>rfl
 have e3:([enc e].all (fun x=>x.length == sz))=true:=by simp [hs]
 have rm:∀ n,n≤1000000→a0N n by'=true:=by
  intro n hn
  unfold a0N
  have:=Nat.mul_le_mul hn hb
  exact g9M ⟨by omega,by omega⟩
 rcases h with⟨rfl,rfl⟩|⟨k,rfl,hne,hkk,hl0⟩
 ·refine⟨(.own ow.length sz [enc e],ow++[1]),?_,?_,?_,?_⟩
  ·intro sg
   have r:=rm ([enc e].length) (by simp)
   simp only[a0V,e2,e3,r,h0,g9J,if_true]
   rfl
  ·refine .inr ⟨ow.length,rfl,by simp,?_,hk⟩
   exact g6X
  ·simp only[g7K];omega
  ·intro j hj
   exact g6V (by omega)
 ·refine⟨(.own k sz (l.map enc++[enc e]),ow.set k ((l.map enc).length+1)),?_,?_,?_,?_⟩
  ·intro sg
   have r:=rm ((l.map enc).length+[enc e].length) (by rw[g7N];simp only[g7L,g7O];omega)
   have hk2:ow[k]?=some (l.map enc).length:=by rw[g7N];exact hkk
   simp only[a0V,e2,e3,hk2,r,h0,g9J,if_true]
   rfl
  ·refine .inr ⟨k,by rw[g7S];rfl,by simp,?_,hl0⟩
   show(ow.set k ((l.map enc).length+1))[k]?=_
   rw[g7G (g7B.1 hkk).1,g7N,g7K];rfl
  ·simp only[g7P];omega
  ·intro j hj
   exact g7F (by omega)
end Go.Proofs.YtcbgiabippcpaaaGreatDoor
