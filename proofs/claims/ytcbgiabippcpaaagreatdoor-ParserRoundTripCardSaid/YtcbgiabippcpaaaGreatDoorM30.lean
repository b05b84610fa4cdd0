/- The parser: programs. -/
import Derived.Test.YtcbgiabippcpaaaGreatDoorM25
import Derived.Test.YtcbgiabippcpaaaGreatDoorKx43
import Derived.Test.YtcbgiabippcpaaaGreatDoorKx43
set_option maxRecDepth 10000
set_option linter.unusedVariables false
set_option linter.unusedSimpArgs false
namespace Go.Proofs.YtcbgiabippcpaaaGreatDoor
open Go.Pi Go.Lx Go.Ky
variable {gl:Nat→Option (List T)}
abbrev e6E:PV:=.t (.sl true [])
theorem e6F (f:Fu):(tFu f).length=10:=rfl
theorem e6G (d:De):(tDe d).length=5:=rfl
set_option maxHeartbeats 2000000 in
theorem e6H (hg:GlOk gl) {c i3:Nat} {a b:Int} {sg0:Sg} {w2:PV} (hc0:c < sg0.length) (h3:sg0.length≤i3) (X:Ex→S→Prop) :
  ∀ (m:Nat) (l:List Fu) (v:PV) (st:Ps) (sg:Sg) (ow:Ow) (fr:List PV),Lg tFu 10 0 v ow l→PreS c a b st sg→l.length+st.ts.length≤200000→Q c a b sg0 st sg→sg[i3]?=some (false,[v,e6E,e6E])→12 * st.ts.length+14≤m →
  b8Y fr [(2,w2),(5,.lp c 0),(6,.lp i3 0)] →
  (∀ fr' sg' ow' v',Lg tFu 10 0 v' ow' (d6P m l st).1→Q c a b sg0 (d6P m l st).2 sg'→sg'[i3]?=some (false,[v',e6E,e6E])→Suf st (d6P m l st).2→(d6P m l st).1.length≤200000→b8Y fr' [(2,w2),(5,.lp c 0),(6,.lp i3 0)]→X (.exit 0) ⟨fr',sg',ow'⟩) →
  Xl F gl c3Q ⟨fr,sg,ow⟩ X ⟨⟩:=by
 intro m
 induction m with
 |zero=>intro l v st sg ow fr _ hp _ _ _ hf;omega
 |succ m ih =>
  intro l v st sg ow fr hv hp hll hq z3 hf hfr k
  simp only[b9A,b8Z] at hfr
  obtain⟨f2,f5,f6,-⟩:=hfr
  refine Xl.step ?_
  simp only[c3Q]
  have hne:=hp.pre.ne
  cases ha:atM [102,110] st with
  |false =>
   have hB:d6P (m+1) l st=(l,st):=by rw[d6P,if_neg (by rw[ha];simp)]
   rw[hB] at k
   simp only[wA,seval,reduceCtorEq,reduceIte,f5,f6,e4B hp.pre.cell hne,ha]
   refine k _ _ _ v hv hq z3 (Suf.refl hp.pre.wf) (by show l.length≤_;omega) ?_
   simp only[wQ,Nat.reduceEqDiff,reduceIte,f2,f5,f6]
  |true =>
   have hB:d6P (m+1) l st=d6P m (l++[(fnM m st).1]) (fnM m st).2:=by rw[d6P,if_pos ha]
   rw[hB] at k
   have l1:=e0N (n:=m) hp.pre.wf ha
   have s1:=e0O (n:=m) hp.pre.wf
   have hon:=hv.one.1
   simp only[wA,seval,reduceCtorEq,reduceIte,f5,f6,e4B hp.pre.cell hne,ha,a1I,z3,hon]
   refine CallE.mono (ok20 hg (n:=m) hp (by omega)) fun v2 sg2 ow2 h2=>?_
   obtain⟨hv2,q2,o2⟩:=h2
   have z3c:=q2.fr.get z3 (by omega)
   have gs:=fun y=>d4Z (y:=y) z3c
   obtain⟨x,hx,hx1,hx2,hx3⟩:=e6D e6F (by decide) (by decide) (by':=144) (hv.keep ⟨o2.1,o2.2⟩) (g9A _) (by omega) true (fnM m st).1
   have hon2:=hx1.one.1
   have hcl2:=hx1.one.2
   have hb:=bsF hv2
   simp only[wA,seval,reduceCtorEq,reduceIte,f5,f6,d5L,d5K,d5J,d5I,z3,z3c,hb,hx,hon2,hon,hcl2]
   have q3:=(hq.trans q2).hi (i:=i3) h3 (by omega) (false,[x.1,e6E,e6E])
   have p3:PreS c a b (fnM m st).2 (sg2.set i3 (false,[x.1,e6E,e6E])):=⟨hp.pre.next q3 s1,hp.wv.of s1,by have:=hp.l16;omega⟩
   refine ih (l++[(fnM m st).1]) x.1 (fnM m st).2 _ x.2 _ hx1 p3 (by simp only[g7K,g7L,g7O];omega) q3 (gs _) (by omega) ?_ ?_
   ·simp only[wQ,Nat.reduceEqDiff,reduceIte,f2,f5,f6]
   ·intro fr' sg' ow' v' a1 a2 a3 a4 a5 a6
    exact k fr' sg' ow' v' a1 a2 a3 (s1.trans a4) a5 a6
set_option maxHeartbeats 2000000 in
theorem e6I {c i3:Nat} {a b:Int} {sg0:Sg} {w2 u:PV} (hc0:c < sg0.length) (h3:sg0.length≤i3) (X:Ex→S→Prop) :
  ∀ (m:Nat) (l:List De) (v:PV) (st:Ps) (sg:Sg) (ow:Ow) (fr:List PV) {ow0:Ow},Lg tDe 5 ow0.length v ow l→OwK ow0 ow→PreS c a b st sg→l.length+st.ts.length≤200000→Q c a b sg0 st sg→sg[i3]?=some (false,[u,v,e6E])→st.ts.length+1≤m →
  b8Y fr [(2,w2),(5,.lp c 0),(6,.lp i3 0)] →
  (∀ fr' sg' ow' v',Lg tDe 5 ow0.length v' ow' (d6Q m l st).1→OwK ow0 ow'→Q c a b sg0 (d6Q m l st).2 sg'→sg'[i3]?=some (false,[u,v',e6E])→Suf st (d6Q m l st).2→(d6Q m l st).1.length≤200000→b8Y fr' [(2,w2),(5,.lp c 0),(6,.lp i3 0)]→X (.exit 2) ⟨fr',sg',ow'⟩) →
  Xl F gl c3P ⟨fr,sg,ow⟩ X ⟨⟩:=by
 intro m
 induction m with
 |zero=>intro l v st sg ow fr ow0 _ _ hp _ _ _ hf;omega
 |succ m ih =>
  intro l v st sg ow fr ow0 hv ho hp hll hq z3 hf hfr k
  simp only[b9A,b8Z] at hfr
  obtain⟨f2,f5,f6,-⟩:=hfr
  refine Xl.step ?_
  simp only[c3P]
  have hne:=hp.pre.ne
  cases ha:(atM [112,117,98,108,105,99] st || atM [115,101,99,114,101,116] st) with
  |false =>
   have hB:d6Q (m+1) l st=(l,st):=by rw[d6Q,if_neg (by rw[ha];simp)]
   rw[hB] at k
   rw[Bool.or_eq_false_iff] at ha
   obtain⟨h1,h2⟩:=ha
   simp only[wA,seval,reduceCtorEq,reduceIte,f5,f6,e4B hp.pre.cell hne,h1,h2]
   refine k _ _ _ v hv ho hq z3 (Suf.refl hp.pre.wf) (by show l.length≤_;omega) ?_
   simp only[wQ,Nat.reduceEqDiff,reduceIte,f2,f5,f6]
  |true =>
   have hB:d6Q (m+1) l st=d6Q m (l++[(d6O st).1]) (d6O st).2:=by rw[d6Q,if_pos ha]
   rw[hB] at k
   have hk:st.hd.kind≠0:=by
    rw[g5Z] at ha
    rcases ha with h|h <;> exact d6W h
   have l1:=e0Q hp.pre.wf hk
   have s1:=e0R hp.pre.wf
   have hon:=hv.one.1
   have hor:atM [112,117,98,108,105,99] st=true∨(atM [112,117,98,108,105,99] st=false∧atM [115,101,99,114,101,116] st=true):=by
    cases h1:atM [112,117,98,108,105,99] st with
    |true=>exact .inl rfl
    |false=>rw[h1] at ha;exact .inr ⟨rfl,ha⟩
   rcases hor with h1|h1
   all_goals
    simp only[wA,seval,reduceCtorEq,reduceIte,f5,f6,e4B hp.pre.cell hne,h1,a1I,z3,hon]
    refine CallE.mono (ok21 hp.pre) fun v2 sg2 ow2 h2=>?_
    obtain⟨e2,q2,o2⟩:=h2
    subst e2 o2
    have z3c:=q2.fr.get z3 (by omega)
    have gs:=fun y=>d4Z (y:=y) z3c
    obtain⟨x,hx,hx1,hx2,hx3⟩:=e6D e6G (by decide) (by decide) (by':=48) hv ho.1 (by omega) true (d6O st).1
    have hon2:=hx1.one.1
    have hcl2:=hx1.one.2
    have hb:=bsD (d6O st).1
    simp only[wA,seval,reduceCtorEq,reduceIte,f5,f6,d5L,d5K,d5J,d5I,z3,z3c,hb,hx,hon2,hon,hcl2]
    have q3:=(hq.trans q2).hi (i:=i3) h3 (by omega) (false,[u,x.1,e6E])
    have p3:PreS c a b (d6O st).2 (sg2.set i3 (false,[u,x.1,e6E])):=⟨hp.pre.next q3 s1,hp.wv.of s1,by have:=hp.l16;omega⟩
    refine ih (l++[(d6O st).1]) x.1 (d6O st).2 _ x.2 _ hx1 ⟨g8T ho.1 hx2,fun j hj=>by rw[hx3 j hj,ho.2 j hj]⟩ p3 (by simp only[g7K,g7L,g7O];omega) q3 (gs _) (by omega) ?_ ?_
    ·simp only[wQ,Nat.reduceEqDiff,reduceIte,f2,f5,f6]
    ·intro fr' sg' ow' v' a1 a2 a3 a4 a5 a6 a7
     exact k fr' sg' ow' v' a1 a2 a3 a4 (s1.trans a5) a6 a7
end Go.Proofs.YtcbgiabippcpaaaGreatDoor

/- The parser: Program. -/
namespace Go.Proofs.YtcbgiabippcpaaaGreatDoor
open Go.Pi Go.Lx Go.Ky
variable {gl:Nat→Option (List T)}
def prV (n:Nat) (s:List UInt8):PV:=.tup [.t (.agg (tPg (prN n s).1)),.t (.int .i64 (prN n s).2.1),.t (.int .i64 (prN n s).2.2)]
theorem Lg.c1 {α:Type} {enc:α→List T} {sz k0:Nat} {v:PV} {ow:Ow} {l:List α} (h:Lg enc sz k0 v ow l):a0M v=some (.sl l.isEmpty (l.map enc))∧close1 v=some (.sl l.isEmpty (l.map enc)):=by
 rcases h with⟨rfl,rfl⟩|⟨k,rfl,hne,-,-⟩
 ·exact⟨rfl,rfl⟩
 ·rw[g7J.2 hne];exact⟨rfl,rfl⟩
theorem e6J {k l m n:Nat} {ag:Bool} {fr:List PV} {sg:Sg} {ow:Ow} {K:PV→Sg→Ow→Prop}:xR gl [(k,some (ag,n)),(l,none),(m,none)] K ⟨⟩ .ret ⟨fr,sg,ow⟩↔xO (loadP gl sg ag n (a0A fr k)) (fun v=>K (.tup [v,a0A fr l,a0A fr m]) sg ow) ⟨⟩:=by
 show b8L gl _ K .ret _↔onO _ _
 simp only[b8L,a1P,g7R,List.mapM_nil,a1O]
 cases loadP gl sg ag n (a0A fr k) <;> rfl
set_option maxHeartbeats 8000000 in
theorem ok9 (hg:GlOk gl) (s:List UInt8) {n:Nat} (hn:12 * (d8X s).1.length+20≤n) {K:PV→Prop}:XcP F gl 9 [.str s] K ⟨⟩↔K (prV n s):=by
 refine Ret.iff (Ret.of F9 rfl ?_)
 simp only[ir9]
 simp only[wA,seval,reduceCtorEq,reduceIte]
 refine CallE.mono (ok18 hg s) fun v0 sg1 ow1 h0=>?_
 obtain⟨e0,e1,o0⟩:=h0
 subst e0 e1 o0
 obtain⟨hW,hL⟩:=e0U s
 have hdef:prN n s=prN n s:=rfl
 generalize hT:(d8X s).2.1=stop at *
 generalize hA:(d8X s).2.2=stat at *
 generalize hTs:(d8X s).1=l at *
 have hp:PreS 1 stop stat (st0 l) [(false,[e6E,e6E,e6E]),(false,psC (st0 l) stop stat)]:=⟨⟨rfl,hW.wf,hW.ln⟩,hW,hL⟩
 have hp':PreS 1 stop stat (st0 l) [(false,[e6E,e6E,e6E]),(false,psC (st0 l) stop stat),(false,[e6E,e6E,e6E])]:=⟨⟨rfl,hW.wf,hW.ln⟩,hW,hL⟩
 have q0:Q 1 stop stat [(false,[e6E,e6E,e6E]),(false,psC (st0 l) stop stat)] (st0 l) [(false,[e6E,e6E,e6E]),(false,psC (st0 l) stop stat),(false,[e6E,e6E,e6E])]:=⟨rfl,Fr.of (.app [(false,[e6E,e6E,e6E]),(false,psC (st0 l) stop stat)] [(false,[e6E,e6E,e6E])])⟩
 have hl0:(st0 l).ts.length=l.length:=rfl
 simp only[wA,seval,reduceCtorEq,reduceIte]
 refine e6H hg (c:=1) (i3:=2) (a:=stop) (b:=stat) (sg0:=[(false,[e6E,e6E,e6E]),(false,psC (st0 l) stop stat)]) (w2:=.lp 0 0) (by show 1 < 2;decide) (by show 2≤2;decide) _ n [] e6E (st0 l) _ [] _ (.inl ⟨rfl,rfl⟩) hp' (by simp only[g7O];omega) q0 rfl (by omega) ?_ ?_
 ·simp only[wQ,Nat.reduceEqDiff,reduceIte]
 intro fr1 sg1 ow1 v0 g0 q1 z1 s1 n1 hfr
 simp only[b9A,b8Z] at hfr
 obtain⟨f2,f5,f6,-⟩:=hfr
 obtain⟨F1,st1,h1⟩:∃ F1 st1,d6P n [] (st0 l)=(F1,st1):=⟨_,_,rfl⟩
 rw[h1] at g0 q1 s1 n1
 simp only at g0 q1 s1 n1
 have l1:=s1.le
 have p1:PreS 1 stop stat st1 sg1:=⟨hp'.pre.next q1 s1,hW.of s1,by omega⟩
 simp only[wA,seval,reduceCtorEq,reduceIte,f5,f6]
 refine e6I (c:=1) (i3:=2) (a:=stop) (b:=stat) (sg0:=[(false,[e6E,e6E,e6E]),(false,psC (st0 l) stop stat)]) (w2:=.lp 0 0) (u:=v0) (by show 1 < 2;decide) (by show 2≤2;decide) _ n [] e6E st1 sg1 ow1 _ (ow0:=ow1) (.inl ⟨rfl,rfl⟩) OwK.refl p1 (by simp only[g7O];omega) q1 z1 (by omega) ?_ ?_
 ·simp only[wQ,Nat.reduceEqDiff,reduceIte,f2,f5,f6]
 intro fr2 sg2 ow2 v1 g1 o2 q2 z2 s2 n2 hfr2
 clear f2 f5 f6
 simp only[b9A,b8Z] at hfr2
 obtain⟨f2,f5,f6,-⟩:=hfr2
 obtain⟨D1,st2,h2⟩:∃ D1 st2,d6Q n [] st1=(D1,st2):=⟨_,_,rfl⟩
 rw[h2] at g1 q2 s2 n2
 simp only at g1 q2 s2 n2
 have l2:=s2.le
 have p2:PreS 1 stop stat st2 sg2:=⟨p1.pre.next q2 s2,p1.wv.of s2,by omega⟩
 simp only[wA,seval,reduceCtorEq,reduceIte,f5,f6]
 refine CallE.mono ((e5W hg n).bd true 1 stop stat st2 sg2 _ p2 (by omega)) fun v3 sg3 ow3 h3=>?_
 obtain⟨g3,q3,o3⟩:=h3
 have s3:=((d9W n).bd true [] st2 p2.pre.wf).suf
 obtain⟨B1,st3,h3⟩:∃ B1 st3,d6L n true [] st2=(B1,st3):=⟨_,_,rfl⟩
 rw[h3] at g3 q3 s3
 simp only at g3 q3 s3
 have z3:=q3.fr.get z2 (by decide)
 have hon3:=Lw.one g3
 have hcl3:=Lw.cl g3
 have gs:=fun y=>d4Z (y:=y) z3
 have qq3:=(q2.trans q3).hi (i:=2) (by show 2≤2;decide) (by decide) (false,[v0,v1,v3])
 have p3:=p2.pre.next qq3 s3
 have l3:=s3.le
 simp only[wA,seval,reduceCtorEq,reduceIte,f5,f6,z3,hon3,hcl3]
 refine CallE.mono (ok23 qq3.cell p3.ne (by omega)) fun v4 sg4 ow4 h4=>?_
 obtain⟨e4,q4,o4⟩:=h4
 subst e4 o4
 have z4:=q4.fr.get (gs (false,[v0,v1,v3])) (by decide)
 have qq4:=qq3.trans q4
 have z0:=qq4.fr.get (i:=0) rfl (by decide)
 have gs0:=fun y=>d4Z (y:=y) z0
 have hP:d6T n (st0 l)=(⟨F1.isEmpty,F1,D1.isEmpty,D1,B1.isEmpty,B1⟩,d6R st3):=by
  unfold d6T
  simp only[h1,h2,h3]
 have hR:prN n s=if (d6S stop stat (d6R st3)).2≠0 then (zPg,d6S stop stat (d6R st3)) else (⟨F1.isEmpty,F1,D1.isEmpty,D1,B1.isEmpty,B1⟩,0,0):=by
  unfold prN
  rw[hTs,hT,hA,hP]
 unfold prV
 by_cases he:(d6S stop stat (d6R st3)).2=0
 ·have he':((d6S stop stat (d6R st3)).2=0)=True:=g9P he
  rw[hR,if_neg (fun h=>h he)]
  rcases g0 with⟨rfl,rfl⟩|⟨k0,rfl,m0,-,-⟩ <;> rcases g1 with⟨rfl,rfl⟩|⟨k1,rfl,m1,-,-⟩ <;> rcases g3 with⟨rfl,rfl⟩|⟨k3,rfl,m3,-,-⟩
  all_goals
   try have e0:=g7J.2 m0
   try have e1:=g7J.2 m1
   try have e3:=g7J.2 m3
   simp only[wA,seval,reduceCtorEq,reduceIte,f2,f5,f6,e4K qq4.cell,he',z4,z0,gs0,e6J]
   first
    |rfl
    |(simp only[e0,e1,e3];done)
    |(simp only[e0,e1,e3];rfl)
    |(simp only[e0,e1];first|done|rfl)
    |(simp only[e0,e3];first|done|rfl)
    |(simp only[e1,e3];first|done|rfl)
    |(simp only[e0];first|done|rfl)
    |(simp only[e1];first|done|rfl)
    |(simp only[e3];first|done|rfl)
 ·have he':((d6S stop stat (d6R st3)).2=0)=False:=g9O he
  rw[hR,if_pos he]
  simp only[wA,seval,reduceCtorEq,reduceIte,f2,f5,f6,e4K qq4.cell,he',z4,z0,gs0,e6J]
  rfl
end Go.Proofs.YtcbgiabippcpaaaGreatDoor

/- The parser: Expression. -/
namespace Go.Proofs.YtcbgiabippcpaaaGreatDoor
open Go.Pi Go.Lx Go.Ky
variable {gl:Nat→Option (List T)}
def exV (n:Nat) (s:List UInt8):PV:=.tup [.t (.agg (tEx (exN n s).1)),.t (.int .i64 (exN n s).2.1),.t (.int .i64 (exN n s).2.2)]
set_option maxHeartbeats 8000000 in
theorem e6K (hg:GlOk gl) (s:List UInt8) {n:Nat} (hn:12 * (d8X s).1.length+20≤n) {K:PV→Prop}:XcP F gl 12 [.str s] K ⟨⟩↔K (exV n s):=by
 refine Ret.iff (Ret.of F12 rfl ?_)
 simp only[c3U]
 simp only[wA,seval,reduceCtorEq,reduceIte]
 refine CallE.mono (ok18 hg s) fun v0 sg1 ow1 h0=>?_
 obtain⟨e0,e1,o0⟩:=h0
 subst e0 e1 o0
 obtain⟨hW,hL⟩:=e0U s
 have hdef:exN n s=exN n s:=rfl
 generalize hT:(d8X s).2.1=stop at *
 generalize hA:(d8X s).2.2=stat at *
 generalize hTs:(d8X s).1=l at *
 obtain⟨t0,rr,hl⟩:∃ t0 rr,l=t0::rr:=by
  cases l with
  |nil=>exact absurd rfl hW.wf.ne
  |cons a b=>exact⟨a,b,rfl⟩
 have hc0:psC (st0 l) stop stat=[.t (.sl false ([.int .i64 t0.kind,.str t0.text,.int .u64 t0.val,.int .i64 t0.pos]::rr.map e3G)),.t (.int .i64 0),.t (.int .i64 0),.t (.int .i64 stop),.t (.int .i64 stat),.t (.bool false),.t (.int .i64 0)]:=by subst hl;rfl
 have hp:Pre 1 stop stat (st0 l) [(false,zC),(false,psC (st0 l) stop stat)]:=⟨rfl,hW.wf,hW.ln⟩
 have hl0:(st0 l).ts.length=l.length:=rfl
 have hpos:(st0 l).hd.pos=t0.pos:=by subst hl;rfl
 rw[hc0] at hp
 simp only[hc0]
 simp only[wA,seval,reduceCtorEq,reduceIte]
 refine CallE.mono ((all hg n).ex 1 stop stat (st0 l) _ _ hp (by omega)) fun v1 sg1 ow1 h1=>?_
 obtain⟨hv1,q1,o1⟩:=h1
 have R1:=(d7P n).ex _ hp.wf
 have p1:=hp.next q1 R1.suf
 have hsz:szE (d5W n (st0 l)).1≤B20:=by have:=R1.sz;unfold B20;omega
 have hD:=fun K=>e2M (gl:=gl) (d5W n (st0 l)).1 hsz K
 simp only[d2M] at hD
 have hg1:2≤sg1.length:=q1.fr.1
 have y0:=q1.fr.get (i:=0) (x:=(false,zC)) rfl (by decide)
 have hE:exN n s=if (d6S stop stat (exF n l)).2≠0 then (zEx,d6S stop stat (exF n l)) else ((d5W n (st0 l)).1,0,0):=by
  unfold exN
  rw[hTs,hT,hA]
 have hF:exF n l=d5U t0.pos (decide ((dEx (d5W n (st0 l)).1:Int) > 40)) (d6R (d5W n (st0 l)).2):=by
  unfold exF
  rw[hpos]
 rw[hF] at hE
 rcases hv1 with rfl|⟨pp,⟨hpp,hnn⟩,rfl⟩
 all_goals
  first|have hax:=Xk.al3 hpp|have hax:=@c2X
  try rw[hnn] at hD
  simp only[wA,seval,reduceCtorEq,reduceIte,hax]
  refine CallE.mono (ok23 (p1.app _).cell p1.ne (by have:=p1.ln;omega)) fun v2 sg2 ow2 h2=>?_
  obtain⟨e2,q2,o2⟩:=h2
  subst e2 o2
  have z2:=q2.fr.get (i:=sg1.length) e4Q (by omega)
  have z0:=q2.from.fr.get y0 (by decide)
  simp only[wA,seval,reduceCtorEq,reduceIte,z2,hax,hD]
  refine CallE.mono (e4J q2.cell _ (decide ((dEx (d5W n (st0 l)).1:Int) > 40))) fun v3 sg3 ow3 h3=>?_
  obtain⟨e3,q3,o3⟩:=h3
  subst e3 o3
  have z3:=q3.fr.get z2 (by omega)
  have z00:=q3.fr.get z0 (by decide)
  have gs0:=fun y=>d4Z (y:=y) z00
  have hne:(0:Nat)≠sg1.length:=by omega
  have gn0:=fun y=>e4R (sg:=sg3) hne y
  unfold exV
  by_cases he:(d6S stop stat (d5U t0.pos (decide ((dEx (d5W n (st0 l)).1:Int) > 40)) (d6R (d5W n (st0 l)).2))).2=0
  ·have he':((d6S stop stat (d5U t0.pos (decide ((dEx (d5W n (st0 l)).1:Int) > 40)) (d6R (d5W n (st0 l)).2))).2=0)=True:=g9P he
   rw[hE,if_neg (fun h=>h he)]
   simp only[wA,seval,reduceCtorEq,reduceIte,e4K q3.cell,he',z3,z00,gs0,e6J,hax]
   first
    |(rw[d2M];done)
    |(rw[d2M,hnn];done)
    |(simp only[d2M,hnn];done)
    |trace_state
  ·have he':((d6S stop stat (d5U t0.pos (decide ((dEx (d5W n (st0 l)).1:Int) > 40)) (d6R (d5W n (st0 l)).2))).2=0)=False:=g9O he
   rw[hE,if_pos he]
   simp only[wA,seval,reduceCtorEq,reduceIte,e4K q3.cell,he',z3,z00,gs0,e6J,hax]
   first
    |rfl
    |(simp only[d2M];rfl)
    |trace_state
end Go.Proofs.YtcbgiabippcpaaaGreatDoor

/- The five sources, awake. -/
namespace Go.Proofs.YtcbgiabippcpaaaGreatDoor
open Go.Pi Go.Lx Go.Ky
variable {gl:Nat→Option (List T)}
theorem e6L {n:Nat} {s:List UInt8} {a b:Int} (h:(exN n s).2=(a,b)):exV n s=.tup [.t (.agg [.int .i64 (exN n s).1.op,.int .u64 (exN n s).1.val,.str (exN n s).1.name,.sl (exN n s).1.nl (d2K (exN n s).1.args)]),.t (.int .i64 a),.t (.int .i64 b)]:=by
 unfold exV
 rw[h,d2M]
theorem e6M {n:Nat} {s:List UInt8} {a b:Int} (h:(prN n s).2=(a,b)):prV n s=.tup [.t (.agg (tPg (prN n s).1)),.t (.int .i64 a),.t (.int .i64 b)]:=by
 unfold prV
 rw[h]
theorem e6N:∃ v nm nl x v2 n2 l2 n3 l3 y v3 r,exV fu5 e1D=.tup [.t (.agg [.int .i64 13,.int .u64 v,.str nm,.sl nl [x,[.int .i64 11,.int .u64 v2,.str n2,.sl l2 [y,[.int .i64 10,.int .u64 v3,.str n3,.sl l3 r]]]]]),.t (.int .i64 0),.t (.int .i64 0)]:=by
 obtain⟨h1,h2⟩:=ex_1
 obtain⟨v,nm,nl,x,v2,n2,l2,y,v3,n3,l3,r,e⟩:=e1C h1
 refine⟨v,nm,nl,tEx x,v2,n2,l2,n3,l3,tEx y,v3,d2K r,?_⟩
 rw[e6L h2,e]
 simp only[Exp.op,Exp.val,Exp.name,Exp.nl,Exp.args,d2K,tEx]
set_option maxHeartbeats 4000000 in
theorem ok8 (hg:GlOk gl) {K:PV→Prop}:XcP F gl 8 [] K ⟨⟩↔K (.t (.bool true)):=by
 refine Ret.iff (Ret.of F8 rfl ?_)
 simp only[ir8]
 obtain⟨h1,h2,h3,h4,h5⟩:=len5
 obtain⟨v,nm,nl,x,v2,n2,l2,n3,l3,y,v3,r,e1⟩:=e6N
 have e2:=e6L ex_2
 have e3:=e6L ex_3
 have e4:=e6M pr_4
 have e5:=e6M pr_5
 generalize exN fu5 e1E=w2 at e2
 generalize exN fu5 e1F=w3 at e3
 generalize prN fu5 e1G=w4 at e4
 generalize prN fu5 e1H=w5 at e5
 have c1:=fun K=>e6K (gl:=gl) hg e1D h1 (K:=K)
 have c2:=fun K=>e6K (gl:=gl) hg e1E h2 (K:=K)
 have c3:=fun K=>e6K (gl:=gl) hg e1F h3 (K:=K)
 have c4:=fun K=>ok9 (gl:=gl) hg e1G h4 (K:=K)
 have c5:=fun K=>ok9 (gl:=gl) hg e1H h5 (K:=K)
 simp only[wA,seval,reduceCtorEq,reduceIte,c1,c2,c3,c4,c5,e1,e2,e3,e4,e5,g7L,g7O]
end Go.Proofs.YtcbgiabippcpaaaGreatDoor

/- The law of the errors' places. -/
namespace Go.Proofs.YtcbgiabippcpaaaGreatDoor
open Go.Pi Go.Lx Go.Ky
variable {gl:Nat→Option (List T)}
abbrev fuX:Nat:=200000
theorem e6O (s:List UInt8):12 * (d8X s).1.length+20≤fuX:=by
 have:=(e0U s).2
 show _≤200000
 omega
end Go.Proofs.YtcbgiabippcpaaaGreatDoor
