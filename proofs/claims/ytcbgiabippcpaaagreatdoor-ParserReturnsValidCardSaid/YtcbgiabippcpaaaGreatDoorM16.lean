/- The parser: unary expressions and indexes. -/
import Derived.Test.YtcbgiabippcpaaaGreatDoorM9
set_option maxRecDepth 10000
set_option linter.unusedVariables false
set_option linter.unusedSimpArgs false
namespace Go.Proofs.YtcbgiabippcpaaaGreatDoor
open Go.Pi Go.Lx Go.Ky
variable {gl:Nat→Option (List T)}
set_option maxHeartbeats 2000000 in
theorem e7J {c i2 i3:Nat} {a b:Int} {sg0:Sg} (hc0:c < sg0.length) (h2:sg0.length≤i2) (h3:sg0.length≤i3) (h23:i2≠i3) (X:Ex→S→Prop) :
  ∀ (m:Nat),(∀ k,k < m→CAll gl k)→∀ (e:Exp) (cs:List PV) (st:Ps) (sg:Sg) (ow:Ow) (fr:List PV),Ec cs e→WfT st.ts→st.ts.length≤100000→Q c a b sg0 st sg→sg[i2]?=some (false,zC)→sg[i3]?=some (false,cs)→12 * st.ts.length+3≤m →
  b8Y fr [(0,.lp c 0),(2,.lp i2 0),(3,.lp i3 0)] →
  (∀ fr' sg' ow' cs',Ec cs' (d5P m e st).1→Q c a b sg0 (d5P m e st).2 sg'→sg'[i2]?=some (false,zC)→sg'[i3]?=some (false,cs')→b8Y fr' [(2,.lp i2 0),(3,.lp i3 0)]→OwK ow ow'→X (.exit 0) ⟨fr',sg',ow'⟩) →
  Xl F gl c7N ⟨fr,sg,ow⟩ X ⟨⟩:=by
 intro m
 induction m with
 |zero=>intro _ e cs st sg ow fr _ hw _ _ _ _ hf;have:=hw.len;omega
 |succ m ih =>
  intro hall e cs st sg ow fr hcs hw hln hq z2 z3 hf hfr k
  simp only[b9A,b8Z] at hfr
  obtain⟨f0,f2,f3,-⟩:=hfr
  refine Xl.step ?_
  simp only[c7N]
  simp only[wA,seval,reduceCtorEq,reduceIte,f0,f2,f3]
  refine CallE.mono (e6R hq.cell hw.ne [91]) fun v sg1 ow1 h=>?_
  obtain⟨e1,q1,o1⟩:=h
  subst e1 o1
  unfold d5G at q1
  have z2b:=q1.fr.get z2 (by omega)
  have z3b:=q1.fr.get z3 (by omega)
  cases ha:atM [91] st with
  |false =>
   rw[ha] at q1
   simp only[h0T,if_false] at q1
   have hB:d5P (m+1) e st=(e,st):=by rw[d5P,if_neg (by rw[ha];simp)]
   rw[hB] at k
   simp only[wA,seval,reduceCtorEq,reduceIte,f0,f2,f3]
   exact k _ _ _ cs hcs (hq.trans q1) z2b z3b (by simp only[wQ,Nat.reduceEqDiff,reduceIte,f2,f3]) OwK.refl
  |true =>
   rw[ha] at q1
   simp only[reduceIte] at q1
   have q0:Q c a b sg0 (d5F st) sg1:=hq.trans q1
   have l1:=d6N hw (d6M ha)
   have s1:=d6L hw
   have hp1:Pre c a b (d5F st) sg1:=⟨q1.cell,s1.wf hw,by omega⟩
   have hcall:=(hall m (by omega)).ex c a b (d5F st) sg1 ow1 hp1 (by omega)
   have rd:=(d7F m).ex (d5F st) hp1.wf
   have l2:=rd.suf.le
   have hB:d5P (m+1) e st=d5P m (nod 8 [e,(d5M m (d5F st)).1]) (d5H [93] (d5M m (d5F st)).2):=by rw[d5P,if_pos ha]
   rw[hB] at k
   rcases hcs with rfl|⟨kk,hnl,rfl⟩
   all_goals
    first|have hax:=Xk.al hnl.1|have hax:=@c2X
    simp only[wA,seval,reduceCtorEq,reduceIte,f0,f2,f3,z3b,a1I,hax]
    refine CallE.mono hcall fun v2 sg2 ow2 h2=>?_
    obtain⟨hv2,q2,o2⟩:=h2
    have hp2:=hp1.next q2 rd.suf
    have z2c:=q2.fr.get z2b (by omega)
    have z3c:=q2.fr.get z3b (by omega)
    have gs3:=fun y=>d4P (y:=y) z3c
    have gn:=fun y=>e7E (sg:=sg2) (show i3≠i2 by omega) y
    first|have hb:=e7B (e:=e) (v:=.agg (eK e kk)) (.inr ⟨kk,hnl,rfl⟩) hv2|have hb:=e7B (e:=e) (.inl rfl) hv2
    have gc:=fun y=>e7E (sg:=sg2) (show i3≠c by omega) y
    simp only[wA,seval,reduceCtorEq,reduceIte,f0,f2,f3,d5B,d5A,d4Z,d4Y,z3b,z3c,hb,nd,gs3]
    refine CallE.mono (e6S (st:=(d5M m (d5F st)).2) (a:=a) (b:=b) (by rw[gc];exact q2.cell) hp2.ne (by omega) [93]) fun v3 sg3 ow3 h3=>?_
    obtain⟨e3,q3,o3⟩:=h3
    subst e3 o3
    have s3:=d6O hp2.wf [93]
    have l3:=s3.le
    have z2d:=q3.fr.get (i:=i2) ((gn _).trans z2c) (by omega)
    have z3d:=q3.fr.get (i:=i3) (gs3 _) (by omega)
    simp only[wA,seval,reduceCtorEq,reduceIte,f0,f2,f3]
    refine ih (fun k hk=>hall k (by omega)) (nod 8 [e,(d5M m (d5F st)).1]) _ (d5H [93] (d5M m (d5F st)).2) sg3 _ _ (.inl rfl) (s3.wf hp2.wf) (by omega) ⟨q3.cell,((q0.trans q2).hi h3 (by omega) _).fr.trans q3.fr⟩ z2d z3d (by omega) ?_ ?_
    ·simp only[wQ,Nat.reduceEqDiff,reduceIte,f0,f2,f3]
    intro fr' sg' ow' cs' a1 a2 a3 a4 a5 a6
    exact k fr' sg' ow' cs' a1 a2 a3 a4 a5 (o2.trans a6)
set_option maxHeartbeats 1000000 in
theorem e7K {n:Nat} (hall:∀ k,k≤n→CAll gl k) {c:Nat} {a b:Int} {st:Ps} {sg:Sg} {ow:Ow} (hp:Pre c a b st sg) (hf:12 * st.ts.length+4≤n+1):CallE F gl 89 [.lp c 0] sg ow (EvR c a b sg ow (unM (n+1) st)):=by
 refine XcE.of F89 rfl ?_
 simp only[c7O]
 have hcl:=hp.lt
 have hp1:=hp.app [(false,zC)]
 have hn:=hall n (h3V _)
 simp only[wA,seval,reduceCtorEq,reduceIte]
 refine CallE.mono (e6R hp1.cell hp.ne [45]) fun v sg1 ow1 h=>?_
 obtain⟨e1,q1,o1⟩:=h
 subst e1 o1
 unfold d5G at q1
 have z2:=q1.fr.get (i:=sg.length) e7D (by omega)
 cases ha:atM [45] st with
 |true =>
  rw[ha] at q1
  simp only[reduceIte] at q1
  have l1:=d6N hp.wf (d6M ha)
  have hp2:=hp1.next q1 (d6L hp.wf)
  have hB:unM (n+1) st=(nod 9 [(unM n (d5F st)).1],(unM n (d5F st)).2):=by rw[unM,if_pos ha]
  rw[hB]
  simp only[wA,seval,reduceCtorEq,reduceIte]
  refine CallE.mono (hn.un c a b _ sg1 ow1 hp2 (by omega)) fun v2 sg2 ow2 h2=>?_
  obtain⟨hv2,q2,o2⟩:=h2
  have z2b:=q2.fr.get z2 (by omega)
  have gs:=fun y=>d4P (y:=y) z2b
  have hb:=e7A hv2
  simp only[wA,seval,reduceCtorEq,reduceIte,hb,nd,z2b,gs]
  exact⟨.inl rfl,((q1.from).trans q2).hi (h3V _) (by omega) _,o2⟩
 |false =>
  rw[ha] at q1
  simp only[h0T,if_false] at q1
  have hp2:=hp1.next q1 (Suf.refl hp.wf)
  simp only[wA,seval,reduceCtorEq,reduceIte]
  refine CallE.mono (e6R hp2.cell hp.ne [110,111,116]) fun v sg2 ow2 h=>?_
  obtain⟨e2,q2,o2⟩:=h
  subst e2 o2
  unfold d5G at q2
  have z2b:=q2.fr.get z2 (by omega)
  cases ha2:atM [110,111,116] st with
  |true =>
   rw[ha2] at q2
   simp only[reduceIte] at q2
   have l1:=d6N hp.wf (d6M ha2)
   have hp3:=hp2.next q2 (d6L hp.wf)
   have hB:unM (n+1) st=(nod 10 [(unM n (d5F st)).1],(unM n (d5F st)).2):=by rw[unM,if_neg (by rw[ha];simp),if_pos ha2]
   rw[hB]
   simp only[wA,seval,reduceCtorEq,reduceIte]
   refine CallE.mono (hn.un c a b _ sg2 _ hp3 (by omega)) fun v2 sg3 ow3 h2=>?_
   obtain⟨hv2,q3,o3⟩:=h2
   have z2c:=q3.fr.get z2b (by omega)
   have gs:=fun y=>d4P (y:=y) z2c
   have hb:=e7A hv2
   simp only[wA,seval,reduceCtorEq,reduceIte,hb,nd,z2c,gs]
   exact⟨.inl rfl,(((q1.from).trans q2).trans q3).hi (h3V _) (by omega) _,o3⟩
  |false =>
   rw[ha2] at q2
   simp only[h0T,if_false] at q2
   have hp3:=hp2.next q2 (Suf.refl hp.wf)
   have hB:unM (n+1) st=d5P n (d5Q n st).1 (d5Q n st).2:=by rw[unM,if_neg (by rw[ha];simp),if_neg (by rw[ha2];simp)]
   rw[hB]
   simp only[wA,seval,reduceCtorEq,reduceIte]
   refine CallE.mono (hn.pr c a b st sg2 _ hp3 (by omega)) fun v2 sg3 ow3 h2=>?_
   obtain⟨hv2,q3,o3⟩:=h2
   have rd:=(d7F n).pr st hp.wf
   have l3:=rd.suf.le
   have z2c:=q3.fr.get z2b (by omega)
   have g3:=q3.fr.1
   have q03:Q c a b sg (d5Q n st).2 sg3:=((q1.from).trans q2).trans q3
   have g03:=q2.fr.1
   have g02:=q1.fr.1
   simp only[h2L,h2M,h2P,h4C] at g02
   rcases hv2 with rfl|⟨k,hnl,rfl⟩
   all_goals
    first|have hax:=Xk.al hnl.1|have hax:=@c2X
    simp only[wA,seval,reduceCtorEq,reduceIte,hax]
    refine e7J (i2:=sg.length) (i3:=sg3.length) (sg0:=sg) (a:=a) (b:=b) (c:=c) hcl (h3V _) (by omega) (by omega) _ n (fun k hk=>hall k (by omega)) (d5Q n st).1 _ (d5Q n st).2 _ ow3 _ ?_ (rd.suf.wf hp.wf) (by have:=hp.ln;omega) (q03.more _) (by rw[d4V (by omega)];exact z2c) e7D (by omega) ?_ ?_
    ·first|exact .inr ⟨k,hnl,rfl⟩|exact .inl rfl
    ·simp only[wQ,Nat.reduceEqDiff,reduceIte]
    ·intro fr' sg' ow' cs' a1 a2 a3 a4 a5 a6
     simp only[b9A,b8Z] at a5
     obtain⟨f2,f3,-⟩:=a5
     have gs:=fun y=>d4P (y:=y) a3
     rcases a1 with rfl|⟨j,hj,rfl⟩
     ·simp only[wA,seval,reduceCtorEq,reduceIte,a3,a4,f2,f3,gs]
      exact⟨.inl rfl,a2.hi (h3V _) (by omega) _,o3.trans a6⟩
     ·have hax:=Xk.al hj.1
      simp only[wA,seval,reduceCtorEq,reduceIte,a3,a4,f2,f3,gs,hax]
      exact⟨.inr ⟨j,hj,rfl⟩,a2.hi (h3V _) (by omega) _,o3.trans a6⟩
end Go.Proofs.YtcbgiabippcpaaaGreatDoor

/- The parser: lists of expressions, arguments. -/
namespace Go.Proofs.YtcbgiabippcpaaaGreatDoor
open Go.Pi Go.Lx Go.Ky
variable {gl:Nat→Option (List T)}
theorem Lv.keep {k0:Nat} {v:PV} {ow ow':Ow} {l:List Exp} (h:Lv k0 v ow l) (ho:OwK ow ow'):Lv k0 v ow' l:=by
 rcases h with rfl|⟨k,rfl,hk,hl⟩
 ·exact .inl rfl
 ·exact .inr ⟨k,rfl,by rw[ho.2 k (h2C.1 hk).1];exact hk,hl⟩
theorem e7L (l:List Exp):(d2K l).all (fun x=>x.length == 4)=true:=by
 rw[d2L,List.all_map,h1F]
 intro e _
 simp only[Function.comp_apply,d2M]
 rfl
theorem e7M (l:List Exp) (e:Exp):d2K (l++[e])=d2K l++[tEx e]:=by
 rw[d2L,d2L,h2T];rfl
theorem e7N {n:Nat} (h:n≤1000000):a0N n 56=true:=by
 unfold a0N
 exact h4R ⟨by omega,by omega⟩
theorem e7O {k0:Nat} {v:PV} {ow:Ow} {l:List Exp} (h:Lv k0 v ow l) (hk:k0≤ow.length) (hl:l.length < 1000000) (sg:Sg) (e:Exp):∃ x,a0V false sg ow 4 56 v (.lit (d2K [e]))=some x∧Lv k0 x.1 x.2 (l++[e])∧ow.length≤x.2.length∧∀ j,j < k0→x.2[j]?=ow[j]?:=by
 have e1:d2K [e]=[tEx e]:=by rw[d2K,d2K]
 have e2:a0L sg 4 (.lit (d2K [e]))=some [tEx e]:=by rw[e1];rfl
 have e3:([tEx e].all (fun x=>x.length == 4))=true:=by rw[←e1];exact e7L [e]
 rcases h with rfl|⟨k,rfl,hkk,hl0⟩
 ·refine⟨(.own ow.length 4 (d2K l++[tEx e]),ow++[(d2K l).length+1]),?_,?_,?_,?_⟩
  ·have r:a0N ((d2K l).length+[tEx e].length) 56=true:=e7N (by rw[d2N];simp only[h2M,h2P];omega)
   simp only[a0V,e2,e3,e7L,r,h4E,h4N,if_true]
   rfl
  ·refine .inr ⟨ow.length,by rw[e7M],?_,hk⟩
   rw[h1Y,d2N,h2L];rfl
  ·simp only[h2L];omega
  ·intro j hj
   exact h1W (by omega)
 ·refine⟨(.own k 4 (d2K l++[tEx e]),ow.set k ((d2K l).length+1)),?_,?_,?_,?_⟩
  ·have r:a0N ((d2K l).length+[tEx e].length) 56=true:=e7N (by rw[d2N];simp only[h2M,h2P];omega)
   have hk2:ow[k]?=some (d2K l).length:=by rw[d2N];exact hkk
   simp only[a0V,e2,e3,hk2,r,h4E,h4N,if_true]
   rfl
  ·refine .inr ⟨k,by rw[e7M],?_,hl0⟩
   show(ow.set k ((d2K l).length+1))[k]?=_
   rw[h2H (h2C.1 hkk).1,d2N,h2L];rfl
  ·simp only[h2Q];omega
  ·intro j hj
   exact h2G (by omega)
set_option maxHeartbeats 2000000 in
theorem e7P {c:Nat} {a b:Int} {sg0:Sg} {ow0:Ow} (hc0:c < sg0.length) (X:Ex→S→Prop) :
  ∀ (m:Nat),(∀ k,k < m→CAll gl k)→∀ (l:List Exp) (v:PV) (st:Ps) (sg:Sg) (ow:Ow) (fr:List PV),Lv ow0.length v ow l→l≠[]→OwK ow0 ow→WfT st.ts→st.ts.length≤100000→l.length+st.ts.length≤200000→Q c a b sg0 st sg→12 * st.ts.length+11≤m →
  b8Y fr [(0,.lp c 0),(3,v)] →
  (∀ fr' sg' ow' v',Lv ow0.length v' ow' (d5U m l st).1→(d5U m l st).1≠[]→Q c a b sg0 (d5U m l st).2 sg'→a0A fr' 3=v'→OwK ow0 ow'→X (.exit 0) ⟨fr',sg',ow'⟩) →
  Xl F gl c9B ⟨fr,sg,ow⟩ X ⟨⟩:=by
 intro m
 induction m with
 |zero=>intro _ l v st sg ow fr _ _ _ hw _ _ _ hf;have:=hw.len;omega
 |succ m ih =>
  intro hall l v st sg ow fr hv hl ho hw hln hll hq hf hfr k
  simp only[b9A,b8Z] at hfr
  obtain⟨f0,f3,-⟩:=hfr
  refine Xl.step ?_
  simp only[c9B]
  simp only[wA,seval,reduceCtorEq,reduceIte,f0,f3]
  refine CallE.mono (e6R hq.cell hw.ne [44]) fun w sg1 ow1 h=>?_
  obtain⟨e1,q1,o1⟩:=h
  subst e1 o1
  unfold d5G at q1
  cases ha:atM [44] st with
  |false =>
   rw[ha] at q1
   simp only[h0T,if_false] at q1
   have hB:d5U (m+1) l st=(l,st):=by rw[d5U,if_neg (by rw[ha];simp)]
   rw[hB] at k
   simp only[wA,seval,reduceCtorEq,reduceIte,f0,f3]
   refine k _ _ _ v hv hl (hq.trans q1) ?_ ho
   simp only[wQ,Nat.reduceEqDiff,reduceIte,f3]
  |true =>
   rw[ha] at q1
   simp only[reduceIte] at q1
   have q0:Q c a b sg0 (d5F st) sg1:=hq.trans q1
   have l1:=d6N hw (d6M ha)
   have s1:=d6L hw
   have hp1:Pre c a b (d5F st) sg1:=⟨q1.cell,s1.wf hw,by omega⟩
   have hcall:=(hall m (by omega)).ex c a b (d5F st) sg1 ow1 hp1 (by omega)
   have rd:=(d7F m).ex (d5F st) hp1.wf
   have l2:=rd.suf.le
   have hB:d5U (m+1) l st=d5U m (l++[(d5M m (d5F st)).1]) (d5M m (d5F st)).2:=by rw[d5U,if_pos ha]
   rw[hB] at k
   simp only[wA,seval,reduceCtorEq,reduceIte,f0,f3]
   refine CallE.mono hcall fun v2 sg2 ow2 h2=>?_
   obtain⟨hv2,q2,o2⟩:=h2
   have hb:=e7A hv2
   obtain⟨x,hx,hx1,hx2,hx3⟩:=e7O (hv.keep o2) (h3W ho.1 o2.1) (by omega) sg2 (d5M m (d5F st)).1
   simp only[wA,seval,reduceCtorEq,reduceIte,f0,f3,hb,hx]
   refine ih (fun k hk=>hall k (by omega)) (l++[(d5M m (d5F st)).1]) x.1 (d5M m (d5F st)).2 sg2 x.2 _ hx1 (by simp) ?_ (rd.suf.wf hp1.wf) (by omega) (by simp only[h2L,h2M,h2P];omega) (q0.trans q2) (by omega) ?_ ?_
   ·have h3:=ho.trans o2
    exact⟨h3W h3.1 hx2,fun j hj=>by rw[hx3 j hj,h3.2 j hj]⟩
   ·simp only[wQ,Nat.reduceEqDiff,reduceIte,f0,f3]
   ·intro fr' sg' ow' v' a1 a2 a3 a4 a5
    exact k fr' sg' ow' v' a1 a2 a3 a4 a5
set_option maxHeartbeats 1000000 in
theorem e7Q {n:Nat} (hall:∀ k,k≤n→CAll gl k) {c:Nat} {a b:Int} {st:Ps} {sg:Sg} {ow:Ow} (hp:Pre c a b st sg) (hf:12 * st.ts.length+12≤n+1):CallE F gl 128 [.lp c 0] sg ow fun v sg' ow'=>Lv ow.length v ow' (d5T (n+1) st).1∧(d5T (n+1) st).1≠[]∧Q c a b sg (d5T (n+1) st).2 sg'∧OwK ow ow':=by
 refine XcE.of F128 rfl ?_
 simp only[c9C]
 have hcl:=hp.lt
 have hB:d5T (n+1) st=d5U n [(d5M n st).1] (d5M n st).2:=by rw[d5T]
 rw[hB]
 simp only[wA,seval,reduceCtorEq,reduceIte]
 refine CallE.mono ((hall n (h3V _)).ex c a b st _ ow hp (by omega)) fun v sg1 ow1 h=>?_
 obtain⟨hv,hq,ho⟩:=h
 have rd1:=(d7F n).ex st hp.wf
 have l1:=rd1.suf.le
 have hb:=e7A hv
 have hln:=hp.ln
 simp only[wA,seval,reduceCtorEq,reduceIte,hb]
 refine e7P (sg0:=sg) (a:=a) (b:=b) (c:=c) (ow0:=ow) hcl _ n (fun k hk=>hall k (by omega)) [(d5M n st).1] _ (d5M n st).2 _ ow1 _ (.inl rfl) (by simp) ho (rd1.suf.wf hp.wf) (by omega) (by simp only[h2M,h2P];omega) hq (by omega) ?_ ?_
 ·simp only[wQ,Nat.reduceEqDiff,reduceIte]
 ·intro fr' sg' ow' v' a1 a2 a3 a4 a5
  simp only[wA,seval,reduceCtorEq,reduceIte,a4]
  exact⟨a1,a2,a3,a5⟩
set_option maxHeartbeats 1000000 in
theorem e7R {n:Nat} (hn:CAll gl n) {c:Nat} {a b:Int} {st:Ps} {sg:Sg} {ow:Ow} (hp:Pre c a b st sg) (hf:12 * st.ts.length+13≤n+1):CallE F gl 126 [.lp c 0] sg ow fun v sg' ow'=>((v=.t (.sl true [])∧(d5R (n+1) st).1=[])∨((v=.lit (d2K (d5R (n+1) st).1)∨∃ k,v=.own k 4 (d2K (d5R (n+1) st).1))∧(d5R (n+1) st).1≠[]))∧Q c a b sg (d5R (n+1) st).2 sg'∧OwK ow ow':=by
 refine XcE.of F126 rfl ?_
 simp only[c8Z]
 have hcl:=hp.lt
 simp only[wA,seval,reduceCtorEq,reduceIte]
 refine CallE.mono (e6R hp.cell hp.ne [41]) fun v sg1 ow1 h=>?_
 obtain⟨e1,q1,o1⟩:=h
 subst e1 o1
 unfold d5G at q1
 cases ha:atM [41] st with
 |true =>
  rw[ha] at q1
  simp only[reduceIte] at q1
  have hB:d5R (n+1) st=([],d5F st):=by rw[d5R,if_pos ha]
  rw[hB]
  simp only[wA,seval,reduceCtorEq,reduceIte]
  exact⟨.inl (by simp),q1,OwK.refl⟩
 |false =>
  rw[ha] at q1
  simp only[h0T,if_false] at q1
  have hB:d5R (n+1) st=((d5T n st).1,d5H [41] (d5T n st).2):=by rw[d5R,if_neg (by rw[ha];simp)]
  rw[hB]
  have hp2:=hp.next q1 (Suf.refl hp.wf)
  simp only[wA,seval,reduceCtorEq,reduceIte]
  refine CallE.mono (hn.li c a b st sg1 _ hp2 (by omega)) fun v2 sg2 ow2 h2=>?_
  obtain⟨hv2,hne2,q2,o2⟩:=h2
  have rd:=(d7F n).li st hp.wf
  have l2:=rd.suf.le
  have hp3:=hp2.next q2 rd.suf
  have hln:=hp.ln
  simp only[wA,seval,reduceCtorEq,reduceIte]
  refine CallE.mono (e6S hp3.cell hp3.ne (by omega) [41]) fun v3 sg3 ow3 h3=>?_
  obtain⟨e3,q3,o3⟩:=h3
  subst e3 o3
  simp only[wA,seval,reduceCtorEq,reduceIte]
  refine⟨.inr ⟨?_,hne2⟩,(q1.trans q2).trans q3,o2⟩
  rcases hv2 with rfl|⟨k,rfl,-,-⟩
  ·exact .inl rfl
  ·exact .inr ⟨k,rfl⟩
end Go.Proofs.YtcbgiabippcpaaaGreatDoor

/- The parser: hashes. -/
namespace Go.Proofs.YtcbgiabippcpaaaGreatDoor
open Go.Pi Go.Lx Go.Ky
variable {gl:Nat→Option (List T)}
theorem e7S {c:Nat} {a b:Int} {st:Ps} {sg:Sg} {ow:Ow} (hp:Pre c a b st sg) (e:Int):CallE F gl 61 [.lp c 0,.t (.int .i64 e)] sg ow fun v sg' ow'=>v=.tup []∧Q c a b sg (d5E e st) sg'∧ow'=ow :=
 (e6P hp.cell hp.ne (by have:=hp.ln;omega) e).2 ⟨rfl,Q.set hp.lt,rfl⟩
theorem e7T {l:List Exp} (h:l≠[]):l.isEmpty=false:=by cases l with
 |nil=>exact absurd rfl h
 |cons x r=>rfl
set_option maxHeartbeats 2000000 in
theorem e7U {n:Nat} (hn:CAll gl n) {c:Nat} {a b:Int} {st:Ps} {sg:Sg} {ow:Ow} (hp:Pre c a b st sg) (hf:12 * st.ts.length+13≤n+1):CallE F gl 127 [.lp c 0] sg ow (EvR c a b sg ow (d5S (n+1) st)):=by
 refine XcE.of F127 rfl ?_
 simp only[c9A]
 have hcl:=hp.lt
 have hp1:=hp.app [(false,zC)]
 have hln:=hp.ln
 simp only[wA,seval,reduceCtorEq,reduceIte]
 refine CallE.mono (e6S hp1.cell hp1.ne (by omega) [40]) fun v sg1 ow1 h=>?_
 obtain⟨e1,q1,o1⟩:=h
 subst e1 o1
 have s1:=d6O hp.wf [40]
 have l1:=s1.le
 have hp2:=hp1.next q1 s1
 have z2:=q1.fr.get (i:=sg.length) e7D (by omega)
 have g1:=q1.fr.1
 simp only[h2L,h2M,h2P,h4C] at g1
 have q01:=q1.from
 obtain⟨r,hr⟩:=e6T hp2.ne
 have hc1:=hp2.cell
 simp only[psC,hr,h2U] at hc1
 by_cases hk:(d5H [40] st).hd.kind=3
 ·have hk':(((d5H [40] st).hd.kind:Int)=3)=True:=h4V (by omega)
  have l2:=d6N hp2.wf (by omega)
  have s2:=d6L hp2.wf
  have hB:d5S (n+1) st=(.mk 6 (d5H [40] st).hd.val [] (d5T n (d5H [59] (d5F (d5H [40] st)))).1.isEmpty (d5T n (d5H [59] (d5F (d5H [40] st)))).1,d5H [41] (d5T n (d5H [59] (d5F (d5H [40] st)))).2):=by rw[d5S,if_neg (fun h=>h hk)]
  rw[hB]
  simp only[wA,seval,reduceCtorEq,reduceIte,hc1,e5T,hk']
  refine CallE.mono (e6Q (hp2.app _).cell hp2.ne) fun v2 sg2 ow2 h2=>?_
  obtain⟨e2,q2,o2⟩:=h2
  subst e2 o2
  have z3:=q2.fr.get (i:=sg1.length) e7D (by omega)
  have z2b:=q2.fr.get (i:=sg.length) (by rw[d4V (by omega)];exact z2) (by omega)
  have hp3:=hp2.next q2 s2
  have g2:=q2.fr.1
  simp only[h2L,h2M,h2P,h4C] at g2
  have q02:=q01.trans q2.from
  simp only[wA,seval,reduceCtorEq,reduceIte]
  refine CallE.mono (e6S hp3.cell hp3.ne (by omega) [59]) fun v3 sg3 ow3 h3=>?_
  obtain⟨e3,q3,o3⟩:=h3
  subst e3 o3
  have s3:=d6O hp3.wf [59]
  have l3:=s3.le
  have z3b:=q3.fr.get z3 (by omega)
  have z2c:=q3.fr.get z2b (by omega)
  have hp4:=hp3.next q3 s3
  have g3:=q3.fr.1
  simp only[wA,seval,reduceCtorEq,reduceIte]
  refine CallE.mono (hn.li c a b _ sg3 _ hp4 (by omega)) fun v4 sg4 ow4 h4=>?_
  obtain⟨hv4,hne4,q4,o4⟩:=h4
  have rd:=(d7F n).li _ hp4.wf
  have l4:=rd.suf.le
  have z3c:=q4.fr.get z3b (by omega)
  have z2d:=q4.fr.get z2c (by omega)
  have hp5:=hp4.next q4 rd.suf
  have g4:=q4.fr.1
  have gz3:=fun z=>(d4V (d4Q z3c) z).trans z3c
  rw[e7T hne4]
  rcases hv4 with rfl|⟨k,rfl,-,-⟩
  all_goals
   simp only[wA,seval,reduceCtorEq,reduceIte,nd,gz3,z3c,d4V (d4Q z3c)]
   refine CallE.mono (e6S (hp5.app _).cell hp5.ne (by omega) [41]) fun v5 sg5 ow5 h5=>?_
   obtain⟨e5,q5,o5⟩:=h5
   subst e5 o5
   have z4:=q5.fr.get (i:=sg4.length) e7D (by omega)
   have z2e:=q5.fr.get (i:=sg.length) (by rw[d4V (by omega)];exact z2d) (by omega)
   have gs:=fun y=>d4P (y:=y) z2e
   simp only[wA,seval,reduceCtorEq,reduceIte,z4,z2e,gs]
   refine⟨.inl rfl,?_,o4⟩
   exact(((q02.trans q3).trans q4).trans q5.from).hi (h3V _) (by omega) _
 ·have hk':(((d5H [40] st).hd.kind:Int)=3)=False:=h4U (by omega)
  have hB:d5S (n+1) st=(zEx,d5E 2 (d5H [40] st)):=by rw[d5S,if_pos hk]
  rw[hB]
  simp only[wA,seval,reduceCtorEq,reduceIte,hc1,e5T,hk']
  refine CallE.mono (e7S (hp2.app _) 2) fun v2 sg2 ow2 h2=>?_
  obtain⟨e2,q2,o2⟩:=h2
  subst e2 o2
  have z2b:=q2.fr.get (i:=sg.length) (by rw[d4V (by omega)];exact z2) (by omega)
  have gs:=fun y=>d4P (y:=y) z2b
  simp only[wA,seval,reduceCtorEq,reduceIte,z2b,gs]
  refine⟨.inl rfl,?_,OwK.refl⟩
  exact(q01.trans q2.from).hi (h3V _) (by omega) _
end Go.Proofs.YtcbgiabippcpaaaGreatDoor

/- The parser: primary expressions. -/
namespace Go.Proofs.YtcbgiabippcpaaaGreatDoor
open Go.Pi Go.Lx Go.Ky
variable {gl:Nat→Option (List T)}
theorem e7V {sg:Sg} {x y:Bool×List PV}:(sg++[x,y])[sg.length]?=some x:=by simp
theorem e7W {sg:Sg} {x y:Bool×List PV}:(sg++[x,y])[sg.length+1]?=some y:=by simp
theorem nd0 (op:Int) {K:PV→Prop}:XcP F gl 66 [.int .i64 op,.sl true []] K ⟨⟩↔K (.t (.agg [.int .i64 op,.int .u64 0,.str [],.sl true []])):=by
 have h:=nd (gl:=gl) op true [] (K:=K)
 rw[d2K] at h
 exact h
set_option maxHeartbeats 4000000 in
theorem e7X {n:Nat} (hn:CAll gl n) {c:Nat} {a b:Int} {st:Ps} {sg:Sg} {ow:Ow} (hp:Pre c a b st sg) (hf:12 * st.ts.length+3≤n+1):CallE F gl 116 [.lp c 0] sg ow (EvR c a b sg ow (d5Q (n+1) st)):=by
 refine XcE.of F116 rfl ?_
 simp only[c8R]
 have hcl:=hp.lt
 have hp1:=hp.app [(false,zC)]
 have hln:=hp.ln
 obtain⟨r,hr⟩:=e6T hp.ne
 have hc1:=hp1.cell
 simp only[psC,hr,h2U] at hc1
 by_cases hk:st.hd.kind=3
 ·have hk':((st.hd.kind:Int)=3)=True:=h4V (by omega)
  have hB:d5Q (n+1) st=(.mk 1 st.hd.val [] true [],d5F st):=by rw[d5Q,if_pos hk]
  rw[hB]
  simp only[wA,seval,reduceCtorEq,reduceIte,hc1,e5T,hk']
  refine CallE.mono (e6Q (hp.app _).cell hp.ne) fun v1 sg1 ow1 h1=>?_
  obtain⟨e1,q1,o1⟩:=h1
  subst e1 o1
  have z2:=q1.fr.get (i:=sg.length) e7V (by omega)
  have z3:=q1.fr.get (i:=sg.length+1) e7W (by omega)
  have gs:=fun y=>d4P (y:=y) z2
  simp only[wA,seval,reduceCtorEq,reduceIte,z2,z3,gs]
  exact⟨.inl rfl,q1.from.hi (h3V _) (by omega) _,OwK.refl⟩
 have hk':((st.hd.kind:Int)=3)=False:=h4U (by omega)
 by_cases hi:st.hd.kind=1
 ·have hi':((st.hd.kind:Int)=1)=True:=h4V (by omega)
  have hB:d5Q (n+1) st=if atM [40] (d5F st) then (.mk 5 0 st.hd.text (d5R n (d5F (d5F st))).1.isEmpty (d5R n (d5F (d5F st))).1,(d5R n (d5F (d5F st))).2) else (.mk 2 0 st.hd.text true [],d5F st):=by rw[d5Q,if_neg hk,if_pos hi]
  rw[hB]
  simp only[wA,seval,reduceCtorEq,reduceIte,hc1,e5T,hk',hi']
  refine CallE.mono (e6Q (hp.app _).cell hp.ne) fun v1 sg1 ow1 h1=>?_
  obtain⟨e1,q1,o1⟩:=h1
  subst e1 o1
  have s1:=d6L hp.wf
  have l1:=d6N hp.wf (by omega)
  have hp2:=hp.next q1 s1
  have z2:=q1.fr.get (i:=sg.length) e7V (by omega)
  have z3:=q1.fr.get (i:=sg.length+1) e7W (by omega)
  simp only[wA,seval,reduceCtorEq,reduceIte]
  refine CallE.mono (e6R hp2.cell hp2.ne [40]) fun v2 sg2 ow2 h2=>?_
  obtain⟨e2,q2,o2⟩:=h2
  subst e2 o2
  unfold d5G at q2
  have z2b:=q2.fr.get z2 (by omega)
  have z3b:=q2.fr.get z3 (by omega)
  cases ha:atM [40] (d5F st) with
  |true =>
   rw[ha] at q2
   simp only[reduceIte] at q2 ⊢
   have hp3:=hp2.next q2 (d6L hp2.wf)
   have l2:=d6N hp2.wf (d6M ha)
   simp only[wA,seval,reduceCtorEq,reduceIte,a1I,z3b]
   refine CallE.mono (hn.ar c a b _ sg2 _ hp3 (by omega)) fun v3 sg3 ow3 h3=>?_
   obtain⟨hv3,q3,o3⟩:=h3
   have z2c:=q3.fr.get z2b (by omega)
   have z3c:=q3.fr.get z3b (by omega)
   have gs:=fun y=>d4P (y:=y) z2c
   have gn:=fun y=>e7E (sg:=sg3) (show sg.length≠sg.length+1 by omega) y
   have q0:=(q1.from.trans q2).trans q3
   rcases hv3 with⟨rfl,hA⟩|⟨rfl|⟨k,rfl⟩,hA⟩
   ·simp only[wA,seval,reduceCtorEq,reduceIte,d5B,d5A,d4Z,d4Y,z3b,z3c,z2c,gs,gn]
    refine⟨?_,q0.hi (h3V _) (by omega) _,o3⟩
    rw[hA]
    exact .inl rfl
   ·simp only[wA,seval,reduceCtorEq,reduceIte,d5B,d5A,d4Z,d4Y,z3b,z3c,z2c,gs,gn]
    exact⟨.inr ⟨_,⟨.inl rfl,e7T hA⟩,rfl⟩,q0.hi (h3V _) (by omega) _,o3⟩
   ·simp only[wA,seval,reduceCtorEq,reduceIte,d5B,d5A,d4Z,d4Y,z3b,z3c,z2c,gs,gn]
    exact⟨.inr ⟨_,⟨.inr ⟨k,rfl⟩,e7T hA⟩,rfl⟩,q0.hi (h3V _) (by omega) _,o3⟩
  |false =>
   rw[ha] at q2
   simp only[h0T,if_false] at q2 ⊢
   have gs:=fun y=>d4P (y:=y) z2b
   simp only[wA,seval,reduceCtorEq,reduceIte,z3b,z2b,gs]
   exact⟨.inl rfl,(q1.from.trans q2).hi (h3V _) (by omega) _,OwK.refl⟩
 have hi':((st.hd.kind:Int)=1)=False:=h4U (by omega)
 simp only[wA,seval,reduceCtorEq,reduceIte,hc1,e5T,hk',hi']
 refine CallE.mono (e6R (hp.app _).cell hp.ne [116,114,117,101]) fun v1 sg1 ow1 h1=>?_
 obtain⟨e1,q1,o1⟩:=h1
 subst e1 o1
 unfold d5G at q1
 have z2:=q1.fr.get (i:=sg.length) e7V (by omega)
 cases h1:atM [116,114,117,101] st with
 |true =>
  rw[h1] at q1
  simp only[reduceIte] at q1
  have hB:d5Q (n+1) st=(nod 3 [],d5F st):=by rw[d5Q,if_neg hk,if_neg hi,if_pos h1]
  rw[hB]
  have gs:=fun y=>d4P (y:=y) z2
  simp only[wA,seval,reduceCtorEq,reduceIte,nd0,z2,gs]
  exact⟨.inl rfl,q1.from.hi (h3V _) (by omega) _,OwK.refl⟩
 |false =>
 rw[h1] at q1
 simp only[h0T,if_false] at q1
 simp only[wA,seval,reduceCtorEq,reduceIte]
 refine CallE.mono (e6R q1.cell hp.ne [102,97,108,115,101]) fun v2 sg2 ow2 h2=>?_
 obtain⟨e2,q2,o2⟩:=h2
 subst e2 o2
 unfold d5G at q2
 have z2b:=q2.fr.get z2 (by omega)
 cases h2:atM [102,97,108,115,101] st with
 |true =>
  rw[h2] at q2
  simp only[reduceIte] at q2
  have hB:d5Q (n+1) st=(nod 4 [],d5F st):=by rw[d5Q,if_neg hk,if_neg hi,if_neg (by rw[h1];simp),if_pos h2]
  rw[hB]
  have gs:=fun y=>d4P (y:=y) z2b
  simp only[wA,seval,reduceCtorEq,reduceIte,nd0,z2b,gs]
  exact⟨.inl rfl,(q1.from.trans q2).hi (h3V _) (by omega) _,OwK.refl⟩
 |false =>
 rw[h2] at q2
 simp only[h0T,if_false] at q2
 simp only[wA,seval,reduceCtorEq,reduceIte]
 refine CallE.mono (e6R q2.cell hp.ne [104,97,115,104]) fun v3 sg3 ow3 h3=>?_
 obtain⟨e3,q3,o3⟩:=h3
 subst e3 o3
 unfold d5G at q3
 have z2c:=q3.fr.get z2b (by omega)
 cases h3:atM [104,97,115,104] st with
 |true =>
  rw[h3] at q3
  simp only[reduceIte] at q3
  have hB:d5Q (n+1) st=d5S n (d5F st):=by rw[d5Q,if_neg hk,if_neg hi,if_neg (by rw[h1];simp),if_neg (by rw[h2];simp),if_pos h3]
  rw[hB]
  have hp3:=hp.next q3 (d6L hp.wf)
  have l3:=d6N hp.wf (d6M h3)
  simp only[wA,seval,reduceCtorEq,reduceIte]
  refine CallE.mono (hn.ha c a b _ sg3 _ hp3 (by omega)) fun v4 sg4 ow4 h4=>?_
  obtain⟨hv,q4,o4⟩:=h4
  have z2d:=q4.fr.get z2c (by omega)
  have gs:=fun y=>d4P (y:=y) z2d
  have hv0:=hv
  rcases hv with rfl|⟨k,hnl,rfl⟩
  all_goals
   first|have hax:=Xk.al hnl.1|have hax:=@c2X
   simp only[wA,seval,reduceCtorEq,reduceIte,z2d,gs,hax]
   exact⟨hv0,(((q1.from.trans q2).trans q3).trans q4).hi (h3V _) (by omega) _,o4⟩
 |false =>
 rw[h3] at q3
 simp only[h0T,if_false] at q3
 simp only[wA,seval,reduceCtorEq,reduceIte]
 refine CallE.mono (e6R q3.cell hp.ne [91]) fun v4 sg4 ow4 h4=>?_
 obtain⟨e4,q4,o4⟩:=h4
 subst e4 o4
 unfold d5G at q4
 have z2d:=q4.fr.get z2c (by omega)
 have g1:=q1.fr.1
 have g2:=q2.fr.1
 have g3:=q3.fr.1
 have g4:=q4.fr.1
 simp only[h2L,h2M,h2P,h4C] at g1
 have q03:=(q1.from.trans q2).trans q3
 cases h4:atM [91] st with
 |true =>
  rw[h4] at q4
  simp only[reduceIte] at q4
  have hB:d5Q (n+1) st=(nod 7 (d5T n (d5F st)).1,d5H [93] (d5T n (d5F st)).2):=by rw[d5Q,if_neg hk,if_neg hi,if_neg (by rw[h1];simp),if_neg (by rw[h2];simp),if_neg (by rw[h3];simp),if_pos h4]
  rw[hB]
  have hp4:=hp.next q4 (d6L hp.wf)
  have l4:=d6N hp.wf (d6M h4)
  simp only[wA,seval,reduceCtorEq,reduceIte]
  refine CallE.mono (hn.li c a b _ sg4 _ hp4 (by omega)) fun v5 sg5 ow5 h5=>?_
  obtain⟨hv5,hne5,q5,o5⟩:=h5
  have rd:=(d7F n).li _ hp4.wf
  have l5:=rd.suf.le
  have hp5:=hp4.next q5 rd.suf
  have z2e:=q5.fr.get z2d (by omega)
  have g5:=q5.fr.1
  have hN:nod 7 (d5T n (d5F st)).1=.mk 7 0 [] false (d5T n (d5F st)).1:=by unfold nod;rw[e7T hne5]
  rw[hN]
  rcases hv5 with rfl|⟨k,rfl,-,-⟩
  all_goals
   simp only[wA,seval,reduceCtorEq,reduceIte,nd]
   refine CallE.mono (e6S (hp5.app _).cell hp5.ne (by omega) [93]) fun v6 sg6 ow6 h6=>?_
   obtain⟨e6,q6,o6⟩:=h6
   subst e6 o6
   have z4:=q6.fr.get (i:=sg5.length) e7D (by omega)
   have z2f:=q6.fr.get (i:=sg.length) (by rw[d4V (by omega)];exact z2e) (by omega)
   have gs:=fun y=>d4P (y:=y) z2f
   simp only[wA,seval,reduceCtorEq,reduceIte,z4,z2f,gs]
   exact⟨.inl rfl,(((q03.trans q4).trans q5).trans q6.from).hi (h3V _) (by omega) _,o5⟩
 |false =>
 rw[h4] at q4
 simp only[h0T,if_false] at q4
 simp only[wA,seval,reduceCtorEq,reduceIte]
 refine CallE.mono (e6R q4.cell hp.ne [40]) fun v5 sg5 ow5 h5=>?_
 obtain⟨e5,q5,o5⟩:=h5
 subst e5 o5
 unfold d5G at q5
 have z2e:=q5.fr.get z2d (by omega)
 have g5:=q5.fr.1
 have q04:=q03.trans q4
 cases h5:atM [40] st with
 |true =>
  rw[h5] at q5
  simp only[reduceIte] at q5
  have hB:d5Q (n+1) st=((d5M n (d5F st)).1,d5H [41] (d5M n (d5F st)).2):=by rw[d5Q,if_neg hk,if_neg hi,if_neg (by rw[h1];simp),if_neg (by rw[h2];simp),if_neg (by rw[h3];simp),if_neg (by rw[h4];simp),if_pos h5]
  rw[hB]
  have hp5:=hp.next q5 (d6L hp.wf)
  have l5:=d6N hp.wf (d6M h5)
  simp only[wA,seval,reduceCtorEq,reduceIte]
  refine CallE.mono (hn.ex c a b _ sg5 _ hp5 (by omega)) fun v6 sg6 ow6 h6=>?_
  obtain⟨hv6,q6,o6⟩:=h6
  have rd:=(d7F n).ex _ hp5.wf
  have l6:=rd.suf.le
  have hp6:=hp5.next q6 rd.suf
  have z2f:=q6.fr.get z2e (by omega)
  have g6:=q6.fr.1
  have hv0:=hv6
  rcases hv6 with rfl|⟨k,hnl,rfl⟩
  all_goals
   first|have hax:=Xk.al hnl.1|have hax:=@c2X
   simp only[wA,seval,reduceCtorEq,reduceIte,hax]
   refine CallE.mono (e6S (hp6.app _).cell hp6.ne (by omega) [41]) fun v7 sg7 ow7 h7=>?_
   obtain⟨e7,q7,o7⟩:=h7
   subst e7 o7
   have z4:=q7.fr.get (i:=sg6.length) e7D (by omega)
   have z2g:=q7.fr.get (i:=sg.length) (by rw[d4V (by omega)];exact z2f) (by omega)
   have gs:=fun y=>d4P (y:=y) z2g
   simp only[wA,seval,reduceCtorEq,reduceIte,z4,z2g,gs,hax]
   exact⟨hv0,(((q04.trans q5).trans q6).trans q7.from).hi (h3V _) (by omega) _,o6⟩
 |false =>
 rw[h5] at q5
 simp only[h0T,if_false] at q5
 have hB:d5Q (n+1) st=(zEx,d5E 2 st):=by rw[d5Q,if_neg hk,if_neg hi,if_neg (by rw[h1];simp),if_neg (by rw[h2];simp),if_neg (by rw[h3];simp),if_neg (by rw[h4];simp),if_neg (by rw[h5];simp)]
 rw[hB]
 have hp5:=hp.next q5 (Suf.refl hp.wf)
 simp only[wA,seval,reduceCtorEq,reduceIte]
 refine CallE.mono (e7S hp5 2) fun v6 sg6 ow6 h6=>?_
 obtain⟨e6,q6,o6⟩:=h6
 subst e6 o6
 have z2f:=q6.fr.get z2e (by omega)
 have gs:=fun y=>d4P (y:=y) z2f
 simp only[wA,seval,reduceCtorEq,reduceIte,z2f,gs]
 exact⟨.inl rfl,((q04.trans q5).trans q6).hi (h3V _) (by omega) _,OwK.refl⟩
end Go.Proofs.YtcbgiabippcpaaaGreatDoor

/- The parser's expressions: the contracts at every fuel. -/
namespace Go.Proofs.YtcbgiabippcpaaaGreatDoor
open Go.Pi Go.Lx Go.Ky
variable {gl:Nat→Option (List T)}
theorem e7Y:CAll gl 0 where
 ex:=fun c a b st sg ow hp hf=>absurd hf (by omega)
 bi:=fun lv c a b st sg ow hl hp hf=>absurd hf (by omega)
 un:=fun c a b st sg ow hp hf=>absurd hf (by omega)
 pr:=fun c a b st sg ow hp hf=>absurd hf (by omega)
 ha:=fun c a b st sg ow hp hf=>absurd hf (by omega)
 ar:=fun c a b st sg ow hp hf=>absurd hf (by omega)
 li:=fun c a b st sg ow hp hf=>absurd hf (by omega)
theorem e7Z (hg:GlOk gl) {n:Nat} (hall:∀ k,k≤n→CAll gl k):CAll gl (n+1) where
 ex:=fun c a b st sg ow hp hf=>e7F (hall n (h3V _)) hp hf
 bi:=fun lv c a b st sg ow hl hp hf=>e7I hg hall hl hp hf
 un:=fun c a b st sg ow hp hf=>e7K hall hp hf
 pr:=fun c a b st sg ow hp hf=>e7X (hall n (h3V _)) hp hf
 ha:=fun c a b st sg ow hp hf=>e7U (hall n (h3V _)) hp hf
 ar:=fun c a b st sg ow hp hf=>e7R (hall n (h3V _)) hp hf
 li:=fun c a b st sg ow hp hf=>e7Q hall hp hf
theorem e8A (hg:GlOk gl) (n:Nat):∀ k,k≤n→CAll gl k:=by
 induction n with
 |zero =>
  intro k hk
  obtain rfl:k=0:=by omega
  exact e7Y
 |succ n ih =>
  intro k hk
  rcases h3Y k (n+1) with h|h
  ·exact ih k (by omega)
  ·obtain rfl:k=n+1:=by omega
   exact e7Z hg ih
theorem all (hg:GlOk gl) (n:Nat):CAll gl n:=e8A hg n n (h3V _)
end Go.Proofs.YtcbgiabippcpaaaGreatDoor

/- The parser: types. -/
namespace Go.Proofs.YtcbgiabippcpaaaGreatDoor
open Go.Pi Go.Lx Go.Ky
variable {gl:Nat→Option (List T)}
abbrev tTyp (t:Ty):List T:=[.int .i64 t.kind,.int .i64 t.bits,.int .i64 t.len]
set_option maxHeartbeats 4000000 in
theorem e8B {c:Nat} {a b:Int} {st:Ps} {sg:Sg} {ow:Ow} (hp:Pre c a b st sg):CallE F gl 58 [.lp c 0] sg ow fun v sg' ow'=>v=.t (.agg (tTyp (tyM st).1))∧Q c a b sg (tyM st).2 sg'∧ow'=ow:=by
 refine XcE.of F58 rfl ?_
 simp only[c6C]
 have hcl:=hp.lt
 have hln:=hp.ln
 simp only[wA,seval,reduceCtorEq,reduceIte]
 refine CallE.mono (e6R (hp.app _).cell hp.ne [102,105,101,108,100]) fun v1 sg1 ow1 h1=>?_
 obtain⟨e1,q1,o1⟩:=h1
 subst e1 o1
 unfold d5G at q1
 have y2:=q1.fr.get (i:=sg.length) e7V (by omega)
 have y3:=q1.fr.get (i:=sg.length+1) e7W (by omega)
 have g1:=q1.fr.1
 simp only[h2L,h2M,h2P,h4C] at g1
 cases h1:atM [102,105,101,108,100] st with
 |true =>
  rw[h1] at q1
  simp only[reduceIte] at q1
  have gn1:=fun y=>e7E (sg:=sg1) (show sg.length+1≠sg.length by omega) y
  simp only[wA,seval,reduceCtorEq,reduceIte,y3]
  have q:=q1.from.hi (i:=sg.length+1) (by omega) (by omega) (false,[.t (.int .i64 1),.t (.int .i64 0),.t (.int .i64 0)])
  have z2:=(gn1 (false,[.t (.int .i64 1),.t (.int .i64 0),.t (.int .i64 0)])).trans y2
  have z3:=d4P (y:=(false,[.t (.int .i64 1),.t (.int .i64 0),.t (.int .i64 0)])) y3
  have hq:=hp.next q (d6L hp.wf)
  have hT:d5V st=(⟨1,0,0⟩,(d5F st)):=by unfold d5V;rw[if_pos h1]
  refine CallE.mono (e6R q.cell hq.ne [91]) fun vx sgx owx hx=>?_
  obtain⟨ex,qx,ox⟩:=hx
  subst ex ox
  unfold d5G at qx
  have z2x:=qx.fr.get z2 (by omega)
  have z3x:=qx.fr.get z3 (by omega)
  have gx:=qx.fr.1
  have gs:=fun y=>d4P (y:=y) z2x
  cases ha:atM [91] (d5F st) with
  |false =>
   rw[ha] at qx
   simp only[h0T,if_false] at qx
   have hM:tyM st=(⟨1,0,0⟩,(d5F st)):=by unfold tyM;rw[hT,if_neg (by rw[ha];simp)]
   rw[hM]
   simp only[wA,seval,reduceCtorEq,reduceIte,z2x,z3x,gs]
   exact(q.trans qx).hi (h3V _) (by omega) _
  |true =>
   rw[ha] at qx
   simp only[reduceIte] at qx
   have hM:tyM st=(⟨1,0,(d5J 1 64 (d5F (d5F st))).1⟩,d5H [93] (d5J 1 64 (d5F (d5F st))).2):=by unfold tyM;rw[hT,if_pos ha]
   rw[hM]
   have sx:=d6L hq.wf
   have hpx:=hq.next qx sx
   have lx:=sx.le
   have hlx:=hpx.ln
   simp only[wA,seval,reduceCtorEq,reduceIte]
   refine CallE.mono (e6V hpx.cell hpx.ne (by omega) 1 64) fun vy sgy owy hy=>?_
   obtain⟨ey,qy,oy⟩:=hy
   subst ey oy
   have sy:=d6Q hpx.wf 1 64
   have hpy:=hpx.next qy sy
   have ly:=hpy.ln
   have z2y:=qy.fr.get z2x (by omega)
   have z3y:=qy.fr.get z3x (by omega)
   have gy:=qy.fr.1
   have gs3:=fun y=>d4P (y:=y) z3y
   have gn:=fun y=>e7E (sg:=sgy) (show sg.length+1≠sg.length by omega) y
   have gc:=fun y=>e7E (sg:=sgy) (show sg.length+1≠c by omega) y
   simp only[wA,seval,reduceCtorEq,reduceIte,z3y]
   refine CallE.mono (e6S (st:=(d5J 1 64 (d5F (d5F st))).2) (a:=a) (b:=b) (by rw[gc];exact qy.cell) hpy.ne (by omega) [93]) fun vz sgz owz hz=>?_
   obtain⟨ez,qz,oz⟩:=hz
   subst ez oz
   have z2z:=qz.fr.get (i:=sg.length) ((gn _).trans z2y) (by omega)
   have z3z:=qz.fr.get (i:=sg.length+1) (gs3 _) (by omega)
   have gsz:=fun y=>d4P (y:=y) z2z
   simp only[wA,seval,reduceCtorEq,reduceIte,z2z,z3z,gsz]
   exact Q.hi ⟨qz.cell,(((q.trans qx).trans qy).hi (i:=sg.length+1) (by omega) (by omega) _).fr.trans qz.fr⟩ (h3V _) (by omega) _
 |false =>
 rw[h1] at q1
 simp only[h0T,if_false] at q1
 simp only[wA,seval,reduceCtorEq,reduceIte]
 refine CallE.mono (e6R q1.cell hp.ne [98,111,111,108]) fun v2 sg2 ow2 h2=>?_
 obtain⟨e2,q2,o2⟩:=h2
 subst e2 o2
 unfold d5G at q2
 have y2b:=q2.fr.get y2 (by omega)
 have y3b:=q2.fr.get y3 (by omega)
 have g2:=q2.fr.1
 cases h2:atM [98,111,111,108] st with
 |true =>
  rw[h2] at q2
  simp only[reduceIte] at q2
  have gn1:=fun y=>e7E (sg:=sg2) (show sg.length+1≠sg.length by omega) y
  simp only[wA,seval,reduceCtorEq,reduceIte,y3b]
  have q:=(q1.from.trans q2).hi (i:=sg.length+1) (by omega) (by omega) (false,[.t (.int .i64 2),.t (.int .i64 0),.t (.int .i64 0)])
  have z2:=(gn1 (false,[.t (.int .i64 2),.t (.int .i64 0),.t (.int .i64 0)])).trans y2b
  have z3:=d4P (y:=(false,[.t (.int .i64 2),.t (.int .i64 0),.t (.int .i64 0)])) y3b
  have hq:=hp.next q (d6L hp.wf)
  have hT:d5V st=(⟨2,0,0⟩,(d5F st)):=by unfold d5V;rw[if_neg (by rw[h1];simp),if_pos h2]
  refine CallE.mono (e6R q.cell hq.ne [91]) fun vx sgx owx hx=>?_
  obtain⟨ex,qx,ox⟩:=hx
  subst ex ox
  unfold d5G at qx
  have z2x:=qx.fr.get z2 (by omega)
  have z3x:=qx.fr.get z3 (by omega)
  have gx:=qx.fr.1
  have gs:=fun y=>d4P (y:=y) z2x
  cases ha:atM [91] (d5F st) with
  |false =>
   rw[ha] at qx
   simp only[h0T,if_false] at qx
   have hM:tyM st=(⟨2,0,0⟩,(d5F st)):=by unfold tyM;rw[hT,if_neg (by rw[ha];simp)]
   rw[hM]
   simp only[wA,seval,reduceCtorEq,reduceIte,z2x,z3x,gs]
   exact(q.trans qx).hi (h3V _) (by omega) _
  |true =>
   rw[ha] at qx
   simp only[reduceIte] at qx
   have hM:tyM st=(⟨2,0,(d5J 1 64 (d5F (d5F st))).1⟩,d5H [93] (d5J 1 64 (d5F (d5F st))).2):=by unfold tyM;rw[hT,if_pos ha]
   rw[hM]
   have sx:=d6L hq.wf
   have hpx:=hq.next qx sx
   have lx:=sx.le
   have hlx:=hpx.ln
   simp only[wA,seval,reduceCtorEq,reduceIte]
   refine CallE.mono (e6V hpx.cell hpx.ne (by omega) 1 64) fun vy sgy owy hy=>?_
   obtain⟨ey,qy,oy⟩:=hy
   subst ey oy
   have sy:=d6Q hpx.wf 1 64
   have hpy:=hpx.next qy sy
   have ly:=hpy.ln
   have z2y:=qy.fr.get z2x (by omega)
   have z3y:=qy.fr.get z3x (by omega)
   have gy:=qy.fr.1
   have gs3:=fun y=>d4P (y:=y) z3y
   have gn:=fun y=>e7E (sg:=sgy) (show sg.length+1≠sg.length by omega) y
   have gc:=fun y=>e7E (sg:=sgy) (show sg.length+1≠c by omega) y
   simp only[wA,seval,reduceCtorEq,reduceIte,z3y]
   refine CallE.mono (e6S (st:=(d5J 1 64 (d5F (d5F st))).2) (a:=a) (b:=b) (by rw[gc];exact qy.cell) hpy.ne (by omega) [93]) fun vz sgz owz hz=>?_
   obtain⟨ez,qz,oz⟩:=hz
   subst ez oz
   have z2z:=qz.fr.get (i:=sg.length) ((gn _).trans z2y) (by omega)
   have z3z:=qz.fr.get (i:=sg.length+1) (gs3 _) (by omega)
   have gsz:=fun y=>d4P (y:=y) z2z
   simp only[wA,seval,reduceCtorEq,reduceIte,z2z,z3z,gsz]
   exact Q.hi ⟨qz.cell,(((q.trans qx).trans qy).hi (i:=sg.length+1) (by omega) (by omega) _).fr.trans qz.fr⟩ (h3V _) (by omega) _
 |false =>
 rw[h2] at q2
 simp only[h0T,if_false] at q2
 simp only[wA,seval,reduceCtorEq,reduceIte]
 refine CallE.mono (e6R q2.cell hp.ne [117,105,110,116]) fun v3 sg3 ow3 h3=>?_
 obtain⟨e3,q3,o3⟩:=h3
 subst e3 o3
 unfold d5G at q3
 have y2c:=q3.fr.get y2b (by omega)
 have y3c:=q3.fr.get y3b (by omega)
 have g3:=q3.fr.1
 cases h3:atM [117,105,110,116] st with
 |true =>
  rw[h3] at q3
  simp only[reduceIte] at q3
  have gn3:=fun y=>e7E (sg:=sg3) (show sg.length+1≠sg.length by omega) y
  have gc3:=fun y=>e7E (sg:=sg3) (show sg.length+1≠c by omega) y
  have gs3:=fun y=>d4P (y:=y) y3c
  have hp3:=hp.next q3 (d6L hp.wf)
  have ln3:=hp3.ln
  simp only[wA,seval,reduceCtorEq,reduceIte,y3c]
  refine CallE.mono (e6V (st:=d5F st) (a:=a) (b:=b) (by rw[gc3];exact q3.cell) hp3.ne (by omega) 1 62) fun v4 sg4 ow4 h4=>?_
  obtain⟨e4,q4,o4⟩:=h4
  subst e4 o4
  have y2d:=q4.fr.get (i:=sg.length) ((gn3 _).trans y2c) (by omega)
  have y3d:=q4.fr.get (i:=sg.length+1) (gs3 _) (by omega)
  have q04:Q c a b sg (d5J 1 62 (d5F st)).2 sg4:=⟨q4.cell,(((q1.from.trans q2).trans q3).hi (i:=sg.length+1) (by omega) (by omega) _).fr.trans q4.fr⟩
  have gn1:=fun y=>e7E (sg:=sg4) (show sg.length+1≠sg.length by omega) y
  simp only[wA,seval,reduceCtorEq,reduceIte,y3d]
  have g4:=q4.fr.1
  simp only[h2Q] at g4
  have q:=q04.hi (i:=sg.length+1) (by omega) (by omega) (false,[.t (.int .i64 3),.t (.int .i64 (d5J 1 62 (d5F st)).1),.t (.int .i64 0)])
  have z2:=(gn1 (false,[.t (.int .i64 3),.t (.int .i64 (d5J 1 62 (d5F st)).1),.t (.int .i64 0)])).trans y2d
  have z3:=d4P (y:=(false,[.t (.int .i64 3),.t (.int .i64 (d5J 1 62 (d5F st)).1),.t (.int .i64 0)])) y3d
  have hq:=hp3.next q (d6Q hp3.wf 1 62)
  have hT:d5V st=(⟨3,(d5J 1 62 (d5F st)).1,0⟩,(d5J 1 62 (d5F st)).2):=by unfold d5V;rw[if_neg (by rw[h1];simp),if_neg (by rw[h2];simp),if_pos h3]
  refine CallE.mono (e6R q.cell hq.ne [91]) fun vx sgx owx hx=>?_
  obtain⟨ex,qx,ox⟩:=hx
  subst ex ox
  unfold d5G at qx
  have z2x:=qx.fr.get z2 (by omega)
  have z3x:=qx.fr.get z3 (by omega)
  have gx:=qx.fr.1
  have gs:=fun y=>d4P (y:=y) z2x
  cases ha:atM [91] (d5J 1 62 (d5F st)).2 with
  |false =>
   rw[ha] at qx
   simp only[h0T,if_false] at qx
   have hM:tyM st=(⟨3,(d5J 1 62 (d5F st)).1,0⟩,(d5J 1 62 (d5F st)).2):=by unfold tyM;rw[hT,if_neg (by rw[ha];simp)]
   rw[hM]
   simp only[wA,seval,reduceCtorEq,reduceIte,z2x,z3x,gs]
   exact(q.trans qx).hi (h3V _) (by omega) _
  |true =>
   rw[ha] at qx
   simp only[reduceIte] at qx
   have hM:tyM st=(⟨3,(d5J 1 62 (d5F st)).1,(d5J 1 64 (d5F (d5J 1 62 (d5F st)).2)).1⟩,d5H [93] (d5J 1 64 (d5F (d5J 1 62 (d5F st)).2)).2):=by unfold tyM;rw[hT,if_pos ha]
   rw[hM]
   have sx:=d6L hq.wf
   have hpx:=hq.next qx sx
   have lx:=sx.le
   have hlx:=hpx.ln
   simp only[wA,seval,reduceCtorEq,reduceIte]
   refine CallE.mono (e6V hpx.cell hpx.ne (by omega) 1 64) fun vy sgy owy hy=>?_
   obtain⟨ey,qy,oy⟩:=hy
   subst ey oy
   have sy:=d6Q hpx.wf 1 64
   have hpy:=hpx.next qy sy
   have ly:=hpy.ln
   have z2y:=qy.fr.get z2x (by omega)
   have z3y:=qy.fr.get z3x (by omega)
   have gy:=qy.fr.1
   have gs3:=fun y=>d4P (y:=y) z3y
   have gn:=fun y=>e7E (sg:=sgy) (show sg.length+1≠sg.length by omega) y
   have gc:=fun y=>e7E (sg:=sgy) (show sg.length+1≠c by omega) y
   simp only[wA,seval,reduceCtorEq,reduceIte,z3y]
   refine CallE.mono (e6S (st:=(d5J 1 64 (d5F (d5J 1 62 (d5F st)).2)).2) (a:=a) (b:=b) (by rw[gc];exact qy.cell) hpy.ne (by omega) [93]) fun vz sgz owz hz=>?_
   obtain⟨ez,qz,oz⟩:=hz
   subst ez oz
   have z2z:=qz.fr.get (i:=sg.length) ((gn _).trans z2y) (by omega)
   have z3z:=qz.fr.get (i:=sg.length+1) (gs3 _) (by omega)
   have gsz:=fun y=>d4P (y:=y) z2z
   simp only[wA,seval,reduceCtorEq,reduceIte,z2z,z3z,gsz]
   exact Q.hi ⟨qz.cell,(((q.trans qx).trans qy).hi (i:=sg.length+1) (by omega) (by omega) _).fr.trans qz.fr⟩ (h3V _) (by omega) _
 |false =>
 rw[h3] at q3
 simp only[h0T,if_false] at q3
 have hp3:=hp.next q3 (Suf.refl hp.wf)
 simp only[wA,seval,reduceCtorEq,reduceIte]
 refine CallE.mono (e7S hp3 2) fun v4 sg4 ow4 h4=>?_
 obtain⟨e4,q4,o4⟩:=h4
 subst e4 o4
 have z2:=q4.fr.get y2c (by omega)
 have z3:=q4.fr.get y3c (by omega)
 have q:=((q1.from.trans q2).trans q3).trans q4
 have hq:=hp.next q (d6K hp.wf 2)
 have g4:=q4.fr.1
 simp only[wA,seval,reduceCtorEq,reduceIte]
 have hT:d5V st=(⟨0,0,0⟩,(d5E 2 st)):=by unfold d5V;rw[if_neg (by rw[h1];simp),if_neg (by rw[h2];simp),if_neg (by rw[h3];simp)]
 refine CallE.mono (e6R q.cell hq.ne [91]) fun vx sgx owx hx=>?_
 obtain⟨ex,qx,ox⟩:=hx
 subst ex ox
 unfold d5G at qx
 have z2x:=qx.fr.get z2 (by omega)
 have z3x:=qx.fr.get z3 (by omega)
 have gx:=qx.fr.1
 have gs:=fun y=>d4P (y:=y) z2x
 cases ha:atM [91] (d5E 2 st) with
 |false =>
  rw[ha] at qx
  simp only[h0T,if_false] at qx
  have hM:tyM st=(⟨0,0,0⟩,(d5E 2 st)):=by unfold tyM;rw[hT,if_neg (by rw[ha];simp)]
  rw[hM]
  simp only[wA,seval,reduceCtorEq,reduceIte,z2x,z3x,gs]
  exact(q.trans qx).hi (h3V _) (by omega) _
 |true =>
  rw[ha] at qx
  simp only[reduceIte] at qx
  have hM:tyM st=(⟨0,0,(d5J 1 64 (d5F (d5E 2 st))).1⟩,d5H [93] (d5J 1 64 (d5F (d5E 2 st))).2):=by unfold tyM;rw[hT,if_pos ha]
  rw[hM]
  have sx:=d6L hq.wf
  have hpx:=hq.next qx sx
  have lx:=sx.le
  have hlx:=hpx.ln
  simp only[wA,seval,reduceCtorEq,reduceIte]
  refine CallE.mono (e6V hpx.cell hpx.ne (by omega) 1 64) fun vy sgy owy hy=>?_
  obtain⟨ey,qy,oy⟩:=hy
  subst ey oy
  have sy:=d6Q hpx.wf 1 64
  have hpy:=hpx.next qy sy
  have ly:=hpy.ln
  have z2y:=qy.fr.get z2x (by omega)
  have z3y:=qy.fr.get z3x (by omega)
  have gy:=qy.fr.1
  have gs3:=fun y=>d4P (y:=y) z3y
  have gn:=fun y=>e7E (sg:=sgy) (show sg.length+1≠sg.length by omega) y
  have gc:=fun y=>e7E (sg:=sgy) (show sg.length+1≠c by omega) y
  simp only[wA,seval,reduceCtorEq,reduceIte,z3y]
  refine CallE.mono (e6S (st:=(d5J 1 64 (d5F (d5E 2 st))).2) (a:=a) (b:=b) (by rw[gc];exact qy.cell) hpy.ne (by omega) [93]) fun vz sgz owz hz=>?_
  obtain⟨ez,qz,oz⟩:=hz
  subst ez oz
  have z2z:=qz.fr.get (i:=sg.length) ((gn _).trans z2y) (by omega)
  have z3z:=qz.fr.get (i:=sg.length+1) (gs3 _) (by omega)
  have gsz:=fun y=>d4P (y:=y) z2z
  simp only[wA,seval,reduceCtorEq,reduceIte,z2z,z3z,gsz]
  exact Q.hi ⟨qz.cell,(((q.trans qx).trans qy).hi (i:=sg.length+1) (by omega) (by omega) _).fr.trans qz.fr⟩ (h3V _) (by omega) _
end Go.Proofs.YtcbgiabippcpaaaGreatDoor

/- The parser: parameters, declarations. -/
namespace Go.Proofs.YtcbgiabippcpaaaGreatDoor
open Go.Pi Go.Lx Go.Ky
variable {gl:Nat→Option (List T)}
set_option maxHeartbeats 1000000 in
theorem ok56 {c:Nat} {a b:Int} {st:Ps} {sg:Sg} {ow:Ow} (hp:Pre c a b st sg):CallE F gl 56 [.lp c 0] sg ow fun v sg' ow'=>v=.t (.agg (tPa (d5W st).1))∧Q c a b sg (d5W st).2 sg'∧ow'=ow:=by
 refine XcE.of F56 rfl ?_
 simp only[c6A]
 have hcl:=hp.lt
 have hln:=hp.ln
 simp only[wA,seval,reduceCtorEq,reduceIte]
 refine CallE.mono (e6U (hp.app _).cell hp.ne (by omega)) fun v1 sg1 ow1 h1=>?_
 obtain⟨e1,q1,o1⟩:=h1
 subst e1 o1
 have z2:=q1.fr.get (i:=sg.length) e7D (by omega)
 have hp1:=hp.next q1 (d6P hp.wf)
 have ln1:=hp1.ln
 simp only[wA,seval,reduceCtorEq,reduceIte]
 refine CallE.mono (e6S hp1.cell hp1.ne (by omega) [58]) fun v2 sg2 ow2 h2=>?_
 obtain⟨e2,q2,o2⟩:=h2
 subst e2 o2
 have z2b:=q2.fr.get z2 (by omega)
 have hp2:=hp1.next q2 (d6O hp1.wf [58])
 simp only[wA,seval,reduceCtorEq,reduceIte]
 refine CallE.mono (e8B hp2) fun v3 sg3 ow3 h3=>?_
 obtain⟨e3,q3,o3⟩:=h3
 subst e3 o3
 have z2c:=q3.fr.get z2b (by omega)
 have gs:=fun y=>d4P (y:=y) z2c
 simp only[wA,seval,reduceCtorEq,reduceIte,z2c,gs]
 exact⟨rfl,((q1.from.trans q2).trans q3).hi (h3V _) (by omega) _⟩
set_option maxHeartbeats 1000000 in
theorem ok21 {c:Nat} {a b:Int} {st:Ps} {sg:Sg} {ow:Ow} (hp:Pre c a b st sg):CallE F gl 21 [.lp c 0] sg ow fun v sg' ow'=>v=.t (.agg (tDe (d6E st).1))∧Q c a b sg (d6E st).2 sg'∧ow'=ow:=by
 refine XcE.of F21 rfl ?_
 simp only[c4M]
 have hcl:=hp.lt
 have hln:=hp.ln
 simp only[wA,seval,reduceCtorEq,reduceIte]
 refine CallE.mono (e6Q (hp.app _).cell hp.ne) fun v0 sg0 ow0 h0=>?_
 obtain⟨e0,q0,o0⟩:=h0
 subst e0 o0
 have z2:=q0.fr.get (i:=sg.length) e7D (by omega)
 have hp0:=hp.next q0 (d6L hp.wf)
 have ln0:=hp0.ln
 have g0:=q0.fr.1
 simp only[h2L,h2M,h2P,h4C] at g0
 simp only[wA,seval,reduceCtorEq,reduceIte,e5T]
 refine CallE.mono (e6U (hp0.app _).cell hp0.ne (by omega)) fun v1 sg1 ow1 h1=>?_
 obtain⟨e1,q1,o1⟩:=h1
 subst e1 o1
 have z3:=q1.fr.get (i:=sg0.length) e7D (by omega)
 have z2a:=q1.fr.get (i:=sg.length) (by rw[d4V (by omega)];exact z2) (by omega)
 have hp1:=hp0.next q1 (d6P hp0.wf)
 have ln1:=hp1.ln
 have g1:=q1.fr.1
 simp only[h2L,h2M,h2P,h4C] at g1
 have gn1:=fun y=>e7E (sg:=sg1) (show sg0.length≠sg.length by omega) y
 have gc1:=fun y=>e7E (sg:=sg1) (show sg0.length≠c by omega) y
 have gs1:=fun y=>d4P (y:=y) z3
 simp only[wA,seval,reduceCtorEq,reduceIte,z3]
 refine CallE.mono (e6S (st:=(d5I (d5F st)).2) (a:=a) (b:=b) (by rw[gc1];exact q1.cell) hp1.ne (by omega) [58]) fun v2 sg2 ow2 h2=>?_
 obtain⟨e2,q2,o2⟩:=h2
 subst e2 o2
 have z3b:=q2.fr.get (i:=sg0.length) (gs1 _) (by omega)
 have z2b:=q2.fr.get (i:=sg.length) ((gn1 _).trans z2a) (by omega)
 have hp2:=hp1.next q2 (d6O hp1.wf [58])
 have g2:=q2.fr.1
 simp only[h2Q] at g2
 simp only[wA,seval,reduceCtorEq,reduceIte]
 refine CallE.mono (e8B hp2) fun v3 sg3 ow3 h3=>?_
 obtain⟨e3,q3,o3⟩:=h3
 subst e3 o3
 have z2c:=q3.fr.get z2b (by omega)
 have z3c:=q3.fr.get z3b (by omega)
 have g3:=q3.fr.1
 have hp3:=hp2.next q3 (d6U hp2.wf)
 have ln3:=hp3.ln
 have gn3:=fun y=>e7E (sg:=sg3) (show sg0.length≠sg.length by omega) y
 have gc3:=fun y=>e7E (sg:=sg3) (show sg0.length≠c by omega) y
 have gs3:=fun y=>d4P (y:=y) z3c
 simp only[wA,seval,reduceCtorEq,reduceIte,z3c]
 refine CallE.mono (e6S (st:=(tyM (d5H [58] (d5I (d5F st)).2)).2) (a:=a) (b:=b) (by rw[gc3];exact q3.cell) hp3.ne (by omega) [59]) fun v4 sg4 ow4 h4=>?_
 obtain⟨e4,q4,o4⟩:=h4
 subst e4 o4
 have z3d:=q4.fr.get (i:=sg0.length) (gs3 _) (by omega)
 have z2d:=q4.fr.get (i:=sg.length) ((gn3 _).trans z2c) (by omega)
 have gs:=fun y=>d4P (y:=y) z2d
 have qa:Q c a b sg (tyM (d5H [58] (d5I (d5F st)).2)).2 sg3:=(Q.trans (x:=(d5H [58] (d5I (d5F st)).2)) ⟨q2.cell,(((q0.from.trans q1.from).hi (i:=sg0.length) (by omega) (by omega) _).fr.trans q2.fr)⟩ q3)
 simp only[wA,seval,reduceCtorEq,reduceIte,z3d,z2d,gs]
 refine⟨?_,Q.hi ⟨q4.cell,(qa.hi (i:=sg0.length) (by omega) (by omega) _).fr.trans q4.fr⟩ (h3V _) (by omega) _⟩
 rfl
end Go.Proofs.YtcbgiabippcpaaaGreatDoor
