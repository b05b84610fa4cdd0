/- The parser: unary expressions and indexes. -/
import Derived.Test.YtcbgiabippcpaaaGreatDoorM9
set_option maxRecDepth 10000
set_option linter.unusedVariables false
set_option linter.unusedSimpArgs false
namespace Go.Proofs.YtcbgiabippcpaaaGreatDoor
open Go.Pi Go.Lx Go.Ky
variable {gl:Nat→Option (List T)}
set_option maxHeartbeats 2000000 in
theorem e4W {c i2 i3:Nat} {a b:Int} {sg0:Sg} (hc0:c < sg0.length) (h2:sg0.length≤i2) (h3:sg0.length≤i3) (h23:i2≠i3) (X:Ex→S→Prop) :
  ∀ (m:Nat),(∀ k,k < m→CAll gl k)→∀ (e:Exp) (cs:List PV) (st:Ps) (sg:Sg) (ow:Ow) (fr:List PV),Ec cs e→WfT st.ts→st.ts.length≤100000→Q c a b sg0 st sg→sg[i2]?=some (false,zC)→sg[i3]?=some (false,cs)→12 * st.ts.length+3≤m →
  b8Y fr [(0,.lp c 0),(2,.lp i2 0),(3,.lp i3 0)] →
  (∀ fr' sg' ow' cs',Ec cs' (d5Z m e st).1→Q c a b sg0 (d5Z m e st).2 sg'→sg'[i2]?=some (false,zC)→sg'[i3]?=some (false,cs')→b8Y fr' [(2,.lp i2 0),(3,.lp i3 0)]→OwK ow ow'→X (.exit 0) ⟨fr',sg',ow'⟩) →
  Xl F gl c7F ⟨fr,sg,ow⟩ X ⟨⟩:=by
 intro m
 induction m with
 |zero=>intro _ e cs st sg ow fr _ hw _ _ _ _ hf;have:=hw.len;omega
 |succ m ih =>
  intro hall e cs st sg ow fr hcs hw hln hq z2 z3 hf hfr k
  simp only[b9A,b8Z] at hfr
  obtain⟨f0,f2,f3,-⟩:=hfr
  refine Xl.step ?_
  simp only[c7F]
  simp only[wA,seval,reduceCtorEq,reduceIte,f0,f2,f3]
  refine CallE.mono (e4E hq.cell hw.ne [91]) fun v sg1 ow1 h=>?_
  obtain⟨e1,q1,o1⟩:=h
  subst e1 o1
  unfold d5Q at q1
  have z2b:=q1.fr.get z2 (by omega)
  have z3b:=q1.fr.get z3 (by omega)
  cases ha:atM [91] st with
  |false =>
   rw[ha] at q1
   simp only[g5V,if_false] at q1
   have hB:d5Z (m+1) e st=(e,st):=by rw[d5Z,if_neg (by rw[ha];simp)]
   rw[hB] at k
   simp only[wA,seval,reduceCtorEq,reduceIte,f0,f2,f3]
   exact k _ _ _ cs hcs (hq.trans q1) z2b z3b (by simp only[wQ,Nat.reduceEqDiff,reduceIte,f2,f3]) OwK.refl
  |true =>
   rw[ha] at q1
   simp only[reduceIte] at q1
   have q0:Q c a b sg0 (d5P st) sg1:=hq.trans q1
   have l1:=d6X hw (d6W ha)
   have s1:=d6V hw
   have hp1:Pre c a b (d5P st) sg1:=⟨q1.cell,s1.wf hw,by omega⟩
   have hcall:=(hall m (by omega)).ex c a b (d5P st) sg1 ow1 hp1 (by omega)
   have rd:=(d7P m).ex (d5P st) hp1.wf
   have l2:=rd.suf.le
   have hB:d5Z (m+1) e st=d5Z m (nod 8 [e,(d5W m (d5P st)).1]) (d5R [93] (d5W m (d5P st)).2):=by rw[d5Z,if_pos ha]
   rw[hB] at k
   rcases hcs with rfl|⟨kk,hnl,rfl⟩
   all_goals
    first|have hax:=Xk.al hnl.1|have hax:=@c2X
    simp only[wA,seval,reduceCtorEq,reduceIte,f0,f2,f3,z3b,a1I,hax]
    refine CallE.mono hcall fun v2 sg2 ow2 h2=>?_
    obtain⟨hv2,q2,o2⟩:=h2
    have hp2:=hp1.next q2 rd.suf
    have z2c:=q2.fr.get z2b (by omega)
    have z3c:=q2.fr.get z3b (by omega)
    have gs3:=fun y=>d4Z (y:=y) z3c
    have gn:=fun y=>e4R (sg:=sg2) (show i3≠i2 by omega) y
    first|have hb:=e4O (e:=e) (v:=.agg (eK e kk)) (.inr ⟨kk,hnl,rfl⟩) hv2|have hb:=e4O (e:=e) (.inl rfl) hv2
    have gc:=fun y=>e4R (sg:=sg2) (show i3≠c by omega) y
    simp only[wA,seval,reduceCtorEq,reduceIte,f0,f2,f3,d5L,d5K,d5J,d5I,z3b,z3c,hb,nd,gs3]
    refine CallE.mono (e4F (st:=(d5W m (d5P st)).2) (a:=a) (b:=b) (by rw[gc];exact q2.cell) hp2.ne (by omega) [93]) fun v3 sg3 ow3 h3=>?_
    obtain⟨e3,q3,o3⟩:=h3
    subst e3 o3
    have s3:=d6Y hp2.wf [93]
    have l3:=s3.le
    have z2d:=q3.fr.get (i:=i2) ((gn _).trans z2c) (by omega)
    have z3d:=q3.fr.get (i:=i3) (gs3 _) (by omega)
    simp only[wA,seval,reduceCtorEq,reduceIte,f0,f2,f3]
    refine ih (fun k hk=>hall k (by omega)) (nod 8 [e,(d5W m (d5P st)).1]) _ (d5R [93] (d5W m (d5P st)).2) sg3 _ _ (.inl rfl) (s3.wf hp2.wf) (by omega) ⟨q3.cell,((q0.trans q2).hi h3 (by omega) _).fr.trans q3.fr⟩ z2d z3d (by omega) ?_ ?_
    ·simp only[wQ,Nat.reduceEqDiff,reduceIte,f0,f2,f3]
    intro fr' sg' ow' cs' a1 a2 a3 a4 a5 a6
    exact k fr' sg' ow' cs' a1 a2 a3 a4 a5 (o2.trans a6)
set_option maxHeartbeats 1000000 in
theorem e4X {n:Nat} (hall:∀ k,k≤n→CAll gl k) {c:Nat} {a b:Int} {st:Ps} {sg:Sg} {ow:Ow} (hp:Pre c a b st sg) (hf:12 * st.ts.length+4≤n+1):CallE F gl 89 [.lp c 0] sg ow (EvR c a b sg ow (unM (n+1) st)):=by
 refine XcE.of F89 rfl ?_
 simp only[c7G]
 have hcl:=hp.lt
 have hp1:=hp.app [(false,zC)]
 have hn:=hall n (g8S _)
 simp only[wA,seval,reduceCtorEq,reduceIte]
 refine CallE.mono (e4E hp1.cell hp.ne [45]) fun v sg1 ow1 h=>?_
 obtain⟨e1,q1,o1⟩:=h
 subst e1 o1
 unfold d5Q at q1
 have z2:=q1.fr.get (i:=sg.length) e4Q (by omega)
 cases ha:atM [45] st with
 |true =>
  rw[ha] at q1
  simp only[reduceIte] at q1
  have l1:=d6X hp.wf (d6W ha)
  have hp2:=hp1.next q1 (d6V hp.wf)
  have hB:unM (n+1) st=(nod 9 [(unM n (d5P st)).1],(unM n (d5P st)).2):=by rw[unM,if_pos ha]
  rw[hB]
  simp only[wA,seval,reduceCtorEq,reduceIte]
  refine CallE.mono (hn.un c a b _ sg1 ow1 hp2 (by omega)) fun v2 sg2 ow2 h2=>?_
  obtain⟨hv2,q2,o2⟩:=h2
  have z2b:=q2.fr.get z2 (by omega)
  have gs:=fun y=>d4Z (y:=y) z2b
  have hb:=e4N hv2
  simp only[wA,seval,reduceCtorEq,reduceIte,hb,nd,z2b,gs]
  exact⟨.inl rfl,((q1.from).trans q2).hi (g8S _) (by omega) _,o2⟩
 |false =>
  rw[ha] at q1
  simp only[g5V,if_false] at q1
  have hp2:=hp1.next q1 (Suf.refl hp.wf)
  simp only[wA,seval,reduceCtorEq,reduceIte]
  refine CallE.mono (e4E hp2.cell hp.ne [110,111,116]) fun v sg2 ow2 h=>?_
  obtain⟨e2,q2,o2⟩:=h
  subst e2 o2
  unfold d5Q at q2
  have z2b:=q2.fr.get z2 (by omega)
  cases ha2:atM [110,111,116] st with
  |true =>
   rw[ha2] at q2
   simp only[reduceIte] at q2
   have l1:=d6X hp.wf (d6W ha2)
   have hp3:=hp2.next q2 (d6V hp.wf)
   have hB:unM (n+1) st=(nod 10 [(unM n (d5P st)).1],(unM n (d5P st)).2):=by rw[unM,if_neg (by rw[ha];simp),if_pos ha2]
   rw[hB]
   simp only[wA,seval,reduceCtorEq,reduceIte]
   refine CallE.mono (hn.un c a b _ sg2 _ hp3 (by omega)) fun v2 sg3 ow3 h2=>?_
   obtain⟨hv2,q3,o3⟩:=h2
   have z2c:=q3.fr.get z2b (by omega)
   have gs:=fun y=>d4Z (y:=y) z2c
   have hb:=e4N hv2
   simp only[wA,seval,reduceCtorEq,reduceIte,hb,nd,z2c,gs]
   exact⟨.inl rfl,(((q1.from).trans q2).trans q3).hi (g8S _) (by omega) _,o3⟩
  |false =>
   rw[ha2] at q2
   simp only[g5V,if_false] at q2
   have hp3:=hp2.next q2 (Suf.refl hp.wf)
   have hB:unM (n+1) st=d5Z n (d6A n st).1 (d6A n st).2:=by rw[unM,if_neg (by rw[ha];simp),if_neg (by rw[ha2];simp)]
   rw[hB]
   simp only[wA,seval,reduceCtorEq,reduceIte]
   refine CallE.mono (hn.pr c a b st sg2 _ hp3 (by omega)) fun v2 sg3 ow3 h2=>?_
   obtain⟨hv2,q3,o3⟩:=h2
   have rd:=(d7P n).pr st hp.wf
   have l3:=rd.suf.le
   have z2c:=q3.fr.get z2b (by omega)
   have g3:=q3.fr.1
   have q03:Q c a b sg (d6A n st).2 sg3:=((q1.from).trans q2).trans q3
   have g03:=q2.fr.1
   have g02:=q1.fr.1
   simp only[g7K,g7L,g7O,g8Z] at g02
   rcases hv2 with rfl|⟨k,hnl,rfl⟩
   all_goals
    first|have hax:=Xk.al hnl.1|have hax:=@c2X
    simp only[wA,seval,reduceCtorEq,reduceIte,hax]
    refine e4W (i2:=sg.length) (i3:=sg3.length) (sg0:=sg) (a:=a) (b:=b) (c:=c) hcl (g8S _) (by omega) (by omega) _ n (fun k hk=>hall k (by omega)) (d6A n st).1 _ (d6A n st).2 _ ow3 _ ?_ (rd.suf.wf hp.wf) (by have:=hp.ln;omega) (q03.more _) (by rw[d5F (by omega)];exact z2c) e4Q (by omega) ?_ ?_
    ·first|exact .inr ⟨k,hnl,rfl⟩|exact .inl rfl
    ·simp only[wQ,Nat.reduceEqDiff,reduceIte]
    ·intro fr' sg' ow' cs' a1 a2 a3 a4 a5 a6
     simp only[b9A,b8Z] at a5
     obtain⟨f2,f3,-⟩:=a5
     have gs:=fun y=>d4Z (y:=y) a3
     rcases a1 with rfl|⟨j,hj,rfl⟩
     ·simp only[wA,seval,reduceCtorEq,reduceIte,a3,a4,f2,f3,gs]
      exact⟨.inl rfl,a2.hi (g8S _) (by omega) _,o3.trans a6⟩
     ·have hax:=Xk.al hj.1
      simp only[wA,seval,reduceCtorEq,reduceIte,a3,a4,f2,f3,gs,hax]
      exact⟨.inr ⟨j,hj,rfl⟩,a2.hi (g8S _) (by omega) _,o3.trans a6⟩
end Go.Proofs.YtcbgiabippcpaaaGreatDoor

/- The parser: lists of expressions, arguments. -/
namespace Go.Proofs.YtcbgiabippcpaaaGreatDoor
open Go.Pi Go.Lx Go.Ky
variable {gl:Nat→Option (List T)}
theorem Lv.keep {k0:Nat} {v:PV} {ow ow':Ow} {l:List Exp} (h:Lv k0 v ow l) (ho:OwK ow ow'):Lv k0 v ow' l:=by
 rcases h with rfl|⟨k,rfl,hk,hl⟩
 ·exact .inl rfl
 ·exact .inr ⟨k,rfl,by rw[ho.2 k (g7B.1 hk).1];exact hk,hl⟩
theorem e4Y (l:List Exp):(d2K l).all (fun x=>x.length == 4)=true:=by
 rw[d2L,List.all_map,g6F]
 intro e _
 simp only[Function.comp_apply,d2M]
 rfl
theorem e4Z (l:List Exp) (e:Exp):d2K (l++[e])=d2K l++[tEx e]:=by
 rw[d2L,d2L,g7S];rfl
theorem e5A {n:Nat} (h:n≤1000000):a0N n 56=true:=by
 unfold a0N
 exact g9M ⟨by omega,by omega⟩
theorem e5B {k0:Nat} {v:PV} {ow:Ow} {l:List Exp} (h:Lv k0 v ow l) (hk:k0≤ow.length) (hl:l.length < 1000000) (sg:Sg) (e:Exp):∃ x,a0V false sg ow 4 56 v (.lit (d2K [e]))=some x∧Lv k0 x.1 x.2 (l++[e])∧ow.length≤x.2.length∧∀ j,j < k0→x.2[j]?=ow[j]?:=by
 have e1:d2K [e]=[tEx e]:=by rw[d2K,d2K]
 have e2:a0L sg 4 (.lit (d2K [e]))=some [tEx e]:=by rw[e1];rfl
 have e3:([tEx e].all (fun x=>x.length == 4))=true:=by rw[←e1];exact e4Y [e]
 rcases h with rfl|⟨k,rfl,hkk,hl0⟩
 ·refine⟨(.own ow.length 4 (d2K l++[tEx e]),ow++[(d2K l).length+1]),?_,?_,?_,?_⟩
  ·have r:a0N ((d2K l).length+[tEx e].length) 56=true:=e5A (by rw[d2N];simp only[g7L,g7O];omega)
   simp only[a0V,e2,e3,e4Y,r,g9B,g9J,if_true]
   rfl
  ·refine .inr ⟨ow.length,by rw[e4Z],?_,hk⟩
   rw[g6X,d2N,g7K];rfl
  ·simp only[g7K];omega
  ·intro j hj
   exact g6V (by omega)
 ·refine⟨(.own k 4 (d2K l++[tEx e]),ow.set k ((d2K l).length+1)),?_,?_,?_,?_⟩
  ·have r:a0N ((d2K l).length+[tEx e].length) 56=true:=e5A (by rw[d2N];simp only[g7L,g7O];omega)
   have hk2:ow[k]?=some (d2K l).length:=by rw[d2N];exact hkk
   simp only[a0V,e2,e3,hk2,r,g9B,g9J,if_true]
   rfl
  ·refine .inr ⟨k,by rw[e4Z],?_,hl0⟩
   show(ow.set k ((d2K l).length+1))[k]?=_
   rw[g7G (g7B.1 hkk).1,d2N,g7K];rfl
  ·simp only[g7P];omega
  ·intro j hj
   exact g7F (by omega)
set_option maxHeartbeats 2000000 in
theorem e5C {c:Nat} {a b:Int} {sg0:Sg} {ow0:Ow} (hc0:c < sg0.length) (X:Ex→S→Prop) :
  ∀ (m:Nat),(∀ k,k < m→CAll gl k)→∀ (l:List Exp) (v:PV) (st:Ps) (sg:Sg) (ow:Ow) (fr:List PV),Lv ow0.length v ow l→l≠[]→OwK ow0 ow→WfT st.ts→st.ts.length≤100000→l.length+st.ts.length≤200000→Q c a b sg0 st sg→12 * st.ts.length+11≤m →
  b8Y fr [(0,.lp c 0),(3,v)] →
  (∀ fr' sg' ow' v',Lv ow0.length v' ow' (d6E m l st).1→(d6E m l st).1≠[]→Q c a b sg0 (d6E m l st).2 sg'→a0A fr' 3=v'→OwK ow0 ow'→X (.exit 0) ⟨fr',sg',ow'⟩) →
  Xl F gl c8T ⟨fr,sg,ow⟩ X ⟨⟩:=by
 intro m
 induction m with
 |zero=>intro _ l v st sg ow fr _ _ _ hw _ _ _ hf;have:=hw.len;omega
 |succ m ih =>
  intro hall l v st sg ow fr hv hl ho hw hln hll hq hf hfr k
  simp only[b9A,b8Z] at hfr
  obtain⟨f0,f3,-⟩:=hfr
  refine Xl.step ?_
  simp only[c8T]
  simp only[wA,seval,reduceCtorEq,reduceIte,f0,f3]
  refine CallE.mono (e4E hq.cell hw.ne [44]) fun w sg1 ow1 h=>?_
  obtain⟨e1,q1,o1⟩:=h
  subst e1 o1
  unfold d5Q at q1
  cases ha:atM [44] st with
  |false =>
   rw[ha] at q1
   simp only[g5V,if_false] at q1
   have hB:d6E (m+1) l st=(l,st):=by rw[d6E,if_neg (by rw[ha];simp)]
   rw[hB] at k
   simp only[wA,seval,reduceCtorEq,reduceIte,f0,f3]
   refine k _ _ _ v hv hl (hq.trans q1) ?_ ho
   simp only[wQ,Nat.reduceEqDiff,reduceIte,f3]
  |true =>
   rw[ha] at q1
   simp only[reduceIte] at q1
   have q0:Q c a b sg0 (d5P st) sg1:=hq.trans q1
   have l1:=d6X hw (d6W ha)
   have s1:=d6V hw
   have hp1:Pre c a b (d5P st) sg1:=⟨q1.cell,s1.wf hw,by omega⟩
   have hcall:=(hall m (by omega)).ex c a b (d5P st) sg1 ow1 hp1 (by omega)
   have rd:=(d7P m).ex (d5P st) hp1.wf
   have l2:=rd.suf.le
   have hB:d6E (m+1) l st=d6E m (l++[(d5W m (d5P st)).1]) (d5W m (d5P st)).2:=by rw[d6E,if_pos ha]
   rw[hB] at k
   simp only[wA,seval,reduceCtorEq,reduceIte,f0,f3]
   refine CallE.mono hcall fun v2 sg2 ow2 h2=>?_
   obtain⟨hv2,q2,o2⟩:=h2
   have hb:=e4N hv2
   obtain⟨x,hx,hx1,hx2,hx3⟩:=e5B (hv.keep o2) (g8T ho.1 o2.1) (by omega) sg2 (d5W m (d5P st)).1
   simp only[wA,seval,reduceCtorEq,reduceIte,f0,f3,hb,hx]
   refine ih (fun k hk=>hall k (by omega)) (l++[(d5W m (d5P st)).1]) x.1 (d5W m (d5P st)).2 sg2 x.2 _ hx1 (by simp) ?_ (rd.suf.wf hp1.wf) (by omega) (by simp only[g7K,g7L,g7O];omega) (q0.trans q2) (by omega) ?_ ?_
   ·have h3:=ho.trans o2
    exact⟨g8T h3.1 hx2,fun j hj=>by rw[hx3 j hj,h3.2 j hj]⟩
   ·simp only[wQ,Nat.reduceEqDiff,reduceIte,f0,f3]
   ·intro fr' sg' ow' v' a1 a2 a3 a4 a5
    exact k fr' sg' ow' v' a1 a2 a3 a4 a5
set_option maxHeartbeats 1000000 in
theorem e5D {n:Nat} (hall:∀ k,k≤n→CAll gl k) {c:Nat} {a b:Int} {st:Ps} {sg:Sg} {ow:Ow} (hp:Pre c a b st sg) (hf:12 * st.ts.length+12≤n+1):CallE F gl 128 [.lp c 0] sg ow fun v sg' ow'=>Lv ow.length v ow' (d6D (n+1) st).1∧(d6D (n+1) st).1≠[]∧Q c a b sg (d6D (n+1) st).2 sg'∧OwK ow ow':=by
 refine XcE.of F128 rfl ?_
 simp only[c8U]
 have hcl:=hp.lt
 have hB:d6D (n+1) st=d6E n [(d5W n st).1] (d5W n st).2:=by rw[d6D]
 rw[hB]
 simp only[wA,seval,reduceCtorEq,reduceIte]
 refine CallE.mono ((hall n (g8S _)).ex c a b st _ ow hp (by omega)) fun v sg1 ow1 h=>?_
 obtain⟨hv,hq,ho⟩:=h
 have rd1:=(d7P n).ex st hp.wf
 have l1:=rd1.suf.le
 have hb:=e4N hv
 have hln:=hp.ln
 simp only[wA,seval,reduceCtorEq,reduceIte,hb]
 refine e5C (sg0:=sg) (a:=a) (b:=b) (c:=c) (ow0:=ow) hcl _ n (fun k hk=>hall k (by omega)) [(d5W n st).1] _ (d5W n st).2 _ ow1 _ (.inl rfl) (by simp) ho (rd1.suf.wf hp.wf) (by omega) (by simp only[g7L,g7O];omega) hq (by omega) ?_ ?_
 ·simp only[wQ,Nat.reduceEqDiff,reduceIte]
 ·intro fr' sg' ow' v' a1 a2 a3 a4 a5
  simp only[wA,seval,reduceCtorEq,reduceIte,a4]
  exact⟨a1,a2,a3,a5⟩
set_option maxHeartbeats 1000000 in
theorem e5E {n:Nat} (hn:CAll gl n) {c:Nat} {a b:Int} {st:Ps} {sg:Sg} {ow:Ow} (hp:Pre c a b st sg) (hf:12 * st.ts.length+13≤n+1):CallE F gl 126 [.lp c 0] sg ow fun v sg' ow'=>((v=.t (.sl true [])∧(d6B (n+1) st).1=[])∨((v=.lit (d2K (d6B (n+1) st).1)∨∃ k,v=.own k 4 (d2K (d6B (n+1) st).1))∧(d6B (n+1) st).1≠[]))∧Q c a b sg (d6B (n+1) st).2 sg'∧OwK ow ow':=by
 refine XcE.of F126 rfl ?_
 simp only[c8R]
 have hcl:=hp.lt
 simp only[wA,seval,reduceCtorEq,reduceIte]
 refine CallE.mono (e4E hp.cell hp.ne [41]) fun v sg1 ow1 h=>?_
 obtain⟨e1,q1,o1⟩:=h
 subst e1 o1
 unfold d5Q at q1
 cases ha:atM [41] st with
 |true =>
  rw[ha] at q1
  simp only[reduceIte] at q1
  have hB:d6B (n+1) st=([],d5P st):=by rw[d6B,if_pos ha]
  rw[hB]
  simp only[wA,seval,reduceCtorEq,reduceIte]
  exact⟨.inl (by simp),q1,OwK.refl⟩
 |false =>
  rw[ha] at q1
  simp only[g5V,if_false] at q1
  have hB:d6B (n+1) st=((d6D n st).1,d5R [41] (d6D n st).2):=by rw[d6B,if_neg (by rw[ha];simp)]
  rw[hB]
  have hp2:=hp.next q1 (Suf.refl hp.wf)
  simp only[wA,seval,reduceCtorEq,reduceIte]
  refine CallE.mono (hn.li c a b st sg1 _ hp2 (by omega)) fun v2 sg2 ow2 h2=>?_
  obtain⟨hv2,hne2,q2,o2⟩:=h2
  have rd:=(d7P n).li st hp.wf
  have l2:=rd.suf.le
  have hp3:=hp2.next q2 rd.suf
  have hln:=hp.ln
  simp only[wA,seval,reduceCtorEq,reduceIte]
  refine CallE.mono (e4F hp3.cell hp3.ne (by omega) [41]) fun v3 sg3 ow3 h3=>?_
  obtain⟨e3,q3,o3⟩:=h3
  subst e3 o3
  simp only[wA,seval,reduceCtorEq,reduceIte]
  refine⟨.inr ⟨?_,hne2⟩,(q1.trans q2).trans q3,o2⟩
  rcases hv2 with rfl|⟨k,rfl,-,-⟩
  ·exact .inl rfl
  ·exact .inr ⟨k,rfl⟩
end Go.Proofs.YtcbgiabippcpaaaGreatDoor

/- The parser: hashes. -/
namespace Go.Proofs.YtcbgiabippcpaaaGreatDoor
open Go.Pi Go.Lx Go.Ky
variable {gl:Nat→Option (List T)}
theorem e5F {c:Nat} {a b:Int} {st:Ps} {sg:Sg} {ow:Ow} (hp:Pre c a b st sg) (e:Int):CallE F gl 61 [.lp c 0,.t (.int .i64 e)] sg ow fun v sg' ow'=>v=.tup []∧Q c a b sg (d5O e st) sg'∧ow'=ow :=
 (e4C hp.cell hp.ne (by have:=hp.ln;omega) e).2 ⟨rfl,Q.set hp.lt,rfl⟩
theorem e5G {l:List Exp} (h:l≠[]):l.isEmpty=false:=by cases l with
 |nil=>exact absurd rfl h
 |cons x r=>rfl
set_option maxHeartbeats 2000000 in
theorem e5H {n:Nat} (hn:CAll gl n) {c:Nat} {a b:Int} {st:Ps} {sg:Sg} {ow:Ow} (hp:Pre c a b st sg) (hf:12 * st.ts.length+13≤n+1):CallE F gl 127 [.lp c 0] sg ow (EvR c a b sg ow (d6C (n+1) st)):=by
 refine XcE.of F127 rfl ?_
 simp only[c8S]
 have hcl:=hp.lt
 have hp1:=hp.app [(false,zC)]
 have hln:=hp.ln
 simp only[wA,seval,reduceCtorEq,reduceIte]
 refine CallE.mono (e4F hp1.cell hp1.ne (by omega) [40]) fun v sg1 ow1 h=>?_
 obtain⟨e1,q1,o1⟩:=h
 subst e1 o1
 have s1:=d6Y hp.wf [40]
 have l1:=s1.le
 have hp2:=hp1.next q1 s1
 have z2:=q1.fr.get (i:=sg.length) e4Q (by omega)
 have g1:=q1.fr.1
 simp only[g7K,g7L,g7O,g8Z] at g1
 have q01:=q1.from
 obtain⟨r,hr⟩:=e4G hp2.ne
 have hc1:=hp2.cell
 simp only[psC,hr,g7T] at hc1
 by_cases hk:(d5R [40] st).hd.kind=3
 ·have hk':(((d5R [40] st).hd.kind:Int)=3)=True:=g9P (by omega)
  have l2:=d6X hp2.wf (by omega)
  have s2:=d6V hp2.wf
  have hB:d6C (n+1) st=(.mk 6 (d5R [40] st).hd.val [] (d6D n (d5R [59] (d5P (d5R [40] st)))).1.isEmpty (d6D n (d5R [59] (d5P (d5R [40] st)))).1,d5R [41] (d6D n (d5R [59] (d5P (d5R [40] st)))).2):=by rw[d6C,if_neg (fun h=>h hk)]
  rw[hB]
  simp only[wA,seval,reduceCtorEq,reduceIte,hc1,e3G,hk']
  refine CallE.mono (e4D (hp2.app _).cell hp2.ne) fun v2 sg2 ow2 h2=>?_
  obtain⟨e2,q2,o2⟩:=h2
  subst e2 o2
  have z3:=q2.fr.get (i:=sg1.length) e4Q (by omega)
  have z2b:=q2.fr.get (i:=sg.length) (by rw[d5F (by omega)];exact z2) (by omega)
  have hp3:=hp2.next q2 s2
  have g2:=q2.fr.1
  simp only[g7K,g7L,g7O,g8Z] at g2
  have q02:=q01.trans q2.from
  simp only[wA,seval,reduceCtorEq,reduceIte]
  refine CallE.mono (e4F hp3.cell hp3.ne (by omega) [59]) fun v3 sg3 ow3 h3=>?_
  obtain⟨e3,q3,o3⟩:=h3
  subst e3 o3
  have s3:=d6Y hp3.wf [59]
  have l3:=s3.le
  have z3b:=q3.fr.get z3 (by omega)
  have z2c:=q3.fr.get z2b (by omega)
  have hp4:=hp3.next q3 s3
  have g3:=q3.fr.1
  simp only[wA,seval,reduceCtorEq,reduceIte]
  refine CallE.mono (hn.li c a b _ sg3 _ hp4 (by omega)) fun v4 sg4 ow4 h4=>?_
  obtain⟨hv4,hne4,q4,o4⟩:=h4
  have rd:=(d7P n).li _ hp4.wf
  have l4:=rd.suf.le
  have z3c:=q4.fr.get z3b (by omega)
  have z2d:=q4.fr.get z2c (by omega)
  have hp5:=hp4.next q4 rd.suf
  have g4:=q4.fr.1
  have gz3:=fun z=>(d5F (d5A z3c) z).trans z3c
  rw[e5G hne4]
  rcases hv4 with rfl|⟨k,rfl,-,-⟩
  all_goals
   simp only[wA,seval,reduceCtorEq,reduceIte,nd,gz3,z3c,d5F (d5A z3c)]
   refine CallE.mono (e4F (hp5.app _).cell hp5.ne (by omega) [41]) fun v5 sg5 ow5 h5=>?_
   obtain⟨e5,q5,o5⟩:=h5
   subst e5 o5
   have z4:=q5.fr.get (i:=sg4.length) e4Q (by omega)
   have z2e:=q5.fr.get (i:=sg.length) (by rw[d5F (by omega)];exact z2d) (by omega)
   have gs:=fun y=>d4Z (y:=y) z2e
   simp only[wA,seval,reduceCtorEq,reduceIte,z4,z2e,gs]
   refine⟨.inl rfl,?_,o4⟩
   exact(((q02.trans q3).trans q4).trans q5.from).hi (g8S _) (by omega) _
 ·have hk':(((d5R [40] st).hd.kind:Int)=3)=False:=g9O (by omega)
  have hB:d6C (n+1) st=(zEx,d5O 2 (d5R [40] st)):=by rw[d6C,if_pos hk]
  rw[hB]
  simp only[wA,seval,reduceCtorEq,reduceIte,hc1,e3G,hk']
  refine CallE.mono (e5F (hp2.app _) 2) fun v2 sg2 ow2 h2=>?_
  obtain⟨e2,q2,o2⟩:=h2
  subst e2 o2
  have z2b:=q2.fr.get (i:=sg.length) (by rw[d5F (by omega)];exact z2) (by omega)
  have gs:=fun y=>d4Z (y:=y) z2b
  simp only[wA,seval,reduceCtorEq,reduceIte,z2b,gs]
  refine⟨.inl rfl,?_,OwK.refl⟩
  exact(q01.trans q2.from).hi (g8S _) (by omega) _
end Go.Proofs.YtcbgiabippcpaaaGreatDoor

/- The parser: primary expressions. -/
namespace Go.Proofs.YtcbgiabippcpaaaGreatDoor
open Go.Pi Go.Lx Go.Ky
variable {gl:Nat→Option (List T)}
theorem e5I {sg:Sg} {x y:Bool×List PV}:(sg++[x,y])[sg.length]?=some x:=by simp
theorem e5J {sg:Sg} {x y:Bool×List PV}:(sg++[x,y])[sg.length+1]?=some y:=by simp
theorem nd0 (op:Int) {K:PV→Prop}:XcP F gl 66 [.int .i64 op,.sl true []] K ⟨⟩↔K (.t (.agg [.int .i64 op,.int .u64 0,.str [],.sl true []])):=by
 have h:=nd (gl:=gl) op true [] (K:=K)
 rw[d2K] at h
 exact h
set_option maxHeartbeats 4000000 in
theorem e5K {n:Nat} (hn:CAll gl n) {c:Nat} {a b:Int} {st:Ps} {sg:Sg} {ow:Ow} (hp:Pre c a b st sg) (hf:12 * st.ts.length+3≤n+1):CallE F gl 116 [.lp c 0] sg ow (EvR c a b sg ow (d6A (n+1) st)):=by
 refine XcE.of F116 rfl ?_
 simp only[c8J]
 have hcl:=hp.lt
 have hp1:=hp.app [(false,zC)]
 have hln:=hp.ln
 obtain⟨r,hr⟩:=e4G hp.ne
 have hc1:=hp1.cell
 simp only[psC,hr,g7T] at hc1
 by_cases hk:st.hd.kind=3
 ·have hk':((st.hd.kind:Int)=3)=True:=g9P (by omega)
  have hB:d6A (n+1) st=(.mk 1 st.hd.val [] true [],d5P st):=by rw[d6A,if_pos hk]
  rw[hB]
  simp only[wA,seval,reduceCtorEq,reduceIte,hc1,e3G,hk']
  refine CallE.mono (e4D (hp.app _).cell hp.ne) fun v1 sg1 ow1 h1=>?_
  obtain⟨e1,q1,o1⟩:=h1
  subst e1 o1
  have z2:=q1.fr.get (i:=sg.length) e5I (by omega)
  have z3:=q1.fr.get (i:=sg.length+1) e5J (by omega)
  have gs:=fun y=>d4Z (y:=y) z2
  simp only[wA,seval,reduceCtorEq,reduceIte,z2,z3,gs]
  exact⟨.inl rfl,q1.from.hi (g8S _) (by omega) _,OwK.refl⟩
 have hk':((st.hd.kind:Int)=3)=False:=g9O (by omega)
 by_cases hi:st.hd.kind=1
 ·have hi':((st.hd.kind:Int)=1)=True:=g9P (by omega)
  have hB:d6A (n+1) st=if atM [40] (d5P st) then (.mk 5 0 st.hd.text (d6B n (d5P (d5P st))).1.isEmpty (d6B n (d5P (d5P st))).1,(d6B n (d5P (d5P st))).2) else (.mk 2 0 st.hd.text true [],d5P st):=by rw[d6A,if_neg hk,if_pos hi]
  rw[hB]
  simp only[wA,seval,reduceCtorEq,reduceIte,hc1,e3G,hk',hi']
  refine CallE.mono (e4D (hp.app _).cell hp.ne) fun v1 sg1 ow1 h1=>?_
  obtain⟨e1,q1,o1⟩:=h1
  subst e1 o1
  have s1:=d6V hp.wf
  have l1:=d6X hp.wf (by omega)
  have hp2:=hp.next q1 s1
  have z2:=q1.fr.get (i:=sg.length) e5I (by omega)
  have z3:=q1.fr.get (i:=sg.length+1) e5J (by omega)
  simp only[wA,seval,reduceCtorEq,reduceIte]
  refine CallE.mono (e4E hp2.cell hp2.ne [40]) fun v2 sg2 ow2 h2=>?_
  obtain⟨e2,q2,o2⟩:=h2
  subst e2 o2
  unfold d5Q at q2
  have z2b:=q2.fr.get z2 (by omega)
  have z3b:=q2.fr.get z3 (by omega)
  cases ha:atM [40] (d5P st) with
  |true =>
   rw[ha] at q2
   simp only[reduceIte] at q2 ⊢
   have hp3:=hp2.next q2 (d6V hp2.wf)
   have l2:=d6X hp2.wf (d6W ha)
   simp only[wA,seval,reduceCtorEq,reduceIte,a1I,z3b]
   refine CallE.mono (hn.ar c a b _ sg2 _ hp3 (by omega)) fun v3 sg3 ow3 h3=>?_
   obtain⟨hv3,q3,o3⟩:=h3
   have z2c:=q3.fr.get z2b (by omega)
   have z3c:=q3.fr.get z3b (by omega)
   have gs:=fun y=>d4Z (y:=y) z2c
   have gn:=fun y=>e4R (sg:=sg3) (show sg.length≠sg.length+1 by omega) y
   have q0:=(q1.from.trans q2).trans q3
   rcases hv3 with⟨rfl,hA⟩|⟨rfl|⟨k,rfl⟩,hA⟩
   ·simp only[wA,seval,reduceCtorEq,reduceIte,d5L,d5K,d5J,d5I,z3b,z3c,z2c,gs,gn]
    refine⟨?_,q0.hi (g8S _) (by omega) _,o3⟩
    rw[hA]
    exact .inl rfl
   ·simp only[wA,seval,reduceCtorEq,reduceIte,d5L,d5K,d5J,d5I,z3b,z3c,z2c,gs,gn]
    exact⟨.inr ⟨_,⟨.inl rfl,e5G hA⟩,rfl⟩,q0.hi (g8S _) (by omega) _,o3⟩
   ·simp only[wA,seval,reduceCtorEq,reduceIte,d5L,d5K,d5J,d5I,z3b,z3c,z2c,gs,gn]
    exact⟨.inr ⟨_,⟨.inr ⟨k,rfl⟩,e5G hA⟩,rfl⟩,q0.hi (g8S _) (by omega) _,o3⟩
  |false =>
   rw[ha] at q2
   simp only[g5V,if_false] at q2 ⊢
   have gs:=fun y=>d4Z (y:=y) z2b
   simp only[wA,seval,reduceCtorEq,reduceIte,z3b,z2b,gs]
   exact⟨.inl rfl,(q1.from.trans q2).hi (g8S _) (by omega) _,OwK.refl⟩
 have hi':((st.hd.kind:Int)=1)=False:=g9O (by omega)
 simp only[wA,seval,reduceCtorEq,reduceIte,hc1,e3G,hk',hi']
 refine CallE.mono (e4E (hp.app _).cell hp.ne [116,114,117,101]) fun v1 sg1 ow1 h1=>?_
 obtain⟨e1,q1,o1⟩:=h1
 subst e1 o1
 unfold d5Q at q1
 have z2:=q1.fr.get (i:=sg.length) e5I (by omega)
 cases h1:atM [116,114,117,101] st with
 |true =>
  rw[h1] at q1
  simp only[reduceIte] at q1
  have hB:d6A (n+1) st=(nod 3 [],d5P st):=by rw[d6A,if_neg hk,if_neg hi,if_pos h1]
  rw[hB]
  have gs:=fun y=>d4Z (y:=y) z2
  simp only[wA,seval,reduceCtorEq,reduceIte,nd0,z2,gs]
  exact⟨.inl rfl,q1.from.hi (g8S _) (by omega) _,OwK.refl⟩
 |false =>
 rw[h1] at q1
 simp only[g5V,if_false] at q1
 simp only[wA,seval,reduceCtorEq,reduceIte]
 refine CallE.mono (e4E q1.cell hp.ne [102,97,108,115,101]) fun v2 sg2 ow2 h2=>?_
 obtain⟨e2,q2,o2⟩:=h2
 subst e2 o2
 unfold d5Q at q2
 have z2b:=q2.fr.get z2 (by omega)
 cases h2:atM [102,97,108,115,101] st with
 |true =>
  rw[h2] at q2
  simp only[reduceIte] at q2
  have hB:d6A (n+1) st=(nod 4 [],d5P st):=by rw[d6A,if_neg hk,if_neg hi,if_neg (by rw[h1];simp),if_pos h2]
  rw[hB]
  have gs:=fun y=>d4Z (y:=y) z2b
  simp only[wA,seval,reduceCtorEq,reduceIte,nd0,z2b,gs]
  exact⟨.inl rfl,(q1.from.trans q2).hi (g8S _) (by omega) _,OwK.refl⟩
 |false =>
 rw[h2] at q2
 simp only[g5V,if_false] at q2
 simp only[wA,seval,reduceCtorEq,reduceIte]
 refine CallE.mono (e4E q2.cell hp.ne [104,97,115,104]) fun v3 sg3 ow3 h3=>?_
 obtain⟨e3,q3,o3⟩:=h3
 subst e3 o3
 unfold d5Q at q3
 have z2c:=q3.fr.get z2b (by omega)
 cases h3:atM [104,97,115,104] st with
 |true =>
  rw[h3] at q3
  simp only[reduceIte] at q3
  have hB:d6A (n+1) st=d6C n (d5P st):=by rw[d6A,if_neg hk,if_neg hi,if_neg (by rw[h1];simp),if_neg (by rw[h2];simp),if_pos h3]
  rw[hB]
  have hp3:=hp.next q3 (d6V hp.wf)
  have l3:=d6X hp.wf (d6W h3)
  simp only[wA,seval,reduceCtorEq,reduceIte]
  refine CallE.mono (hn.ha c a b _ sg3 _ hp3 (by omega)) fun v4 sg4 ow4 h4=>?_
  obtain⟨hv,q4,o4⟩:=h4
  have z2d:=q4.fr.get z2c (by omega)
  have gs:=fun y=>d4Z (y:=y) z2d
  have hv0:=hv
  rcases hv with rfl|⟨k,hnl,rfl⟩
  all_goals
   first|have hax:=Xk.al hnl.1|have hax:=@c2X
   simp only[wA,seval,reduceCtorEq,reduceIte,z2d,gs,hax]
   exact⟨hv0,(((q1.from.trans q2).trans q3).trans q4).hi (g8S _) (by omega) _,o4⟩
 |false =>
 rw[h3] at q3
 simp only[g5V,if_false] at q3
 simp only[wA,seval,reduceCtorEq,reduceIte]
 refine CallE.mono (e4E q3.cell hp.ne [91]) fun v4 sg4 ow4 h4=>?_
 obtain⟨e4,q4,o4⟩:=h4
 subst e4 o4
 unfold d5Q at q4
 have z2d:=q4.fr.get z2c (by omega)
 have g1:=q1.fr.1
 have g2:=q2.fr.1
 have g3:=q3.fr.1
 have g4:=q4.fr.1
 simp only[g7K,g7L,g7O,g8Z] at g1
 have q03:=(q1.from.trans q2).trans q3
 cases h4:atM [91] st with
 |true =>
  rw[h4] at q4
  simp only[reduceIte] at q4
  have hB:d6A (n+1) st=(nod 7 (d6D n (d5P st)).1,d5R [93] (d6D n (d5P st)).2):=by rw[d6A,if_neg hk,if_neg hi,if_neg (by rw[h1];simp),if_neg (by rw[h2];simp),if_neg (by rw[h3];simp),if_pos h4]
  rw[hB]
  have hp4:=hp.next q4 (d6V hp.wf)
  have l4:=d6X hp.wf (d6W h4)
  simp only[wA,seval,reduceCtorEq,reduceIte]
  refine CallE.mono (hn.li c a b _ sg4 _ hp4 (by omega)) fun v5 sg5 ow5 h5=>?_
  obtain⟨hv5,hne5,q5,o5⟩:=h5
  have rd:=(d7P n).li _ hp4.wf
  have l5:=rd.suf.le
  have hp5:=hp4.next q5 rd.suf
  have z2e:=q5.fr.get z2d (by omega)
  have g5:=q5.fr.1
  have hN:nod 7 (d6D n (d5P st)).1=.mk 7 0 [] false (d6D n (d5P st)).1:=by unfold nod;rw[e5G hne5]
  rw[hN]
  rcases hv5 with rfl|⟨k,rfl,-,-⟩
  all_goals
   simp only[wA,seval,reduceCtorEq,reduceIte,nd]
   refine CallE.mono (e4F (hp5.app _).cell hp5.ne (by omega) [93]) fun v6 sg6 ow6 h6=>?_
   obtain⟨e6,q6,o6⟩:=h6
   subst e6 o6
   have z4:=q6.fr.get (i:=sg5.length) e4Q (by omega)
   have z2f:=q6.fr.get (i:=sg.length) (by rw[d5F (by omega)];exact z2e) (by omega)
   have gs:=fun y=>d4Z (y:=y) z2f
   simp only[wA,seval,reduceCtorEq,reduceIte,z4,z2f,gs]
   exact⟨.inl rfl,(((q03.trans q4).trans q5).trans q6.from).hi (g8S _) (by omega) _,o5⟩
 |false =>
 rw[h4] at q4
 simp only[g5V,if_false] at q4
 simp only[wA,seval,reduceCtorEq,reduceIte]
 refine CallE.mono (e4E q4.cell hp.ne [40]) fun v5 sg5 ow5 h5=>?_
 obtain⟨e5,q5,o5⟩:=h5
 subst e5 o5
 unfold d5Q at q5
 have z2e:=q5.fr.get z2d (by omega)
 have g5:=q5.fr.1
 have q04:=q03.trans q4
 cases h5:atM [40] st with
 |true =>
  rw[h5] at q5
  simp only[reduceIte] at q5
  have hB:d6A (n+1) st=((d5W n (d5P st)).1,d5R [41] (d5W n (d5P st)).2):=by rw[d6A,if_neg hk,if_neg hi,if_neg (by rw[h1];simp),if_neg (by rw[h2];simp),if_neg (by rw[h3];simp),if_neg (by rw[h4];simp),if_pos h5]
  rw[hB]
  have hp5:=hp.next q5 (d6V hp.wf)
  have l5:=d6X hp.wf (d6W h5)
  simp only[wA,seval,reduceCtorEq,reduceIte]
  refine CallE.mono (hn.ex c a b _ sg5 _ hp5 (by omega)) fun v6 sg6 ow6 h6=>?_
  obtain⟨hv6,q6,o6⟩:=h6
  have rd:=(d7P n).ex _ hp5.wf
  have l6:=rd.suf.le
  have hp6:=hp5.next q6 rd.suf
  have z2f:=q6.fr.get z2e (by omega)
  have g6:=q6.fr.1
  have hv0:=hv6
  rcases hv6 with rfl|⟨k,hnl,rfl⟩
  all_goals
   first|have hax:=Xk.al hnl.1|have hax:=@c2X
   simp only[wA,seval,reduceCtorEq,reduceIte,hax]
   refine CallE.mono (e4F (hp6.app _).cell hp6.ne (by omega) [41]) fun v7 sg7 ow7 h7=>?_
   obtain⟨e7,q7,o7⟩:=h7
   subst e7 o7
   have z4:=q7.fr.get (i:=sg6.length) e4Q (by omega)
   have z2g:=q7.fr.get (i:=sg.length) (by rw[d5F (by omega)];exact z2f) (by omega)
   have gs:=fun y=>d4Z (y:=y) z2g
   simp only[wA,seval,reduceCtorEq,reduceIte,z4,z2g,gs,hax]
   exact⟨hv0,(((q04.trans q5).trans q6).trans q7.from).hi (g8S _) (by omega) _,o6⟩
 |false =>
 rw[h5] at q5
 simp only[g5V,if_false] at q5
 have hB:d6A (n+1) st=(zEx,d5O 2 st):=by rw[d6A,if_neg hk,if_neg hi,if_neg (by rw[h1];simp),if_neg (by rw[h2];simp),if_neg (by rw[h3];simp),if_neg (by rw[h4];simp),if_neg (by rw[h5];simp)]
 rw[hB]
 have hp5:=hp.next q5 (Suf.refl hp.wf)
 simp only[wA,seval,reduceCtorEq,reduceIte]
 refine CallE.mono (e5F hp5 2) fun v6 sg6 ow6 h6=>?_
 obtain⟨e6,q6,o6⟩:=h6
 subst e6 o6
 have z2f:=q6.fr.get z2e (by omega)
 have gs:=fun y=>d4Z (y:=y) z2f
 simp only[wA,seval,reduceCtorEq,reduceIte,z2f,gs]
 exact⟨.inl rfl,((q04.trans q5).trans q6).hi (g8S _) (by omega) _,OwK.refl⟩
end Go.Proofs.YtcbgiabippcpaaaGreatDoor

/- The parser's expressions: the contracts at every fuel. -/
namespace Go.Proofs.YtcbgiabippcpaaaGreatDoor
open Go.Pi Go.Lx Go.Ky
variable {gl:Nat→Option (List T)}
theorem e5L:CAll gl 0 where
 ex:=fun c a b st sg ow hp hf=>absurd hf (by omega)
 bi:=fun lv c a b st sg ow hl hp hf=>absurd hf (by omega)
 un:=fun c a b st sg ow hp hf=>absurd hf (by omega)
 pr:=fun c a b st sg ow hp hf=>absurd hf (by omega)
 ha:=fun c a b st sg ow hp hf=>absurd hf (by omega)
 ar:=fun c a b st sg ow hp hf=>absurd hf (by omega)
 li:=fun c a b st sg ow hp hf=>absurd hf (by omega)
theorem e5M (hg:GlOk gl) {n:Nat} (hall:∀ k,k≤n→CAll gl k):CAll gl (n+1) where
 ex:=fun c a b st sg ow hp hf=>e4S (hall n (g8S _)) hp hf
 bi:=fun lv c a b st sg ow hl hp hf=>e4V hg hall hl hp hf
 un:=fun c a b st sg ow hp hf=>e4X hall hp hf
 pr:=fun c a b st sg ow hp hf=>e5K (hall n (g8S _)) hp hf
 ha:=fun c a b st sg ow hp hf=>e5H (hall n (g8S _)) hp hf
 ar:=fun c a b st sg ow hp hf=>e5E (hall n (g8S _)) hp hf
 li:=fun c a b st sg ow hp hf=>e5D hall hp hf
theorem e5N (hg:GlOk gl) (n:Nat):∀ k,k≤n→CAll gl k:=by
 induction n with
 |zero =>
  intro k hk
  obtain rfl:k=0:=by omega
  exact e5L
 |succ n ih =>
  intro k hk
  rcases g8V k (n+1) with h|h
  ·exact ih k (by omega)
  ·obtain rfl:k=n+1:=by omega
   exact e5M hg ih
theorem all (hg:GlOk gl) (n:Nat):CAll gl n:=e5N hg n n (g8S _)
end Go.Proofs.YtcbgiabippcpaaaGreatDoor

/- The parser: types. -/
namespace Go.Proofs.YtcbgiabippcpaaaGreatDoor
open Go.Pi Go.Lx Go.Ky
variable {gl:Nat→Option (List T)}
abbrev tTyp (t:Ty):List T:=[.int .i64 t.kind,.int .i64 t.bits,.int .i64 t.len]
set_option maxHeartbeats 4000000 in
theorem e5O {c:Nat} {a b:Int} {st:Ps} {sg:Sg} {ow:Ow} (hp:Pre c a b st sg):CallE F gl 58 [.lp c 0] sg ow fun v sg' ow'=>v=.t (.agg (tTyp (tyM st).1))∧Q c a b sg (tyM st).2 sg'∧ow'=ow:=by
 refine XcE.of F58 rfl ?_
 simp only[c5Y]
 have hcl:=hp.lt
 have hln:=hp.ln
 simp only[wA,seval,reduceCtorEq,reduceIte]
 refine CallE.mono (e4E (hp.app _).cell hp.ne [102,105,101,108,100]) fun v1 sg1 ow1 h1=>?_
 obtain⟨e1,q1,o1⟩:=h1
 subst e1 o1
 unfold d5Q at q1
 have y2:=q1.fr.get (i:=sg.length) e5I (by omega)
 have y3:=q1.fr.get (i:=sg.length+1) e5J (by omega)
 have g1:=q1.fr.1
 simp only[g7K,g7L,g7O,g8Z] at g1
 cases h1:atM [102,105,101,108,100] st with
 |true =>
  rw[h1] at q1
  simp only[reduceIte] at q1
  have gn1:=fun y=>e4R (sg:=sg1) (show sg.length+1≠sg.length by omega) y
  simp only[wA,seval,reduceCtorEq,reduceIte,y3]
  have q:=q1.from.hi (i:=sg.length+1) (by omega) (by omega) (false,[.t (.int .i64 1),.t (.int .i64 0),.t (.int .i64 0)])
  have z2:=(gn1 (false,[.t (.int .i64 1),.t (.int .i64 0),.t (.int .i64 0)])).trans y2
  have z3:=d4Z (y:=(false,[.t (.int .i64 1),.t (.int .i64 0),.t (.int .i64 0)])) y3
  have hq:=hp.next q (d6V hp.wf)
  have hT:d6F st=(⟨1,0,0⟩,(d5P st)):=by unfold d6F;rw[if_pos h1]
  refine CallE.mono (e4E q.cell hq.ne [91]) fun vx sgx owx hx=>?_
  obtain⟨ex,qx,ox⟩:=hx
  subst ex ox
  unfold d5Q at qx
  have z2x:=qx.fr.get z2 (by omega)
  have z3x:=qx.fr.get z3 (by omega)
  have gx:=qx.fr.1
  have gs:=fun y=>d4Z (y:=y) z2x
  cases ha:atM [91] (d5P st) with
  |false =>
   rw[ha] at qx
   simp only[g5V,if_false] at qx
   have hM:tyM st=(⟨1,0,0⟩,(d5P st)):=by unfold tyM;rw[hT,if_neg (by rw[ha];simp)]
   rw[hM]
   simp only[wA,seval,reduceCtorEq,reduceIte,z2x,z3x,gs]
   exact(q.trans qx).hi (g8S _) (by omega) _
  |true =>
   rw[ha] at qx
   simp only[reduceIte] at qx
   have hM:tyM st=(⟨1,0,(d5T 1 64 (d5P (d5P st))).1⟩,d5R [93] (d5T 1 64 (d5P (d5P st))).2):=by unfold tyM;rw[hT,if_pos ha]
   rw[hM]
   have sx:=d6V hq.wf
   have hpx:=hq.next qx sx
   have lx:=sx.le
   have hlx:=hpx.ln
   simp only[wA,seval,reduceCtorEq,reduceIte]
   refine CallE.mono (e4I hpx.cell hpx.ne (by omega) 1 64) fun vy sgy owy hy=>?_
   obtain⟨ey,qy,oy⟩:=hy
   subst ey oy
   have sy:=d7A hpx.wf 1 64
   have hpy:=hpx.next qy sy
   have ly:=hpy.ln
   have z2y:=qy.fr.get z2x (by omega)
   have z3y:=qy.fr.get z3x (by omega)
   have gy:=qy.fr.1
   have gs3:=fun y=>d4Z (y:=y) z3y
   have gn:=fun y=>e4R (sg:=sgy) (show sg.length+1≠sg.length by omega) y
   have gc:=fun y=>e4R (sg:=sgy) (show sg.length+1≠c by omega) y
   simp only[wA,seval,reduceCtorEq,reduceIte,z3y]
   refine CallE.mono (e4F (st:=(d5T 1 64 (d5P (d5P st))).2) (a:=a) (b:=b) (by rw[gc];exact qy.cell) hpy.ne (by omega) [93]) fun vz sgz owz hz=>?_
   obtain⟨ez,qz,oz⟩:=hz
   subst ez oz
   have z2z:=qz.fr.get (i:=sg.length) ((gn _).trans z2y) (by omega)
   have z3z:=qz.fr.get (i:=sg.length+1) (gs3 _) (by omega)
   have gsz:=fun y=>d4Z (y:=y) z2z
   simp only[wA,seval,reduceCtorEq,reduceIte,z2z,z3z,gsz]
   exact Q.hi ⟨qz.cell,(((q.trans qx).trans qy).hi (i:=sg.length+1) (by omega) (by omega) _).fr.trans qz.fr⟩ (g8S _) (by omega) _
 |false =>
 rw[h1] at q1
 simp only[g5V,if_false] at q1
 simp only[wA,seval,reduceCtorEq,reduceIte]
 refine CallE.mono (e4E q1.cell hp.ne [98,111,111,108]) fun v2 sg2 ow2 h2=>?_
 obtain⟨e2,q2,o2⟩:=h2
 subst e2 o2
 unfold d5Q at q2
 have y2b:=q2.fr.get y2 (by omega)
 have y3b:=q2.fr.get y3 (by omega)
 have g2:=q2.fr.1
 cases h2:atM [98,111,111,108] st with
 |true =>
  rw[h2] at q2
  simp only[reduceIte] at q2
  have gn1:=fun y=>e4R (sg:=sg2) (show sg.length+1≠sg.length by omega) y
  simp only[wA,seval,reduceCtorEq,reduceIte,y3b]
  have q:=(q1.from.trans q2).hi (i:=sg.length+1) (by omega) (by omega) (false,[.t (.int .i64 2),.t (.int .i64 0),.t (.int .i64 0)])
  have z2:=(gn1 (false,[.t (.int .i64 2),.t (.int .i64 0),.t (.int .i64 0)])).trans y2b
  have z3:=d4Z (y:=(false,[.t (.int .i64 2),.t (.int .i64 0),.t (.int .i64 0)])) y3b
  have hq:=hp.next q (d6V hp.wf)
  have hT:d6F st=(⟨2,0,0⟩,(d5P st)):=by unfold d6F;rw[if_neg (by rw[h1];simp),if_pos h2]
  refine CallE.mono (e4E q.cell hq.ne [91]) fun vx sgx owx hx=>?_
  obtain⟨ex,qx,ox⟩:=hx
  subst ex ox
  unfold d5Q at qx
  have z2x:=qx.fr.get z2 (by omega)
  have z3x:=qx.fr.get z3 (by omega)
  have gx:=qx.fr.1
  have gs:=fun y=>d4Z (y:=y) z2x
  cases ha:atM [91] (d5P st) with
  |false =>
   rw[ha] at qx
   simp only[g5V,if_false] at qx
   have hM:tyM st=(⟨2,0,0⟩,(d5P st)):=by unfold tyM;rw[hT,if_neg (by rw[ha];simp)]
   rw[hM]
   simp only[wA,seval,reduceCtorEq,reduceIte,z2x,z3x,gs]
   exact(q.trans qx).hi (g8S _) (by omega) _
  |true =>
   rw[ha] at qx
   simp only[reduceIte] at qx
   have hM:tyM st=(⟨2,0,(d5T 1 64 (d5P (d5P st))).1⟩,d5R [93] (d5T 1 64 (d5P (d5P st))).2):=by unfold tyM;rw[hT,if_pos ha]
   rw[hM]
   have sx:=d6V hq.wf
   have hpx:=hq.next qx sx
   have lx:=sx.le
   have hlx:=hpx.ln
   simp only[wA,seval,reduceCtorEq,reduceIte]
   refine CallE.mono (e4I hpx.cell hpx.ne (by omega) 1 64) fun vy sgy owy hy=>?_
   obtain⟨ey,qy,oy⟩:=hy
   subst ey oy
   have sy:=d7A hpx.wf 1 64
   have hpy:=hpx.next qy sy
   have ly:=hpy.ln
   have z2y:=qy.fr.get z2x (by omega)
   have z3y:=qy.fr.get z3x (by omega)
   have gy:=qy.fr.1
   have gs3:=fun y=>d4Z (y:=y) z3y
   have gn:=fun y=>e4R (sg:=sgy) (show sg.length+1≠sg.length by omega) y
   have gc:=fun y=>e4R (sg:=sgy) (show sg.length+1≠c by omega) y
   simp only[wA,seval,reduceCtorEq,reduceIte,z3y]
   refine CallE.mono (e4F (st:=(d5T 1 64 (d5P (d5P st))).2) (a:=a) (b:=b) (by rw[gc];exact qy.cell) hpy.ne (by omega) [93]) fun vz sgz owz hz=>?_
   obtain⟨ez,qz,oz⟩:=hz
   subst ez oz
   have z2z:=qz.fr.get (i:=sg.length) ((gn _).trans z2y) (by omega)
   have z3z:=qz.fr.get (i:=sg.length+1) (gs3 _) (by omega)
   have gsz:=fun y=>d4Z (y:=y) z2z
   simp only[wA,seval,reduceCtorEq,reduceIte,z2z,z3z,gsz]
   exact Q.hi ⟨qz.cell,(((q.trans qx).trans qy).hi (i:=sg.length+1) (by omega) (by omega) _).fr.trans qz.fr⟩ (g8S _) (by omega) _
 |false =>
 rw[h2] at q2
 simp only[g5V,if_false] at q2
 simp only[wA,seval,reduceCtorEq,reduceIte]
 refine CallE.mono (e4E q2.cell hp.ne [117,105,110,116]) fun v3 sg3 ow3 h3=>?_
 obtain⟨e3,q3,o3⟩:=h3
 subst e3 o3
 unfold d5Q at q3
 have y2c:=q3.fr.get y2b (by omega)
 have y3c:=q3.fr.get y3b (by omega)
 have g3:=q3.fr.1
 cases h3:atM [117,105,110,116] st with
 |true =>
  rw[h3] at q3
  simp only[reduceIte] at q3
  have gn3:=fun y=>e4R (sg:=sg3) (show sg.length+1≠sg.length by omega) y
  have gc3:=fun y=>e4R (sg:=sg3) (show sg.length+1≠c by omega) y
  have gs3:=fun y=>d4Z (y:=y) y3c
  have hp3:=hp.next q3 (d6V hp.wf)
  have ln3:=hp3.ln
  simp only[wA,seval,reduceCtorEq,reduceIte,y3c]
  refine CallE.mono (e4I (st:=d5P st) (a:=a) (b:=b) (by rw[gc3];exact q3.cell) hp3.ne (by omega) 1 62) fun v4 sg4 ow4 h4=>?_
  obtain⟨e4,q4,o4⟩:=h4
  subst e4 o4
  have y2d:=q4.fr.get (i:=sg.length) ((gn3 _).trans y2c) (by omega)
  have y3d:=q4.fr.get (i:=sg.length+1) (gs3 _) (by omega)
  have q04:Q c a b sg (d5T 1 62 (d5P st)).2 sg4:=⟨q4.cell,(((q1.from.trans q2).trans q3).hi (i:=sg.length+1) (by omega) (by omega) _).fr.trans q4.fr⟩
  have gn1:=fun y=>e4R (sg:=sg4) (show sg.length+1≠sg.length by omega) y
  simp only[wA,seval,reduceCtorEq,reduceIte,y3d]
  have g4:=q4.fr.1
  simp only[g7P] at g4
  have q:=q04.hi (i:=sg.length+1) (by omega) (by omega) (false,[.t (.int .i64 3),.t (.int .i64 (d5T 1 62 (d5P st)).1),.t (.int .i64 0)])
  have z2:=(gn1 (false,[.t (.int .i64 3),.t (.int .i64 (d5T 1 62 (d5P st)).1),.t (.int .i64 0)])).trans y2d
  have z3:=d4Z (y:=(false,[.t (.int .i64 3),.t (.int .i64 (d5T 1 62 (d5P st)).1),.t (.int .i64 0)])) y3d
  have hq:=hp3.next q (d7A hp3.wf 1 62)
  have hT:d6F st=(⟨3,(d5T 1 62 (d5P st)).1,0⟩,(d5T 1 62 (d5P st)).2):=by unfold d6F;rw[if_neg (by rw[h1];simp),if_neg (by rw[h2];simp),if_pos h3]
  refine CallE.mono (e4E q.cell hq.ne [91]) fun vx sgx owx hx=>?_
  obtain⟨ex,qx,ox⟩:=hx
  subst ex ox
  unfold d5Q at qx
  have z2x:=qx.fr.get z2 (by omega)
  have z3x:=qx.fr.get z3 (by omega)
  have gx:=qx.fr.1
  have gs:=fun y=>d4Z (y:=y) z2x
  cases ha:atM [91] (d5T 1 62 (d5P st)).2 with
  |false =>
   rw[ha] at qx
   simp only[g5V,if_false] at qx
   have hM:tyM st=(⟨3,(d5T 1 62 (d5P st)).1,0⟩,(d5T 1 62 (d5P st)).2):=by unfold tyM;rw[hT,if_neg (by rw[ha];simp)]
   rw[hM]
   simp only[wA,seval,reduceCtorEq,reduceIte,z2x,z3x,gs]
   exact(q.trans qx).hi (g8S _) (by omega) _
  |true =>
   rw[ha] at qx
   simp only[reduceIte] at qx
   have hM:tyM st=(⟨3,(d5T 1 62 (d5P st)).1,(d5T 1 64 (d5P (d5T 1 62 (d5P st)).2)).1⟩,d5R [93] (d5T 1 64 (d5P (d5T 1 62 (d5P st)).2)).2):=by unfold tyM;rw[hT,if_pos ha]
   rw[hM]
   have sx:=d6V hq.wf
   have hpx:=hq.next qx sx
   have lx:=sx.le
   have hlx:=hpx.ln
   simp only[wA,seval,reduceCtorEq,reduceIte]
   refine CallE.mono (e4I hpx.cell hpx.ne (by omega) 1 64) fun vy sgy owy hy=>?_
   obtain⟨ey,qy,oy⟩:=hy
   subst ey oy
   have sy:=d7A hpx.wf 1 64
   have hpy:=hpx.next qy sy
   have ly:=hpy.ln
   have z2y:=qy.fr.get z2x (by omega)
   have z3y:=qy.fr.get z3x (by omega)
   have gy:=qy.fr.1
   have gs3:=fun y=>d4Z (y:=y) z3y
   have gn:=fun y=>e4R (sg:=sgy) (show sg.length+1≠sg.length by omega) y
   have gc:=fun y=>e4R (sg:=sgy) (show sg.length+1≠c by omega) y
   simp only[wA,seval,reduceCtorEq,reduceIte,z3y]
   refine CallE.mono (e4F (st:=(d5T 1 64 (d5P (d5T 1 62 (d5P st)).2)).2) (a:=a) (b:=b) (by rw[gc];exact qy.cell) hpy.ne (by omega) [93]) fun vz sgz owz hz=>?_
   obtain⟨ez,qz,oz⟩:=hz
   subst ez oz
   have z2z:=qz.fr.get (i:=sg.length) ((gn _).trans z2y) (by omega)
   have z3z:=qz.fr.get (i:=sg.length+1) (gs3 _) (by omega)
   have gsz:=fun y=>d4Z (y:=y) z2z
   simp only[wA,seval,reduceCtorEq,reduceIte,z2z,z3z,gsz]
   exact Q.hi ⟨qz.cell,(((q.trans qx).trans qy).hi (i:=sg.length+1) (by omega) (by omega) _).fr.trans qz.fr⟩ (g8S _) (by omega) _
 |false =>
 rw[h3] at q3
 simp only[g5V,if_false] at q3
 have hp3:=hp.next q3 (Suf.refl hp.wf)
 simp only[wA,seval,reduceCtorEq,reduceIte]
 refine CallE.mono (e5F hp3 2) fun v4 sg4 ow4 h4=>?_
 obtain⟨e4,q4,o4⟩:=h4
 subst e4 o4
 have z2:=q4.fr.get y2c (by omega)
 have z3:=q4.fr.get y3c (by omega)
 have q:=((q1.from.trans q2).trans q3).trans q4
 have hq:=hp.next q (d6U hp.wf 2)
 have g4:=q4.fr.1
 simp only[wA,seval,reduceCtorEq,reduceIte]
 have hT:d6F st=(⟨0,0,0⟩,(d5O 2 st)):=by unfold d6F;rw[if_neg (by rw[h1];simp),if_neg (by rw[h2];simp),if_neg (by rw[h3];simp)]
 refine CallE.mono (e4E q.cell hq.ne [91]) fun vx sgx owx hx=>?_
 obtain⟨ex,qx,ox⟩:=hx
 subst ex ox
 unfold d5Q at qx
 have z2x:=qx.fr.get z2 (by omega)
 have z3x:=qx.fr.get z3 (by omega)
 have gx:=qx.fr.1
 have gs:=fun y=>d4Z (y:=y) z2x
 cases ha:atM [91] (d5O 2 st) with
 |false =>
  rw[ha] at qx
  simp only[g5V,if_false] at qx
  have hM:tyM st=(⟨0,0,0⟩,(d5O 2 st)):=by unfold tyM;rw[hT,if_neg (by rw[ha];simp)]
  rw[hM]
  simp only[wA,seval,reduceCtorEq,reduceIte,z2x,z3x,gs]
  exact(q.trans qx).hi (g8S _) (by omega) _
 |true =>
  rw[ha] at qx
  simp only[reduceIte] at qx
  have hM:tyM st=(⟨0,0,(d5T 1 64 (d5P (d5O 2 st))).1⟩,d5R [93] (d5T 1 64 (d5P (d5O 2 st))).2):=by unfold tyM;rw[hT,if_pos ha]
  rw[hM]
  have sx:=d6V hq.wf
  have hpx:=hq.next qx sx
  have lx:=sx.le
  have hlx:=hpx.ln
  simp only[wA,seval,reduceCtorEq,reduceIte]
  refine CallE.mono (e4I hpx.cell hpx.ne (by omega) 1 64) fun vy sgy owy hy=>?_
  obtain⟨ey,qy,oy⟩:=hy
  subst ey oy
  have sy:=d7A hpx.wf 1 64
  have hpy:=hpx.next qy sy
  have ly:=hpy.ln
  have z2y:=qy.fr.get z2x (by omega)
  have z3y:=qy.fr.get z3x (by omega)
  have gy:=qy.fr.1
  have gs3:=fun y=>d4Z (y:=y) z3y
  have gn:=fun y=>e4R (sg:=sgy) (show sg.length+1≠sg.length by omega) y
  have gc:=fun y=>e4R (sg:=sgy) (show sg.length+1≠c by omega) y
  simp only[wA,seval,reduceCtorEq,reduceIte,z3y]
  refine CallE.mono (e4F (st:=(d5T 1 64 (d5P (d5O 2 st))).2) (a:=a) (b:=b) (by rw[gc];exact qy.cell) hpy.ne (by omega) [93]) fun vz sgz owz hz=>?_
  obtain⟨ez,qz,oz⟩:=hz
  subst ez oz
  have z2z:=qz.fr.get (i:=sg.length) ((gn _).trans z2y) (by omega)
  have z3z:=qz.fr.get (i:=sg.length+1) (gs3 _) (by omega)
  have gsz:=fun y=>d4Z (y:=y) z2z
  simp only[wA,seval,reduceCtorEq,reduceIte,z2z,z3z,gsz]
  exact Q.hi ⟨qz.cell,(((q.trans qx).trans qy).hi (i:=sg.length+1) (by omega) (by omega) _).fr.trans qz.fr⟩ (g8S _) (by omega) _
end Go.Proofs.YtcbgiabippcpaaaGreatDoor

/- The parser: parameters, declarations. -/
namespace Go.Proofs.YtcbgiabippcpaaaGreatDoor
open Go.Pi Go.Lx Go.Ky
variable {gl:Nat→Option (List T)}
set_option maxHeartbeats 1000000 in
theorem ok56 {c:Nat} {a b:Int} {st:Ps} {sg:Sg} {ow:Ow} (hp:Pre c a b st sg):CallE F gl 56 [.lp c 0] sg ow fun v sg' ow'=>v=.t (.agg (tPa (d6G st).1))∧Q c a b sg (d6G st).2 sg'∧ow'=ow:=by
 refine XcE.of F56 rfl ?_
 simp only[c5W]
 have hcl:=hp.lt
 have hln:=hp.ln
 simp only[wA,seval,reduceCtorEq,reduceIte]
 refine CallE.mono (e4H (hp.app _).cell hp.ne (by omega)) fun v1 sg1 ow1 h1=>?_
 obtain⟨e1,q1,o1⟩:=h1
 subst e1 o1
 have z2:=q1.fr.get (i:=sg.length) e4Q (by omega)
 have hp1:=hp.next q1 (d6Z hp.wf)
 have ln1:=hp1.ln
 simp only[wA,seval,reduceCtorEq,reduceIte]
 refine CallE.mono (e4F hp1.cell hp1.ne (by omega) [58]) fun v2 sg2 ow2 h2=>?_
 obtain⟨e2,q2,o2⟩:=h2
 subst e2 o2
 have z2b:=q2.fr.get z2 (by omega)
 have hp2:=hp1.next q2 (d6Y hp1.wf [58])
 simp only[wA,seval,reduceCtorEq,reduceIte]
 refine CallE.mono (e5O hp2) fun v3 sg3 ow3 h3=>?_
 obtain⟨e3,q3,o3⟩:=h3
 subst e3 o3
 have z2c:=q3.fr.get z2b (by omega)
 have gs:=fun y=>d4Z (y:=y) z2c
 simp only[wA,seval,reduceCtorEq,reduceIte,z2c,gs]
 exact⟨rfl,((q1.from.trans q2).trans q3).hi (g8S _) (by omega) _⟩
set_option maxHeartbeats 1000000 in
theorem ok21 {c:Nat} {a b:Int} {st:Ps} {sg:Sg} {ow:Ow} (hp:Pre c a b st sg):CallE F gl 21 [.lp c 0] sg ow fun v sg' ow'=>v=.t (.agg (tDe (d6O st).1))∧Q c a b sg (d6O st).2 sg'∧ow'=ow:=by
 refine XcE.of F21 rfl ?_
 simp only[c4M]
 have hcl:=hp.lt
 have hln:=hp.ln
 simp only[wA,seval,reduceCtorEq,reduceIte]
 refine CallE.mono (e4D (hp.app _).cell hp.ne) fun v0 sg0 ow0 h0=>?_
 obtain⟨e0,q0,o0⟩:=h0
 subst e0 o0
 have z2:=q0.fr.get (i:=sg.length) e4Q (by omega)
 have hp0:=hp.next q0 (d6V hp.wf)
 have ln0:=hp0.ln
 have g0:=q0.fr.1
 simp only[g7K,g7L,g7O,g8Z] at g0
 simp only[wA,seval,reduceCtorEq,reduceIte,e3G]
 refine CallE.mono (e4H (hp0.app _).cell hp0.ne (by omega)) fun v1 sg1 ow1 h1=>?_
 obtain⟨e1,q1,o1⟩:=h1
 subst e1 o1
 have z3:=q1.fr.get (i:=sg0.length) e4Q (by omega)
 have z2a:=q1.fr.get (i:=sg.length) (by rw[d5F (by omega)];exact z2) (by omega)
 have hp1:=hp0.next q1 (d6Z hp0.wf)
 have ln1:=hp1.ln
 have g1:=q1.fr.1
 simp only[g7K,g7L,g7O,g8Z] at g1
 have gn1:=fun y=>e4R (sg:=sg1) (show sg0.length≠sg.length by omega) y
 have gc1:=fun y=>e4R (sg:=sg1) (show sg0.length≠c by omega) y
 have gs1:=fun y=>d4Z (y:=y) z3
 simp only[wA,seval,reduceCtorEq,reduceIte,z3]
 refine CallE.mono (e4F (st:=(d5S (d5P st)).2) (a:=a) (b:=b) (by rw[gc1];exact q1.cell) hp1.ne (by omega) [58]) fun v2 sg2 ow2 h2=>?_
 obtain⟨e2,q2,o2⟩:=h2
 subst e2 o2
 have z3b:=q2.fr.get (i:=sg0.length) (gs1 _) (by omega)
 have z2b:=q2.fr.get (i:=sg.length) ((gn1 _).trans z2a) (by omega)
 have hp2:=hp1.next q2 (d6Y hp1.wf [58])
 have g2:=q2.fr.1
 simp only[g7P] at g2
 simp only[wA,seval,reduceCtorEq,reduceIte]
 refine CallE.mono (e5O hp2) fun v3 sg3 ow3 h3=>?_
 obtain⟨e3,q3,o3⟩:=h3
 subst e3 o3
 have z2c:=q3.fr.get z2b (by omega)
 have z3c:=q3.fr.get z3b (by omega)
 have g3:=q3.fr.1
 have hp3:=hp2.next q3 (d7E hp2.wf)
 have ln3:=hp3.ln
 have gn3:=fun y=>e4R (sg:=sg3) (show sg0.length≠sg.length by omega) y
 have gc3:=fun y=>e4R (sg:=sg3) (show sg0.length≠c by omega) y
 have gs3:=fun y=>d4Z (y:=y) z3c
 simp only[wA,seval,reduceCtorEq,reduceIte,z3c]
 refine CallE.mono (e4F (st:=(tyM (d5R [58] (d5S (d5P st)).2)).2) (a:=a) (b:=b) (by rw[gc3];exact q3.cell) hp3.ne (by omega) [59]) fun v4 sg4 ow4 h4=>?_
 obtain⟨e4,q4,o4⟩:=h4
 subst e4 o4
 have z3d:=q4.fr.get (i:=sg0.length) (gs3 _) (by omega)
 have z2d:=q4.fr.get (i:=sg.length) ((gn3 _).trans z2c) (by omega)
 have gs:=fun y=>d4Z (y:=y) z2d
 have qa:Q c a b sg (tyM (d5R [58] (d5S (d5P st)).2)).2 sg3:=(Q.trans (x:=(d5R [58] (d5S (d5P st)).2)) ⟨q2.cell,(((q0.from.trans q1.from).hi (i:=sg0.length) (by omega) (by omega) _).fr.trans q2.fr)⟩ q3)
 simp only[wA,seval,reduceCtorEq,reduceIte,z3d,z2d,gs]
 refine⟨?_,Q.hi ⟨q4.cell,(qa.hi (i:=sg0.length) (by omega) (by omega) _).fr.trans q4.fr⟩ (g8S _) (by omega) _⟩
 rfl
end Go.Proofs.YtcbgiabippcpaaaGreatDoor
