/- PI 22: regions, code, calls: what the interpreter says is what the program does. Program independent. -/
import Derived.Test.YtdjcnfacjfnakaaGreatPi36
import Derived.LoopN
set_option linter.unusedSimpArgs false
set_option linter.unusedVariables false
namespace Go.Pi
variable {P:Program} {tb:Tb} {gl:Nat→Option (List T)} {G:Gh} {w:World} {nt:Nat} {a:Act} {C:Cal} {dr:Bool} {s s':S}
def b4G (tb:Tb) (gl:Nat→Option (List T)) (nt:Nat) (G:Gh) (w:World) (a:Act) (s:S):Prop:=Inv tb.fx gl G w s.sg s.ow∧FRep tb.fx G w nt a s.fr
def asB:Value→Option Bool
 |.bool q=>some q
 |_=>none
theorem b4H {ops:Array Oper} {o:Oper} {g:Option (Nat×Bool)} {fr:List PV} (hf:FRep tb.fx G w nt a fr) (hg:a3D nt ops o.guard=some g):Region.wanted o (yielded ops a.tmps)=wanted fr g:=by
 unfold a3D at hg
 unfold Region.wanted
 split at hg
 ·rename_i h0
  injection hg with hg
  subst hg
  simp [h0,wanted]
 ·rename_i j b h0
  split at hg
  ·rename_i d hd
   split at hg
   ·rename_i hlt
    injection hg with hg
    subst hg
    have hp:=hf.2.2 d hlt
    have hds:d < a.tmps.size:=by rw[hf.2.1];exact hlt
    have hget:a.tmps[d]?=some a.tmps[d]:=g2M hds
    have hgd:a.tmps.getD d undef=a.tmps[d]:=by simp [Array.getD,hds]
    rw[hgd] at hp
    have hy:yielded ops a.tmps j=asB a.tmps[d]:=by
     unfold yielded
     rw[hd]
     simp only[Option.bind_some,hget]
     cases a.tmps[d] <;> rfl
    simp only[h0,hy,wanted]
    generalize hv:a.tmps[d]=v at hp
    by_cases hb:∃ q,v=.bool q
    ·obtain⟨q,rfl⟩:=hb
     rw[hp.of_bool]
     cases q <;> cases b <;> rfl
    ·have h1:asB v=none:=by
      cases v <;> first|rfl|exact absurd ⟨_,rfl⟩ hb
     have h2:(match a0A fr d with|.t (.bool q)=>q == b|_=>false)=false:=by
      split
      ·rename_i q heq
       rw[heq] at hp
       exact absurd ⟨q,hp.bool_inv⟩ hb
      ·rfl
     rw[h1]
     exact(show(none == some b)=false by cases b <;> rfl).trans h2.symm
   ·cases hg
  ·cases hg
theorem b4I (htb:TbOk P tb) (hC:a9G P tb gl C) {ops:Array Oper} {o:Oper} (hs:b4G tb gl nt G w a s) (h:a1M C gl dr (a3E P tb nt ops o) s=some s') {K:Act→World→Prop} {Q:Exit→Act→World→Prop}
  (hK:∀ G' w' a',Ext G w G' w'→b4G tb gl nt G' w' a' s'→K a' w'):if Region.wanted o (yielded ops a.tmps)=true then o.wp P a w K Q else K (a.put o.dst undef) w:=by
 obtain⟨hi,hf⟩:=hs
 unfold a3E at h
 split at h
 ·rename_i g hg hd
  have hdst:∀ k,o.dst=some k→k < nt:=fun k hk=>by
   rw[hk] at hd
   simpa [a3C] using hd
  rw[b4H hf hg]
  unfold a1M at h
  simp only at h
  split at h
  ·rename_i hw
   rw[if_pos hw]
   split at h
   ·rename_i v sg' ow' hstep
    injection h with h
    subst h
    cases hq:a3B P tb nt o with
    |none =>
     rw[hq] at hstep
     simp [a1L] at hstep
    |some q =>
     rw[hq] at hstep
     refine b1E htb hC hi hf hq hstep fun val G' w' hE hI hp=>hK G' w' _ hE ⟨hI,?_⟩
     exact(hE.frep hf).put hdst hp
   ·cases h
  ·rename_i hw
   rw[if_neg hw]
   injection h with h
   subst h
   exact hK G w _ (.refl _ _) ⟨hi,hf.put hdst (a1Z _ _ _)⟩
 ·simp only[a1M,wanted,if_true,a1L] at h
  cases h
theorem b4J (htb:TbOk P tb) (hC:a9G P tb gl C) {ops:Array Oper} {Q:Exit→Act→World→Prop}:∀ (l:List Nat) (s:S) (G:Gh) (w:World) (a:Act),b4G tb gl nt G w a s→b2P C gl dr (ops.toList.map (a3E P tb nt ops)) l s=some s' →
  (∀ G' w' a',Ext G w G' w'→b4G tb gl nt G' w' a' s'→Q .normal a' w')→wpOps P ops Q l a w:=by
 intro l
 induction l with
 |nil =>
  intro s G w a hs h hQ
  simp only[b2P,g5G] at h
  subst h
  exact hQ G w a (.refl _ _) hs
 |cons i r ih =>
  intro s G w a hs h hQ
  simp only[b2P] at h
  split at h
  ·rename_i q hq
   simp only[g3O,g5E] at hq
   obtain⟨o,ho,rfl⟩:=hq
   have ho':ops[i]?=some o:=by simpa using ho
   split at h
   ·rename_i s1 hs1
    simp only[wpOps,ho']
    have:=b4I htb hC (K:=wpOps P ops Q r) (Q:=Q) hs hs1 fun G' w' a' hE hs'=>ih s1 G' w' a' hs' h fun G2 w2 a2 hE2 hs2=>hQ G2 w2 a2 (hE.trans hE2) hs2
    split
    ·rename_i hw
     rw[if_pos hw] at this
     exact .inl this
    ·rename_i hw
     rw[if_neg hw] at this
     exact this
   ·cases h
  ·cases h
theorem b4K (n:Nat):rem n (Array.replicate n false)=List.range n:=by
 unfold rem
 refine List.filter_eq_self.2 fun i hi=>?_
 have:=g4L.1 hi
 simp [Array.getD,this]
def b4L:Ex→Exit
 |.normal=>.normal
 |.exit id=>.exit id
 |.ret=>.ret
theorem b4M {is:List Ins} {ks:List Nat} {q:O} {r:PV×Sg×Ow} (h:a1L C gl dr (a3S is ks q) s=some r):a1L C gl dr q s=some r:=by
 unfold a3S at h
 split at h
 ·rename_i ag n a
  split at h
  ·rename_i k _
   simp only[a1L,g5E] at h ⊢
   obtain⟨v,hv,rfl⟩:=h
   refine⟨v,?_,rfl⟩
   unfold a1I at hv
   split at hv
   ·rename_i he
    split at hv
    ·split at hv
     ·split at hv
      ·split at hv
       ·rw[he];exact hv
       ·cases hv
      ·rw[he];exact hv
     ·cases hv
    ·cases hv
   ·cases hv
  ·simp only[a1L,g5E] at h ⊢
   obtain⟨v,hv,rfl⟩:=h
   exact⟨v,b1W (sg:=[]) (r:=s.sg) hv,rfl⟩
  ·exact h
 ·rename_i f as
  simp only[a1L] at h ⊢
  split at h
  ·rename_i v sg ow hc
   split at h
   ·rw[hc];exact h
   ·cases h
  ·cases h
 ·rename_i n a v
  have key:∀ ks',a1L C gl dr (.stok n a v ks') s=some r→a1L C gl dr (.store n a v) s=some r:=by
   intro ks' h
   simp only[a1L] at h ⊢
   split at h
   ·rename_i sg hc
    split at h
    ·rw[hc];exact h
    ·cases h
   ·cases h
  exact key _ h
 ·rename_i f as
  simp only[a1L] at h ⊢
  split at h
  case h_2=>cases h
  rename_i ys sgz hf
  have k0:a1H s.fr [] s.sg sgz=true:=keepsB_iff.2 (fun k hk=>by cases hk)
  split at h
  case h_2=>cases h
  rename_i ts hts
  split at h
  case h_2=>cases h
  rename_i r' sg' ow' hc
  split at h
  case isFalse=>cases h
  simp only[hf,hts,hc,if_pos k0]
  exact h
 ·exact h
theorem b4N {is:List Ins} {ks:List Nat} (is0:List Ins):∀ (l:List Nat) (s s':S),b2P C gl dr (is0.map (a3T is ks)) l s=some s'→b2P C gl dr is0 l s=some s':=by
 intro l
 induction l with
 |nil=>intro s s' h;exact h
 |cons i r ih =>
  intro s s' h
  simp only[b2P] at h ⊢
  rw[g3O] at h
  cases hi:is0[i]? with
  |none=>rw[hi] at h;cases h
  |some q =>
   rw[hi] at h
   simp only[g5F] at h ⊢
   have hs:∀ s1,a1M C gl dr (a3T is ks q) s=some s1→a1M C gl dr q s=some s1:=by
    intro s1 hs1
    unfold a1M a3T at hs1
    unfold a1M
    simp only at hs1
    split at hs1
    ·rename_i hw
     rw[if_pos hw]
     split at hs1
     ·rename_i v sg ow hst
      rw[b4M hst]
      exact hs1
     ·cases hs1
    ·rename_i hw
     rw[if_neg hw]
     exact hs1
   split at h
   ·rename_i s1 h1
    rw[hs s1 h1]
    exact ih s1 s' h
   ·cases h
theorem b4O {R:Nat→Nat→Prop} {l:List Nat} (h:l.Pairwise R) {i j:Nat} (ha:Ahd l i j):R i j:=by
 obtain⟨l1,l2,rfl,hj⟩:=ha
 have:=(List.pairwise_append.1 h).2.1
 exact(List.pairwise_cons.1 this).1 j hj
theorem b4P (htb:TbOk P tb) (hC:a9G P tb gl C) {ops:Array Oper} {Q:Exit→Act→World→Prop} {is:List Ins} (hl:is.length=ops.size) (hp:a3X nt is=true) (hc:a3Z ops is=true) {s s1:S} (href:∀ l s1,b2P C gl true is l s=some s1→b2P C gl true (ops.toList.map (a3E P tb nt ops)) l s=some s1)
  (hr:b2P C gl true is (List.range ops.size) s=some s1) (hs:b4G tb gl nt G w a s) (hQ:∀ G' w' a',Ext G w G' w'→b4G tb gl nt G' w' a' s1→Q .normal a' w') (t:Nat):wpOps P ops Q (Region.linearise .any ops t) a w:=by
 unfold a3X at hp
 split at hp
 ·rename_i dx zx dy zy n x a' m y b' hdrop
  unfold a3W at hp
  simp only[g2R,g5L,Bool.not_eq_true',g5J] at hp
  obtain⟨⟨⟨⟨⟨⟨⟨⟨⟨⟨⟨e1,e2⟩,d1⟩,d2⟩,d3⟩,d4⟩,d5⟩,b1⟩,b2⟩,b3⟩,b4⟩,hpre⟩:=hp
  subst e1 e2
  have hlen4:4≤is.length:=by
   have:=congrArg List.length hdrop
   simp only[List.length_drop,g3W,g3Y] at this
   omega
  generalize hpp:is.length - 4=p at hdrop hpre
  have hn:ops.size=p+4:=by omega
  have at4:∀ i,is[p+i]?=[(⟨some x,none,.alloc zx⟩:Ins),⟨some y,none,.alloc zy⟩,⟨none,none,.stok n (.s x) (.s a') []⟩,⟨none,none,.stok m (.s y) (.s b') []⟩][i]?:=fun i=>by
   rw[←hdrop,g3K]
  have hrange:List.range ops.size=List.range p++[p,p+1,p+2,p+3]:=by
   rw[hn,List.range_succ,List.range_succ,List.range_succ,List.range_succ]
   simp
  have hr0:=hr
  rw[hrange,b2Q] at hr
  obtain⟨sm,hm,h4⟩:=g5C.1 hr
  have hfr:∀ k,k < nt→IdLt s.sg.length (a0A s.fr k):=fun k hk=>by
   have:=b3J (hs.2.2.2 k hk)
   rw[hs.1.mul] at this
   exact this
  obtain⟨g1,g2,g3⟩:=b3T (nt:=nt) (N:=s.sg.length) is (List.range p) s sm (fun j hj q hq=>by
   have hj':=g4L.1 hj
   have hq':q∈is.take p:=by
    have:(is.take p)[j]?=some q:=by rw[List.getElem?_take_of_lt hj'];exact hq
    exact g4K this
   have:=g2Y.1 hpre q hq'
   rw[g2R] at this
   exact this.1) hfr hm
  obtain⟨cx,cy,k1,k2,k3,k4⟩:=b4B (at4 0) (at4 1) (at4 2) (at4 3) d1 d2 d3 d4 d5 h4
  rw[g1,g2] at k3 k4
  have hax:∀ z,z∈cx→IdLt s.sg.length z:=b4A (g3 _ b3) k1
  have hay:∀ z,z∈cy→IdLt s.sg.length z:=b4A (g3 _ b4) k2
  have hall:∀ k,k < ops.size→a3Y ops is p k=true:=fun k hk=>by
   have:=g2Y.1 hc k (g4L.2 hk)
   have e:ops.size - 4=p:=by omega
   rw[e] at this
   exact this
  have hback:∀ k,k < ops.size→∀ o,ops[k]?=some o→∀ e∈o.after,Region.binds .any e=true→e.on < k:=by
   intro k hk o ho e he hb
   have:=hall k hk
   unfold a3Y at this
   rw[ho,g3L (show k < is.length by omega)] at this
   simp only[g2R,g2Y] at this
   have h1:=this.1 e (by simpa using he)
   simpa [hb] using h1
  obtain⟨l,q1,q2,q3⟩:=b3H hback ops.size t (Array.replicate ops.size false) [] (by simp) (by rw[b4K];simp)
  rw[b4K] at q2
  have hlin:Region.linearise .any ops t=l:=by
   unfold Region.linearise
   rw[q1]
   rfl
  rw[hlin]
  have hnd:l.Nodup:=q2.symm.nodup List.nodup_range
  have hmem:∀ k,k∈l→k < ops.size:=fun k hk=>g4L.1 (q2.subset hk)
  have hedge:∀ k∈l,∀ o,ops[k]?=some o→∀ e∈o.after,Region.binds .any e=true→Ahd l e.on k:=by
   intro k hk o ho e he hb
   rcases q3 k hk o ho e he hb with h|h
   ·simp [Array.getD] at h
   ·exact h
  have hcom:∀ i j,j < i→Ahd l i j→¬(j=p∧i=p+1)→∀ u v,is[j]?=some u→is[i]?=some v→a3L u v=true:=by
   intro i j hji hij hne u v hu hv
   have hi:=hmem i (b3C hij).1
   have:=hall i hi
   unfold a3Y at this
   rw[g2M hi,hv] at this
   simp only[g2R,g2Y] at this
   have h1:=this.2 j (g4L.2 hji)
   rw[hu] at h1
   simp only[g2U,g2R,g5L] at h1
   rcases h1 with h1|h1|h1|h1
   ·exact absurd h1 hne
   ·exact h1
   ·exfalso
    obtain⟨e,he,hb⟩:=g2Z.1 h1
    simp only[g2R,beq_iff_eq] at hb
    have h2:=hedge i (b3C hij).1 _ (g2M hi) e (by simpa using he) hb.1
    rw[hb.2] at h2
    exact b3D hnd h2 hij
   ·exact(b3D hnd (b3I hnd hedge 8 i j (b3C hij).1 h1) hij).elim
  have hpl:p∈l:=q2.symm.subset (g4L.2 (by omega))
  have hpl1:p+1∈l:=q2.symm.subset (g4L.2 (by omega))
  rcases b3F hpl hpl1 (by omega) with hab|hab
  ·have hrun:=b3G (C:=C) (gl:=gl) is l (List.range ops.size) s s1 q2.symm List.nodup_range (fun i j h1 h2=>by
    have hji:j < i:=b4O List.pairwise_lt_range h2
    exact hcom i j hji h1 fun ⟨e1,e2⟩=>by subst e1 e2;exact b3D hnd h1 hab) hr0
   exact b4J htb hC l s G w a hs (href l s1 hrun) hQ
  ·have hbase:(List.range p++[p+1,p,p+2,p+3]).Pairwise (fun x y=>x < y∨(x=p+1∧y=p)):=by
    refine List.pairwise_append.2 ⟨List.pairwise_lt_range.imp fun h=>.inl h,?_,fun x hx y hy=>?_⟩
    ·refine List.Pairwise.cons (fun z hz=>?_) (List.Pairwise.cons (fun z hz=>?_) (List.Pairwise.cons (fun z hz=>?_) (List.Pairwise.cons (fun z hz=>?_) List.Pairwise.nil)))
     all_goals
      simp only[g4G,g4N,or_false] at hz
     ·omega
     ·omega
     ·omega
    ·have:=g4L.1 hx
     simp only[g4G,g4N,or_false] at hy
     left;omega
   have hperm:(List.range p++[p+1,p,p+2,p+3]).Perm l:=by
    refine List.Perm.trans ?_ q2.symm
    rw[hrange]
    exact List.Perm.append_left _ (List.Perm.swap _ _ _)
   have hnd2:(List.range p++[p+1,p,p+2,p+3]).Nodup:=hperm.symm.nodup hnd
   have hbp:Ahd (List.range p++[p+1,p,p+2,p+3]) (p+1) p:=⟨List.range p,[p,p+2,p+3],rfl,by simp⟩
   have hrun:=b3G (C:=C) (gl:=gl) is l (List.range p++[p+1,p,p+2,p+3]) s _ hperm hnd2 (fun i j h1 h2=>by
    rcases b4O hbase h2 with hji|⟨e1,e2⟩
    ·exact hcom i j hji h1 fun ⟨e1,e2⟩=>by subst e1 e2;exact b3D hnd2 h2 hbp
    ·subst e1 e2;exact(b3D hnd h1 hab).elim) (by rw[b2Q,hm];exact k4)
   refine b4J htb hC l s G w a hs (href l _ hrun) fun G' w' a' hE hs2=>?_
   obtain⟨G2,r1,r2,r3⟩:=b4F hs.1 hE hs2.1 hs2.2 d1 g3 hax hay
   exact hQ G2 w' a' r1 (by rw[k3];exact⟨r2,r3⟩)
 ·cases hp
theorem b4Q (htb:TbOk P tb) (hC:a9G P tb gl C) (n:Nat):∀ (c:Code) (s s':S) (ex:Ex) (G:Gh) (w:World) (a:Act),b4G tb gl nt G w a s→a1P C gl n (compC P tb nt c) s=some (ex,s')→∀ Q:Exit→Act→World→Prop,
  (∀ G' w' a',Ext G w G' w'→b4G tb gl nt G' w' a' s'→Q (b4L ex) a' w')→c.wp P Q a w:=by
 intro c
 induction c with
 |skip =>
  intro s s' ex G w a hs h Q hQ
  simp only[compC,a1P,g5G,Prod.mk.injEq] at h
  obtain⟨rfl,rfl⟩:=h
  exact wp_skip (hQ G w a (.refl _ _) hs)
 |region id ops dr =>
  intro s s' ex G w a hs h Q hQ
  simp only[compC] at h
  have hseq:∀ dr s' (is:List Ins),is.length=ops.size→a1N C gl dr is s=some s'→b2P C gl dr is (List.range ops.size) s=some s':=by
   intro dr s' is hl h
   have:=b2R (C:=C) (gl:=gl) (dr:=dr) is 0 s
   rw[g3E,Nat.sub_zero,hl,←List.range_eq_range'] at this
   rw[←this]
   exact h
  cases dr with
  |false =>
   simp only[g2S,if_false,a1P,g5E,Prod.mk.injEq] at h
   obtain⟨s1,h1,rfl,rfl⟩:=h
   exact wp_region (b4J htb hC _ s G w a hs (hseq false s1 _ (by simp) h1) hQ)
  |true =>
   simp only[if_true] at h
   have main:P.follows .mixedOrders=true→∀ (tc:Tb) (htc:TbOk P tc) (hCc:a9G P tc gl C) (hfx:tc.fx=tb.fx) (is:List Ins),is.length=ops.size→a3O ops is=true→(∀ l s1,b2P C gl true is l s=some s1→b2P C gl true (ops.toList.map (a3E P tc nt ops)) l s=some s1)→∀ s1,a1N C gl true is s=some s1→ex=.normal→s1=s'→(Code.region id ops true).wp P Q a w:=by
    intro hfo tc htc hCc hfx is hl hc href s1 h1 hex hss
    subst hex hss
    have hE:∀ (G:Gh) (w:World) (a:Act) (s:S),b4G tc gl nt G w a s↔b4G tb gl nt G w a s:=fun G w a s=>by unfold b4G;rw[hfx]
    refine wp_region_draw fun t=>?_
    have hd:=hs.1.drew
    have hs':b4G tb gl nt G w.drew a s:=⟨hd.2,hd.1.frep hs.2⟩
    have hr:=hseq true s1 is hl h1
    rw[←b4K] at hr
    obtain⟨l,g1,g2⟩:=b3A (C:=C) (gl:=gl) (ops:=ops) hl hc ops.size t (Array.replicate ops.size false) [] s s1 (by simp) (fun i hi=>by simp [Array.getD] at hi) (by rw[b4K];simp) hr
    have hsch:Region.schedule (P.follows .mixedOrders) ops t=l:=by
     unfold Region.schedule
     rw[hfo]
     simp only[Bool.true_or,if_true]
     unfold Region.linearise
     rw[g1]
     rfl
    rw[hsch]
    exact b4J htc hCc l s G w.drew a ((hE _ _ _ _).2 hs') (href l s1 g2) fun G' w' a' hx hs2=>hQ G' w' a' (hd.1.trans hx) ((hE _ _ _ _).1 hs2)
   have dr_ok:P.follows .mixedOrders=true→∀ (tc:Tb) (htc:TbOk P tc) (hCc:a9G P tc gl C) (hfx:tc.fx=tb.fx) (l:List Ins),a4A P tc nt ops=some l→∀ s1,a1N C gl true l s=some s1→ex=.normal→s1=s'→(Code.region id ops true).wp P Q a w:=by
    intro hfo tc htc hCc hfx l hl s1 h1 hex hss
    unfold a4A at hl
    simp only at hl
    split at hl
    ·rename_i hc
     injection hl with hl
     subst hl
     exact main hfo tc htc hCc hfx _ (by simp) hc (fun _ _ h=>h) s1 h1 hex hss
    ·split at hl
     ·rename_i hc
      injection hl with hl
      subst hl
      exact main hfo tc htc hCc hfx _ (by simp) hc (fun l s1 h=>b4N _ l s s1 h) s1 h1 hex hss
     ·cases hl
   have htz:TbOk P tb.z:=⟨htb.fx,htb.xx,htb.bu⟩
   split at h
   ·rename_i hfo
    split at h
    ·rename_i l hl
     simp only[a1P,g5E,Prod.mk.injEq] at h
     obtain⟨s1,h1,h2,h3⟩:=h
     exact dr_ok hfo tb htb hC rfl l hl s1 h1 h2.symm h3
    ·split at h
     ·rename_i hc
      rw[g2R] at hc
      simp only[a1P,g5E,Prod.mk.injEq] at h
      obtain⟨s1,h1,h2,h3⟩:=h
      subst h2 h3
      refine wp_region_draw fun t=>?_
      have hd:=hs.1.drew
      have hs':b4G tb gl nt G w.drew a s:=⟨hd.2,hd.1.frep hs.2⟩
      have hsch:Region.schedule (P.follows .mixedOrders) ops t=Region.linearise .any ops t:=by
       unfold Region.schedule
       rw[hfo]
       simp only[Bool.true_or,if_true]
      rw[hsch]
      exact b4P htb hC (by simp) hc.1 hc.2 (fun l s1 h=>b4N _ l s s1 h) (hseq true s1 _ (by simp) h1) hs' (fun G' w' a' hE hs2=>hQ G' w' a' (hd.1.trans hE) hs2) t
     ·split at h
      ·rename_i l hl
       simp only[a1P,g5E,Prod.mk.injEq] at h
       obtain⟨s1,h1,h2,h3⟩:=h
       exact dr_ok hfo tb.z htz hC rfl l hl s1 h1 h2.symm h3
      ·simp [a1P] at h
   ·simp [a1P] at h
 |seq x y ihx ihy =>
  intro s s' ex G w a hs h Q hQ
  simp only[compC,a1P] at h
  refine wp_seq ?_
  split at h
  ·rename_i s1 h1
   refine ihx s s1 .normal G w a hs h1 _ fun G1 w1 a1 hE1 hs1=>?_
   exact ihy s1 s' ex G1 w1 a1 hs1 h Q fun G2 w2 a2 hE2 hs2=>hQ G2 w2 a2 (hE1.trans hE2) hs2
  ·rename_i r hno
   refine ihx s s' ex G w a hs h _ fun G1 w1 a1 hE1 hs1=>?_
   have:=hQ G1 w1 a1 hE1 hs1
   cases ex with
   |normal=>exact absurd h (fun e=>hno s' (by rw[e]))
   |exit id=>exact this
   |ret=>exact this
 |cond c x y ihx ihy =>
  intro s s' ex G w a hs h Q hQ
  simp only[compC] at h
  split at h
  ·rename_i cc hcc
   have rc:=a4V hcc hs.2
   simp only[a1P] at h
   split at h
   ·rename_i hb
    rw[hb] at rc
    exact wp_cond_true rc.bool_inv (ihx s s' ex G w a hs h Q hQ)
   ·rename_i hb
    rw[hb] at rc
    exact wp_cond_false rc.bool_inv (ihy s s' ex G w a hs h Q hQ)
   ·cases h
  ·simp [a1P] at h
 |block id b ih =>
  intro s s' ex G w a hs h Q hQ
  simp only[compC,a1P] at h
  refine wp_block ?_
  split at h
  ·rename_i id' s1 h1
   split at h
   ·rename_i hid
    injection h with h
    injection h with e1 e2
    subst e1 e2 hid
    refine ih s s1 (.exit id') G w a hs h1 _ fun G1 w1 a1 hE1 hs1=>?_
    simp only[b4L,Exit.inBlock,if_true]
    exact hQ G1 w1 a1 hE1 hs1
   ·rename_i hid
    injection h with h
    injection h with e1 e2
    subst e1 e2
    refine ih s s1 (.exit id') G w a hs h1 _ fun G1 w1 a1 hE1 hs1=>?_
    simp only[b4L,Exit.inBlock,if_neg hid]
    exact hQ G1 w1 a1 hE1 hs1
  ·rename_i r hno
   refine ih s s' ex G w a hs h _ fun G1 w1 a1 hE1 hs1=>?_
   have:=hQ G1 w1 a1 hE1 hs1
   cases ex with
   |normal=>exact this
   |exit id'=>exact absurd h (fun e=>hno id' s' (by rw[e]))
   |ret=>exact this
 |loop b ih =>
  intro s s' ex G w a hs h Q hQ
  simp only[compC,a1P] at h
  have key:∀ (m:Nat) (s:S) (G:Gh) (w:World) (a:Act),b4G tb gl nt G w a s→a1O (a1P C gl n (compC P tb nt b)) m s=some (ex,s')→(∀ G' w' a',Ext G w G' w'→b4G tb gl nt G' w' a' s'→Q (b4L ex) a' w')→Code.rounds P b Q m a w:=by
   intro m
   induction m with
   |zero=>intro s G w a _ h;simp [a1O] at h
   |succ m ihm =>
    intro s G w a hs h hQ
    simp only[a1O] at h
    rw[rounds_succ]
    split at h
    ·rename_i s1 h1
     refine ih s s1 .normal G w a hs h1 _ fun G1 w1 a1 hE1 hs1=>?_
     exact ihm s1 G1 w1 a1 hs1 h fun G2 w2 a2 hE2 hs2=>hQ G2 w2 a2 (hE1.trans hE2) hs2
    ·rename_i r hno
     refine ih s s' ex G w a hs h _ fun G1 w1 a1 hE1 hs1=>?_
     have:=hQ G1 w1 a1 hE1 hs1
     cases ex with
     |normal=>exact absurd h (fun e=>hno s' (by rw[e]))
     |exit id=>exact this
     |ret=>exact this
  exact wp_loop_rounds n (key n s G w a hs h hQ)
 |exit id =>
  intro s s' ex G w a hs h Q hQ
  simp only[compC,a1P,g5G,Prod.mk.injEq] at h
  obtain⟨rfl,rfl⟩:=h
  exact wp_exit (hQ G w a (.refl _ _) hs)
 |ret =>
  intro s s' ex G w a hs h Q hQ
  simp only[compC,a1P,g5G,Prod.mk.injEq] at h
  obtain⟨rfl,rfl⟩:=h
  exact wp_ret (hQ G w a (.refl _ _) hs)
 |rangeFunc f ps x y ihx ihy=>intro s s' ex G w a hs h;simp [compC,a1P] at h
 |scope b ih=>intro s s' ex G w a hs h;simp [compC,a1P] at h
 |label l=>intro s s' ex G w a hs h;simp [compC,a1P] at h
 |goto l=>intro s s' ex G w a hs h;simp [compC,a1P] at h
 |refuse y=>intro s s' ex G w a hs h;simp [compC,a1P] at h
end Go.Pi
