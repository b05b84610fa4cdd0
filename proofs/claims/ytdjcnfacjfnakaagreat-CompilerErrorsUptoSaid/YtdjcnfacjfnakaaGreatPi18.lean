/- PI 18: every operation. -/
import Derived.Test.YtdjcnfacjfnakaaGreatPi39
set_option linter.unusedSimpArgs false
set_option linter.unusedVariables false
namespace Go.Pi
variable {P:Program} {tb:Tb} {gl:Nat->Option (List T)} {G:Gh} {w:World} {nt:Nat} {a:Act} {K:Act->World->Prop} {Q:Exit->Act->World->Prop} {o:Oper} {C:Cal} {dr:Bool} {s:S} {v:PV} {sg':Sg} {ow':Ow}
theorem a9X {vs:Array Value} {xs:List PV} {ts:List T} (h:a1N tb.fx G w vs xs) (hc:xs.mapM close=some ts):vs.size=ts.length/\∀ (i:Nat) (v:Value) (x:T),vs[i]?=some v->ts[i]?=some x->TRep G.st w v x:=by
 obtain⟨h1,h2⟩:=a4E _ _ _ hc
 refine⟨by rw[h.1,h1],λi v x hv hx=>?_⟩
 have hlt:i < xs.length:=by rw[h1];exact(g5O.1 hx).1
 have hy:=g5M hlt
 exact a7M (h.2 i v _ hv hy) (h2 i _ x hy hx)
theorem a9Y {c:Call} {f:FuncId} (hop:o.op=.call c) (hcal:c.callee=.value (.func f)):(execOp a.eval o).run P w=(callFunc f (c.args.map a.eval)).run P w:=by
 unfold execOp
 simp only[hop,resolve,hcal,Act.eval,Deferred.ofValue,Sem.run_bind,Sem.run_pure,Result.andThen_ok,invoke]
 simp
theorem a9Z (htb:TbOk P tb) (hC:a8L P tb gl C) (hi:Inv tb.fx gl G w s.sg s.ow) (hf:FRep tb.fx G w nt a s.fr) {c:Call} (hop:o.op=.call c) {q:O} (hq:a2S P tb nt c=some q) (hstep:a1F C gl dr q s=some (v,sg',ow'))
  (hK:∀ val G' w',Ext G w G' w'->Inv tb.fx gl G' w' sg' ow'->PRep tb.fx G' w' val v->K (a.put o.dst val) w'):o.wp P a w K Q:=by
 unfold a2S at hq
 split at hq
 ·-- a function by its name
  rename_i f as hcal has
  have hall:=a4J has hf
  have hrun:=a9Y (P:=P) (w:=w) (a:=a) hop hcal
  split at hq
  ·rename_i k hk
   have hmem:=a4G hk
   obtain⟨fn,cd,t1,t2,t3⟩:=htb.fx k f hmem
   rw[a8M t1 t2 t3] at hrun
   split at hq
   ·-- with the caller's store
    injection hq with hq
    subst hq
    simp only[a1F] at hstep
    refine a8S (R:=λval w'=>∃ G',Ext G w G' w'/\Inv tb.fx gl G' w' sg' ow'/\PRep tb.fx G' w' val v) hrun ((hC k f _ _ _ _ _ _ hstep hmem G w _ hi hall).mono ?_) ?_
    ·rintro e w' ⟨val,G',rfl,h1,h2,h3⟩
     exact⟨val,rfl,G',h1,h2,h3⟩
    ·rintro val w' ⟨G',h1,h2,h3⟩
     exact hK val G' w' h1 h2 h3
   split at hq
   ·-- by itself,slices given up
    injection hq with hq
    subst hq
    simp only[a1F] at hstep
    split at hstep
    case h_2=>cases hstep
    rename_i ys sgz hfrz
    obtain⟨hsz,hal⟩:=hall
    obtain⟨G1,e1,e2,e3,e4⟩:=a9V _ hi (us:=(c.args.map a.eval).toList) (by simpa using hsz) (λi u x h1 h2=>hal i u x (by simpa using h1) h2) hfrz
    split at hstep
    case h_2=>cases hstep
    rename_i ts hts
    have hall1:a1N tb.fx G1 w (c.args.map a.eval) ys:=⟨by simpa using e3,λi u x h1 h2=>e4 i u x (by simpa using h1) h2⟩
    obtain⟨m1,m2⟩:=a9X hall1 hts
    split at hstep
    case h_2=>cases hstep
    rename_i r sg1 ow1 hcall
    split at hstep
    case isFalse=>cases hstep
    exact a9W hC e2 hmem hrun m1 m2 hcall hstep λval G' w' h1 h2 h3=>hK val G' w' (e1.trans h1) h2 h3
   ·-- by itself
    injection hq with hq
    subst hq
    simp only[a1F] at hstep
    split at hstep
    ·rename_i ts hts
     obtain⟨m1,m2⟩:=a9X hall hts
     split at hstep
     ·rename_i r sg1 ow1 hcall
      have hpc:=a8N hC hi hmem hcall m1 m2
      refine a8S (R:=λval w'=>∃ Gc,Ext ⟨[],[],[],G.st,w.heap.size⟩ w Gc w'/\Inv tb.fx gl Gc w' sg1 ow1/\PRep tb.fx Gc w' val r) hrun (hpc.mono ?_) ?_
      ·rintro e w' ⟨val,G',rfl,h1,h2,h3⟩
       exact⟨val,rfl,G',h1,h2,h3⟩
      ·rintro val w' ⟨Gc,hE,hI,hp⟩
       obtain⟨⟨x1,x2⟩,x3⟩:=a8O hi hE hI
       have fin:∀ y,PRep tb.fx { G with st:=λb o=>Gc.st b o\/(b < w'.heap.size/\∃ i:Nat,Gc.mu[i]?=some b) } w' val y->(y,s.sg,s.ow)=(v,sg',ow')->K (a.put o.dst val) w':=by
        intro y hy he
        injection he with e1 e2
        injection e2 with e2 e3
        subst e1 e2 e3
        exact hK val _ w' x1 x2 hy
       have hup:∀ {u:Value} {x:T},TRep Gc.st w' u x->TRep (λb o=>Gc.st b o\/(b < w'.heap.size/\∃ i:Nat,Gc.mu[i]?=some b)) w' u x:=λh=>h.mono (λ_ _ h=>.inl h) (λ_ _ _=>rfl)
       unfold retV at hstep
       split at hstep
       ·-- owned
        rename_i k0 z0 es0 hret
        split at hret
        ·rename_i k1 z1 es1
         split at hret
         ·rename_i hlive
          injection hret with hret
          injection hret with q1 q2 q3
          subst q1 q2 q3
          cases hp with|own _ _ n ad cap _ htr hk' hn hl =>
          split at hstep
          ·simp only[g7F,g7G] at hstep
           exact fin _ (.t (hup htr)) hstep
          ·injection hstep with hstep
           injection hstep with e1 e2
           injection e2 with e2 e3
           subst e1 e2 e3
           have hkn:n=es1.length:=by rw[hI.fr,hlive] at hk';injection hk' with hk';exact hk'.symm
           subst hkn
           obtain⟨b,oo,t1,t2,t3⟩:=hl rfl
           obtain⟨y1,y2⟩:=x3 k1 b oo z1 cap es1.length t1 hlive
           refine hK _ _ w' y1 y2 ?_
           have htk:G.tk.length=s.ow.length:=hi.tkl
           have hfr:G.fr.length=s.ow.length:=by rw[hi.fr]
           refine .own s.ow.length z1 es1.length ad cap es1 (hup htr) (by simp only;rw[<-hfr];exact a3S _ _) (g6U _) (λ_=>⟨b,oo,?_,t2,t3⟩)
           simp only
           rw[<-htk]
           exact a3S _ _
         ·cases hret
        ·cases hret
        ·simp only[g7E,reduceCtorEq,and_false,exists_false] at hret
        ·simp only[g7E,reduceCtorEq,and_false,exists_false] at hret
       ·rename_i y hno hret
        simp only[g7F,g7G] at hstep
        refine fin y ?_ hstep
        split at hret
        ·rename_i k1 z1 es1
         split at hret
         ·injection hret with hret
          exact absurd hret.symm (hno _ _ _)
         ·injection hret with hret
          subst hret
          cases hp with|own _ _ n ad cap _ htr hk' hn hl=>exact .t (hup htr)
        ·injection hret with hret
         subst hret
         obtain⟨ad,rfl,htr⟩:=hp.cp_inv
         exact .cp _ _ (hup htr)
        ·rename_i vs0
         simp only[g7E] at hret
         obtain⟨ts0,hts0,rfl⟩:=hret
         obtain⟨n1,n2⟩:=a4E _ _ _ hts0
         cases hp with|tup cs _ hl hr =>
         refine .tup cs _ (by simp;omega) λi u x hu hx=>?_
         simp only[g5P,g7E] at hx
         obtain⟨t0,ht0,rfl⟩:=hx
         have hlt:i < vs0.length:=by rw[n1];exact(g5O.1 ht0).1
         have hy:=g5M hlt
         exact .t (a8X hI (hr i u _ hu hy) (n2 i _ t0 hy ht0))
        ·simp only[g7E] at hret
         obtain⟨t0,ht0,rfl⟩:=hret
         exact .t (a8X hI hp ht0)
       ·cases hstep
     ·cases hstep
    ·cases hstep
  ·-- without a body
   simp only[g7E] at hq
   obtain⟨k,hk,rfl⟩:=hq
   have hmem:=a4G hk
   simp only[a1F] at hstep
   split at hstep
   ·rename_i ts hts
    obtain⟨m1,m2⟩:=a9X hall hts
    simp only[g7E] at hstep
    obtain⟨r,hr,he⟩:=hstep
    rcases htb.xx k f hmem ts r (c.args.map a.eval) G w gl hi.glob hr m1 m2 with⟨val,e1,e2⟩|⟨e1,e2⟩
    ·rw[e1] at hrun
     exact a8Y hi hrun e2 he hK
    ·rw[e1] at hrun
     injection he with h1 h2
     injection h2 with h2 h3
     subst h1 h2 h3
     refine a8S (R:=λval w'=>∃ G',Ext G w G' w'/\Inv tb.fx gl G' w' s.sg s.ow/\PRep tb.fx G' w' val r) hrun (e2.mono ?_) ?_
     ·rintro e w' ⟨val,st',rfl,q1,q2,q3,q4⟩
      exact⟨val,rfl,a8P hi q1 q2 q3 q4⟩
     ·rintro val w' ⟨G',q1,q2,q3⟩
      exact hK val G' w' q1 q2 q3
   ·cases hstep
 ·-- a function value
  rename_i x as hnf hcal has
  simp only[g7E] at hq
  obtain⟨g,hg,rfl⟩:=hq
  have hall:=a4J has hf
  have hgr:=a4H hg hf
  simp only[a1F] at hstep
  split at hstep
  ·rename_i k caps hge
   rw[hge] at hgr
   generalize hev:a.eval x=fv at hgr
   cases hgr with|fn _ f cv _ hmem hl hr =>
   obtain⟨fn,cd,t1,t2,t3⟩:=htb.fx k f hmem
   have hrun:(execOp a.eval o).run P w=.ok (.enter f (c.args.map a.eval++cv)) w:=by
    unfold execOp
    simp only[hop,resolve,hcal,hev,Deferred.ofValue,Sem.run_bind,Sem.run_pure,Result.andThen_ok,invoke]
    simp only[Array.empty_append]
    exact a8M t1 t2 t3 _ w
   have hall2:a1N tb.fx G w (c.args.map a.eval++cv) (as.map (Opd.ev s.fr)++caps):=by
    refine⟨by simp [hl];have:=hall.1;simpa using this,λi v x hv hx=>?_⟩
    have hsz:=hall.1
    rcases g6X i (c.args.map a.eval).size with hlt|hge
    ·rw[Array.getElem?_append_left hlt] at hv
     rw[g5J (by omega)] at hx
     exact hall.2 i v x hv hx
    ·rw[Array.getElem?_append_right hge] at hv
     rw[g5K (by omega),<-hsz] at hx
     exact hr _ v x hv hx
   refine a8S (R:=λval w'=>∃ G',Ext G w G' w'/\Inv tb.fx gl G' w' sg' ow'/\PRep tb.fx G' w' val v) hrun ((hC k f _ _ _ _ _ _ hstep hmem G w _ hi hall2).mono ?_) ?_
   ·rintro e w' ⟨val,G',rfl,h1,h2,h3⟩
    exact⟨val,rfl,G',h1,h2,h3⟩
   ·rintro val w' ⟨G',h1,h2,h3⟩
    exact hK val G' w' h1 h2 h3
  ·cases hstep
 ·-- len
  rename_i xa hcal has
  obtain⟨x,hargs,hxa⟩:∃ x,c.args.toList=[x]/\a1W tb nt x=some xa:=by
   cases hl:c.args.toList with
   |nil=>rw[hl] at has;simp [a1Y] at has
   |cons x r =>
    rw[hl] at has
    simp only[a1Y] at has
    split at has
    ·rename_i y ys h1 h2
     injection has with has
     injection has with e1 e2
     subst e1 e2
     cases r with
     |nil=>exact⟨x,rfl,h1⟩
     |cons z r=>simp only[a1Y] at h2;split at h2 <;> cases h2
    ·cases has
  have hargs':c.args=#[x]:=by
   apply Array.ext'
   simpa using hargs
  have ra:=a4H hxa hf
  have hrun:(execOp a.eval o).run P w=(do pure (Next.value (<-Builtin.len_ c.argTypes o.type #[a.eval x])):Sem Next).run P w:=by
   unfold execOp
   simp only[hop,resolve,hcal,Sem.run_bind,Sem.run_pure,Result.andThen_ok,invoke,builtin,hargs']
   simp
  have hlen:∀ (st:Bool) (t:TypeId),c.argTypes[0]?=some t->(if st then P.underlying t=some .string else ∃ e,P.underlying t=some (.slice e))->q=.len st xa->o.wp P a w K Q:=by
   intro st t ht hty hq'
   subst hq'
   simp only[a1F,g7E] at hstep
   obtain⟨r,⟨n,hn,rfl⟩,he⟩:=hstep
   have h0:=a5W (P:=P) ra hty hn o.type
   have h1:(Builtin.len_ c.argTypes o.type #[a.eval x]).run P w=.ok (.int .i64 n) w:=by
    rw[<-h0]
    have:(#[t]:Array TypeId)[0]?=some t:=rfl
    simp only[Builtin.len_,ht,this]
   exact a8Y hi (by rw[hrun];exact a8Z h1) (.tint _ _) he hK
  split at hq
  ·rename_i hu
   simp only[g7C] at hu
   obtain⟨t,ht,hu⟩:=hu
   exact hlen true t ht (by simpa using hu) (by injection hq with hq;exact hq.symm)
  ·rename_i e hu
   simp only[g7C] at hu
   obtain⟨t,ht,hu⟩:=hu
   exact hlen false t ht (by simpa using ⟨e,hu⟩) (by injection hq with hq;exact hq.symm)
  ·rename_i n e hu
   simp only[g7C] at hu
   obtain⟨t,ht,hu⟩:=hu
   injection hq with hq
   subst hq
   simp only[a1F,g7F,g7G] at hstep
   have h1:(Builtin.len_ c.argTypes o.type #[a.eval x]).run P w=.ok (.int .i64 n) w:=by
    simp only[Builtin.len_,ht]
    simp [run_underlying hu,goInt]
   exact a8Y hi (by rw[hrun];exact a8Z h1) (.tint _ _) hstep hK
  ·cases hq
 ·-- append
  rename_i xa xb hcal has
  obtain⟨x,y,hargs,hxa,hxb⟩:∃ x y,c.args.toList=[x,y]/\a1W tb nt x=some xa/\a1W tb nt y=some xb:=by
   cases hl:c.args.toList with
   |nil=>rw[hl] at has;simp [a1Y] at has
   |cons x r =>
    rw[hl] at has
    simp only[a1Y] at has
    split at has
    ·rename_i y' ys h1 h2
     injection has with has
     injection has with e1 e2
     subst e1 e2
     cases r with
     |nil=>simp [a1Y] at h2
     |cons z r =>
      simp only[a1Y] at h2
      split at h2
      ·rename_i z' zs h3 h4
       injection h2 with h2
       injection h2 with e1 e2
       subst e1 e2
       cases r with
       |nil=>exact⟨x,z,rfl,h1,h3⟩
       |cons z2 r2=>simp only[a1Y] at h4;split at h4 <;> cases h4
      ·cases h2
    ·cases has
  have hargs':c.args=#[x,y]:=by
   apply Array.ext'
   simpa using hargs
  have ra:=a4H hxa hf
  have rb:=a4H hxb hf
  have hrun:(execOp a.eval o).run P w=(do pure (Next.value (<-Builtin.append_ c.argTypes o.type #[a.eval x,a.eval y])):Sem Next).run P w:=by
   unfold execOp
   simp only[hop,resolve,hcal,Sem.run_bind,Sem.run_pure,Result.andThen_ok,invoke,builtin,hargs']
   simp
  have happ:∀ (t u e:TypeId) (sz by_:Nat) (z:List T),c.argTypes[0]?=some t->c.argTypes[1]?=some u->P.underlying t=some (.slice e)->a7Y P u->a2A P e=some sz->a2B P e=some by_->a2D P e=some z->z.length=sz->0 < sz->q=.app sz by_ xa xb->o.wp P a w K Q:=by
   intro t u e sz by_ z h1 h2 h3 h4 h5 h6 h7 h8 h9 hq'
   subst hq'
   simp only[a1F,g7E] at hstep
   obtain⟨⟨r,ow1⟩,hr,he⟩:=hstep
   injection he with e1 e2
   injection e2 with e2 e3
   subst e1 e2 e3
   obtain⟨val,G',w',k1,k2,k3,k4⟩:=a8H (P:=P) (ty:=o.type) hi h3 h4 h5 h6 h7 h8 h9 ra rb hr
   have k1':(Builtin.append_ c.argTypes o.type #[a.eval x,a.eval y]).run P w=.ok val w':=by
    rw[<-k1]
    have e1:(#[t,u]:Array TypeId)[0]?=some t:=rfl
    have e2:(#[t,u]:Array TypeId)[1]?=some u:=rfl
    simp only[Builtin.append_,h1,h2,e1,e2]
   exact a8Q (by rw[hrun];exact a8Z k1') (hK val G' w' k2 k3 k4)
  split at hq
  ·rename_i t u ht hu
   simp only[g7C] at hu
   obtain⟨u',hu',hu⟩:=hu
   split at hq
   ·rename_i e hte
    split at hq
    ·rename_i sz by_ z e' h5 h6 h7
     split at hq
     ·rename_i hz
      split at hq
      ·injection hq with hq
       subst hq
       simp only[a1F,g7E] at hstep
       obtain⟨⟨r,sg1⟩,hr,he⟩:=hstep
       injection he with e1 e2
       injection e2 with e2 e3
       subst e1 e2 e3
       obtain⟨val,G',w',k1,k2,k3,k4⟩:=a9E (P:=P) (ty:=o.type) hi hte (.inl ⟨_,hu⟩) h5 h6 h7 hz.1 hz.2 ra rb hr
       have k1':(Builtin.append_ c.argTypes o.type #[a.eval x,a.eval y]).run P w=.ok val w':=by
        rw[<-k1]
        have e1:(#[t,u']:Array TypeId)[0]?=some t:=rfl
        have e2:(#[t,u']:Array TypeId)[1]?=some u':=rfl
        simp only[Builtin.append_,ht,hu',e1,e2]
       exact a8Q (by rw[hrun];exact a8Z k1') (hK val G' w' k2 k3 k4)
      ·exact happ t u' e sz by_ z ht hu' hte (.inl ⟨_,hu⟩) h5 h6 h7 hz.1 hz.2 (by injection hq with hq;exact hq.symm)
     ·cases hq
    ·rename_i sz by_ z h5 h6 h7
     split at hq
     ·rename_i hz
      injection hq with hq
      exact happ t u' e sz by_ z ht hu' hte (.inr hu) h5 h6 h7 hz.1 hz.2 hq.symm
     ·cases hq
    ·cases hq
   ·cases hq
  ·cases hq
 ·-- delete
  rename_i xa xb hcal has
  obtain⟨x,y,hargs',hxa,hxb⟩:=a9T has
  have ra:=a4H hxa hf
  have rb:=a4H hxb hf
  have hrun:(execOp a.eval o).run P w=(do pure (Next.value (<-Builtin.delete_ c.argTypes o.type #[a.eval x,a.eval y])):Sem Next).run P w:=by
   unfold execOp
   simp only[hop,resolve,hcal,Sem.run_bind,Sem.run_pure,Result.andThen_ok,invoke,builtin,hargs']
   simp
  split at hq
  ·rename_i kt el hu
   simp only[g7C] at hu
   obtain⟨t,ht,hu⟩:=hu
   simp only[g7E] at hq
   obtain⟨kd,hkd,rfl⟩:=hq
   simp only[a1F,g7E] at hstep
   obtain⟨sg1,hr,he⟩:=hstep
   injection he with e1 e2
   injection e2 with e2 e3
   subst e1 e2 e3
   obtain⟨w',k1,k2,k3⟩:=a9P (P:=P) (ty:=o.type) hi ht hu hkd ra rb hr
   exact a8Q (by rw[hrun];exact a8Z k1) (hK _ G w' k2 k3 (a1S _ _ _))
  ·cases hq
 ·-- max
  rename_i xa xb hcal has
  obtain⟨x,y,hargs',hxa,hxb⟩:=a9T has
  injection hq with hq
  subst hq
  simp only[a1F,g7E] at hstep
  obtain⟨r,⟨r',hr',rfl⟩,he⟩:=hstep
  obtain⟨val,k1,k2⟩:=a9Q (P:=P) (ts:=c.argTypes) (ty:=o.type) (a4H hxa hf) (a4H hxb hf) hr'
  have hrun:(execOp a.eval o).run P w=(do pure (Next.value (<-Builtin.max_ c.argTypes o.type #[a.eval x,a.eval y])):Sem Next).run P w:=by
   unfold execOp
   simp only[hop,resolve,hcal,Sem.run_bind,Sem.run_pure,Result.andThen_ok,invoke,builtin,hargs']
   simp
  exact a8Y hi (by rw[hrun];exact a8Z k1) k2 he hK
 ·-- min
  rename_i xa xb hcal has
  obtain⟨x,y,hargs',hxa,hxb⟩:=a9T has
  injection hq with hq
  subst hq
  simp only[a1F,g7E] at hstep
  obtain⟨r,⟨r',hr',rfl⟩,he⟩:=hstep
  obtain⟨val,k1,k2⟩:=a9R (P:=P) (ts:=c.argTypes) (ty:=o.type) (a4H hxa hf) (a4H hxb hf) hr'
  have hrun:(execOp a.eval o).run P w=(do pure (Next.value (<-Builtin.min_ c.argTypes o.type #[a.eval x,a.eval y])):Sem Next).run P w:=by
   unfold execOp
   simp only[hop,resolve,hcal,Sem.run_bind,Sem.run_pure,Result.andThen_ok,invoke,builtin,hargs']
   simp
  exact a8Y hi (by rw[hrun];exact a8Z k1) k2 he hK
 ·cases hq
end Go.Pi
