/- PI 19: every operation of the model. -/
import Derived.Test.YtdjcnfacjfnakaaGreatPi18
set_option linter.unusedSimpArgs false
set_option linter.unusedVariables false
namespace Go.Pi
variable {P:Program} {tb:Tb} {gl:Nat->Option (List T)} {G:Gh} {w:World} {nt:Nat} {a:Act} {K:Act->World->Prop} {Q:Exit->Act->World->Prop} {o:Oper} {C:Cal} {dr:Bool} {s:S} {v:PV} {sg':Sg} {ow':Ow}
theorem b0A (htb:TbOk P tb) (hC:a8L P tb gl C) (hi:Inv tb.fx gl G w s.sg s.ow) (hf:FRep tb.fx G w nt a s.fr) {q:O} (hq:a2T P tb nt o=some q) (hstep:a1F C gl dr q s=some (v,sg',ow'))
  (hK:∀ val G' w',Ext G w G' w'->Inv tb.fx gl G' w' sg' ow'->PRep tb.fx G' w' val v->K (a.put o.dst val) w'):o.wp P a w K Q:=by
 have hv:∀ {x:Sem Value} {val:Value} {w':World},execOp a.eval o=(do pure (Next.value (<-x)):Sem Next)->x.run P w=.ok val w'->(execOp a.eval o).run P w=.ok (.value val) w':=λh1 h2=>by rw[h1];exact a8Z h2
 cases hop:o.op <;> simp only[a2T,hop] at hq
 case move x =>
  simp only[g7E] at hq
  obtain⟨xa,hxa,rfl⟩:=hq
  simp only[a1F,g7F,g7G] at hstep
  exact a8Y hi (by unfold execOp;simp only[hop];rfl) (a4H hxa hf) hstep hK
 case assign x =>
  simp only[g7E] at hq
  obtain⟨xa,hxa,rfl⟩:=hq
  simp only[a1F,g7F,g7G] at hstep
  exact a8Y hi (by unfold execOp;simp only[hop];rfl) (a4H hxa hf) hstep hK
 case pick c x y =>
  split at hq
  ·rename_i xc xa xb hxc hxa hxb
   injection hq with hq
   subst hq
   simp only[a1F] at hstep
   split at hstep
   ·rename_i b hb
    have rc:=a4H hxc hf
    rw[hb] at rc
    have hc:=rc.bool_inv
    simp only[g7F,g7G] at hstep
    cases b with
    |true=>exact a8Y (val:=a.eval x) hi (by unfold execOp;simp only[hop,hc,asBool];rfl) (a4H hxa hf) hstep hK
    |false=>exact a8Y (val:=a.eval y) hi (by unfold execOp;simp only[hop,hc,asBool];rfl) (a4H hxb hf) hstep hK
   ·cases hstep
  ·cases hq
 case alloc t =>
  have hal:(a2D P t).map O.alloc=some q->o.wp P a w K Q:=by
   intro hq
   simp only[g7E] at hq
   obtain⟨zs,hz,rfl⟩:=hq
   simp only[a1F,g7G] at hstep
   injection hstep with e1 e2
   injection e2 with e2 e3
   subst e1 e2 e3
   obtain⟨i,z,h1,h2,h3,h4⟩:=a7A hz
   have hcr:CRep tb.fx G w z.cells (zs.map .t):=a7C h3 h4
   obtain⟨hE,hI⟩:=hi.newLocal z.cells t _ (Nat.le_of_eq hcr.1.symm) hcr.2
   refine a8Q (hv (x:=Instr.alloc t true (.tuple #[])) (by unfold execOp;simp only[hop]) (val:=.pointer (some ⟨w.heap.size,0,none⟩)) ?_) (hK _ _ _ hE hI (.lp _ _ _ (by simp only;rw[<-hi.mul];exact a3S _ _)))
   simp [Instr.alloc,a7B h1 h2,newVar,newRow]
  exact hal hq
 case box t x =>
  simp only[g7E] at hq
  obtain⟨xa,hxa,rfl⟩:=hq
  simp only[a1F,g7G] at hstep
  injection hstep with e1 e2
  injection e2 with e2 e3
  subst e1 e2 e3
  obtain⟨c1,c2⟩:=a4M (a4H hxa hf)
  obtain⟨hE,hI⟩:=hi.newLocal (a.eval x).cells t _ (Nat.le_of_eq c1.symm) c2
  refine a8Q (hv (x:=Instr.box t (a.eval x)) (by unfold execOp;simp only[hop]) (val:=.pointer (some ⟨w.heap.size,0,none⟩)) ?_) (hK _ _ _ hE hI (.lp _ _ _ (by simp only;rw[<-hi.mul];exact a3S _ _)))
  simp [Instr.box,newVar,newRow]
 case build t ps =>
  have hqs:∃ zs l,q=.build zs l\/q=.bldz zs l:=by
   unfold a2O at hq
   split at hq
   ·split at hq
    ·simp only[g7E] at hq
     obtain⟨l,_,rfl⟩:=hq
     unfold a2N
     split
     ·exact⟨_,_,.inr rfl⟩
     ·exact⟨_,_,.inl rfl⟩
    ·cases hq
   ·split at hq
    ·simp only[g7E] at hq
     obtain⟨l,_,rfl⟩:=hq
     exact⟨_,_,.inl rfl⟩
    ·cases hq
   ·cases hq
  obtain⟨zs,l,rfl|rfl⟩:=hqs
  ·simp only[a1F,g7E] at hstep
   obtain⟨r,⟨cs,hcs,rfl⟩,he⟩:=hstep
   obtain⟨val,h1,h2⟩:=a7F (P:=P) hf hq hcs
   exact a8Y hi (hv (by unfold execOp;simp only[hop]) h1) h2 he hK
  ·simp only[a1F] at hstep
   split at hstep
   case h_2=>cases hstep
   rename_i ys sgz hfrz
   simp only[g7E,Prod.mk.injEq] at hstep
   obtain⟨cs,hcs,rfl,rfl,rfl⟩:=hstep
   obtain⟨b1,b2⟩:=a7H (w:=w) (G:=G) hf hq
   obtain⟨G1,e1,e2,e3,e4⟩:=a9V _ hi (us:=ps.toList.map λp=>a.eval p.2) (by simp [b1]) (λi u x h1 h2=>by
    simp only[g5P,g7E] at h1 h2
    obtain⟨p,hp,rfl⟩:=h1
    obtain⟨q,hq',rfl⟩:=h2
    exact b2 i p q hp hq') hfrz
   obtain⟨val,h1,h2⟩:=a7G (P:=P) (G:=G1) (w:=w) hq (by rw[<-e3,g5Y,b1]) (λi p v hp hv'=>e4 i _ v (by rw[g5P,hp];rfl) hv') hcs
   exact a8Q (hv (by unfold execOp;simp only[hop]) h1) (hK _ G1 _ e1 e2 h2)
 case buildSlice t len ps =>
  have hqs:∃ sz z l,q=.bsl sz len z l:=by
   unfold a2P at hq
   split at hq
   ·split at hq
    ·split at hq
     ·simp only[g7E] at hq
      obtain⟨l,_,rfl⟩:=hq
      exact⟨_,_,_,rfl⟩
     ·cases hq
    ·cases hq
   ·cases hq
  obtain⟨sz,z,l,rfl⟩:=hqs
  simp only[a1F] at hstep
  split at hstep
  ·rename_i cs hcs
   simp only[g7C,g7F,g7G] at hstep
   obtain⟨ts,hts,he⟩:=hstep
   injection he with e1 e2
   injection e2 with e2 e3
   subst e1 e2 e3
   obtain⟨val,G',w',h1,h2,h3,h4⟩:=a7N (P:=P) hi hf hq hcs hts
   exact a8Q (hv (by unfold execOp;simp only[hop]) h1) (hK val G' w' h2 h3 h4)
  ·cases hstep
 case load t x =>
  split at hq
  ·rename_i ag n xa h1 h2 h3
   injection hq with hq
   subst hq
   simp only[a1F,g7E] at hstep
   obtain⟨r,hr,he⟩:=hstep
   obtain⟨val,k1,k2⟩:=a4Y (P:=P) hi h1 h2 (a4H h3 hf) hr
   exact a8Y hi (hv (by unfold execOp;simp only[hop]) k1) k2 he hK
  ·cases hq
 case store t x y =>
  split at hq
  ·rename_i n xa xv h1 h2 h3
   injection hq with hq
   subst hq
   simp only[a1F,g7E] at hstep
   obtain⟨r,hr,he⟩:=hstep
   injection he with e1 e2
   injection e2 with e2 e3
   subst e1 e2 e3
   obtain⟨w',k1,k2,k3⟩:=a8U (P:=P) hi h1 (a4H h2 hf) (a4H h3 hf) hr
   refine a8R (w':=w') ?_ (hK undef G w' k2 k3 (a1S _ _ _))
   unfold execOp
   simp only[hop]
   exact a9A k1
  ·cases hq
 case nilCheck x =>
  simp only[g7E] at hq
  obtain⟨xa,hxa,rfl⟩:=hq
  have ra:=a4H hxa hf
  simp only[a1F,g7E] at hstep
  obtain⟨r,hr,he⟩:=hstep
  have hrr:r=Opd.ev s.fr xa/\∃ ad,a.eval x=.pointer (some ad):=by
   generalize Opd.ev s.fr xa=z at ra hr
   unfold nckV at hr
   split at hr
   ·injection hr with hr
    subst hr
    generalize a.eval x=u at ra
    cases ra
    exact⟨rfl,_,rfl⟩
   ·injection hr with hr
    subst hr
    generalize a.eval x=u at ra
    cases ra
    exact⟨rfl,_,rfl⟩
   ·injection hr with hr
    subst hr
    generalize a.eval x=u at ra
    cases ra
    exact⟨rfl,_,rfl⟩
   ·cases hr
  obtain⟨rfl,ad,had⟩:=hrr
  refine a8Y (val:=a.eval x) hi ?_ ra he hK
  unfold execOp
  simp only[hop,had]
  rfl
 case binOp op t x y yt=>exact a9B hi hf hop hq hstep hK
 case unOp op t x =>
  simp only[g7E] at hq
  obtain⟨xa,hxa,rfl⟩:=hq
  simp only[a1F,g7E] at hstep
  obtain⟨r,⟨r',hr',rfl⟩,he⟩:=hstep
  obtain⟨val,k1,k2⟩:=a5U (P:=P) (a4H hxa hf) hr'
  exact a8Y hi (hv (by unfold execOp;simp only[hop]) k1) k2 he hK
 case convert src dst x =>
  simp only[g7C] at hq
  obtain⟨xa,hxa,hq⟩:=hq
  have ra:=a4H hxa hf
  have hex:∀ {val:Value} {w':World},(convert src dst (a.eval x)).run P w=.ok val w'->(execOp a.eval o).run P w=.ok (.value val) w':=λh=>hv (by unfold execOp;simp only[hop]) h
  unfold a2K at hq
  split at hq
  ·rename_i k0 k hs hd
   injection hq with hq
   subst hq
   simp only[a1F] at hstep
   split at hstep
   ·rename_i kk n he
    rw[he] at ra
    have hx:=ra.int_inv
    simp only[g7F,g7G] at hstep
    exact a8Y (val:=.int k (k.wrap n)) hi (hex (by rw[hx];simp [convert,run_underlying hs,run_underlying hd,Conv.intToInt])) (.tint _ _) hstep hK
   ·cases hstep
  ·cases hq
 case makeSlice t l c =>
  split at hq
  ·rename_i el xl xc hu hxl hxc
   split at hq
   ·rename_i sz by_ z h5 h6 h7
    injection hq with hq
    have rl:=a4H hxl hf
    have rc:=a4H hxc hf
    by_cases hmz:(tb.mz&&!z.any T.isAgg)=true
    ·rw[if_pos hmz] at hq
     subst hq
     have hag:z.any T.isAgg=false:=by
      rw[g4S] at hmz
      simpa using hmz.2
     simp only[a1F] at hstep
     split at hstep
     ·rename_i l' c' hl' hc'
      rw[hl'] at rl
      rw[hc'] at rc
      have el':=rl.int_inv
      have ec':=rc.int_inv
      split at hstep
      ·rename_i hcond
       obtain⟨q1,q2,q3,q4,q5⟩:=hcond
       simp only[g7F,g7G,Prod.mk.injEq] at hstep
       obtain⟨rfl,rfl,rfl⟩:=hstep
       obtain⟨val,w',G1,k1,y1,y2,y3⟩:=a8K (P:=P) hi hu h5 h6 h7 q1 q2 q3 q4 q5 hag
       have hex:=hv (x:=Instr.makeSlice t (a.eval l) (a.eval c)) (by unfold execOp;simp only[hop]) (by rw[el',ec'];exact k1)
       exact a8Q hex (hK val G1 w' y1 y2 y3)
      ·cases hstep
     ·cases hstep
    rw[if_neg hmz] at hq
    subst hq
    simp only[a1F] at hstep
    split at hstep
    ·rename_i l' c' hl' hc'
     rw[hl'] at rl
     rw[hc'] at rc
     have el':=rl.int_inv
     have ec':=rc.int_inv
     split at hstep
     ·rename_i hcond
      obtain⟨q1,q2,q3,q4,q5⟩:=hcond
      obtain⟨val,w',k1,k2,⟨G2,k3,k4,k5⟩⟩:=a8I (P:=P) hi hu h5 h6 h7 q1 q2 q3 q4 q5
      have hex:=hv (x:=Instr.makeSlice t (a.eval l) (a.eval c)) (by unfold execOp;simp only[hop]) (by rw[el',ec'];exact k1)
      split at hstep
      ·rename_i hl0
       split at hstep
       ·cases hstep
       ·injection hstep with hstep
        injection hstep with e1 e2
        injection e2 with e2 e3
        subst e1 e2 e3
        obtain⟨G1,y1,y2,y3⟩:=k2 hl0
        exact a8Q hex (hK val G1 w' y1 y2 y3)
      ·injection hstep with hstep
       injection hstep with e1 e2
       injection e2 with e2 e3
       subst e1 e2 e3
       exact a8Q hex (hK val G2 w' k3 k4 k5)
     ·cases hstep
    ·cases hstep
   ·cases hq
  ·cases hq
 case slice t x lo hi' mx =>
  have hex:∀ {val:Value},(Instr.sliceAt t (a.eval x) (lo.map a.eval) (hi'.map a.eval) (mx.map a.eval)).run P w=.ok val w->(execOp a.eval o).run P w=.ok (.value val) w:=λh=>hv (by unfold execOp;simp only[hop]) h
  unfold a2Q at hq
  split at hq
  ·rename_i xa xl xh xm hxa hxl hxh hxm
   have ra:=a4H hxa hf
   have rl:=a8T hxl hf
   have rh:=a8T hxh hf
   have rm:=a8T hxm hf
   split at hq
   ·rename_i e hu
    have hgo:∀ sz,a2A P e=some sz->(xm.isSome=true->xh.isSome=true)->q=.slc sz xa xl xh xm->o.wp P a w K Q:=by
     intro sz hsz hmm hq'
     subst hq'
     simp only[a1F,g7E] at hstep
     obtain⟨r,hr,he⟩:=hstep
     obtain⟨val,k1,k2⟩:=a6M (P:=P) hu hsz ra rl rh rm (by simpa using hmm) hr
     exact a8Y hi (hex (by simp only[Instr.sliceAt,Sem.run_bind,run_underlying hu,Result.andThen_ok];exact k1)) k2 he hK
    cases hsz:a2A P e with
    |none =>
     rw[hsz] at hq
     cases xm <;> cases xh <;> cases hq
    |some sz =>
     rw[hsz] at hq
     cases xm with
     |none=>exact hgo sz hsz (by simp) (by injection hq with hq;exact hq.symm)
     |some m=>cases xh with
      |none=>cases hq
      |some h=>exact hgo sz hsz (by simp) (by injection hq with hq;exact hq.symm)
   ·cases hq
  ·cases hq
 case fieldAddr t x f =>
  split at hq
  ·rename_i fs xa hu hxa
   split at hq
   ·rename_i fd hfd
    split at hq
    ·rename_i sz hsz
     split at hq
     ·cases hq
     ·rename_i h0
      injection hq with hq
      subst hq
      simp only[a1F,g7E] at hstep
      obtain⟨r,hr,he⟩:=hstep
      obtain⟨val,k1,k2⟩:=a5Z (P:=P) hu hfd hsz h0 (a4H hxa hf) hr
      exact a8Y hi (hv (by unfold execOp;simp only[hop]) k1) k2 he hK
    ·cases hq
   ·cases hq
  ·cases hq
 case field t x f =>
  split at hq
  ·rename_i fs xa hu hxa
   split at hq
   ·rename_i fd hfd
    split at hq
    ·rename_i ag sz hag hsz
     injection hq with hq
     subst hq
     simp only[a1F,g7E] at hstep
     obtain⟨r,hr,he⟩:=hstep
     obtain⟨val,k1,k2⟩:=a6D (P:=P) hu hfd hag hsz (a4H hxa hf) hr
     exact a8Y hi (hv (by unfold execOp;simp only[hop]) k1) k2 he hK
    ·cases hq
   ·cases hq
  ·cases hq
 case indexAddr t x i =>
  split at hq
  ·rename_i n el xa xi hu hxa hxi
   simp only[g7E] at hq
   obtain⟨sz,hsz,rfl⟩:=hq
   simp only[a1F,g7E] at hstep
   obtain⟨r,hr,he⟩:=hstep
   obtain⟨val,k1,k2⟩:=a6A (P:=P) hu hsz (a4H hxa hf) (a4H hxi hf) hr
   exact a8Y hi (hv (by unfold execOp;simp only[hop]) k1) k2 he hK
  ·rename_i el xa xi hu hxa hxi
   simp only[g7E] at hq
   obtain⟨sz,hsz,rfl⟩:=hq
   simp only[a1F,g7E] at hstep
   obtain⟨r,hr,he⟩:=hstep
   obtain⟨val,k1,k2⟩:=a6B (P:=P) hu hsz (a4H hxa hf) (a4H hxi hf) hr
   exact a8Y hi (hv (by unfold execOp;simp only[hop]) k1) k2 he hK
  ·cases hq
 case index t x i =>
  split at hq
  ·rename_i n el xa xi hu hxa hxi
   split at hq
   ·rename_i ag sz hag hsz
    injection hq with hq
    subst hq
    simp only[a1F,g7E] at hstep
    obtain⟨r,hr,he⟩:=hstep
    obtain⟨val,k1,k2⟩:=a6E (P:=P) hu hag hsz (a4H hxa hf) (a4H hxi hf) hr
    exact a8Y hi (hv (by unfold execOp;simp only[hop]) k1) k2 he hK
   ·cases hq
  ·rename_i xa xi hu hxa hxi
   injection hq with hq
   subst hq
   simp only[a1F,g7E] at hstep
   obtain⟨r,hr,he⟩:=hstep
   obtain⟨val,k1,k2⟩:=a6G (P:=P) hu (a4H hxa hf) (a4H hxi hf) hr
   exact a8Y hi (hv (by unfold execOp;simp only[hop]) k1) k2 he hK
  ·cases hq
 case extract x k =>
  simp only[g7E] at hq
  obtain⟨xa,hxa,rfl⟩:=hq
  have ra:=a4H hxa hf
  simp only[a1F] at hstep
  split at hstep
  ·rename_i vs hvs
   simp only[g7E] at hstep
   obtain⟨r,hr,he⟩:=hstep
   rw[hvs] at ra
   generalize hev:a.eval x=u at ra
   cases ra with|tup cs _ hl hrep =>
   have hlt:k < cs.size:=by rw[hl];exact(g5O.1 hr).1
   have hcs:=g4O hlt
   exact a8Y hi (hv (x:=Instr.extract (a.eval x) k) (val:=cs[k]) (by unfold execOp;simp only[hop]) (by rw[hev];simp only[Instr.extract,hcs,Sem.run_pure])) (hrep k _ r hcs hr) he hK
  ·cases hstep
 case call c=>exact a9Z htb hC hi hf hop hq hstep hK
 case makeInterface t x =>
  split at hq
  ·cases hq
  ·rename_i d xa hni hu hxa
   injection hq with hq
   subst hq
   simp only[a1F,g7F,g7G] at hstep
   refine a8Y (val:=.iface t (a.eval x)) hi (hv (x:=Instr.makeInterface t (a.eval x)) (by unfold execOp;simp only[hop]) ?_) (.t (.ifx _ _)) hstep hK
   simp only[Instr.makeInterface,Sem.run_bind,run_underlying hu,Result.andThen_ok]
   cases d <;> first|rfl|exact absurd rfl (hni _)
  ·cases hq
 case makeFunc fn first caps =>
  cases fn <;> simp only[reduceCtorEq] at hq
  rename_i f
  split at hq
  ·rename_i h0
   split at hq
   ·rename_i k cs hk hcs
    injection hq with hq
    subst hq
    simp only[a1F,g7F,g7G] at hstep
    have hall:=a4J hcs hf
    have hfirst:first=#[]:=Array.eq_empty_of_size_eq_zero h0
    refine a8Y (val:=.func (.func f) #[] (caps.map a.eval)) hi (hv (x:=Instr.makeFunc (.func f) (first.map a.eval) (caps.map a.eval)) (by unfold execOp;simp only[hop]) ?_) (.fn k f _ _ (a4G hk) hall.1 hall.2) hstep hK
    subst hfirst
    simp [Instr.makeFunc]
   ·cases hq
  ·cases hq
 case makeMap t r =>
  have hgo:∀ kt el,P.underlying t=some (.map kt el)->(r=none\/∃ k n,r=some (.const (.int k n)))->q=.mkm->o.wp P a w K Q:=by
   intro kt el hu hr hq'
   subst hq'
   simp only[a1F,g7G] at hstep
   injection hstep with e1 e2
   injection e2 with e2 e3
   subst e1 e2 e3
   obtain⟨hE,hI⟩:=hi.newMap
   have hr':r.map a.eval=none\/∃ k n,r.map a.eval=some (.int k n):=by
    rcases hr with rfl|⟨k,n,rfl⟩
    ·exact .inl rfl
    ·exact .inr ⟨k,n,rfl⟩
   exact a8Q (hv (x:=Instr.makeMap t (r.map a.eval)) (by unfold execOp;simp only[hop]) (a9S (P:=P) (w:=w) hu hr')) (hK _ _ _ hE hI (.mp _ _ (by simp only;rw[<-hi.mul];exact a3S _ _)))
  split at hq
  ·rename_i kt el hu
   exact hgo kt el hu (.inl rfl) (by injection hq with hq;exact hq.symm)
  ·rename_i kt el k n hu
   exact hgo kt el hu (.inr ⟨k,n,rfl⟩) (by injection hq with hq;exact hq.symm)
  ·cases hq
 case lookup t x i ok =>
  split at hq
  ·rename_i kt el xa xi hu hxa hxi
   split at hq
   ·rename_i kd z hkd hz
    injection hq with hq
    subst hq
    simp only[a1F,g7E] at hstep
    obtain⟨r,hr,he⟩:=hstep
    obtain⟨val,k1,k2⟩:=a9M (P:=P) hi hu hkd hz (a4H hxa hf) (a4H hxi hf) hr
    exact a8Y hi (hv (by unfold execOp;simp only[hop]) k1) k2 he hK
   ·cases hq
  ·cases hq
 case mapUpdate t x i y =>
  split at hq
  ·rename_i kt el xa xi xv hu hxa hxi hxv
   simp only[g7E] at hq
   obtain⟨kd,hkd,rfl⟩:=hq
   simp only[a1F,g7E] at hstep
   obtain⟨r,hr,he⟩:=hstep
   injection he with e1 e2
   injection e2 with e2 e3
   subst e1 e2 e3
   obtain⟨w',k1,k2,k3⟩:=a9N (P:=P) hi hu hkd (a4H hxa hf) (a4H hxi hf) (a4H hxv hf) hr
   refine a8R (w':=w') ?_ (hK undef G w' k2 k3 (a1S _ _ _))
   unfold execOp
   simp only[hop]
   exact a9A k1
  ·cases hq
 case insert t x i y =>
  split at hq
  ·rename_i kt el xa xi xv hu hxa hxi hxv
   simp only[g7E] at hq
   obtain⟨kd,hkd,rfl⟩:=hq
   simp only[a1F,g7E] at hstep
   obtain⟨r,hr,he⟩:=hstep
   injection he with e1 e2
   injection e2 with e2 e3
   subst e1 e2 e3
   obtain⟨w',k1,k2,k3⟩:=a9N (P:=P) hi hu hkd (a4H hxa hf) (a4H hxi hf) (a4H hxv hf) hr
   refine a8R (w':=w') ?_ (hK undef G w' k2 k3 (a1S _ _ _))
   unfold execOp
   simp only[hop]
   exact a9A k1
  ·cases hq
 all_goals cases hq
end Go.Pi
