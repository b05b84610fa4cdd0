/- PI 19: every operation of the model. Program independent. -/
import Derived.Test.YtdjcnfacjfnakaaGreatPi18
set_option linter.unusedSimpArgs false
set_option linter.unusedVariables false
namespace Go.Pi
variable {P:Program} {tb:Tb} {gl:Nat→Option (List T)} {G:Gh} {w:World} {nt:Nat} {a:Act} {K:Act→World→Prop} {Q:Exit→Act→World→Prop} {o:Oper} {C:Cal} {dr:Bool} {s:S} {v:PV} {sg':Sg} {ow':Ow}
theorem b1E (htb:TbOk P tb) (hC:a9G P tb gl C) (hi:Inv tb.fx gl G w s.sg s.ow) (hf:FRep tb.fx G w nt a s.fr) {q:O} (hq:a3B P tb nt o=some q) (hstep:a1L C gl dr q s=some (v,sg',ow'))
  (hK:∀ val G' w',Ext G w G' w'→Inv tb.fx gl G' w' sg' ow'→PRep tb.fx G' w' val v→K (a.put o.dst val) w'):o.wp P a w K Q:=by
 have hv:∀ {x:Sem Value} {val:Value} {w':World},execOp a.eval o=(do pure (Next.value (←x)):Sem Next)→x.run P w=.ok val w'→(execOp a.eval o).run P w=.ok (.value val) w':=fun h1 h2=>by rw[h1];exact a9U h2
 cases hop:o.op <;> simp only[a3B,hop] at hq
 case move x =>
  simp only[g5E] at hq
  obtain⟨xa,hxa,rfl⟩:=hq
  simp only[a1L,g5F,g5G] at hstep
  exact a9T hi (by unfold execOp;simp only[hop];rfl) (a4V hxa hf) hstep hK
 case assign x =>
  simp only[g5E] at hq
  obtain⟨xa,hxa,rfl⟩:=hq
  simp only[a1L,g5F,g5G] at hstep
  exact a9T hi (by unfold execOp;simp only[hop];rfl) (a4V hxa hf) hstep hK
 case pick c x y =>
  split at hq
  ·rename_i xc xa xb hxc hxa hxb
   injection hq with hq
   subst hq
   simp only[a1L] at hstep
   split at hstep
   ·rename_i b hb
    have rc:=a4V hxc hf
    rw[hb] at rc
    have hc:=rc.bool_inv
    simp only[g5F,g5G] at hstep
    cases b with
    |true=>exact a9T (val:=a.eval x) hi (by unfold execOp;simp only[hop,hc,asBool];rfl) (a4V hxa hf) hstep hK
    |false=>exact a9T (val:=a.eval y) hi (by unfold execOp;simp only[hop,hc,asBool];rfl) (a4V hxb hf) hstep hK
   ·cases hstep
  ·cases hq
 case alloc t =>
  have hal:(a2K P t).map O.alloc=some q→o.wp P a w K Q:=by
   intro hq
   simp only[g5E] at hq
   obtain⟨zs,hz,rfl⟩:=hq
   simp only[a1L,g5G] at hstep
   injection hstep with e1 e2
   injection e2 with e2 e3
   subst e1 e2 e3
   obtain⟨i,z,h1,h2,h3,h4⟩:=a7T hz
   have hcr:CRep tb.fx G w z.cells (zs.map .t):=a7V h3 h4
   obtain⟨hE,hI⟩:=hi.newLocal z.cells t _ (Nat.le_of_eq hcr.1.symm) hcr.2
   refine a9L (hv (x:=Instr.alloc t true (.tuple #[])) (by unfold execOp;simp only[hop]) (val:=.pointer (some ⟨w.heap.size,0,none⟩)) ?_) (hK _ _ _ hE hI (.lp _ _ _ (by simp only;rw[←hi.mul];exact a4G _ _)))
   simp [Instr.alloc,a7U h1 h2,newVar,newRow]
  unfold a2Z at hq
  split at hq
  ·split at hq
   ·split at hq
    ·rename_i hz
     injection hq with hq
     subst hq
     simp only[a1L,g5G] at hstep
     injection hstep with e1 e2
     injection e2 with e2 e3
     subst e1 e2 e3
     obtain⟨i,z,h1,h2,h3,h4⟩:=a7T hz
     have hs2:z.cells.size=2:=h3
     have c0:z.cells[0]?=some (.pointer none):=by
      obtain⟨y,hg⟩:∃ y,z.cells[0]?=some y:=⟨_,g2M (show 0 < z.cells.size by omega)⟩
      have:=h4 0 y _ hg rfl (fun _ _=>True) w
      rw[hg]
      cases this
      rfl
     have c1:z.cells[1]?=some (.slice none 0 0):=by
      obtain⟨y,hg⟩:∃ y,z.cells[1]?=some y:=⟨_,g2M (show 1 < z.cells.size by omega)⟩
      have:=h4 1 y _ hg rfl (fun _ _=>True) w
      rw[hg]
      cases this
      rfl
     obtain⟨hE,hI⟩:=hi.newBuilder z.cells t hs2 c0 c1
     refine a9L (hv (x:=Instr.alloc t true (.tuple #[])) (by unfold execOp;simp only[hop]) (val:=.pointer (some ⟨w.heap.size,0,none⟩)) ?_) (hK _ _ _ hE hI (.lp _ _ _ (by simp only;rw[←hi.mul];exact a4G _ _)))
     simp [Instr.alloc,a7U h1 h2,newVar,newRow]
    ·cases hq
   ·exact hal hq
  ·exact hal hq
 case box t x =>
  simp only[g5E] at hq
  obtain⟨xa,hxa,rfl⟩:=hq
  simp only[a1L,g5G] at hstep
  injection hstep with e1 e2
  injection e2 with e2 e3
  subst e1 e2 e3
  obtain⟨c1,c2⟩:=a5A (a4V hxa hf)
  obtain⟨hE,hI⟩:=hi.newLocal (a.eval x).cells t _ (Nat.le_of_eq c1.symm) c2
  refine a9L (hv (x:=Instr.box t (a.eval x)) (by unfold execOp;simp only[hop]) (val:=.pointer (some ⟨w.heap.size,0,none⟩)) ?_) (hK _ _ _ hE hI (.lp _ _ _ (by simp only;rw[←hi.mul];exact a4G _ _)))
  simp [Instr.box,newVar,newRow]
 case build t ps =>
  have hqs:∃ zs l,q=.build zs l∨q=.bldz zs l:=by
   unfold a2V at hq
   split at hq
   ·split at hq
    ·simp only[g5E] at hq
     obtain⟨l,_,rfl⟩:=hq
     unfold a2U
     split
     ·exact⟨_,_,.inr rfl⟩
     ·exact⟨_,_,.inl rfl⟩
    ·cases hq
   ·split at hq
    ·simp only[g5E] at hq
     obtain⟨l,_,rfl⟩:=hq
     exact⟨_,_,.inl rfl⟩
    ·cases hq
   ·cases hq
  obtain⟨zs,l,rfl|rfl⟩:=hqs
  ·simp only[a1L,g5E] at hstep
   obtain⟨r,⟨cs,hcs,rfl⟩,he⟩:=hstep
   obtain⟨val,h1,h2⟩:=a7Y (P:=P) hf hq hcs
   exact a9T hi (hv (by unfold execOp;simp only[hop]) h1) h2 he hK
  ·simp only[a1L] at hstep
   split at hstep
   case h_2=>cases hstep
   rename_i ys sgz hfrz
   simp only[g5E,Prod.mk.injEq] at hstep
   obtain⟨cs,hcs,rfl,rfl,rfl⟩:=hstep
   obtain⟨b1,b2⟩:=a8A (w:=w) (G:=G) hf hq
   obtain⟨G1,e1,e2,e3,e4⟩:=b0Z _ hi (us:=ps.toList.map fun p=>a.eval p.2) (by simp [b1]) (fun i u x h1 h2=>by
    simp only[g3O,g5E] at h1 h2
    obtain⟨p,hp,rfl⟩:=h1
    obtain⟨q,hq',rfl⟩:=h2
    exact b2 i p q hp hq') hfrz
   obtain⟨val,h1,h2⟩:=a7Z (P:=P) (G:=G1) (w:=w) hq (by rw[←e3,g3X,b1]) (fun i p v hp hv'=>e4 i _ v (by rw[g3O,hp];rfl) hv') hcs
   exact a9L (hv (by unfold execOp;simp only[hop]) h1) (hK _ G1 _ e1 e2 h2)
 case buildSlice t len ps =>
  have hqs:∃ sz z l,q=.bsl sz len z l:=by
   unfold a2W at hq
   split at hq
   ·split at hq
    ·split at hq
     ·simp only[g5E] at hq
      obtain⟨l,_,rfl⟩:=hq
      exact⟨_,_,_,rfl⟩
     ·cases hq
    ·cases hq
   ·cases hq
  obtain⟨sz,z,l,rfl⟩:=hqs
  simp only[a1L] at hstep
  split at hstep
  ·rename_i cs hcs
   simp only[g5C,g5F,g5G] at hstep
   obtain⟨ts,hts,he⟩:=hstep
   injection he with e1 e2
   injection e2 with e2 e3
   subst e1 e2 e3
   obtain⟨val,G',w',h1,h2,h3,h4⟩:=a8G (P:=P) hi hf hq hcs hts
   exact a9L (hv (by unfold execOp;simp only[hop]) h1) (hK val G' w' h2 h3 h4)
  ·cases hstep
 case load t x =>
  split at hq
  ·rename_i ag n xa h1 h2 h3
   injection hq with hq
   subst hq
   simp only[a1L,g5E] at hstep
   obtain⟨r,hr,he⟩:=hstep
   obtain⟨val,k1,k2⟩:=a5M (P:=P) hi h1 h2 (a4V h3 hf) hr
   exact a9T hi (hv (by unfold execOp;simp only[hop]) k1) k2 he hK
  ·cases hq
 case store t x y =>
  split at hq
  ·rename_i n xa xv h1 h2 h3
   injection hq with hq
   subst hq
   simp only[a1L,g5E] at hstep
   obtain⟨r,hr,he⟩:=hstep
   injection he with e1 e2
   injection e2 with e2 e3
   subst e1 e2 e3
   obtain⟨w',k1,k2,k3⟩:=a9P (P:=P) hi h1 (a4V h2 hf) (a4V h3 hf) hr
   refine a9M (w':=w') ?_ (hK undef G w' k2 k3 (a1Z _ _ _))
   unfold execOp
   simp only[hop]
   exact a9V k1
  ·cases hq
 case nilCheck x =>
  simp only[g5E] at hq
  obtain⟨xa,hxa,rfl⟩:=hq
  have ra:=a4V hxa hf
  simp only[a1L,g5E] at hstep
  obtain⟨r,hr,he⟩:=hstep
  have hrr:r=Opd.ev s.fr xa∧∃ ad,a.eval x=.pointer (some ad):=by
   generalize Opd.ev s.fr xa=z at ra hr
   unfold nckV at hr
   split at hr
   ·injection hr with hr
    subst hr
    generalize a.eval x=u at ra
    cases ra
    exact⟨rfl,_,rfl⟩
   ·injection hr with hr
    subst hr
    generalize a.eval x=u at ra
    cases ra
    exact⟨rfl,_,rfl⟩
   ·injection hr with hr
    subst hr
    generalize a.eval x=u at ra
    cases ra
    exact⟨rfl,_,rfl⟩
   ·cases hr
  obtain⟨rfl,ad,had⟩:=hrr
  refine a9T (val:=a.eval x) hi ?_ ra he hK
  unfold execOp
  simp only[hop,had]
  rfl
 case binOp op t x y yt=>exact a9W hi hf hop hq hstep hK
 case unOp op t x =>
  simp only[g5E] at hq
  obtain⟨xa,hxa,rfl⟩:=hq
  simp only[a1L,g5E] at hstep
  obtain⟨r,⟨r',hr',rfl⟩,he⟩:=hstep
  obtain⟨val,k1,k2⟩:=a6I (P:=P) (a4V hxa hf) hr'
  exact a9T hi (hv (by unfold execOp;simp only[hop]) k1) k2 he hK
 case convert src dst x =>
  simp only[g5C] at hq
  obtain⟨xa,hxa,hq⟩:=hq
  have ra:=a4V hxa hf
  have hex:∀ {val:Value} {w':World},(convert src dst (a.eval x)).run P w=.ok val w'→(execOp a.eval o).run P w=.ok (.value val) w':=fun h=>hv (by unfold execOp;simp only[hop]) h
  unfold a2R at hq
  split at hq
  ·rename_i k0 k hs hd
   injection hq with hq
   subst hq
   simp only[a1L] at hstep
   split at hstep
   ·rename_i kk n he
    rw[he] at ra
    have hx:=ra.int_inv
    simp only[g5F,g5G] at hstep
    exact a9T (val:=.int k (k.wrap n)) hi (hex (by rw[hx];simp [convert,run_underlying hs,run_underlying hd,Conv.intToInt])) (.tint _ _) hstep hK
   ·cases hstep
  ·rename_i hs hd
   injection hq with hq
   subst hq
   simp only[a1L] at hstep
   split at hstep
   ·rename_i l he
    rw[he] at ra
    obtain⟨b,hx,rfl⟩:=ra.str_inv
    simp only[g5F,g5G] at hstep
    exact a9T (val:=.string b) hi (hex (by rw[hx];simp [convert,run_underlying hs,run_underlying hd])) (.tstr rfl) hstep hK
   ·cases hstep
  ·rename_i k0 hs hd
   injection hq with hq
   subst hq
   simp only[a1L] at hstep
   split at hstep
   ·rename_i kk n he
    rw[he] at ra
    have hx:=ra.int_inv
    simp only[g5F,g5G] at hstep
    exact a9T (val:=.string (Utf8.encode n)) hi (hex (by rw[hx];simp [convert,run_underlying hs,run_underlying hd,Conv.intToString])) (.tstr rfl) hstep hK
   ·cases hstep
  ·rename_i e hs hd
   split at hq
   ·rename_i he
    injection hq with hq
    subst hq
    simp only[a1L] at hstep
    split at hstep
    ·rename_i l hl
     rw[hl] at ra
     obtain⟨val,w',k1,⟨G1,k2,k3,k4⟩,⟨G2,k5,k6,k7⟩⟩:=a8L (P:=P) hi hs hd he ra
     split at hstep
     ·split at hstep
      ·simp only[g5F,g5G] at hstep
       injection hstep with e1 e2
       injection e2 with e2 e3
       subst e1 e2 e3
       exact a9L (hex k1) (hK val G2 w' k5 k6 k7)
      ·injection hstep with hstep
       injection hstep with e1 e2
       injection e2 with e2 e3
       subst e1 e2 e3
       exact a9L (hex k1) (hK val G1 w' k2 k3 k4)
     ·cases hstep
    ·cases hstep
   ·cases hq
  ·rename_i e0 e hs hd
   split at hq
   ·rename_i hsd he
    have hsd:=g5N hsd
    subst hsd
    injection hq with hq
    subst hq
    simp only[a1L] at hstep
    split at hstep
    ·rename_i es hes
     rw[hes] at ra
     simp only[g5F,g5G] at hstep
     injection hstep with e1 e2
     injection e2 with e2 e3
     subst e1 e2 e3
     obtain⟨w',k1,k2,k3,k4⟩:=a8M (P:=P) hi hd he ra
     exact a9L (hex k1) (hK _ G w' k2 k3 k4)
    ·cases hstep
   ·cases hq
  ·rename_i e hs hd
   split at hq
   ·rename_i he
    injection hq with hq
    subst hq
    simp only[a1L,g5C,g5E] at hstep
    obtain⟨es,hes,r,⟨l,hl,rfl⟩,he'⟩:=hstep
    obtain⟨val,k1,k2⟩:=a7N (P:=P) hi hs he hd ra hes hl
    exact a9T hi (hex k1) k2 he' hK
   ·cases hq
  ·cases hq
 case makeSlice t l c =>
  split at hq
  ·rename_i el xl xc hu hxl hxc
   split at hq
   ·rename_i sz by_ z h5 h6 h7
    injection hq with hq
    have rl:=a4V hxl hf
    have rc:=a4V hxc hf
    by_cases hmz:(tb.mz&&!z.any T.isAgg)=true
    ·rw[if_pos hmz] at hq
     subst hq
     have hag:z.any T.isAgg=false:=by
      rw[g2R] at hmz
      simpa using hmz.2
     simp only[a1L] at hstep
     split at hstep
     ·rename_i l' c' hl' hc'
      rw[hl'] at rl
      rw[hc'] at rc
      have el':=rl.int_inv
      have ec':=rc.int_inv
      split at hstep
      ·rename_i hcond
       obtain⟨q1,q2,q3,q4,q5⟩:=hcond
       simp only[g5F,g5G,Prod.mk.injEq] at hstep
       obtain⟨rfl,rfl,rfl⟩:=hstep
       obtain⟨val,w',G1,k1,y1,y2,y3⟩:=a9F (P:=P) hi hu h5 h6 h7 q1 q2 q3 q4 q5 hag
       have hex:=hv (x:=Instr.makeSlice t (a.eval l) (a.eval c)) (by unfold execOp;simp only[hop]) (by rw[el',ec'];exact k1)
       exact a9L hex (hK val G1 w' y1 y2 y3)
      ·cases hstep
     ·cases hstep
    rw[if_neg hmz] at hq
    subst hq
    simp only[a1L] at hstep
    split at hstep
    ·rename_i l' c' hl' hc'
     rw[hl'] at rl
     rw[hc'] at rc
     have el':=rl.int_inv
     have ec':=rc.int_inv
     split at hstep
     ·rename_i hcond
      obtain⟨q1,q2,q3,q4,q5⟩:=hcond
      obtain⟨val,w',k1,k2,⟨G2,k3,k4,k5⟩⟩:=a9D (P:=P) hi hu h5 h6 h7 q1 q2 q3 q4 q5
      have hex:=hv (x:=Instr.makeSlice t (a.eval l) (a.eval c)) (by unfold execOp;simp only[hop]) (by rw[el',ec'];exact k1)
      split at hstep
      ·rename_i hl0
       split at hstep
       ·cases hstep
       ·injection hstep with hstep
        injection hstep with e1 e2
        injection e2 with e2 e3
        subst e1 e2 e3
        obtain⟨G1,y1,y2,y3⟩:=k2 hl0
        exact a9L hex (hK val G1 w' y1 y2 y3)
      ·injection hstep with hstep
       injection hstep with e1 e2
       injection e2 with e2 e3
       subst e1 e2 e3
       exact a9L hex (hK val G2 w' k3 k4 k5)
     ·cases hstep
    ·cases hstep
   ·cases hq
  ·cases hq
 case slice t x lo hi' mx =>
  have hex:∀ {val:Value},(Instr.sliceAt t (a.eval x) (lo.map a.eval) (hi'.map a.eval) (mx.map a.eval)).run P w=.ok val w→(execOp a.eval o).run P w=.ok (.value val) w:=fun h=>hv (by unfold execOp;simp only[hop]) h
  unfold a2X at hq
  split at hq
  ·rename_i xa xl xh xm hxa hxl hxh hxm
   have ra:=a4V hxa hf
   have rl:=a9O hxl hf
   have rh:=a9O hxh hf
   have rm:=a9O hxm hf
   split at hq
   ·rename_i hu
    split at hq
    ·injection hq with hq
     subst hq
     have hmx:mx=none:=by cases mx with|none=>rfl|some m=>simp [a2E] at hxm
     subst hmx
     simp only[a1L,g5E] at hstep
     obtain⟨r,hr,he⟩:=hstep
     obtain⟨val,k1,k2⟩:=a7B (P:=P) hu ra rl rh hr
     exact a9T hi (hex (by simp only[Instr.sliceAt,Sem.run_bind,run_underlying hu,Result.andThen_ok,Option.map_none];exact k1)) k2 he hK
    ·cases hq
   ·rename_i e hu
    have hgo:∀ sz,a2H P e=some sz→(xm.isSome=true→xh.isSome=true)→q=.slc sz xa xl xh xm→o.wp P a w K Q:=by
     intro sz hsz hmm hq'
     subst hq'
     simp only[a1L,g5E] at hstep
     obtain⟨r,hr,he⟩:=hstep
     obtain⟨val,k1,k2⟩:=a7A (P:=P) hu hsz ra rl rh rm (by simpa using hmm) hr
     exact a9T hi (hex (by simp only[Instr.sliceAt,Sem.run_bind,run_underlying hu,Result.andThen_ok];exact k1)) k2 he hK
    cases hsz:a2H P e with
    |none =>
     rw[hsz] at hq
     cases xm <;> cases xh <;> cases hq
    |some sz =>
     rw[hsz] at hq
     cases xm with
     |none=>exact hgo sz hsz (by simp) (by injection hq with hq;exact hq.symm)
     |some m=>cases xh with
      |none=>cases hq
      |some h=>exact hgo sz hsz (by simp) (by injection hq with hq;exact hq.symm)
   ·rename_i n e hu
    split at hq
    ·rename_i sz hsz
     injection hq with hq
     subst hq
     have hmx:mx=none:=by cases mx with|none=>rfl|some m=>simp [a2E] at hxm
     subst hmx
     simp only[a1L,g5E] at hstep
     obtain⟨r,hr,he⟩:=hstep
     obtain⟨val,k1,k2⟩:=a7C (P:=P) hu hsz ra rl rh hr
     exact a9T hi (hex k1) k2 he hK
    ·cases hq
   ·cases hq
  ·cases hq
 case fieldAddr t x f =>
  split at hq
  ·rename_i fs xa hu hxa
   split at hq
   ·rename_i fd hfd
    split at hq
    ·rename_i sz hsz
     split at hq
     ·cases hq
     ·rename_i h0
      injection hq with hq
      subst hq
      simp only[a1L,g5E] at hstep
      obtain⟨r,hr,he⟩:=hstep
      obtain⟨val,k1,k2⟩:=a6N (P:=P) hu hfd hsz h0 (a4V hxa hf) hr
      exact a9T hi (hv (by unfold execOp;simp only[hop]) k1) k2 he hK
    ·cases hq
   ·cases hq
  ·cases hq
 case field t x f =>
  split at hq
  ·rename_i fs xa hu hxa
   split at hq
   ·rename_i fd hfd
    split at hq
    ·rename_i ag sz hag hsz
     injection hq with hq
     subst hq
     simp only[a1L,g5E] at hstep
     obtain⟨r,hr,he⟩:=hstep
     obtain⟨val,k1,k2⟩:=a6R (P:=P) hu hfd hag hsz (a4V hxa hf) hr
     exact a9T hi (hv (by unfold execOp;simp only[hop]) k1) k2 he hK
    ·cases hq
   ·cases hq
  ·cases hq
 case indexAddr t x i =>
  split at hq
  ·rename_i n el xa xi hu hxa hxi
   simp only[g5E] at hq
   obtain⟨sz,hsz,rfl⟩:=hq
   simp only[a1L,g5E] at hstep
   obtain⟨r,hr,he⟩:=hstep
   obtain⟨val,k1,k2⟩:=a6O (P:=P) hu hsz (a4V hxa hf) (a4V hxi hf) hr
   exact a9T hi (hv (by unfold execOp;simp only[hop]) k1) k2 he hK
  ·rename_i el xa xi hu hxa hxi
   simp only[g5E] at hq
   obtain⟨sz,hsz,rfl⟩:=hq
   simp only[a1L,g5E] at hstep
   obtain⟨r,hr,he⟩:=hstep
   obtain⟨val,k1,k2⟩:=a6P (P:=P) hu hsz (a4V hxa hf) (a4V hxi hf) hr
   exact a9T hi (hv (by unfold execOp;simp only[hop]) k1) k2 he hK
  ·cases hq
 case index t x i =>
  split at hq
  ·rename_i n el xa xi hu hxa hxi
   split at hq
   ·rename_i ag sz hag hsz
    injection hq with hq
    subst hq
    simp only[a1L,g5E] at hstep
    obtain⟨r,hr,he⟩:=hstep
    obtain⟨val,k1,k2⟩:=a6S (P:=P) hu hag hsz (a4V hxa hf) (a4V hxi hf) hr
    exact a9T hi (hv (by unfold execOp;simp only[hop]) k1) k2 he hK
   ·cases hq
  ·rename_i xa xi hu hxa hxi
   injection hq with hq
   subst hq
   simp only[a1L,g5E] at hstep
   obtain⟨r,hr,he⟩:=hstep
   obtain⟨val,k1,k2⟩:=a6U (P:=P) hu (a4V hxa hf) (a4V hxi hf) hr
   exact a9T hi (hv (by unfold execOp;simp only[hop]) k1) k2 he hK
  ·cases hq
 case extract x k =>
  simp only[g5E] at hq
  obtain⟨xa,hxa,rfl⟩:=hq
  have ra:=a4V hxa hf
  simp only[a1L] at hstep
  split at hstep
  ·rename_i vs hvs
   simp only[g5E] at hstep
   obtain⟨r,hr,he⟩:=hstep
   rw[hvs] at ra
   generalize hev:a.eval x=u at ra
   cases ra with|tup cs _ hl hrep =>
   have hlt:k < cs.size:=by rw[hl];exact(g3N.1 hr).1
   have hcs:=g2M hlt
   exact a9T hi (hv (x:=Instr.extract (a.eval x) k) (val:=cs[k]) (by unfold execOp;simp only[hop]) (by rw[hev];simp only[Instr.extract,hcs,Sem.run_pure])) (hrep k _ r hcs hr) he hK
  ·cases hstep
 case call c=>exact b1D htb hC hi hf hop hq hstep hK
 case makeInterface t x =>
  split at hq
  ·cases hq
  ·rename_i d xa hni hu hxa
   injection hq with hq
   subst hq
   simp only[a1L,g5F,g5G] at hstep
   refine a9T (val:=.iface t (a.eval x)) hi (hv (x:=Instr.makeInterface t (a.eval x)) (by unfold execOp;simp only[hop]) ?_) (.t (.ifx _ _)) hstep hK
   simp only[Instr.makeInterface,Sem.run_bind,run_underlying hu,Result.andThen_ok]
   cases d <;> first|rfl|exact absurd rfl (hni _)
  ·cases hq
 case makeFunc fn first caps =>
  cases fn <;> simp only[reduceCtorEq] at hq
  rename_i f
  split at hq
  ·rename_i h0
   split at hq
   ·rename_i k cs hk hcs
    injection hq with hq
    subst hq
    simp only[a1L,g5F,g5G] at hstep
    have hall:=a4X hcs hf
    have hfirst:first=#[]:=Array.eq_empty_of_size_eq_zero h0
    refine a9T (val:=.func (.func f) #[] (caps.map a.eval)) hi (hv (x:=Instr.makeFunc (.func f) (first.map a.eval) (caps.map a.eval)) (by unfold execOp;simp only[hop]) ?_) (.fn k f _ _ (a4U hk) hall.1 hall.2) hstep hK
    subst hfirst
    simp [Instr.makeFunc]
   ·cases hq
  ·cases hq
 case makeMap t r =>
  have hgo:∀ kt el,P.underlying t=some (.map kt el)→(r=none∨∃ k n,r=some (.const (.int k n)))→q=.mkm→o.wp P a w K Q:=by
   intro kt el hu hr hq'
   subst hq'
   simp only[a1L,g5G] at hstep
   injection hstep with e1 e2
   injection e2 with e2 e3
   subst e1 e2 e3
   obtain⟨hE,hI⟩:=hi.newMap
   have hr':r.map a.eval=none∨∃ k n,r.map a.eval=some (.int k n):=by
    rcases hr with rfl|⟨k,n,rfl⟩
    ·exact .inl rfl
    ·exact .inr ⟨k,n,rfl⟩
   exact a9L (hv (x:=Instr.makeMap t (r.map a.eval)) (by unfold execOp;simp only[hop]) (b0N (P:=P) (w:=w) hu hr')) (hK _ _ _ hE hI (.mp _ _ (by simp only;rw[←hi.mul];exact a4G _ _)))
  split at hq
  ·rename_i kt el hu
   exact hgo kt el hu (.inl rfl) (by injection hq with hq;exact hq.symm)
  ·rename_i kt el k n hu
   exact hgo kt el hu (.inr ⟨k,n,rfl⟩) (by injection hq with hq;exact hq.symm)
  ·cases hq
 case lookup t x i ok =>
  split at hq
  ·rename_i kt el xa xi hu hxa hxi
   split at hq
   ·rename_i kd z hkd hz
    injection hq with hq
    subst hq
    simp only[a1L,g5E] at hstep
    obtain⟨r,hr,he⟩:=hstep
    obtain⟨val,k1,k2⟩:=b0H (P:=P) hi hu hkd hz (a4V hxa hf) (a4V hxi hf) hr
    exact a9T hi (hv (by unfold execOp;simp only[hop]) k1) k2 he hK
   ·cases hq
  ·cases hq
 case mapUpdate t x i y =>
  split at hq
  ·rename_i kt el xa xi xv hu hxa hxi hxv
   simp only[g5E] at hq
   obtain⟨kd,hkd,rfl⟩:=hq
   simp only[a1L,g5E] at hstep
   obtain⟨r,hr,he⟩:=hstep
   injection he with e1 e2
   injection e2 with e2 e3
   subst e1 e2 e3
   obtain⟨w',k1,k2,k3⟩:=b0I (P:=P) hi hu hkd (a4V hxa hf) (a4V hxi hf) (a4V hxv hf) hr
   refine a9M (w':=w') ?_ (hK undef G w' k2 k3 (a1Z _ _ _))
   unfold execOp
   simp only[hop]
   exact a9V k1
  ·cases hq
 case insert t x i y =>
  split at hq
  ·rename_i kt el xa xi xv hu hxa hxi hxv
   simp only[g5E] at hq
   obtain⟨kd,hkd,rfl⟩:=hq
   simp only[a1L,g5E] at hstep
   obtain⟨r,hr,he⟩:=hstep
   injection he with e1 e2
   injection e2 with e2 e3
   subst e1 e2 e3
   obtain⟨w',k1,k2,k3⟩:=b0I (P:=P) hi hu hkd (a4V hxa hf) (a4V hxi hf) (a4V hxv hf) hr
   refine a9M (w':=w') ?_ (hK undef G w' k2 k3 (a1Z _ _ _))
   unfold execOp
   simp only[hop]
   exact a9V k1
  ·cases hq
 all_goals cases hq
end Go.Pi
