/- PI 39: slices of segments that are given up, read as trees. -/
import Derived.Test.YtdjcnfacjfnakaaGreatPi17
set_option linter.unusedSimpArgs false
set_option linter.unusedVariables false
namespace Go.Pi
variable {fx:List (Nat×Nat)} {gl:Nat->Option (List T)} {G:Gh} {w:World} {sg:Sg} {ow:Ow}
theorem a9U (hi:Inv fx gl G w sg ow) {u:Value} {id off len sz:Nat} {es:List (List T)} (hu:PRep fx G w u (.ls id off len sz)) (h:a1D sg id off len sz=some es) :
  ∃ G',Ext G w G' w/\Inv fx gl G' w (sg.set id (false,[])) ow/\TRep G'.st w u (.sl false es):=by
 unfold a1D at h
 split at h
 ·rename_i cs hsg
  split at h
  ·rename_i hbd
   obtain⟨hpos,hfit,hsz⟩:=hbd
   simp only[g7E] at h
   obtain⟨ts,hts,rfl⟩:=h
   obtain⟨hl,hg⟩:=a4E _ _ _ hts
   cases hu with|ls _ _ _ _ cap b ad hmu hcap ha =>
   obtain⟨c,t,z,e1,e2,e3,_⟩:=hi.blk id b cs hmu hsg
   obtain⟨hE,hI⟩:=hi.freeze hmu hsg (by intro e;rw[e] at hpos;simp at hpos) off (off+len * sz)
   refine⟨_,hE,hI,?_⟩
   have htl:ts.length=len * sz:=by
    rw[<-hl]
    simp only[g6B,List.length_drop]
    omega
   have hcl:(a0C sz len ts).length=len:=a6P _ _ _
   have hat:∀ (i:Nat) (y:T),ts[i]?=some y->i < len * sz/\∃ x,cs[off+i]?=some x/\a0L x=some y:=by
    intro i y hy
    have hlt:i < ts.length:=(g5O.1 hy).1
    have hlt2:i < len * sz:=by omega
    obtain⟨x,hx⟩:∃ x,cs[off+i]?=some x:=⟨_,g5M (by omega)⟩
    refine⟨hlt2,x,hx,hg i x y ?_ hy⟩
    rw[g5U,if_pos hlt2,g5L]
    exact hx
   have hno:∀ x∈ts,x.isAgg=false:=λx hx=>by
    obtain⟨i,hi'⟩:=g5Q hx
    obtain⟨_,y,_,hy⟩:=hat i x hi'
    exact(a7L hy).2
   rcases ha with rfl|rfl
   ·have hnil:a0C sz 0 ts=[]:=rfl
    rw[hnil]
    exact .sl ad cap sz [] (λ_ _=>undef) (by simp) (by simp) (by simp) (by simp) (by simp) (by simp)
   ·rw[show Value.slice (some ⟨b,off,none⟩) len cap=Value.slice (some ⟨b,off,none⟩) (a0C sz len ts).length cap by rw[hcl]]
    refine TRep.ofRow (sz:=sz) (vs:=(c.toList.drop off).take (len * sz)) (a6Q sz len ts (by omega)) (a6R hno) (by omega) (a6S (by simp [htl];omega) htl λi v y hv hy=>?_) (λj v hv=>?_) (λj hj=>.inr ⟨rfl,Nat.le_add_right _ _,?_⟩)
    ·rw[g5U,g5L] at hv
     split at hv
     ·obtain⟨_,x,hx,hc⟩:=hat i y hy
      exact(a7K (e3 (off+i) v x (by simpa using hv) hx) (a7L hc).1).mono (λ_ _ h=>.inl h) (λ_ _ _=>rfl)
     ·cases hv
    ·rw[g5U,g5L] at hv
     split at hv
     ·rw[cell_of_row w b (off+j) c t z e1]
      simpa using hv
     ·cases hv
    ·rw[hcl] at hj
     exact Nat.add_lt_add_left hj off
  ·cases h
 ·cases h
theorem a9V:∀ (xs:List PV) {sg sg1:Sg} {ow:Ow} {G:Gh} {w:World} (hi:Inv fx gl G w sg ow) {us:List Value} (hl:us.length=xs.length) (hu:∀ (i:Nat) (u:Value) (x:PV),us[i]?=some u->xs[i]?=some x->PRep fx G w u x) {ys:List PV} (h:a1E sg xs=some (ys,sg1)),
  ∃ G',Ext G w G' w/\Inv fx gl G' w sg1 ow/\us.length=ys.length/\∀ (i:Nat) (u:Value) (y:PV),us[i]?=some u->ys[i]?=some y->PRep fx G' w u y
 |[],sg,sg1,ow,G,w,hi,us,hl,hu,ys,h=>by
  simp only[a1E,g7G,Prod.mk.injEq] at h
  obtain⟨rfl,rfl⟩:=h
  exact⟨G,.refl _ _,hi,hl,λi u y _ hy=>by simp at hy⟩
 |x::r,sg,sg1,ow,G,w,hi,[],hl,hu,ys,h=>by simp at hl
 |x::r,sg,sg1,ow,G,w,hi,u::us,hl,hu,ys,h=>by
  have hu0:PRep fx G w u x:=hu 0 u x rfl rfl
  have hur:∀ (i:Nat) (u:Value) (x:PV),us[i]?=some u->r[i]?=some x->PRep fx G w u x:=λi u x h1 h2=>hu (i+1) u x h1 h2
  have hlr:us.length=r.length:=by simpa using hl
  have plain:∀ {ys':List PV},a1E sg r=some (ys',sg1)->ys=x::ys'->∃ G',Ext G w G' w/\Inv fx gl G' w sg1 ow/\(u::us).length=ys.length/\∀ (i:Nat) (v:Value) (y:PV),(u::us)[i]?=some v->ys[i]?=some y->PRep fx G' w v y:=by
   intro ys' h1 h2
   obtain⟨G',e1,e2,e3,e4⟩:=a9V r hi hlr hur h1
   subst h2
   refine⟨G',e1,e2,by simp [e3],λi v y hv hy=>?_⟩
   cases i with
   |zero =>
    simp only[List.getElem?_cons_zero,g7G] at hv hy
    subst hv hy
    exact e1.prep hu0
   |succ i=>exact e4 i v y hv hy
  cases x with
  |ls id off len sz =>
   simp only[a1E] at h
   split at h
   ·rename_i es hes
    simp only[g7E,Prod.mk.injEq] at h
    obtain⟨⟨zs,sg2⟩,hz,rfl,rfl⟩:=h
    obtain⟨G1,e1,e2,e3⟩:=a9U hi hu0 hes
    obtain⟨G',f1,f2,f3,f4⟩:=a9V r e2 hlr (λi u x h1 h2=>e1.prep (hur i u x h1 h2)) hz
    refine⟨G',e1.trans f1,f2,by simp [f3],λi v y hv hy=>?_⟩
    cases i with
    |zero =>
     simp only[List.getElem?_cons_zero,g7G] at hv hy
     subst hv hy
     exact .t (f1.trep e3)
    |succ i=>exact f4 i v y hv hy
   ·cases h
  |_ =>
   simp only[a1E,g7E,Prod.mk.injEq] at h
   obtain⟨⟨zs,sg2⟩,hz,rfl,rfl⟩:=h
   exact plain hz rfl
theorem a9W {P:Program} {tb:Tb} {gl:Nat->Option (List T)} {a:Act} {K:Act->World->Prop} {Q:Exit->Act->World->Prop} {o:Oper} {C:Cal} {dr:Bool} {v:PV} {sg0 sg':Sg} {ow0 ow':Ow} {G:Gh} {w:World}
  (hC:a8L P tb gl C) (hi:Inv tb.fx gl G w sg0 ow0) {k f:Nat} (hmem:(k,f)∈tb.fx) {args:Array Value} (hrun:(execOp a.eval o).run P w=.ok (.enter f args) w) {ts:List T}
  (m1:args.size=ts.length) (m2:∀ (i:Nat) (v:Value) (x:T),args[i]?=some v->ts[i]?=some x->TRep G.st w v x) {r:PV} {sg1:Sg} {ow1:Ow} (hcall:C k (ts.map .t) [] []=some (r,sg1,ow1))
  (hst:(match retV sg1 ow1 r with
   |some (.own _ z es)=>if dr then some (.t (.sl false es),sg0,ow0) else some (.own ow0.length z es,sg0,ow0++[es.length])
   |some v=>some (v,sg0,ow0)
   |none=>none)=some (v,sg',ow'))
  (hK:∀ val G' w',Ext G w G' w'->Inv tb.fx gl G' w' sg' ow'->PRep tb.fx G' w' val v->K (a.put o.dst val) w'):o.wp P a w K Q:=by
 have hpc:=a8N hC hi hmem hcall m1 m2
 refine a8S (R:=λval w'=>∃ Gc,Ext ⟨[],[],[],G.st,w.heap.size⟩ w Gc w'/\Inv tb.fx gl Gc w' sg1 ow1/\PRep tb.fx Gc w' val r) hrun (hpc.mono ?_) ?_
 ·rintro e w' ⟨val,G',rfl,h1,h2,h3⟩
  exact⟨val,rfl,G',h1,h2,h3⟩
 ·rintro val w' ⟨Gc,hE,hI,hp⟩
  obtain⟨⟨x1,x2⟩,x3⟩:=a8O hi hE hI
  have fin:∀ y,PRep tb.fx { G with st:=λb o=>Gc.st b o\/(b < w'.heap.size/\∃ i:Nat,Gc.mu[i]?=some b) } w' val y->(y,sg0,ow0)=(v,sg',ow')->K (a.put o.dst val) w':=by
   intro y hy he
   injection he with e1 e2
   injection e2 with e2 e3
   subst e1 e2 e3
   exact hK val _ w' x1 x2 hy
  have hup:∀ {u:Value} {x:T},TRep Gc.st w' u x->TRep (λb o=>Gc.st b o\/(b < w'.heap.size/\∃ i:Nat,Gc.mu[i]?=some b)) w' u x:=λh=>h.mono (λ_ _ h=>.inl h) (λ_ _ _=>rfl)
  unfold retV at hst
  split at hst
  ·-- owned
   rename_i k0 z0 es0 hret
   split at hret
   ·rename_i k1 z1 es1
    split at hret
    ·rename_i hlive
     injection hret with hret
     injection hret with q1 q2 q3
     subst q1 q2 q3
     cases hp with|own _ _ n ad cap _ htr hk' hn hl =>
     split at hst
     ·simp only[g7G] at hst
      exact fin _ (.t (hup htr)) hst
     ·injection hst with hst
      injection hst with e1 e2
      injection e2 with e2 e3
      subst e1 e2 e3
      have hkn:n=es1.length:=by rw[hI.fr,hlive] at hk';injection hk' with hk';exact hk'.symm
      subst hkn
      obtain⟨b,oo,t1,t2,t3⟩:=hl rfl
      obtain⟨y1,y2⟩:=x3 k1 b oo z1 cap es1.length t1 hlive
      refine hK _ _ w' y1 y2 ?_
      have htk:G.tk.length=ow0.length:=hi.tkl
      have hfr:G.fr.length=ow0.length:=by rw[hi.fr]
      refine .own ow0.length z1 es1.length ad cap es1 (hup htr) (by simp only;rw[<-hfr];exact a3S _ _) (g6U _) (λ_=>⟨b,oo,?_,t2,t3⟩)
      simp only
      rw[<-htk]
      exact a3S _ _
    ·cases hret
   ·cases hret
   ·simp only[g7E,reduceCtorEq,and_false,exists_false] at hret
   ·simp only[g7E,reduceCtorEq,and_false,exists_false] at hret
  ·rename_i y hno hret
   simp only[g7G] at hst
   refine fin y ?_ hst
   split at hret
   ·rename_i k1 z1 es1
    split at hret
    ·injection hret with hret
     exact absurd hret.symm (hno _ _ _)
    ·injection hret with hret
     subst hret
     cases hp with|own _ _ n ad cap _ htr hk' hn hl=>exact .t (hup htr)
   ·injection hret with hret
    subst hret
    obtain⟨ad,rfl,htr⟩:=hp.cp_inv
    exact .cp _ _ (hup htr)
   ·rename_i vs0
    simp only[g7E] at hret
    obtain⟨ts0,hts0,rfl⟩:=hret
    obtain⟨n1,n2⟩:=a4E _ _ _ hts0
    cases hp with|tup cs _ hl hr =>
    refine .tup cs _ (by simp;omega) λi u x hu hx=>?_
    simp only[g5P,g7E] at hx
    obtain⟨t0,ht0,rfl⟩:=hx
    have hlt:i < vs0.length:=by rw[n1];exact(g5O.1 ht0).1
    have hy:=g5M hlt
    exact .t (a8X hI (hr i u _ hu hy) (n2 i _ t0 hy ht0))
   ·simp only[g7E] at hret
    obtain⟨t0,ht0,rfl⟩:=hret
    exact .t (a8X hI hp ht0)
  ·cases hst
end Go.Pi
