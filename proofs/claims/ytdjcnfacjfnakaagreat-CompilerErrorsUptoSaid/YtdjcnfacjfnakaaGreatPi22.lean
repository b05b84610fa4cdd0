/- PI 22: regions, code, calls: what the interpreter says is what the program does. -/
import Derived.Test.YtdjcnfacjfnakaaGreatPi21
import Derived.LoopN
set_option linter.unusedSimpArgs false
set_option linter.unusedVariables false
namespace Go.Pi
variable {P:Program} {tb:Tb} {gl:Nat->Option (List T)} {G:Gh} {w:World} {nt:Nat} {a:Act} {C:Cal} {dr:Bool} {s s':S}
def b1X (tb:Tb) (gl:Nat->Option (List T)) (nt:Nat) (G:Gh) (w:World) (a:Act) (s:S):Prop:=Inv tb.fx gl G w s.sg s.ow/\FRep tb.fx G w nt a s.fr
def asB:Value->Option Bool
 |.bool q=>some q
 |_=>none
theorem b1Y {ops:Array Oper} {o:Oper} {g:Option (Nat×Bool)} {fr:List PV} (hf:FRep tb.fx G w nt a fr) (hg:a2V nt ops o.guard=some g):Region.wanted o (yielded ops a.tmps)=wanted fr g:=by
 unfold a2V at hg
 unfold Region.wanted
 split at hg
 ·rename_i h0
  injection hg with hg
  subst hg
  simp [h0,wanted]
 ·rename_i j b h0
  split at hg
  ·rename_i d hd
   split at hg
   ·rename_i hlt
    injection hg with hg
    subst hg
    have hp:=hf.2.2 d hlt
    have hds:d < a.tmps.size:=by rw[hf.2.1];exact hlt
    have hget:a.tmps[d]?=some a.tmps[d]:=g4O hds
    have hgd:a.tmps.getD d undef=a.tmps[d]:=by simp [Array.getD,hds]
    rw[hgd] at hp
    have hy:yielded ops a.tmps j=asB a.tmps[d]:=by
     unfold yielded
     rw[hd]
     simp only[Option.bind_some,hget]
     cases a.tmps[d] <;> rfl
    simp only[h0,hy,wanted]
    generalize hv:a.tmps[d]=v at hp
    by_cases hb:∃ q,v=.bool q
    ·obtain⟨q,rfl⟩:=hb
     rw[hp.of_bool]
     cases q <;> cases b <;> rfl
    ·have h1:asB v=none:=by
      cases v <;> first|rfl|exact absurd ⟨_,rfl⟩ hb
     have h2:(match a0A fr d with|.t (.bool q)=>q == b|_=>false)=false:=by
      split
      ·rename_i q heq
       rw[heq] at hp
       exact absurd ⟨q,hp.bool_inv⟩ hb
      ·rfl
     rw[h1]
     exact(show(none == some b)=false by cases b <;> rfl).trans h2.symm
   ·cases hg
  ·cases hg
theorem b1Z (htb:TbOk P tb) (hC:a8L P tb gl C) {ops:Array Oper} {o:Oper} (hs:b1X tb gl nt G w a s) (h:a1G C gl dr (a2W P tb nt ops o) s=some s') {K:Act->World->Prop} {Q:Exit->Act->World->Prop}
  (hK:∀ G' w' a',Ext G w G' w'->b1X tb gl nt G' w' a' s'->K a' w'):if Region.wanted o (yielded ops a.tmps)=true then o.wp P a w K Q else K (a.put o.dst undef) w:=by
 obtain⟨hi,hf⟩:=hs
 unfold a2W at h
 split at h
 ·rename_i g hg hd
  have hdst:∀ k,o.dst=some k->k < nt:=λk hk=>by
   rw[hk] at hd
   simpa [a2U] using hd
  rw[b1Y hf hg]
  unfold a1G at h
  simp only at h
  split at h
  ·rename_i hw
   rw[if_pos hw]
   split at h
   ·rename_i v sg' ow' hstep
    injection h with h
    subst h
    cases hq:a2T P tb nt o with
    |none =>
     rw[hq] at hstep
     simp [a1F] at hstep
    |some q =>
     rw[hq] at hstep
     refine b0A htb hC hi hf hq hstep λval G' w' hE hI hp=>hK G' w' _ hE ⟨hI,?_⟩
     exact(hE.frep hf).put hdst hp
   ·cases h
  ·rename_i hw
   rw[if_neg hw]
   injection h with h
   subst h
   exact hK G w _ (.refl _ _) ⟨hi,hf.put hdst (a1S _ _ _)⟩
 ·simp only[a1G,wanted,if_true,a1F] at h
  cases h
theorem b2A (htb:TbOk P tb) (hC:a8L P tb gl C) {ops:Array Oper} {Q:Exit->Act->World->Prop}:∀ (l:List Nat) (s:S) (G:Gh) (w:World) (a:Act),b1X tb gl nt G w a s->b1L C gl dr (ops.toList.map (a2W P tb nt ops)) l s=some s' ->
  (∀ G' w' a',Ext G w G' w'->b1X tb gl nt G' w' a' s'->Q .normal a' w')->wpOps P ops Q l a w:=by
 intro l
 induction l with
 |nil =>
  intro s G w a hs h hQ
  simp only[b1L,g7G] at h
  subst h
  exact hQ G w a (.refl _ _) hs
 |cons i r ih =>
  intro s G w a hs h hQ
  simp only[b1L] at h
  split at h
  ·rename_i q hq
   simp only[g5P,g7E] at hq
   obtain⟨o,ho,rfl⟩:=hq
   have ho':ops[i]?=some o:=by simpa using ho
   split at h
   ·rename_i s1 hs1
    simp only[wpOps,ho']
    have:=b1Z htb hC (K:=wpOps P ops Q r) (Q:=Q) hs hs1 λG' w' a' hE hs'=>ih s1 G' w' a' hs' h λG2 w2 a2 hE2 hs2=>hQ G2 w2 a2 (hE.trans hE2) hs2
    split
    ·rename_i hw
     rw[if_pos hw] at this
     exact .inl this
    ·rename_i hw
     rw[if_neg hw] at this
     exact this
   ·cases h
  ·cases h
theorem b2B (n:Nat):rem n (Array.replicate n false)=List.range n:=by
 unfold rem
 refine List.filter_eq_self.2 λi hi=>?_
 have:=g6L.1 hi
 simp [Array.getD,this]
def b2C:Ex->Exit
 |.normal=>.normal
 |.exit id=>.exit id
 |.ret=>.ret
theorem b2D {is:List Ins} {ks:List Nat} {q:O} {r:PV×Sg×Ow} (h:a1F C gl dr (a3K is ks q) s=some r):a1F C gl dr q s=some r:=by
 unfold a3K at h
 split at h
 ·rename_i ag n a
  split at h
  ·rename_i k _
   simp only[a1F,g7E] at h ⊢
   obtain⟨v,hv,rfl⟩:=h
   refine⟨v,?_,rfl⟩
   unfold a1C at hv
   split at hv
   ·rename_i he
    split at hv
    ·split at hv
     ·split at hv
      ·split at hv
       ·rw[he];exact hv
       ·cases hv
      ·rw[he];exact hv
     ·cases hv
    ·cases hv
   ·cases hv
  ·simp only[a1F,g7E] at h ⊢
   obtain⟨v,hv,rfl⟩:=h
   exact⟨v,b0S (sg:=[]) (r:=s.sg) hv,rfl⟩
  ·exact h
 ·rename_i f as
  simp only[a1F] at h ⊢
  split at h
  ·rename_i v sg ow hc
   split at h
   ·rw[hc];exact h
   ·cases h
  ·cases h
 ·rename_i n a v
  have key:∀ ks',a1F C gl dr (.stok n a v ks') s=some r->a1F C gl dr (.store n a v) s=some r:=by
   intro ks' h
   simp only[a1F] at h ⊢
   split at h
   ·rename_i sg hc
    split at h
    ·rw[hc];exact h
    ·cases h
   ·cases h
  exact key _ h
 ·rename_i f as
  simp only[a1F] at h ⊢
  split at h
  case h_2=>cases h
  rename_i ys sgz hf
  have k0:a1B s.fr [] s.sg sgz=true:=keepsB_iff.2 (λk hk=>by cases hk)
  split at h
  case h_2=>cases h
  rename_i ts hts
  split at h
  case h_2=>cases h
  rename_i r' sg' ow' hc
  split at h
  case isFalse=>cases h
  simp only[hf,hts,hc,if_pos k0]
  exact h
 ·exact h
theorem b2E {is:List Ins} {ks:List Nat} (is0:List Ins):∀ (l:List Nat) (s s':S),b1L C gl dr (is0.map (a3L is ks)) l s=some s'->b1L C gl dr is0 l s=some s':=by
 intro l
 induction l with
 |nil=>intro s s' h;exact h
 |cons i r ih =>
  intro s s' h
  simp only[b1L] at h ⊢
  rw[g5P] at h
  cases hi:is0[i]? with
  |none=>rw[hi] at h;cases h
  |some q =>
   rw[hi] at h
   simp only[g7F] at h ⊢
   have hs:∀ s1,a1G C gl dr (a3L is ks q) s=some s1->a1G C gl dr q s=some s1:=by
    intro s1 hs1
    unfold a1G a3L at hs1
    unfold a1G
    simp only at hs1
    split at hs1
    ·rename_i hw
     rw[if_pos hw]
     split at hs1
     ·rename_i v sg ow hst
      rw[b2D hst]
      exact hs1
     ·cases hs1
    ·rename_i hw
     rw[if_neg hw]
     exact hs1
   split at h
   ·rename_i s1 h1
    rw[hs s1 h1]
    exact ih s1 s' h
   ·cases h
theorem b2F (htb:TbOk P tb) (hC:a8L P tb gl C) (n:Nat):∀ (c:Code) (s s':S) (ex:Ex) (G:Gh) (w:World) (a:Act),b1X tb gl nt G w a s->a1J C gl n (compC P tb nt c) s=some (ex,s')->∀ Q:Exit->Act->World->Prop,
  (∀ G' w' a',Ext G w G' w'->b1X tb gl nt G' w' a' s'->Q (b2C ex) a' w')->c.wp P Q a w:=by
 intro c
 induction c with
 |skip =>
  intro s s' ex G w a hs h Q hQ
  simp only[compC,a1J,g7G,Prod.mk.injEq] at h
  obtain⟨rfl,rfl⟩:=h
  exact wp_skip (hQ G w a (.refl _ _) hs)
 |region id ops dr =>
  intro s s' ex G w a hs h Q hQ
  simp only[compC] at h
  have hseq:∀ dr s' (is:List Ins),is.length=ops.size->a1H C gl dr is s=some s'->b1L C gl dr is (List.range ops.size) s=some s':=by
   intro dr s' is hl h
   have:=b1N (C:=C) (gl:=gl) (dr:=dr) is 0 s
   rw[g5F,Nat.sub_zero,hl,<-List.range_eq_range'] at this
   rw[<-this]
   exact h
  cases dr with
  |false =>
   simp only[g4T,if_false,a1J,g7E,Prod.mk.injEq] at h
   obtain⟨s1,h1,rfl,rfl⟩:=h
   exact wp_region (b2A htb hC _ s G w a hs (hseq false s1 _ (by simp) h1) hQ)
  |true =>
   simp only[if_true] at h
   have main:P.follows .mixedOrders=true->∀ (tc:Tb) (htc:TbOk P tc) (hCc:a8L P tc gl C) (hfx:tc.fx=tb.fx) (is:List Ins),is.length=ops.size->a3G ops is=true->(∀ l s1,b1L C gl true is l s=some s1->b1L C gl true (ops.toList.map (a2W P tc nt ops)) l s=some s1)->∀ s1,a1H C gl true is s=some s1->ex=.normal->s1=s'->(Code.region id ops true).wp P Q a w:=by
    intro hfo tc htc hCc hfx is hl hc href s1 h1 hex hss
    subst hex hss
    have hE:∀ (G:Gh) (w:World) (a:Act) (s:S),b1X tc gl nt G w a s↔b1X tb gl nt G w a s:=λG w a s=>by unfold b1X;rw[hfx]
    refine wp_region_draw λt=>?_
    have hd:=hs.1.drew
    have hs':b1X tb gl nt G w.drew a s:=⟨hd.2,hd.1.frep hs.2⟩
    have hr:=hseq true s1 is hl h1
    rw[<-b2B] at hr
    obtain⟨l,g1,g2⟩:=b1W (C:=C) (gl:=gl) (ops:=ops) hl hc ops.size t (Array.replicate ops.size false) [] s s1 (by simp) (λi hi=>by simp [Array.getD] at hi) (by rw[b2B];simp) hr
    have hsch:Region.schedule (P.follows .mixedOrders) ops t=l:=by
     unfold Region.schedule
     rw[hfo]
     simp only[Bool.true_or,if_true]
     unfold Region.linearise
     rw[g1]
     rfl
    rw[hsch]
    exact b2A htc hCc l s G w.drew a ((hE _ _ _ _).2 hs') (href l s1 g2) λG' w' a' hx hs2=>hQ G' w' a' (hd.1.trans hx) ((hE _ _ _ _).1 hs2)
   have dr_ok:P.follows .mixedOrders=true->∀ (tc:Tb) (htc:TbOk P tc) (hCc:a8L P tc gl C) (hfx:tc.fx=tb.fx) (l:List Ins),a3M P tc nt ops=some l->∀ s1,a1H C gl true l s=some s1->ex=.normal->s1=s'->(Code.region id ops true).wp P Q a w:=by
    intro hfo tc htc hCc hfx l hl s1 h1 hex hss
    unfold a3M at hl
    simp only at hl
    split at hl
    ·rename_i hc
     injection hl with hl
     subst hl
     exact main hfo tc htc hCc hfx _ (by simp) hc (λ_ _ h=>h) s1 h1 hex hss
    ·split at hl
     ·rename_i hc
      injection hl with hl
      subst hl
      exact main hfo tc htc hCc hfx _ (by simp) hc (λl s1 h=>b2E _ l s s1 h) s1 h1 hex hss
     ·cases hl
   have htz:TbOk P tb.z:=⟨htb.fx,htb.xx⟩
   split at h
   ·rename_i hfo
    split at h
    ·rename_i l hl
     simp only[a1J,g7E,Prod.mk.injEq] at h
     obtain⟨s1,h1,h2,h3⟩:=h
     exact dr_ok hfo tb htb hC rfl l hl s1 h1 h2.symm h3
    ·split at h
     ·rename_i l hl
      simp only[a1J,g7E,Prod.mk.injEq] at h
      obtain⟨s1,h1,h2,h3⟩:=h
      exact dr_ok hfo tb.z htz hC rfl l hl s1 h1 h2.symm h3
     ·simp [a1J] at h
   ·simp [a1J] at h
 |seq x y ihx ihy =>
  intro s s' ex G w a hs h Q hQ
  simp only[compC,a1J] at h
  refine wp_seq ?_
  split at h
  ·rename_i s1 h1
   refine ihx s s1 .normal G w a hs h1 _ λG1 w1 a1 hE1 hs1=>?_
   exact ihy s1 s' ex G1 w1 a1 hs1 h Q λG2 w2 a2 hE2 hs2=>hQ G2 w2 a2 (hE1.trans hE2) hs2
  ·rename_i r hno
   refine ihx s s' ex G w a hs h _ λG1 w1 a1 hE1 hs1=>?_
   have:=hQ G1 w1 a1 hE1 hs1
   cases ex with
   |normal=>exact absurd h (λe=>hno s' (by rw[e]))
   |exit id=>exact this
   |ret=>exact this
 |cond c x y ihx ihy =>
  intro s s' ex G w a hs h Q hQ
  simp only[compC] at h
  split at h
  ·rename_i cc hcc
   have rc:=a4H hcc hs.2
   simp only[a1J] at h
   split at h
   ·rename_i hb
    rw[hb] at rc
    exact wp_cond_true rc.bool_inv (ihx s s' ex G w a hs h Q hQ)
   ·rename_i hb
    rw[hb] at rc
    exact wp_cond_false rc.bool_inv (ihy s s' ex G w a hs h Q hQ)
   ·cases h
  ·simp [a1J] at h
 |block id b ih =>
  intro s s' ex G w a hs h Q hQ
  simp only[compC,a1J] at h
  refine wp_block ?_
  split at h
  ·rename_i id' s1 h1
   split at h
   ·rename_i hid
    injection h with h
    injection h with e1 e2
    subst e1 e2 hid
    refine ih s s1 (.exit id') G w a hs h1 _ λG1 w1 a1 hE1 hs1=>?_
    simp only[b2C,Exit.inBlock,if_true]
    exact hQ G1 w1 a1 hE1 hs1
   ·rename_i hid
    injection h with h
    injection h with e1 e2
    subst e1 e2
    refine ih s s1 (.exit id') G w a hs h1 _ λG1 w1 a1 hE1 hs1=>?_
    simp only[b2C,Exit.inBlock,if_neg hid]
    exact hQ G1 w1 a1 hE1 hs1
  ·rename_i r hno
   refine ih s s' ex G w a hs h _ λG1 w1 a1 hE1 hs1=>?_
   have:=hQ G1 w1 a1 hE1 hs1
   cases ex with
   |normal=>exact this
   |exit id'=>exact absurd h (λe=>hno id' s' (by rw[e]))
   |ret=>exact this
 |loop b ih =>
  intro s s' ex G w a hs h Q hQ
  simp only[compC,a1J] at h
  have key:∀ (m:Nat) (s:S) (G:Gh) (w:World) (a:Act),b1X tb gl nt G w a s->a1I (a1J C gl n (compC P tb nt b)) m s=some (ex,s')->(∀ G' w' a',Ext G w G' w'->b1X tb gl nt G' w' a' s'->Q (b2C ex) a' w')->Code.rounds P b Q m a w:=by
   intro m
   induction m with
   |zero=>intro s G w a _ h;simp [a1I] at h
   |succ m ihm =>
    intro s G w a hs h hQ
    simp only[a1I] at h
    rw[rounds_succ]
    split at h
    ·rename_i s1 h1
     refine ih s s1 .normal G w a hs h1 _ λG1 w1 a1 hE1 hs1=>?_
     exact ihm s1 G1 w1 a1 hs1 h λG2 w2 a2 hE2 hs2=>hQ G2 w2 a2 (hE1.trans hE2) hs2
    ·rename_i r hno
     refine ih s s' ex G w a hs h _ λG1 w1 a1 hE1 hs1=>?_
     have:=hQ G1 w1 a1 hE1 hs1
     cases ex with
     |normal=>exact absurd h (λe=>hno s' (by rw[e]))
     |exit id=>exact this
     |ret=>exact this
  exact wp_loop_rounds n (key n s G w a hs h hQ)
 |exit id =>
  intro s s' ex G w a hs h Q hQ
  simp only[compC,a1J,g7G,Prod.mk.injEq] at h
  obtain⟨rfl,rfl⟩:=h
  exact wp_exit (hQ G w a (.refl _ _) hs)
 |ret =>
  intro s s' ex G w a hs h Q hQ
  simp only[compC,a1J,g7G,Prod.mk.injEq] at h
  obtain⟨rfl,rfl⟩:=h
  exact wp_ret (hQ G w a (.refl _ _) hs)
 |rangeFunc f ps x y ihx ihy=>intro s s' ex G w a hs h;simp [compC,a1J] at h
 |scope b ih=>intro s s' ex G w a hs h;simp [compC,a1J] at h
 |label l=>intro s s' ex G w a hs h;simp [compC,a1J] at h
 |goto l=>intro s s' ex G w a hs h;simp [compC,a1J] at h
 |refuse y=>intro s s' ex G w a hs h;simp [compC,a1J] at h
end Go.Pi
