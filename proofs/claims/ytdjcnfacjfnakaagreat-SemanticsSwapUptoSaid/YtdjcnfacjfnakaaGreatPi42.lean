/- PI 40: regions whose order is drawn, by cases: a function that answers the same in every order that may be drawn. Program independent. -/
import Derived.Test.YtdjcnfacjfnakaaGreatPi25
import Derived.Test.YtdjcnfacjfnakaaGreatPi25
set_option linter.unusedVariables false
set_option linter.unusedSimpArgs false
namespace Go.Pi
variable {P:Program} {tb:Tb} {gl:Nat→Option (List T)} {G:Gh} {w:World} {nt:Nat} {a:Act} {C:Cal}
def g0S (ops:Array Oper) (rem:List Nat) (i:Nat):Bool :=
 match ops[i]? with
 |some o=>o.after.toList.all fun e=>!Region.binds .any e || !rem.contains e.on
 |none=>false
def g0T (ops:Array Oper) (j i:Nat):Bool :=
 match ops[j]? with
 |some o=>o.after.toList.any fun e=>Region.binds .any e&&e.on == i
 |none=>false
def g0U (ops:Array Oper) (is:List Ins) (rem:List Nat) (i:Nat):Bool :=
 g0S ops rem i&&rem.all fun j=>j == i || (g0T ops j i || match is[i]?,is[j]? with
  |some p,some q=>a3K p q
  |_,_=>false)
def g0V (ops:Array Oper) (is:List Ins):Nat→List Nat→List (List Nat)
 |0,_=>[[]]
 |n+1,rem=>match rem with
  |[]=>[[]]
  |_::_=>match rem.find? (g0U ops is rem) with
   |some i=>(g0V ops is n (rem.erase i)).map (i::·)
   |none=>(rem.filter (g0S ops rem)).flatMap fun i=>(g0V ops is n (rem.erase i)).map (i::·)
theorem g0W {is:List Ins} {i:Nat} {p:Ins} (hp:is[i]?=some p):∀ (u:List Nat) (s s':S),(∀ j,j∈u→∀ q,is[j]?=some q→a3K p q=true)→b2O C gl true is (i::u) s=some s'→b2O C gl true is (u++[i]) s=some s':=by
 intro u
 induction u with
 |nil=>intro s s' _ h;exact h
 |cons j r ih =>
  intro s s' hc h
  simp only[b2O,hp] at h
  cases h1:a1M C gl true p s with
  |none=>rw[h1] at h;cases h
  |some s1 =>
   rw[h1] at h
   simp only at h
   cases hq:is[j]? with
   |none=>rw[hq] at h;cases h
   |some q =>
    rw[hq] at h
    simp only at h
    cases h2:a1M C gl true q s1 with
    |none=>rw[h2] at h;cases h
    |some s2 =>
     rw[h2] at h
     simp only at h
     obtain⟨t,t1,t2⟩:=b2N (hc j (by simp) q hq) h1 h2
     rw[g3Q]
     simp only[b2O,hq,t1]
     refine ih t s' (fun k hk=>hc k (by simp [hk])) ?_
     simp only[b2O,hp,t2]
     exact h
theorem g0X {u v:List Nat} {i x y:Nat} (hx:x≠i) (hy:y≠i) (h:Ahd (u++i::v) x y):Ahd (u++v) x y:=by
 obtain⟨l1,l2,e,hm⟩:=h
 rcases List.append_eq_append_iff.1 e with⟨m,e1,e2⟩|⟨m,e1,e2⟩
 ·cases m with
  |nil =>
   simp only[g5C,g3P] at e2
   exact absurd e2.1.symm hx
  |cons z m =>
   simp only[g3Q,g3P] at e2
   obtain⟨rfl,e2⟩:=e2
   exact⟨u++m,l2,by rw[e2,g3N],hm⟩
 ·cases m with
  |nil =>
   simp only[g5C,g3P] at e2
   exact absurd e2.1 hx
  |cons z m =>
   simp only[g3Q,g3P] at e2
   obtain⟨rfl,e2⟩:=e2
   refine⟨l1,m++v,by rw[e1];simp,?_⟩
   rw[e2] at hm
   simp only[g4T,g4U] at hm ⊢
   rcases hm with hm|hm|hm
   ·exact .inl hm
   ·exact absurd hm hy
   ·exact .inr hm
theorem g0Y {ops:Array Oper} {is:List Ins}:∀ (n:Nat) (rem l:List Nat),rem.length≤n→rem.Nodup→l.Perm rem→(∀ k,k∈l→∀ o,ops[k]?=some o→∀ e,e∈o.after→Region.binds .any e=true→e.on∈l→Ahd l e.on k)→(∀ k,k∈l→k < ops.size)→is.length=ops.size →
  ∃ r,r∈g0V ops is n rem∧∀ s s',b2O C gl true is r s=some s'→b2O C gl true is l s=some s':=by
 intro n
 induction n with
 |zero =>
  intro rem l hl _ hp _ _ _
  have:rem=[]:=g3R (by omega)
  subst this
  have:l=[]:=hp.eq_nil
  subst this
  exact⟨[],by simp [g0V],fun _ _ h=>h⟩
 |succ n ih =>
  intro rem l hl hn hp hr hb hlen
  cases rem with
  |nil =>
   have:l=[]:=hp.eq_nil
   subst this
   exact⟨[],by simp [g0V],fun _ _ h=>h⟩
  |cons z rem =>
   have hnl:l.Nodup:=hp.symm.nodup hn
   have hsub:∀ {i:Nat} {u v:List Nat},l=u++i::v→∃ r,r∈g0V ops is n ((z::rem).erase i)∧∀ s s',b2O C gl true is r s=some s'→b2O C gl true is (u++v) s=some s':=by
    intro i u v e
    have hi:i∈z::rem:=hp.subset (by rw[e];simp)
    have hnu:(u++i::v).Nodup:=e ▸ hnl
    have hni:i ∉ u++v:=by
     have:=List.nodup_append.1 hnu
     have h2:=List.nodup_cons.1 this.2.1
     intro hm
     rcases g4T.1 hm with hm|hm
     ·exact this.2.2 i hm i (by simp) rfl
     ·exact h2.1 hm
    refine ih _ _ ?_ (hn.erase i) ?_ ?_ ?_ hlen
    ·rw[List.length_erase_of_mem hi];omega
    ·have h1:(u++v).Perm ((u++i::v).erase i):=by
      have h2:(u++i::v).Perm (i::(u++v)):=List.perm_middle
      have:=h2.erase i
      rw[List.erase_cons_head] at this
      exact this.symm
     exact h1.trans ((e ▸ hp).erase i)
    ·intro k hk o ho e' he' hbd hm
     have hk':k∈l:=by rw[e];rcases g4T.1 hk with h|h <;> simp [h]
     have hm':e'.on∈l:=by rw[e];rcases g4T.1 hm with h|h <;> simp [h]
     have:=hr k hk' o ho e' he' hbd hm'
     rw[e] at this
     exact g0X (fun q=>hni (by rw[←q];exact hm)) (fun q=>hni (by rw[←q];exact hk)) this
    ·intro k hk
     exact hb k (by rw[e];rcases g4T.1 hk with h|h <;> simp [h])
   unfold g0V
   simp only
   cases hf:(z::rem).find? (g0U ops is (z::rem)) with
   |some i =>
    have hfi:=List.find?_some hf
    have him:=List.mem_of_find?_eq_some hf
    have hil:i∈l:=hp.symm.subset him
    obtain⟨u,v,e⟩:=List.append_of_mem hil
    obtain⟨r,r1,r2⟩:=hsub e
    refine⟨i::r,List.mem_map.2 ⟨r,r1,rfl⟩,fun s s' h=>?_⟩
    unfold g0U at hfi
    rw[g3C,g3L] at hfi
    have hilt:i < is.length:=by rw[hlen];exact hb i hil
    have hii:is[i]?=some is[i]:=g3Y hilt
    have hnu:(u++i::v).Nodup:=e ▸ hnl
    have hcom:∀ j,j∈u→∀ q,is[j]?=some q→a3K is[i] q=true:=by
     intro j hj q hq
     have hjl:j∈l:=by rw[e];simp [hj]
     have h1:=hfi.2 j (hp.subset hjl)
     have hji:j≠i:=fun he=>(List.nodup_append.1 hnu).2.2 j hj i (by simp) he
     rw[g3G,g3G] at h1
     rcases h1 with h1|h1|h1
     ·exact absurd (by simpa using h1) hji
     ·exfalso
      unfold g0T at h1
      split at h1
      ·rename_i o ho
       obtain⟨e',he',hb'⟩:=g3M.1 h1
       simp only[g3C,beq_iff_eq] at hb'
       have h2:=hr j hjl o ho e' (by simpa using he') hb'.1 (by rw[hb'.2];exact hil)
       rw[hb'.2] at h2
       refine b3C hnl h2 ?_
       obtain⟨u1,u2,eu⟩:=List.append_of_mem hj
       exact⟨u1,u2++i::v,by rw[e,eu];simp,by simp⟩
      ·cases h1
     ·rw[hii,hq] at h1
      exact h1
    have hrun:b2O C gl true is (i::(u++v)) s=some s':=by
     simp only[b2O,hii] at h ⊢
     cases h1:a1M C gl true is[i] s with
     |none=>rw[h1] at h;cases h
     |some s1 =>
      rw[h1] at h
      exact r2 s1 s' h
    rw[←g3Q,b2P] at hrun
    simp only[g5S] at hrun
    obtain⟨s1,h1,h2⟩:=hrun
    have h3:=g0W hii u s s1 hcom h1
    rw[e,show u++i::v=(u++[i])++v by simp,b2P,h3]
    exact h2
   |none =>
    simp only
    cases l with
    |nil=>exact absurd hp.symm.eq_nil (by simp)
    |cons i v =>
     obtain⟨r,r1,r2⟩:=hsub (i:=i) (u:=[]) (v:=v) rfl
     have him:i∈z::rem:=hp.subset (by simp)
     have hready:g0S ops (z::rem) i=true:=by
      unfold g0S
      have hlt:=hb i (by simp)
      rw[g2X hlt]
      simp only
      rw[g3L]
      intro e' he'
      cases hbd:Region.binds .any e' with
      |false=>rfl
      |true =>
       simp only[g3F,Bool.false_or,Bool.not_eq_true']
       cases hc:(z::rem).contains e'.on with
       |false=>rfl
       |true =>
        exfalso
        have hm:e'.on∈i::v:=hp.symm.subset (by simpa using hc)
        have:=hr i (by simp) _ (g2X hlt) e' (by simpa using he') hbd hm
        obtain⟨l1,l2,el,hm2⟩:=this
        cases l1 with
        |nil =>
         simp only[g5C,g3P] at el
         exact(List.nodup_cons.1 hnl).1 (el.2 ▸ hm2)
        |cons y l1 =>
         simp only[g3Q,g3P] at el
         exact(List.nodup_cons.1 hnl).1 (by rw[el.2];simp [hm2])
     refine⟨i::r,List.mem_flatMap.2 ⟨i,g4W.2 ⟨him,hready⟩,List.mem_map.2 ⟨r,r1,rfl⟩⟩,fun s s' h=>?_⟩
     simp only[b2O] at h ⊢
     split at h
     ·rename_i p hp'
      split at h
      ·rename_i s1 hs1
       exact r2 s1 s' h
      ·cases h
     ·cases h
end Go.Pi

/- PI 41: a function whose regions are told apart by their g0V: what it answers in each of them, it answers. Program independent. -/
namespace Go.Pi
variable {P:Program} {tb:Tb} {gl:Nat→Option (List T)} {G:Gh} {w:World} {nt:Nat} {a:Act} {C:Cal}
def e8N:Ins:=⟨none,none,.bad⟩
def g0Z (ops:Array Oper):Bool:=(List.range ops.size).all fun k=>match ops[k]? with
 |some o=>o.after.toList.all fun e=>!Region.binds .any e || decide (e.on < k)
 |none=>false
def g1A:Co→Bool
 |.bad=>true
 |_=>false
def neC:List Co→List Co
 |[]=>[.bad]
 |l=>l
def g1B (P:Program) (tb:Tb) (nt:Nat) (ops:Array Oper):List Co :=
 let is:=ops.toList.map (a3D P tb nt ops)
 let isr:=is.map (a3S is (a3Q is is))
 if g0Z ops then neC ((g0V ops isr ops.size (List.range ops.size)).map fun r=>.reg true (r.map fun i=>(isr[i]?).getD e8N)) else [.bad]
def vars (P:Program) (tb:Tb) (nt:Nat):Code→List Co
 |.region id ops dr=>if g1A (a4A P tb nt (.region id ops dr))&&(dr&&P.follows .mixedOrders) then g1B P tb nt ops else [a4A P tb nt (.region id ops dr)]
 |.seq a b=>(vars P tb nt a).flatMap fun x=>(vars P tb nt b).map fun y=>.seq x y
 |.cond c a b=>match a2C tb nt c with
  |some c=>(vars P tb nt a).flatMap fun x=>(vars P tb nt b).map fun y=>.cond c x y
  |none=>[.bad]
 |c=>[a4A P tb nt c]
theorem g1C (l:List Co):neC l≠[]:=by cases l <;> simp [neC]
theorem g1D:∀ c:Code,vars P tb nt c≠[]:=by
 intro c
 induction c with
 |region id ops dr =>
  unfold vars
  split
  ·unfold g1B
   simp only
   split
   ·exact g1C _
   ·simp
  ·simp
 |seq x y ihx ihy =>
  unfold vars
  cases hx:vars P tb nt x with
  |nil=>exact absurd hx ihx
  |cons p r =>
   cases hy:vars P tb nt y with
   |nil=>exact absurd hy ihy
   |cons q t=>simp
 |cond c x y ihx ihy =>
  unfold vars
  split
  ·cases hx:vars P tb nt x with
   |nil=>exact absurd hx ihx
   |cons p r =>
    cases hy:vars P tb nt y with
    |nil=>exact absurd hy ihy
    |cons q t=>simp
  ·simp
 |_=>simp [vars]
theorem g1E (c:Code):∃ x,x∈vars P tb nt c:=by
 cases h:vars P tb nt c with
 |nil=>exact absurd h (g1D c)
 |cons x r=>exact⟨x,by simp⟩
theorem g1F (is:List Ins):∀ (r:List Nat) (s:S),a1N C gl true (r.map fun i=>(is[i]?).getD e8N) s=b2O C gl true is r s:=by
 intro r
 induction r with
 |nil=>intro s;rfl
 |cons i r ih =>
  intro s
  simp only[g4R,a1N,b2O]
  cases hi:is[i]? with
  |none=>simp [e8N,a1M,wanted,a1L]
  |some q =>
   simp only[g5T]
   cases a1M C gl true q s with
   |none=>rfl
   |some s1=>exact ih s1
theorem g1G (htb:TbOk P tb) (hC:a9F P tb gl C) (n:Nat):∀ (c:Code) (s:S) (G:Gh) (w:World) (a:Act),b4F tb gl nt G w a s→∀ Q:Exit→Act→World→Prop,
  (∀ x,x∈vars P tb nt c→∃ ex s',a1O C gl n x s=some (ex,s')∧∀ G' w' a',Ext G w G' w'→b4F tb gl nt G' w' a' s'→Q (b4K ex) a' w')→c.wp P Q a w:=by
 intro c
 have plain:∀ (c:Code) (s:S) (G:Gh) (w:World) (a:Act),b4F tb gl nt G w a s→∀ Q:Exit→Act→World→Prop,
  (∃ ex s',a1O C gl n (a4A P tb nt c) s=some (ex,s')∧∀ G' w' a',Ext G w G' w'→b4F tb gl nt G' w' a' s'→Q (b4K ex) a' w')→c.wp P Q a w:=by
  intro c s G w a hs Q ⟨ex,s',h1,h2⟩
  exact b4P htb hC n c s s' ex G w a hs h1 Q h2
 induction c with
 |region id ops dr =>
  intro s G w a hs Q H
  unfold vars at H
  split at H
  ·rename_i hb
   simp only[g3C] at hb
   obtain⟨_,hdr,hfo⟩:=hb
   subst hdr
   unfold g1B at H
   simp only at H
   split at H
   case isFalse =>
    obtain⟨ex,s',h,_⟩:=H .bad (by simp)
    simp [a1O] at h
   rename_i hed
   have hedge:∀ k,k < ops.size→∀ o,ops[k]?=some o→∀ e∈o.after,Region.binds .any e=true→e.on < k:=by
    intro k hk o ho e he hbd
    have h1:=g3L.1 hed k (g5A.2 hk)
    rw[ho] at h1
    have h2:=g3L.1 h1 e (by simpa using he)
    rw[hbd] at h2
    simpa using h2
   refine wp_region_draw fun t=>?_
   have hd:=hs.1.drew
   have hs':b4F tb gl nt G w.drew a s:=⟨hd.2,hd.1.frep hs.2⟩
   obtain⟨l,e1,e2,e3⟩:=b3G hedge ops.size t (Array.replicate ops.size false) [] (by simp) (by rw[b4J];simp)
   rw[b4J] at e2
   have hsch:Region.schedule (P.follows .mixedOrders) ops t=l:=by
    unfold Region.schedule
    rw[hfo]
    simp only[Bool.true_or,if_true]
    unfold Region.linearise
    rw[e1]
    rfl
   rw[hsch]
   obtain⟨r,r1,r2⟩:=g0Y (C:=C) (gl:=gl) (ops:=ops) (is:=(ops.toList.map (a3D P tb nt ops)).map (a3S (ops.toList.map (a3D P tb nt ops)) (a3Q (ops.toList.map (a3D P tb nt ops)) (ops.toList.map (a3D P tb nt ops))))) ops.size (List.range ops.size) l (by simp) List.nodup_range e2
    (fun k hk o ho e he hbd _=>by
     rcases e3 k hk o ho e he hbd with h|h
     ·simp [Array.getD] at h
     ·exact h) (fun k hk=>g5A.1 (e2.subset hk)) (by simp)
   obtain⟨ex,s',h1,h2⟩:=H (.reg true (r.map fun i=>(((ops.toList.map (a3D P tb nt ops)).map (a3S (ops.toList.map (a3D P tb nt ops)) (a3Q (ops.toList.map (a3D P tb nt ops)) (ops.toList.map (a3D P tb nt ops)))))[i]?).getD e8N)) (by
    have hm:(Co.reg true (r.map fun i=>(((ops.toList.map (a3D P tb nt ops)).map (a3S (ops.toList.map (a3D P tb nt ops)) (a3Q (ops.toList.map (a3D P tb nt ops)) (ops.toList.map (a3D P tb nt ops)))))[i]?).getD e8N))∈(g0V ops ((ops.toList.map (a3D P tb nt ops)).map (a3S (ops.toList.map (a3D P tb nt ops)) (a3Q (ops.toList.map (a3D P tb nt ops)) (ops.toList.map (a3D P tb nt ops))))) ops.size (List.range ops.size)).map fun r=>Co.reg true (r.map fun i=>(((ops.toList.map (a3D P tb nt ops)).map (a3S (ops.toList.map (a3D P tb nt ops)) (a3Q (ops.toList.map (a3D P tb nt ops)) (ops.toList.map (a3D P tb nt ops)))))[i]?).getD e8N):=List.mem_map.2 ⟨r,r1,rfl⟩
    unfold neC
    split
    ·rename_i hnil
     rw[hnil] at hm
     cases hm
    ·exact hm)
   simp only[a1O,g5U,Prod.mk.injEq] at h1
   obtain⟨s1,h1,rfl,rfl⟩:=h1
   rw[g1F] at h1
   have h3:=b4M _ l s s1 (r2 s s1 h1)
   exact b4I htb hC l s G w.drew a hs' h3 fun G' w' a' hE hs2=>h2 G' w' a' (hd.1.trans hE) hs2
  ·exact plain _ s G w a hs Q (H _ (by simp))
 |seq x y ihx ihy =>
  intro s G w a hs Q H
  refine wp_seq ?_
  refine ihx s G w a hs _ fun x' hx=>?_
  have Hy:∀ y',y'∈vars P tb nt y→∃ ex s',a1O C gl n (.seq x' y') s=some (ex,s')∧∀ G' w' a',Ext G w G' w'→b4F tb gl nt G' w' a' s'→Q (b4K ex) a' w':=fun y' hy=>H (.seq x' y') (by
   unfold vars
   exact List.mem_flatMap.2 ⟨x',hx,List.mem_map.2 ⟨y',hy,rfl⟩⟩)
  obtain⟨y0,hy0⟩:=g1E (P:=P) (tb:=tb) (nt:=nt) y
  obtain⟨ex0,s0,h0,hQ0⟩:=Hy y0 hy0
  simp only[a1O] at h0
  split at h0
  ·rename_i s1 h1
   refine⟨.normal,s1,h1,fun G1 w1 a1 hE1 hs1=>?_⟩
   refine ihy s1 G1 w1 a1 hs1 Q fun y' hy=>?_
   obtain⟨ex,s',h2,hQ⟩:=Hy y' hy
   simp only[a1O,h1] at h2
   exact⟨ex,s',h2,fun G2 w2 a2 hE2 hs2=>hQ G2 w2 a2 (hE1.trans hE2) hs2⟩
  ·rename_i r hno
   refine⟨ex0,s0,h0,fun G1 w1 a1 hE1 hs1=>?_⟩
   have:=hQ0 G1 w1 a1 hE1 hs1
   cases ex0 with
   |normal=>exact absurd h0 (fun e=>hno s0 (by rw[e]))
   |exit id=>exact this
   |ret=>exact this
 |cond c x y ihx ihy =>
  intro s G w a hs Q H
  unfold vars at H
  split at H
  ·rename_i cc hcc
   have rc:=a4U hcc hs.2
   obtain⟨x0,hx0⟩:=g1E (P:=P) (tb:=tb) (nt:=nt) x
   obtain⟨y0,hy0⟩:=g1E (P:=P) (tb:=tb) (nt:=nt) y
   have Hxy:∀ x',x'∈vars P tb nt x→∀ y',y'∈vars P tb nt y→∃ ex s',a1O C gl n (.cond cc x' y') s=some (ex,s')∧∀ G' w' a',Ext G w G' w'→b4F tb gl nt G' w' a' s'→Q (b4K ex) a' w' :=
    fun x' hx y' hy=>H _ (List.mem_flatMap.2 ⟨x',hx,List.mem_map.2 ⟨y',hy,rfl⟩⟩)
   obtain⟨ex0,s0,h0,_⟩:=Hxy x0 hx0 y0 hy0
   simp only[a1O] at h0
   split at h0
   ·rename_i hb
    rw[hb] at rc
    refine wp_cond_true rc.bool_inv (ihx s G w a hs Q fun x' hx=>?_)
    obtain⟨ex,s',h1,h2⟩:=Hxy x' hx y0 hy0
    simp only[a1O,hb] at h1
    exact⟨ex,s',h1,h2⟩
   ·rename_i hb
    rw[hb] at rc
    refine wp_cond_false rc.bool_inv (ihy s G w a hs Q fun y' hy=>?_)
    obtain⟨ex,s',h1,h2⟩:=Hxy x0 hx0 y' hy
    simp only[a1O,hb] at h1
    exact⟨ex,s',h1,h2⟩
   ·cases h0
  ·obtain⟨ex,s',h,_⟩:=H .bad (by simp)
   simp [a1O] at h
 |_ =>
  intro s G w a hs Q H
  exact plain _ s G w a hs Q (H _ (by simp [vars]))
end Go.Pi

/- PI 42: a function told apart by its g0V, as a function by contract. Program independent. -/
namespace Go.Pi
variable {P:Program} {tb:Tb} {gl:Nat→Option (List T)} {G:Gh} {w:World}
theorem g1H {F:Nat→Option Fn} (hF:FnOk P tb F) (n:Nat) {g:Nat} {fn:Func} {c:Code} {res:List (Nat×Option (Bool×Nat))} (hfn:P.funcs[g]?=some fn) (hbody:fn.body=some c) (hres:a4B P fn.ntmps fn.results.toList=some res) (hsz:fn.params.size+fn.nfree≤fn.ntmps)
  {args:List PV} {sg:Sg} {ow:Ow} {r:PV} (hargs:args.length=fn.params.size+fn.nfree)
  (H:∀ x,x∈vars P tb fn.ntmps c→∃ ex s1,(ex=.normal∨ex=.ret)∧a1O (a1R F gl n) gl n x ⟨args,sg,ow⟩=some (ex,s1)∧a1Q gl s1 res=some r)
  {vs:Array Value} (hi:Inv tb.fx gl G w sg ow) (hall:a1S tb.fx G w vs args) :
  Calls P g vs w fun e w'=>∃ v G',e=.returned v∧Ext G w G' w'∧PRep tb.fx G' w' v r:=by
 refine calls_of_wp hfn hbody ?_
 have hvs:vs.size=fn.params.size+fn.nfree:=by rw[hall.1,hargs]
 have hstart:b4F tb gl fn.ntmps G w { tmps:=vs++Array.replicate (fn.ntmps - vs.size) undef,defers:=[] } ⟨args,sg,ow⟩:=by
  refine⟨hi,rfl,by simp;omega,fun k hk=>?_⟩
  rw[a1X]
  simp only
  rcases g5N k vs.size with hlt|hge
  ·have h1:(vs++Array.replicate (fn.ntmps - vs.size) undef).getD k undef=vs[k]:=by
    simp [Array.getD,hlt];omega
   have hka:k < args.length:=by rw[←hall.1];exact hlt
   rw[h1]
   have h2:args.getD k und=args[k]:=by simp [List.getD,hka]
   rw[h2]
   exact hall.2 k _ _ (g2X hlt) (g3Y hka)
  ·have h1:(vs++Array.replicate (fn.ntmps - vs.size) undef).getD k undef=undef:=by
    simp only[Array.getD]
    split
    ·rename_i hk2
     rw[Array.getInternal_eq_getElem,Array.getElem_append_right hge]
     simp
    ·rfl
   have hka:args.length≤k:=by rw[←hall.1];exact hge
   rw[h1]
   have h2:args.getD k und=und:=by simp [List.getD,g3Z hka]
   rw[h2]
   exact a1Y _ _ _
 refine g1G hF.tbo (b4V hF n) n c _ G w _ hstart _ fun x hx=>?_
 obtain⟨ex,s1,hex,hrun,hv⟩:=H x hx
 refine⟨ex,s1,hrun,fun G' w' a' hE hs=>?_⟩
 obtain⟨u,e1,e2⟩:=b4U (P:=P) hs hres hv
 have:a'.defers=[]∧∃ v',(results fn a'.tmps).run P w'=.ok v' w'∧∃ v0 G',Ending.returned v'=.returned v0∧Ext G w G' w'∧PRep tb.fx G' w' v0 r:=⟨hs.2.1,u,e1,u,G',rfl,hE,e2⟩
 rcases hex with rfl|rfl
 ·exact this
 ·exact this
theorem TRep.inside {st:Nat→Nat→Prop} {v:Value} {x:T} (h:TRep st w v x):TRep (fun b o=>st b o∧b < w.heap.size) w v x:=by
 induction h with
 |bool b=>exact .bool b
 |int k n=>exact .int k n
 |str s=>exact .str s
 |nsl=>exact .nsl
 |sl ad cap sz es vs hcap hsp hsz ho hc hr ih=>exact .sl ad cap sz es vs hcap hsp hsz ho (fun i j e x he hx=>⟨(hc i j e x he hx).1,(hc i j e x he hx).2,(show ad.block < w.heap.size from b5E (a:=⟨ad.block,ad.off+(i * sz+j),none⟩) (hc i j e x he hx).1)⟩) ih
 |agg cs xs hl h ih=>exact .agg cs xs hl ih
 |nptr=>exact .nptr
 |nif=>exact .nif
 |ifx t v=>exact .ifx t v
 |nfn=>exact .nfn
 |nmp=>exact .nmp
theorem g1I {F : Nat → Option Fn} (hF : FnOk P tb F) (n : Nat) {fx : List (Nat × Nat)} {k g : Nat} {fn : Func} {c : Code} {res : List (Nat × Option (Bool × Nat))} (hfn : P.funcs[g]? = some fn) (hbody : fn.body = some c) (hname : (fn.name == "runtime.NumGoroutine") = false) (hres : a4B P fn.ntmps fn.results.toList = some res) (hsz : fn.params.size + fn.nfree ≤ fn.ntmps)
  {ts0:List T} {k1 k2:IntKind} {n1 n2:Int} (hargs:ts0.length=fn.params.size+fn.nfree)
  (hx:∀ (gl:Nat→Option (List T)) (ts:List T) (r:PV),a0Q gl k ts=some r→ts=ts0∧r=.tup [.t (.int k1 n1),.t (.int k2 n2)])
  (H:∀ x,x∈vars P tb fn.ntmps c→∃ ex s1,(ex=.normal∨ex=.ret)∧a1O (a1R F (fun _=>none) n) (fun _=>none) n x ⟨ts0.map .t,[],[]⟩=some (ex,s1)∧a1Q (fun _=>none) s1 res=some (.tup [.t (.int k1 n1),.t (.int k2 n2)])) :
  a9G P fx k g:=by
 intro ts r vs G w gl hg hxr hl hr
 obtain⟨rfl,rfl⟩:=hx gl ts r hxr
 right
 refine⟨a9H hfn hbody hname _ _,?_⟩
 have hI:Inv tb.fx (fun _=>none) ⟨[],[],[],fun b o=>G.st b o∧b < w.heap.size,w.heap.size⟩ w [] []:=⟨rfl,rfl,by simp,by simp,by simp,rfl,by simp,by simp,by simp,fun b o h=>h.2,fun g ts j x h=>by simp at h,g5K _⟩
 have hall:a1S tb.fx ⟨[],[],[],fun b o=>G.st b o∧b < w.heap.size,w.heap.size⟩ w vs (ts.map .t):=by
  refine⟨by simpa using hl,fun i v x hv hx=>?_⟩
  simp only[g4B,g5U] at hx
  obtain⟨q,hq,rfl⟩:=hx
  exact .t (hr i v q hv hq).inside
 refine(g1H hF n hfn hbody hres hsz (by simpa using hargs) H hI hall).mono fun e w' ⟨v,G',he,hE,hv⟩=>?_
 refine⟨v,G.st,he,⟨hE.os,hE.tape,hE.output,hE.size,fun b hb=>?_⟩,fun _ _ h=>h,fun _ _ h=>.inl h,?_⟩
 ·rcases hE.keep b hb (by simp) (by simp) with h|⟨h,_⟩
  ·exact h
  ·simp only at h;omega
 ·cases hv with
  |tup cs xs hl h =>
   refine .tup cs _ hl fun i v x hv hx=>?_
   have hp:=h i v x hv hx
   match i,hx with
   |0,hx =>
    simp only[List.getElem?_cons_zero,g5W] at hx
    subst hx
    have ht:=hp.t_inv
    cases ht
    exact .t (.int _ _)
   |1,hx =>
    simp only[g3W,List.getElem?_cons_zero,g5W] at hx
    subst hx
    have ht:=hp.t_inv
    cases ht
    exact .t (.int _ _)
   |i+2,hx=>simp at hx
end Go.Pi
