/- PI 21: every order that the edges allow comes to the order of the text. Program independent. -/
import Derived.Test.YtdjcnfacjfnakaaGreatPi20
set_option linter.unusedSimpArgs false
set_option linter.unusedVariables false
namespace Go.Pi
variable {gl:Nat→Option (List T)} {C:Cal}
def rem (n:Nat) (listed:Array Bool):List Nat:=(List.range n).filter fun i=>!listed.getD i true
theorem mem_rem {n:Nat} {listed:Array Bool} {i:Nat}:i∈rem n listed↔i < n∧listed.getD i true=false:=by
 simp [rem,g4I]
theorem b2T {l:Array Bool} {i:Nat} (h:i < l.size) (d:Bool):(l.setIfInBounds i true).getD i d=true:=by
 simp [Array.getD,h]
theorem b2U {l:Array Bool} {i j:Nat} (h:i≠j) (d:Bool):(l.setIfInBounds i true).getD j d=l.getD j d:=by
 simp only[Array.getD,Array.size_setIfInBounds]
 split
 ·rw[Array.getInternal_eq_getElem,Array.getInternal_eq_getElem,Array.getElem_setIfInBounds_ne _ h]
 ·rfl
theorem b2V {n:Nat} {listed:Array Bool} (hs:listed.size=n) {i:Nat} (hi:i∈rem n listed):∃ r1 r2,rem n listed=r1++i::r2∧rem n (listed.setIfInBounds i true)=r1++r2∧∀ j∈r1,j < i∧j∈rem n listed:=by
 obtain⟨hlt,hun⟩:=mem_rem.1 hi
 have hr:List.range n=List.range i++i::(List.range' (i+1) (n - (i+1))):=by
  rw[List.range_eq_range',List.range_eq_range',←List.range'_succ]
  have:=List.range'_append (s:=0) (m:=i) (n:=n - (i+1)+1) (step:=1)
  simp only[Nat.one_mul,g5A] at this
  rw[this]
  congr 1
  omega
 have hne:∀ j,j≠i→(listed.setIfInBounds i true).getD j true=listed.getD j true:=fun j hj=>b2U (fun e=>hj e.symm) true
 refine⟨(List.range i).filter fun j=>!listed.getD j true,(List.range' (i+1) (n - (i+1))).filter fun j=>!listed.getD j true,?_,?_,?_⟩
 ·unfold rem
  rw[hr,List.filter_append,List.filter_cons,hun]
  rfl
 ·unfold rem
  rw[hr,List.filter_append,List.filter_cons,b2T (by omega) true]
  simp only[Bool.not_true,g2S,if_false]
  congr 1
  ·exact List.filter_congr fun j hj=>by rw[hne j (by have:=g4L.1 hj;omega)]
  ·exact List.filter_congr fun j hj=>by rw[hne j (by have:=(List.mem_range'_1.1 hj).1;omega)]
 ·intro j hj
  obtain⟨h1,h2⟩:=g4I.1 hj
  have:=g4L.1 h1
  exact⟨this,mem_rem.2 ⟨by omega,by simpa using h2⟩⟩
def b2W (ops:Array Oper) (listed:Array Bool):List Nat:=(List.range ops.size).filter fun i=>!listed.getD i true&&((ops[i]?).map (·.after.all fun e=>!Region.binds .any e || listed.getD e.on false)).getD false
theorem b2X (ops:Array Oper) (fuel t:Nat) (listed:Array Bool) (acc:List Nat):Region.linearise.go .any ops (fuel+1) t listed acc=match (b2W ops listed)[t % (b2W ops listed).length]? with
  |some i=>Region.linearise.go .any ops fuel (t / (b2W ops listed).length) (listed.setIfInBounds i true) (i::acc)
  |none=>acc.reverse:=rfl
def b2Y (ops:Array Oper) (listed:Array Bool):Prop:=∀ i,listed.getD i false=true→∀ o,ops[i]?=some o→∀ e∈o.after,Region.binds .any e=true→listed.getD e.on false=true
theorem b2Z {ops:Array Oper} {listed:Array Bool} (hcl:b2Y ops listed):∀ (n k j:Nat),a3M ops n k j=true→(∀ o,ops[k]?=some o→∀ e∈o.after,Region.binds .any e=true→listed.getD e.on false=true)→listed.getD j false=true:=by
 intro n
 induction n with
 |zero=>intro k j h;cases h
 |succ n ih =>
  intro k j h hk
  unfold a3M at h
  split at h
  ·rename_i o ho
   obtain⟨e,he,hb⟩:=g2Z.1 h
   simp only[g2R,g2U,beq_iff_eq] at hb
   have hl:=hk o ho e (by simpa using he) hb.1
   rcases hb.2 with h1|h1
   ·rw[←h1];exact hl
   ·exact ih e.on j h1 (fun o' ho'=>hcl e.on hl o' ho')
  ·cases h
theorem b3A {ops:Array Oper} {is:List Ins} (hlen:is.length=ops.size) (hc:a3O ops is=true):∀ (fuel t:Nat) (listed:Array Bool) (acc:List Nat) (s s':S),listed.size=ops.size→b2Y ops listed→(rem ops.size listed).length≤fuel→b2P C gl true is (rem ops.size listed) s=some s' →
  ∃ l,Region.linearise.go .any ops fuel t listed acc=acc.reverse++l∧b2P C gl true is l s=some s':=by
 have hall:∀ k,k < ops.size→a3N ops is k=true:=fun k hk=>g2Y.1 hc k (g4L.2 hk)
 intro fuel
 induction fuel with
 |zero =>
  intro t listed acc s s' _ _ hl hr
  have:rem ops.size listed=[]:=g3F (by omega)
  rw[this] at hr
  exact⟨[],by simp [Region.linearise.go],hr⟩
 |succ fuel ih =>
  intro t listed acc s s' hs hcl hl hr
  rw[b2X]
  have hsub:∀ i∈b2W ops listed,i∈rem ops.size listed∧∀ o,ops[i]?=some o→∀ e∈o.after,Region.binds .any e=true→listed.getD e.on false=true:=by
   intro i hi
   obtain⟨h1,h2⟩:=g4I.1 hi
   simp only[g2R] at h2
   refine⟨mem_rem.2 ⟨g4L.1 h1,by simpa using h2.1⟩,fun o ho e he hb=>?_⟩
   have h3:=h2.2
   rw[ho] at h3
   simp only[g5F,g5D] at h3
   have:=g2J.1 h3 e he
   simpa [hb] using this
  cases hq:(b2W ops listed)[t % (b2W ops listed).length]? with
  |none =>
   have hnil:b2W ops listed=[]:=by
    cases hrl:b2W ops listed with
    |nil=>rfl
    |cons x r =>
     rw[hrl] at hq
     rw[List.getElem?_eq_none_iff] at hq
     have:=Nat.mod_lt t (show 0 < (x::r).length by simp)
     omega
   have hrem:rem ops.size listed=[]:=by
    cases hrm:rem ops.size listed with
    |nil=>rfl
    |cons x r =>
     exfalso
     have hx:x∈rem ops.size listed:=by rw[hrm];simp
     obtain⟨r1,r2,e1,_,e3⟩:=b2V hs hx
     have hr1:r1=[]:=by
      cases r1 with
      |nil=>rfl
      |cons y ys =>
       rw[hrm] at e1
       simp only[List.cons_append,g3C] at e1
       have:=(e3 y (by simp)).1
       omega
     obtain⟨hlt,hun⟩:=mem_rem.1 hx
     have hca:=hall x hlt
     unfold a3N at hca
     rw[g2M hlt,g3L (show x < is.length by omega)] at hca
     simp only[g2R,g2Y] at hca
     have hready:x∈b2W ops listed:=by
      refine g4I.2 ⟨g4L.2 hlt,?_⟩
      rw[hun,g2M hlt]
      simp only[Bool.not_false,g2V,g5F,g5D]
      refine g2J.2 fun e he=>?_
      have h1:=hca.1 e (by simpa using he)
      simp only[g2U,Bool.not_eq_true',g5L] at h1 ⊢
      rcases h1 with h1|h1
      ·exact .inl h1
      ·refine .inr ?_
       cases hg:listed.getD e.on false with
       |true=>rfl
       |false =>
        exfalso
        have hon:e.on < ops.size:=by omega
        have hge:listed.getD e.on true=false:=by
         have hls:e.on < listed.size:=by omega
         simp only[Array.getD,hls,dite_true] at hg ⊢
         exact hg
        have hmem:e.on∈rem ops.size listed:=mem_rem.2 ⟨hon,hge⟩
        rw[e1,hr1] at hmem
        simp only[List.nil_append,g4G] at hmem
        rcases hmem with hmem|hmem
        ·omega
        ·-- what follows x is greater
         have hsorted:(rem ops.size listed).Pairwise (· < ·):=List.Pairwise.filter _ List.pairwise_lt_range
         rw[e1,hr1] at hsorted
         simp only[List.nil_append,List.pairwise_cons] at hsorted
         have:=hsorted.1 e.on hmem
         omega
     rw[hnil] at hready
     cases hready
   rw[hrem] at hr
   exact⟨[],by simp,hr⟩
  |some i =>
   have hi:=hsub i (g4K hq)
   obtain⟨hmem,hpre⟩:=hi
   obtain⟨r1,r2,e1,e2,e3⟩:=b2V hs hmem
   obtain⟨hlt,hun⟩:=mem_rem.1 hmem
   have hil:i < is.length:=by omega
   have hca:=hall i hlt
   unfold a3N at hca
   rw[g2M hlt,g3L hil] at hca
   simp only[g2R,g2Y] at hca
   have hcom:∀ j∈r1,∀ p,is[j]?=some p→a3L p is[i]=true:=by
    intro j hj p hp
    obtain⟨hji,hjr⟩:=e3 j hj
    have h1:=hca.2 j (g4L.2 hji)
    rw[hp] at h1
    simp only[g2U] at h1
    rcases h1 with h1|h1|h1
    ·exact h1
    ·exfalso
     obtain⟨e,he,hb⟩:=g2Z.1 h1
     simp only[g2R,beq_iff_eq] at hb
     have h2:=hpre _ (g2M hlt) e (by simpa using he) hb.1
     rw[hb.2] at h2
     have hjs:j < listed.size:=by omega
     have h3:=(mem_rem.1 hjr).2
     simp only[Array.getD,hjs,dite_true] at h2 h3
     rw[h2] at h3
     cases h3
    ·exfalso
     have h2:=b2Z hcl 8 i j h1 hpre
     have hjs:j < listed.size:=by omega
     have h3:=(mem_rem.1 hjr).2
     simp only[Array.getD,hjs,dite_true] at h2 h3
     rw[h2] at h3
     cases h3
   rw[e1] at hr
   have hr':b2P C gl true is ((r1++[i])++r2) s=some s':=by simpa using hr
   rw[b2Q] at hr'
   simp only[g5C] at hr'
   obtain⟨s1,h1,h2⟩:=hr'
   have h3:=b2S is i is[i] (g3L hil) r1 s s1 hcom h1
   simp only[b2P,g3L hil] at h3
   cases hst:a1M C gl true is[i] s with
   |none=>rw[hst] at h3;cases h3
   |some s0 =>
    rw[hst] at h3
    simp only at h3
    have h4:b2P C gl true is (rem ops.size (listed.setIfInBounds i true)) s0=some s':=by
     rw[e2,b2Q,h3]
     exact h2
    have hcl':b2Y ops (listed.setIfInBounds i true):=by
     intro k hk o ho e he hb
     have up:∀ m,listed.getD m false=true→(listed.setIfInBounds i true).getD m false=true:=by
      intro m hm
      by_cases hmi:i=m
      ·subst hmi;exact b2T (by omega) false
      ·rw[b2U hmi];exact hm
     by_cases hki:i=k
     ·subst hki
      exact up _ (hpre o ho e he hb)
     ·rw[b2U hki] at hk
      exact up _ (hcl k hk o ho e he hb)
    obtain⟨l,g1,g2⟩:=ih (t / (b2W ops listed).length) (listed.setIfInBounds i true) (i::acc) s0 s' (by simp [hs]) hcl' (by rw[e2];rw[e1] at hl;simp at hl ⊢;omega) h4
    refine⟨i::l,by simp only;rw[g1];simp,?_⟩
    simp only[b2P,g3L hil,hst]
    exact g2
end Go.Pi
