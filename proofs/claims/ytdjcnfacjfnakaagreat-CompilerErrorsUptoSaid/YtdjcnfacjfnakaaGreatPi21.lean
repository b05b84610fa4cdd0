/- PI 21: every order that the edges allow comes to the order of the text. -/
import Derived.Test.YtdjcnfacjfnakaaGreatPi20
set_option linter.unusedSimpArgs false
set_option linter.unusedVariables false
namespace Go.Pi
variable {gl:Nat->Option (List T)} {C:Cal}
def rem (n:Nat) (listed:Array Bool):List Nat:=(List.range n).filter λi=>!listed.getD i true
theorem mem_rem {n:Nat} {listed:Array Bool} {i:Nat}:i∈rem n listed↔i < n/\listed.getD i true=false:=by
 simp [rem,List.mem_filter]
theorem b1P {l:Array Bool} {i:Nat} (h:i < l.size) (d:Bool):(l.setIfInBounds i true).getD i d=true:=by
 simp [Array.getD,h]
theorem b1Q {l:Array Bool} {i j:Nat} (h:i≠j) (d:Bool):(l.setIfInBounds i true).getD j d=l.getD j d:=by
 simp only[Array.getD,Array.size_setIfInBounds]
 split
 ·rw[Array.getInternal_eq_getElem,Array.getInternal_eq_getElem,Array.getElem_setIfInBounds_ne _ h]
 ·rfl
theorem b1R {n:Nat} {listed:Array Bool} (hs:listed.size=n) {i:Nat} (hi:i∈rem n listed):∃ r1 r2,rem n listed=r1++i::r2/\rem n (listed.setIfInBounds i true)=r1++r2/\∀ j∈r1,j < i/\j∈rem n listed:=by
 obtain⟨hlt,hun⟩:=mem_rem.1 hi
 have hr:List.range n=List.range i++i::(List.range' (i+1) (n - (i+1))):=by
  rw[List.range_eq_range',List.range_eq_range',<-List.range'_succ]
  have:=List.range'_append (s:=0) (m:=i) (n:=n - (i+1)+1) (step:=1)
  simp only[Nat.one_mul,g7A] at this
  rw[this]
  congr 1
  omega
 have hne:∀ j,j≠i->(listed.setIfInBounds i true).getD j true=listed.getD j true:=λj hj=>b1Q (λe=>hj e.symm) true
 refine⟨(List.range i).filter λj=>!listed.getD j true,(List.range' (i+1) (n - (i+1))).filter λj=>!listed.getD j true,?_,?_,?_⟩
 ·unfold rem
  rw[hr,List.filter_append,List.filter_cons,hun]
  rfl
 ·unfold rem
  rw[hr,List.filter_append,List.filter_cons,b1P (by omega) true]
  simp only[g4V,g4T,if_false]
  congr 1
  ·exact List.filter_congr λj hj=>by rw[hne j (by have:=g6L.1 hj;omega)]
  ·exact List.filter_congr λj hj=>by rw[hne j (by have:=(List.mem_range'_1.1 hj).1;omega)]
 ·intro j hj
  obtain⟨h1,h2⟩:=List.mem_filter.1 hj
  have:=g6L.1 h1
  exact⟨this,mem_rem.2 ⟨by omega,by simpa using h2⟩⟩
def b1S (ops:Array Oper) (listed:Array Bool):List Nat:=(List.range ops.size).filter λi=>!listed.getD i true&&((ops[i]?).map (·.after.all λe=>!Region.binds .any e || listed.getD e.on false)).getD false
theorem b1T (ops:Array Oper) (fuel t:Nat) (listed:Array Bool) (acc:List Nat):Region.linearise.go .any ops (fuel+1) t listed acc=match (b1S ops listed)[t % (b1S ops listed).length]? with
  |some i=>Region.linearise.go .any ops fuel (t / (b1S ops listed).length) (listed.setIfInBounds i true) (i::acc)
  |none=>acc.reverse:=rfl
def b1U (ops:Array Oper) (listed:Array Bool):Prop:=∀ i,listed.getD i false=true->∀ o,ops[i]?=some o->∀ e∈o.after,Region.binds .any e=true->listed.getD e.on false=true
theorem b1V {ops:Array Oper} {listed:Array Bool} (hcl:b1U ops listed):∀ (n k j:Nat),a3E ops n k j=true->(∀ o,ops[k]?=some o->∀ e∈o.after,Region.binds .any e=true->listed.getD e.on false=true)->listed.getD j false=true:=by
 intro n
 induction n with
 |zero=>intro k j h;cases h
 |succ n ih =>
  intro k j h hk
  unfold a3E at h
  split at h
  ·rename_i o ho
   obtain⟨e,he,hb⟩:=List.any_eq_true.1 h
   simp only[g4S,Bool.or_eq_true,beq_iff_eq] at hb
   have hl:=hk o ho e (by simpa using he) hb.1
   rcases hb.2 with h1|h1
   ·rw[<-h1];exact hl
   ·exact ih e.on j h1 (λo' ho'=>hcl e.on hl o' ho')
  ·cases h
theorem b1W {ops:Array Oper} {is:List Ins} (hlen:is.length=ops.size) (hc:a3G ops is=true):∀ (fuel t:Nat) (listed:Array Bool) (acc:List Nat) (s s':S),listed.size=ops.size->b1U ops listed->(rem ops.size listed).length<=fuel->b1L C gl true is (rem ops.size listed) s=some s' ->
  ∃ l,Region.linearise.go .any ops fuel t listed acc=acc.reverse++l/\b1L C gl true is l s=some s':=by
 have hall:∀ k,k < ops.size->a3F ops is k=true:=λk hk=>g5A.1 hc k (g6L.2 hk)
 intro fuel
 induction fuel with
 |zero =>
  intro t listed acc s s' _ _ hl hr
  have:rem ops.size listed=[]:=g5G (by omega)
  rw[this] at hr
  exact⟨[],by simp [Region.linearise.go],hr⟩
 |succ fuel ih =>
  intro t listed acc s s' hs hcl hl hr
  rw[b1T]
  have hsub:∀ i∈b1S ops listed,i∈rem ops.size listed/\∀ o,ops[i]?=some o->∀ e∈o.after,Region.binds .any e=true->listed.getD e.on false=true:=by
   intro i hi
   obtain⟨h1,h2⟩:=List.mem_filter.1 hi
   simp only[g4S] at h2
   refine⟨mem_rem.2 ⟨g6L.1 h1,by simpa using h2.1⟩,λo ho e he hb=>?_⟩
   have h3:=h2.2
   rw[ho] at h3
   simp only[g7F,g7D] at h3
   have:=Array.all_eq_true_iff_forall_mem.1 h3 e he
   simpa [hb] using this
  cases hq:(b1S ops listed)[t % (b1S ops listed).length]? with
  |none =>
   have hnil:b1S ops listed=[]:=by
    cases hrl:b1S ops listed with
    |nil=>rfl
    |cons x r =>
     rw[hrl] at hq
     rw[List.getElem?_eq_none_iff] at hq
     have:=Nat.mod_lt t (show 0 < (x::r).length by simp)
     omega
   have hrem:rem ops.size listed=[]:=by
    cases hrm:rem ops.size listed with
    |nil=>rfl
    |cons x r =>
     exfalso
     have hx:x∈rem ops.size listed:=by rw[hrm];simp
     obtain⟨r1,r2,e1,_,e3⟩:=b1R hs hx
     have hr1:r1=[]:=by
      cases r1 with
      |nil=>rfl
      |cons y ys =>
       rw[hrm] at e1
       simp only[List.cons_append,g5D] at e1
       have:=(e3 y (by simp)).1
       omega
     obtain⟨hlt,hun⟩:=mem_rem.1 hx
     have hca:=hall x hlt
     unfold a3F at hca
     rw[g4O hlt,g5M (show x < is.length by omega)] at hca
     simp only[g4S,g5A] at hca
     have hready:x∈b1S ops listed:=by
      refine List.mem_filter.2 ⟨g6L.2 hlt,?_⟩
      rw[hun,g4O hlt]
      simp only[g4U,g4X,g7F,g7D]
      refine Array.all_eq_true_iff_forall_mem.2 λe he=>?_
      have h1:=hca.1 e (by simpa using he)
      simp only[Bool.or_eq_true,Bool.not_eq_true',g7L] at h1 ⊢
      rcases h1 with h1|h1
      ·exact .inl h1
      ·refine .inr ?_
       cases hg:listed.getD e.on false with
       |true=>rfl
       |false =>
        exfalso
        have hon:e.on < ops.size:=by omega
        have hge:listed.getD e.on true=false:=by
         have hls:e.on < listed.size:=by omega
         simp only[Array.getD,hls,dite_true] at hg ⊢
         exact hg
        have hmem:e.on∈rem ops.size listed:=mem_rem.2 ⟨hon,hge⟩
        rw[e1,hr1] at hmem
        simp only[List.nil_append,g6H] at hmem
        rcases hmem with hmem|hmem
        ·omega
        ·-- what follows x is greater
         have hsorted:(rem ops.size listed).Pairwise (· < ·):=List.Pairwise.filter _ List.pairwise_lt_range
         rw[e1,hr1] at hsorted
         simp only[List.nil_append,List.pairwise_cons] at hsorted
         have:=hsorted.1 e.on hmem
         omega
     rw[hnil] at hready
     cases hready
   rw[hrem] at hr
   exact⟨[],by simp,hr⟩
  |some i =>
   have hi:=hsub i (g6K hq)
   obtain⟨hmem,hpre⟩:=hi
   obtain⟨r1,r2,e1,e2,e3⟩:=b1R hs hmem
   obtain⟨hlt,hun⟩:=mem_rem.1 hmem
   have hil:i < is.length:=by omega
   have hca:=hall i hlt
   unfold a3F at hca
   rw[g4O hlt,g5M hil] at hca
   simp only[g4S,g5A] at hca
   have hcom:∀ j∈r1,∀ p,is[j]?=some p->a3D p is[i]=true:=by
    intro j hj p hp
    obtain⟨hji,hjr⟩:=e3 j hj
    have h1:=hca.2 j (g6L.2 hji)
    rw[hp] at h1
    simp only[Bool.or_eq_true] at h1
    rcases h1 with h1|h1|h1
    ·exact h1
    ·exfalso
     obtain⟨e,he,hb⟩:=List.any_eq_true.1 h1
     simp only[g4S,beq_iff_eq] at hb
     have h2:=hpre _ (g4O hlt) e (by simpa using he) hb.1
     rw[hb.2] at h2
     have hjs:j < listed.size:=by omega
     have h3:=(mem_rem.1 hjr).2
     simp only[Array.getD,hjs,dite_true] at h2 h3
     rw[h2] at h3
     cases h3
    ·exfalso
     have h2:=b1V hcl 8 i j h1 hpre
     have hjs:j < listed.size:=by omega
     have h3:=(mem_rem.1 hjr).2
     simp only[Array.getD,hjs,dite_true] at h2 h3
     rw[h2] at h3
     cases h3
   rw[e1] at hr
   have hr':b1L C gl true is ((r1++[i])++r2) s=some s':=by simpa using hr
   rw[b1M] at hr'
   simp only[g7C] at hr'
   obtain⟨s1,h1,h2⟩:=hr'
   have h3:=b1O is i is[i] (g5M hil) r1 s s1 hcom h1
   simp only[b1L,g5M hil] at h3
   cases hst:a1G C gl true is[i] s with
   |none=>rw[hst] at h3;cases h3
   |some s0 =>
    rw[hst] at h3
    simp only at h3
    have h4:b1L C gl true is (rem ops.size (listed.setIfInBounds i true)) s0=some s':=by
     rw[e2,b1M,h3]
     exact h2
    have hcl':b1U ops (listed.setIfInBounds i true):=by
     intro k hk o ho e he hb
     have up:∀ m,listed.getD m false=true->(listed.setIfInBounds i true).getD m false=true:=by
      intro m hm
      by_cases hmi:i=m
      ·subst hmi;exact b1P (by omega) false
      ·rw[b1Q hmi];exact hm
     by_cases hki:i=k
     ·subst hki
      exact up _ (hpre o ho e he hb)
     ·rw[b1Q hki] at hk
      exact up _ (hcl k hk o ho e he hb)
    obtain⟨l,g1,g2⟩:=ih (t / (b1S ops listed).length) (listed.setIfInBounds i true) (i::acc) s0 s' (by simp [hs]) hcl' (by rw[e2];rw[e1] at hl;simp at hl ⊢;omega) h4
    refine⟨i::l,by simp only;rw[g1];simp,?_⟩
    simp only[b1L,g5M hil,hst]
    exact g2
end Go.Pi
