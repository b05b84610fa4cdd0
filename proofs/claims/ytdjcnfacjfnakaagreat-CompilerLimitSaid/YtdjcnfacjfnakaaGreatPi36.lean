/- PI 36: regions that lay two variables in a drawn order. Program independent. -/
import Derived.Test.YtdjcnfacjfnakaaGreatPi21
set_option linter.unusedSimpArgs false
set_option linter.unusedVariables false
namespace Go.Pi
variable {gl:Nat→Option (List T)} {C:Cal}
def Ahd (l:List Nat) (i j:Nat):Prop:=∃ l1 l2,l=l1++i::l2∧j∈l2
theorem b3B {l:List Nat} {a i j:Nat} (h:Ahd l i j):Ahd (a::l) i j:=by
 obtain⟨l1,l2,rfl,hj⟩:=h
 exact⟨a::l1,l2,rfl,hj⟩
theorem b3C {l:List Nat} {i j:Nat} (h:Ahd l i j):i∈l∧j∈l:=by
 obtain⟨l1,l2,rfl,hj⟩:=h
 exact⟨by simp,by simp [hj]⟩
theorem b3D {l:List Nat} (hn:l.Nodup) {i j:Nat} (h:Ahd l i j) (h':Ahd l j i):False:=by
 induction l with
 |nil=>obtain⟨l1,l2,e,_⟩:=h;simp at e
 |cons a r ih =>
  obtain⟨hna,hnr⟩:=List.nodup_cons.1 hn
  have key:∀ {x y:Nat},Ahd (a::r) x y→(x=a∧y∈r)∨Ahd r x y:=by
   intro x y h
   obtain⟨l1,l2,e,hy⟩:=h
   cases l1 with
   |nil=>simp only[List.nil_append,g3C] at e;exact .inl ⟨e.1.symm,e.2 ▸ hy⟩
   |cons b l1=>simp only[List.cons_append,g3C] at e;exact .inr ⟨l1,l2,e.2,hy⟩
  rcases key h with⟨rfl,h1⟩|h1 <;> rcases key h' with⟨e,h2⟩|h2
  ·exact hna h2
  ·exact hna (b3C h2).2
  ·subst e;exact hna (b3C h1).2
  ·exact ih hnr h1 h2
theorem b3E {l:List Nat} (hn:l.Nodup) {i j k:Nat} (h:Ahd l i j) (h':Ahd l j k):Ahd l i k:=by
 induction l with
 |nil=>obtain⟨l1,l2,e,_⟩:=h;simp at e
 |cons a r ih =>
  obtain⟨hna,hnr⟩:=List.nodup_cons.1 hn
  have key:∀ {x y:Nat},Ahd (a::r) x y→(x=a∧y∈r)∨Ahd r x y:=by
   intro x y h
   obtain⟨l1,l2,e,hy⟩:=h
   cases l1 with
   |nil=>simp only[List.nil_append,g3C] at e;exact .inl ⟨e.1.symm,e.2 ▸ hy⟩
   |cons b l1=>simp only[List.cons_append,g3C] at e;exact .inr ⟨l1,l2,e.2,hy⟩
  rcases key h with⟨rfl,h1⟩|h1 <;> rcases key h' with⟨e,h2⟩|h2
  ·subst e;exact absurd h1 hna
  ·exact⟨[],r,rfl,(b3C h2).2⟩
  ·subst e;exact absurd (b3C h1).2 hna
  ·exact b3B (ih hnr h1 h2)
theorem b3F {l:List Nat} {i j:Nat} (hi:i∈l) (hj:j∈l) (hij:i≠j):Ahd l i j∨Ahd l j i:=by
 induction l with
 |nil=>cases hi
 |cons a r ih =>
  rcases g4G.1 hi with e1|hi'
  ·rcases g4G.1 hj with e2|hj'
   ·exact absurd (e1.trans e2.symm) hij
   ·exact .inl ⟨[],r,by rw[e1];rfl,hj'⟩
  ·rcases g4G.1 hj with e2|hj'
   ·exact .inr ⟨[],r,by rw[e2];rfl,hi'⟩
   ·rcases ih hi' hj' with h|h
    ·exact .inl (b3B h)
    ·exact .inr (b3B h)
theorem b3G (is:List Ins):∀ (l base:List Nat) (s s':S),base.Perm l→base.Nodup→(∀ i j,Ahd l i j→Ahd base j i→∀ p q,is[j]?=some p→is[i]?=some q→a3L p q=true)→b2P C gl true is base s=some s'→b2P C gl true is l s=some s':=by
 intro l
 induction l with
 |nil =>
  intro base s s' hp _ _ h
  rw[hp.eq_nil] at h
  exact h
 |cons i r ih =>
  intro base s s' hp hn hc h
  have hi:i∈base:=hp.symm.subset (by simp)
  obtain⟨b1,b2,rfl⟩:=List.append_of_mem hi
  have hp2:(b1++b2).Perm r:=by
   have:=List.perm_middle (a:=i) (l₁:=b1) (l₂:=b2)
   exact List.Perm.cons_inv (this.symm.trans hp)
  have hn2:(b1++b2).Nodup:=by
   have:=(List.perm_middle (a:=i) (l₁:=b1) (l₂:=b2)).nodup_iff.1 hn
   exact(List.nodup_cons.1 this).2
  have hni:i ∉ b1++b2:=by
   have:=(List.perm_middle (a:=i) (l₁:=b1) (l₂:=b2)).nodup_iff.1 hn
   exact(List.nodup_cons.1 this).1
  have h':b2P C gl true is ((b1++[i])++b2) s=some s':=by simpa using h
  rw[b2Q] at h'
  obtain⟨s1,h1,h2⟩:=g5C.1 h'
  have hq:∃ q,is[i]?=some q:=by
   rw[b2Q] at h1
   obtain⟨s0,_,h0⟩:=g5C.1 h1
   simp only[b2P] at h0
   cases hh:is[i]? with
   |none=>rw[hh] at h0;cases h0
   |some q=>exact⟨q,rfl⟩
  obtain⟨q,hq⟩:=hq
  have h3:=b2S is i q hq b1 s s1 (fun j hj p hp'=>by
   refine hc i j ⟨[],r,rfl,hp2.subset (by simp [hj])⟩ ?_ p q hp' hq
   obtain⟨c1,c2,rfl⟩:=List.append_of_mem hj
   exact⟨c1,c2++i::b2,by simp,by simp⟩) h1
  simp only[b2P,hq] at h3 ⊢
  cases hst:a1M C gl true q s with
  |none=>rw[hst] at h3;cases h3
  |some s0 =>
   rw[hst] at h3
   simp only at h3 ⊢
   refine ih (b1++b2) s0 s' hp2 hn2 (fun x y hx hy=>?_) (by rw[b2Q,h3];exact h2)
   refine hc x y (b3B hx) ?_
   obtain⟨l1,l2,e,hy2⟩:=hy
   rcases List.append_eq_append_iff.1 e with⟨c,e1,e2⟩|⟨c,e1,e2⟩
   ·subst e1
    exact⟨b1++i::c,l2,by rw[e2];simp,hy2⟩
   ·cases c with
    |nil =>
     simp only[g3B] at e1
     subst e1
     simp only[List.nil_append] at e2
     subst e2
     exact⟨b1++[i],l2,by simp,hy2⟩
    |cons d c =>
     simp only[List.cons_append,g3C] at e2
     obtain⟨rfl,rfl⟩:=e2
     subst e1
     refine⟨l1,c++i::b2,by simp,?_⟩
     rcases g4F.1 hy2 with h|h
     ·simp [h]
     ·simp [h]
theorem b3H {ops:Array Oper} (hb:∀ k,k < ops.size→∀ o,ops[k]?=some o→∀ e∈o.after,Region.binds .any e=true→e.on < k):∀ (fuel t:Nat) (listed:Array Bool) (acc:List Nat),listed.size=ops.size→(rem ops.size listed).length≤fuel →
  ∃ l,Region.linearise.go .any ops fuel t listed acc=acc.reverse++l∧l.Perm (rem ops.size listed)∧∀ k∈l,∀ o,ops[k]?=some o→∀ e∈o.after,Region.binds .any e=true→listed.getD e.on false=true∨Ahd l e.on k:=by
 intro fuel
 induction fuel with
 |zero =>
  intro t listed acc _ hl
  have:rem ops.size listed=[]:=g3F (by omega)
  rw[this]
  exact⟨[],by simp [Region.linearise.go],List.Perm.refl _,fun k hk=>by cases hk⟩
 |succ fuel ih =>
  intro t listed acc hs hl
  rw[b2X]
  have hsub:∀ i∈b2W ops listed,i∈rem ops.size listed∧∀ o,ops[i]?=some o→∀ e∈o.after,Region.binds .any e=true→listed.getD e.on false=true:=by
   intro i hi
   obtain⟨h1,h2⟩:=g4I.1 hi
   simp only[g2R] at h2
   refine⟨mem_rem.2 ⟨g4L.1 h1,by simpa using h2.1⟩,fun o ho e he hb=>?_⟩
   have h3:=h2.2
   rw[ho] at h3
   simp only[g5F,g5D] at h3
   have:=g2J.1 h3 e he
   simpa [hb] using this
  cases hq:(b2W ops listed)[t % (b2W ops listed).length]? with
  |none =>
   have hnil:b2W ops listed=[]:=by
    cases hrl:b2W ops listed with
    |nil=>rfl
    |cons x r =>
     rw[hrl] at hq
     rw[List.getElem?_eq_none_iff] at hq
     have:=Nat.mod_lt t (show 0 < (x::r).length by simp)
     omega
   have hrem:rem ops.size listed=[]:=by
    cases hrm:rem ops.size listed with
    |nil=>rfl
    |cons x r =>
     exfalso
     have hx:x∈rem ops.size listed:=by rw[hrm];simp
     obtain⟨r1,r2,e1,_,e3⟩:=b2V hs hx
     have hr1:r1=[]:=by
      cases r1 with
      |nil=>rfl
      |cons y ys =>
       rw[hrm] at e1
       simp only[List.cons_append,g3C] at e1
       have:=(e3 y (by simp)).1
       omega
     obtain⟨hlt,hun⟩:=mem_rem.1 hx
     have hready:x∈b2W ops listed:=by
      refine g4I.2 ⟨g4L.2 hlt,?_⟩
      rw[hun,g2M hlt]
      simp only[Bool.not_false,g2V,g5F,g5D]
      refine g2J.2 fun e he=>?_
      cases hbe:Region.binds .any e with
      |false=>rfl
      |true =>
       have h1:=hb x hlt _ (g2M hlt) e he hbe
       simp only[Bool.not_true,Bool.false_or]
       cases hg:listed.getD e.on false with
       |true=>rfl
       |false =>
        exfalso
        have hon:e.on < ops.size:=by omega
        have hge:listed.getD e.on true=false:=by
         have hls:e.on < listed.size:=by omega
         simp only[Array.getD,hls,dite_true] at hg ⊢
         exact hg
        have hmem:e.on∈rem ops.size listed:=mem_rem.2 ⟨hon,hge⟩
        rw[e1,hr1] at hmem
        simp only[List.nil_append,g4G] at hmem
        rcases hmem with hmem|hmem
        ·omega
        ·have hsorted:(rem ops.size listed).Pairwise (· < ·):=List.Pairwise.filter _ List.pairwise_lt_range
         rw[e1,hr1] at hsorted
         simp only[List.nil_append,List.pairwise_cons] at hsorted
         have:=hsorted.1 e.on hmem
         omega
     rw[hnil] at hready
     cases hready
   rw[hrem]
   exact⟨[],by simp,List.Perm.refl _,fun k hk=>by cases hk⟩
  |some i =>
   obtain⟨hmem,hpre⟩:=hsub i (g4K hq)
   obtain⟨r1,r2,e1,e2,e3⟩:=b2V hs hmem
   obtain⟨hlt,hun⟩:=mem_rem.1 hmem
   obtain⟨l,g1,g2,g3⟩:=ih (t / (b2W ops listed).length) (listed.setIfInBounds i true) (i::acc) (by simp [hs]) (by rw[e2];rw[e1] at hl;simp at hl ⊢;omega)
   refine⟨i::l,by simp only;rw[g1];simp,?_,fun k hk o ho e he hbe=>?_⟩
   ·rw[e1]
    rw[e2] at g2
    exact(g2.cons i).trans List.perm_middle.symm
   ·rcases g4G.1 hk with e0|hk'
    ·subst e0;exact .inl (hpre o ho e he hbe)
    ·rcases g3 k hk' o ho e he hbe with h|h
     ·by_cases hie:i=e.on
      ·exact .inr ⟨[],l,by rw[hie];rfl,hk'⟩
      ·rw[b2U hie] at h;exact .inl h
     ·exact .inr (b3B h)
theorem b3I {ops:Array Oper} {l:List Nat} (hn:l.Nodup) (hr:∀ k∈l,∀ o,ops[k]?=some o→∀ e∈o.after,Region.binds .any e=true→Ahd l e.on k):∀ (n k j:Nat),k∈l→a3M ops n k j=true→Ahd l j k:=by
 intro n
 induction n with
 |zero=>intro k j _ h;cases h
 |succ n ih =>
  intro k j hk h
  unfold a3M at h
  split at h
  ·rename_i o ho
   obtain⟨e,he,hb⟩:=g2Z.1 h
   simp only[g2R,g2U,beq_iff_eq] at hb
   have h1:=hr k hk o ho e (by simpa using he) hb.1
   rcases hb.2 with h2|h2
   ·rw[←h2];exact h1
   ·exact b3E hn (ih e.on j (b3C h1).1 h2) h1
  ·cases h
inductive IdLt (n:Nat):PV→Prop where
 |t (x:T):IdLt n (.t x)
 |agg (cs:List PV) (h:∀ (i:Nat) (x:PV),cs[i]?=some x→IdLt n x):IdLt n (.agg cs)
 |tup (cs:List PV) (h:∀ (i:Nat) (x:PV),cs[i]?=some x→IdLt n x):IdLt n (.tup cs)
 |lp (id off:Nat) (h:id < n):IdLt n (.lp id off)
 |ls (id off len sz:Nat) (h:id < n):IdLt n (.ls id off len sz)
 |ip (cs:List T) (off:Nat):IdLt n (.ip cs off)
 |gp (g off:Nat):IdLt n (.gp g off)
 |cp (es:List (List T)):IdLt n (.cp es)
 |lit (es:List (List T)):IdLt n (.lit es)
 |own (k sz:Nat) (es:List (List T)):IdLt n (.own k sz es)
 |fn (f:Nat) (cs:List PV) (h:∀ (i:Nat) (x:PV),cs[i]?=some x→IdLt n x):IdLt n (.fn f cs)
 |mp (id:Nat) (h:id < n):IdLt n (.mp id)
 |bf (id len sz:Nat) (h:id < n):IdLt n (.bf id len sz)
 |bp (id ty:Nat) (h:id < n):IdLt n (.bp id ty)
 |owb (k ty:Nat) (s:List UInt8):IdLt n (.owb k ty s)
theorem b3J {fx:List (Nat×Nat)} {G:Gh} {w:World} {v:Value} {x:PV} (h:PRep fx G w v x):IdLt G.mu.length x:=by
 have lt:∀ {i b:Nat},G.mu[i]?=some b→i < G.mu.length:=fun h=>(g3N.1 h).1
 have at':∀ {cs:Array Value} {xs:List PV},cs.size=xs.length→∀ {i:Nat} {y:PV},xs[i]?=some y→∃ u,cs[i]?=some u:=by
  intro cs xs hl i y hy
  have:=(g3N.1 hy).1
  exact⟨cs[i],g2M (by omega)⟩
 induction h with
 |t h=>exact .t _
 |agg cs xs hl _ ih=>exact .agg _ fun i y hy=>by obtain⟨u,hu⟩:=at' hl hy;exact ih i u y hu hy
 |tup cs xs hl _ ih=>exact .tup _ fun i y hy=>by obtain⟨u,hu⟩:=at' hl hy;exact ih i u y hu hy
 |lp id off b h=>exact .lp _ _ (lt h)
 |ls id off len sz cap b ad h _ _=>exact .ls _ _ _ _ (lt h)
 |ip=>exact .ip _ _
 |gp=>exact .gp _ _
 |cp=>exact .cp _
 |lit=>exact .lit _
 |own=>exact .own _ _ _
 |fn k f caps xs hf hl _ ih=>exact .fn _ _ fun i y hy=>by obtain⟨u,hu⟩:=at' hl hy;exact ih i u y hu hy
 |mp id b h=>exact .mp _ (lt h)
 |bf id len sz cap b h _ _=>exact .bf _ _ _ (lt h)
 |bpn id ty b h _=>exact .bp _ _ (lt h)
 |bpa id ty b h _=>exact .bp _ _ (lt h)
 |owb=>exact .owb _ _ _
theorem b3K {fx:List (Nat×Nat)} {G G2:Gh} {w:World} {n:Nat} (hm:∀ i,i < n→G2.mu[i]?=G.mu[i]?) (hs:∀ b,(∃ i:Nat,G2.mu[i]?=some b)→∃ i:Nat,G.mu[i]?=some b) (ht:G2.tk=G.tk) (hf:G2.fr=G.fr) (hst:G2.st=G.st) (hbs:G2.bs=G.bs) {v:Value} {x:PV} (h:PRep fx G w v x):IdLt n x→PRep fx G2 w v x:=by
 have at':∀ {cs:Array Value} {xs:List PV},cs.size=xs.length→∀ {i:Nat} {y:PV},xs[i]?=some y→∃ u,cs[i]?=some u:=by
  intro cs xs hl i y hy
  have:=(g3N.1 hy).1
  exact⟨cs[i],g2M (by omega)⟩
 induction h with
 |t h=>intro _;exact .t (hst ▸ h)
 |agg cs xs hl _ ih=>intro hi;cases hi with|agg _ hi=>exact .agg _ _ hl fun i u y hu hy=>ih i u y hu hy (hi i y hy)
 |tup cs xs hl _ ih=>intro hi;cases hi with|tup _ hi=>exact .tup _ _ hl fun i u y hu hy=>ih i u y hu hy (hi i y hy)
 |lp id off b h=>intro hi;cases hi with|lp _ _ hi=>exact .lp _ _ _ (by rw[hm id hi];exact h)
 |ls id off len sz cap b ad h hc ha=>intro hi;cases hi with|ls _ _ _ _ hi=>exact .ls _ _ _ _ _ _ _ (by rw[hm id hi];exact h) hc ha
 |ip cs off b o vs h=>intro _;exact .ip _ _ _ _ _ fun j x hj=>by have:=h j x hj;exact⟨this.1,hst ▸ this.2.1,hst ▸ this.2.2⟩
 |gp g off=>intro _;exact .gp _ _
 |cp ad es h=>intro _;exact .cp _ _ (hst ▸ h)
 |lit b es h hb hmu htk hh=>intro _;exact .lit _ _ (hst ▸ h) (hbs ▸ hb) (fun i hi=>by obtain⟨j,hj⟩:=hs b ⟨i,hi⟩;exact hmu j hj) (ht ▸ htk) hh
 |own k sz n ad cap es h hk hn hl=>intro _;exact .own _ _ _ _ _ _ (hst ▸ h) (hf ▸ hk) hn (ht ▸ hl)
 |fn k f caps xs hf' hl _ ih=>intro hi;cases hi with|fn _ _ hi=>exact .fn _ _ _ _ hf' hl fun i u y hu hy=>ih i u y hu hy (hi i y hy)
 |mp id b h=>intro hi;cases hi with|mp _ hi=>exact .mp _ _ (by rw[hm id hi];exact h)
 |bf id len sz cap b h hc hh=>intro hi;cases hi with|bf _ _ _ hi=>exact .bf _ _ _ _ _ (by rw[hm id hi];exact h) hc hh
 |bpn id ty b h hc=>intro hi;cases hi with|bp _ _ hi=>exact .bpn _ _ b (by rw[hm id hi];exact h) hc
 |bpa id ty b h hc=>intro hi;cases hi with|bp _ _ hi=>exact .bpa _ _ b (by rw[hm id hi];exact h) hc
 |owb k ty n ad cap s h hk hn hl=>intro _;exact .owb _ _ _ _ _ _ (hst ▸ h) (hf ▸ hk) hn (ht ▸ hl)
theorem b3L {n:Nat} {v:PV} (h:IdLt n v):∀ x,x∈cellsP v→IdLt n x:=by
 intro x hx
 cases h with
 |t y =>
  cases y with
  |agg cs =>
   simp only[cellsP,List.mem_map] at hx
   obtain⟨z,_,rfl⟩:=hx
   exact .t z
  |_=>simp only[cellsP,g4M] at hx;subst hx;exact .t _
 |agg cs h =>
  simp only[cellsP] at hx
  obtain⟨i,hi⟩:=g3P hx
  exact h i x hi
 |tup cs h=>simp only[cellsP,g4M] at hx;subst hx;exact .tup _ h
 |lp id off h=>simp only[cellsP,g4M] at hx;subst hx;exact .lp _ _ h
 |ls id off len sz h=>simp only[cellsP,g4M] at hx;subst hx;exact .ls _ _ _ _ h
 |ip cs off=>simp only[cellsP,g4M] at hx;subst hx;exact .ip _ _
 |gp g off=>simp only[cellsP,g4M] at hx;subst hx;exact .gp _ _
 |cp es=>simp only[cellsP,g4M] at hx;subst hx;exact .cp _
 |lit es=>simp only[cellsP,g4M] at hx;subst hx;exact .lit _
 |own k sz es=>simp only[cellsP,g4M] at hx;subst hx;exact .own _ _ _
 |fn f cs h=>simp only[cellsP,g4M] at hx;subst hx;exact .fn _ _ h
 |mp id h=>simp only[cellsP,g4M] at hx;subst hx;exact .mp _ h
 |bf id len sz h=>simp only[cellsP,g4M] at hx;subst hx;exact .bf _ _ _ h
 |bp id ty h=>simp only[cellsP,g4M] at hx;subst hx;exact .bp _ _ h
 |owb k ty s=>simp only[cellsP,g4M] at hx;subst hx;exact .owb _ _ _
theorem b3M {p:PV→Prop}:∀ (vs cs:List PV) (off:Nat),(∀ x,x∈cs→p x)→(∀ x,x∈vs→p x)→∀ x,x∈setRange cs off vs→p x
 |[],cs,off,h,_=>h
 |v::r,cs,off,h,h'=>by
  rw[setRange]
  refine b3M r _ _ (fun x hx=>?_) fun x hx=>h' x (g4H _ hx)
  rcases List.mem_or_eq_of_mem_set hx with e|e
  ·exact h x e
  ·subst e;exact h' _ List.mem_cons_self
theorem b3N {nt N:Nat} {fr:List PV} (hf:∀ k,k < nt→IdLt N (a0A fr k)) {x:Opd} (h:a3U nt x=true):IdLt N (x.ev fr):=by
 cases x with
 |s k=>exact hf k (by simpa [a3U] using h)
 |c v =>
  cases v with
  |t x=>exact .t x
  |_=>simp [a3U] at h
theorem b3O {nt N:Nat} {fr:List PV} (hf:∀ k,k < nt→IdLt N (a0A fr k)) {d:Option Nat} {v:PV} (hv:IdLt N v):∀ k,k < nt→IdLt N (a0A (put fr d v) k):=by
 intro k hk
 cases d with
 |none=>exact hf k hk
 |some d =>
  simp only[put,a1V]
  split
  ·exact hv
  ·exact hf k hk
theorem b3P {N sz:Nat} {v i r:PV} (hv:IdLt N v) (h:indexS sz v i=some r):IdLt N r:=by
 unfold indexS at h
 split at h
 ·split at h
  ·split at h
   ·split at h
    ·injection h with h
     subst h
     cases hv with|ls _ _ _ _ hv=>exact .lp _ _ hv
    ·cases h
   ·split at h
    ·injection h with h
     subst h
     cases hv with|bf _ _ _ hv=>exact .lp _ _ hv
    ·cases h
   ·split at h
    ·split at h
     ·split at h
      ·injection h with h
       subst h
       exact .ip _ _
      ·cases h
     ·cases h
    ·cases h
  ·cases h
 ·cases h
theorem b3Q {N:Nat} {ag:Bool} {n off:Nat} {cs:List T} {r:PV} (h:partT ag n cs off=some r):IdLt N r:=by
 unfold partT at h
 split at h
 ·split at h
  ·injection h with h
   subst h
   exact .t _
  ·cases h
 ·obtain⟨x,_,rfl⟩:=g5E.1 h
  exact .t x
theorem b3R {N:Nat} {ag:Bool} {n:Nat} {v r:PV} (h:loadP gl [] ag n v=some r):IdLt N r:=by
 unfold loadP at h
 split at h
 ·split at h
  ·rename_i hh;simp at hh
  ·cases h
 ·exact b3Q h
 ·split at h
  ·exact b3Q h
  ·cases h
 ·cases h
theorem b3S {nt N:Nat} {i:Ins} (hi:a3V nt i=true) {s s':S} (hf:∀ k,k < nt→IdLt N (a0A s.fr k)) (h:a1M C gl true i s=some s'):s'.sg=s.sg∧s'.ow=s.ow∧(∀ k,k < nt→IdLt N (a0A s'.fr k))∧∃ v,s'.fr=put s.fr i.d v:=by
 obtain⟨d,g,o⟩:=i
 unfold a3V at hi
 simp only at hi
 split at hi
 ·simp only[a1M,wanted,if_true,a1L,g5F,g5G] at h
  subst h
  exact⟨rfl,rfl,b3O hf (b3N hf hi),_,rfl⟩
 ·rw[g2R] at hi
  simp only[a1M,wanted,if_true,a1L] at h
  split at h
  ·rename_i v sg ow hh
   obtain⟨r,hr,he⟩:=g5E.1 hh
   simp only[Prod.mk.injEq] at he
   obtain⟨rfl,rfl,rfl⟩:=he
   injection h with h
   subst h
   exact⟨rfl,rfl,b3O hf (b3P (b3N hf hi.1) hr),_,rfl⟩
  ·cases h
 ·simp only[a1M,wanted,if_true,a1L] at h
  split at h
  ·rename_i v sg ow hh
   obtain⟨r,hr,he⟩:=g5E.1 hh
   simp only[Prod.mk.injEq] at he
   obtain⟨rfl,rfl,rfl⟩:=he
   injection h with h
   subst h
   exact⟨rfl,rfl,b3O hf (b3R hr),_,rfl⟩
  ·cases h
 ·cases hi
theorem b3T {nt N:Nat} (is:List Ins):∀ (l:List Nat) (s s':S),(∀ j,j∈l→∀ q,is[j]?=some q→a3V nt q=true)→(∀ k,k < nt→IdLt N (a0A s.fr k))→b2P C gl true is l s=some s'→s'.sg=s.sg∧s'.ow=s.ow∧∀ k,k < nt→IdLt N (a0A s'.fr k):=by
 intro l
 induction l with
 |nil =>
  intro s s' _ hf h
  simp only[b2P,g5G] at h
  subst h
  exact⟨rfl,rfl,hf⟩
 |cons i r ih =>
  intro s s' hq hf h
  simp only[b2P] at h
  split at h
  ·rename_i q hiq
   split at h
   ·rename_i s1 h1
    obtain⟨e1,e2,e3,_⟩:=b3S (hq i (by simp) q hiq) hf h1
    obtain⟨f1,f2,f3⟩:=ih s1 s' (fun j hj=>hq j (by simp [hj])) e3 h
    exact⟨f1.trans e1,f2.trans e2,f3⟩
   ·cases h
  ·cases h
theorem b3U {sg:Sg} {x y:Bool×List PV}:(sg++[x,y])[sg.length]?=some x:=by simp
theorem b3V {sg:Sg} {x y:Bool×List PV}:(sg++[x,y])[sg.length+1]?=some y:=by simp
theorem b3W {sg:Sg} {x y z:Bool×List PV}:(sg++[x,y]).set sg.length z=sg++[z,y]:=by simp
theorem b3X {sg:Sg} {x y z:Bool×List PV}:(sg++[x,y]).set (sg.length+1) z=sg++[x,z]:=by
 rw[List.set_append_right _ _ (by omega)]
 have:sg.length+1 - sg.length=1:=by omega
 rw[this];rfl
theorem b3Y (fr:List PV) (sg sg':Sg):a1H fr [] sg sg'=true:=by
 unfold a1H a1G
 exact @decide_eq_true _ (Classical.propDecidable _) fun k hk=>by cases hk
def b3Z (n:Nat) (v:PV) (cs:List PV):Option (List PV):=if (cellsP v).length=n∧0+n≤cs.length∧(cellsP v).all one=true then some (setRange cs 0 (cellsP v)) else none
theorem sto0 {sg:Sg} {n:Nat} {v:PV} {x:List PV} {y:Bool×List PV}:storeP (sg++[(false,x),y]) n v (.lp sg.length 0)=(b3Z n v x).map fun c=>sg++[(false,c),y]:=by
 simp only[storeP,b3U,b3Z]
 split
 ·rw[b3W];rfl
 ·rfl
theorem sto1 {sg:Sg} {n:Nat} {v:PV} {x:Bool×List PV} {y:List PV}:storeP (sg++[x,(false,y)]) n v (.lp (sg.length+1) 0)=(b3Z n v y).map fun c=>sg++[x,(false,c)]:=by
 simp only[storeP,b3V,b3Z]
 split
 ·rw[b3X];rfl
 ·rfl
theorem b4A {n N:Nat} {v:PV} {zs:List T} {c:List PV} (hv:IdLt N v) (h:b3Z n v (zs.map .t)=some c):∀ x,x∈c→IdLt N x:=by
 unfold b3Z at h
 split at h
 ·injection h with h
  subst h
  refine b3M _ _ _ (fun x hx=>?_) (b3L hv)
  obtain⟨z,_,rfl⟩:=List.mem_map.1 hx
  exact .t z
 ·cases h
theorem b4B {is:List Ins} {p dx dy a b n m:Nat} {zx zy:List T} (h0:is[p]?=some ⟨some dx,none,.alloc zx⟩) (h1:is[p+1]?=some ⟨some dy,none,.alloc zy⟩) (h2:is[p+2]?=some ⟨none,none,.stok n (.s dx) (.s a) []⟩) (h3:is[p+3]?=some ⟨none,none,.stok m (.s dy) (.s b) []⟩)
  (d1:dx≠dy) (d2:a≠dx) (d3:a≠dy) (d4:b≠dx) (d5:b≠dy) {s s1:S} (h:b2P C gl true is [p,p+1,p+2,p+3] s=some s1) :
  ∃ cx cy,b3Z n (a0A s.fr a) (zx.map .t)=some cx∧b3Z m (a0A s.fr b) (zy.map .t)=some cy∧s1=⟨a0B (a0B s.fr dx (.lp s.sg.length 0)) dy (.lp (s.sg.length+1) 0),s.sg++[(false,cx),(false,cy)],s.ow⟩ ∧
   b2P C gl true is [p+1,p,p+2,p+3] s=some ⟨a0B (a0B s.fr dy (.lp s.sg.length 0)) dx (.lp (s.sg.length+1) 0),s.sg++[(false,cy),(false,cx)],s.ow⟩:=by
 have g1:a0A (a0B (a0B s.fr dx (.lp s.sg.length 0)) dy (.lp (s.sg.length+1) 0)) dx=.lp s.sg.length 0:=by rw[a1X _ _ _ _ d1,a1W]
 have g2:a0A (a0B (a0B s.fr dx (.lp s.sg.length 0)) dy (.lp (s.sg.length+1) 0)) dy=.lp (s.sg.length+1) 0:=by rw[a1W]
 have g3:a0A (a0B (a0B s.fr dx (.lp s.sg.length 0)) dy (.lp (s.sg.length+1) 0)) a=a0A s.fr a:=by rw[a1X _ _ _ _ d3,a1X _ _ _ _ d2]
 have g4:a0A (a0B (a0B s.fr dx (.lp s.sg.length 0)) dy (.lp (s.sg.length+1) 0)) b=a0A s.fr b:=by rw[a1X _ _ _ _ d5,a1X _ _ _ _ d4]
 have k1:a0A (a0B (a0B s.fr dy (.lp s.sg.length 0)) dx (.lp (s.sg.length+1) 0)) dx=.lp (s.sg.length+1) 0:=by rw[a1W]
 have k2:a0A (a0B (a0B s.fr dy (.lp s.sg.length 0)) dx (.lp (s.sg.length+1) 0)) dy=.lp s.sg.length 0:=by rw[a1X _ _ _ _ (fun e=>d1 e.symm),a1W]
 have k3:a0A (a0B (a0B s.fr dy (.lp s.sg.length 0)) dx (.lp (s.sg.length+1) 0)) a=a0A s.fr a:=by rw[a1X _ _ _ _ d2,a1X _ _ _ _ d3]
 have k4:a0A (a0B (a0B s.fr dy (.lp s.sg.length 0)) dx (.lp (s.sg.length+1) 0)) b=a0A s.fr b:=by rw[a1X _ _ _ _ d4,a1X _ _ _ _ d5]
 have lenE:∀ x:Bool×List PV,(s.sg++[x]).length=s.sg.length+1:=fun x=>by simp
 have appE:∀ x y:Bool×List PV,(s.sg++[x])++[y]=s.sg++[x,y]:=fun x y=>by simp
 simp only[b2P,h0,h1,h2,h3,a1M,wanted,if_true,a1L,put,Opd.ev,lenE,appE,g1,g2,g3,g4,sto0] at h
 cases hx:b3Z n (a0A s.fr a) (zx.map .t) with
 |none=>rw[hx] at h;simp at h
 |some cx =>
  rw[hx] at h
  simp only[g5F,b3Y,if_true,g1,g2,g3,g4,sto1] at h
  cases hy:b3Z m (a0A s.fr b) (zy.map .t) with
  |none=>rw[hy] at h;simp at h
  |some cy =>
   rw[hy] at h
   simp only[g5F,b3Y,if_true,g5G] at h
   refine⟨cx,cy,rfl,rfl,h.symm,?_⟩
   simp only[b2P,h0,h1,h2,h3,a1M,wanted,if_true,a1L,put,Opd.ev,lenE,appE,k1,k2,k3,k4,sto1,hx,g5F,b3Y,sto0,hy]
def tau (n i:Nat):Nat:=if i=n then n+1 else if i=n+1 then n else i
theorem b4C (n i:Nat):tau n (tau n i)=i:=by
 unfold tau
 repeat' split
 all_goals omega
theorem b4D {n i:Nat} (h:i < n):tau n i=i:=by
 unfold tau
 rw[if_neg (by omega),if_neg (by omega)]
theorem b4E {α:Type} (l:List α) (x y:α) (i:Nat):(l++[y,x])[i]?=(l++[x,y])[tau l.length i]?:=by
 unfold tau
 split
 ·rename_i h;subst h;simp
 ·split
  ·rename_i h;subst h;simp
  ·rename_i h1 h2
   rcases g4X i l.length with h|h
   ·rw[g3I h,g3I h]
   ·rw[g3J h,g3J h]
    have:2≤i - l.length:=by omega
    rw[g3M (by simpa using this),g3M (by simpa using this)]
theorem b4F {fx:List (Nat×Nat)} {nt:Nat} {G G':Gh} {w w':World} {a':Act} {sg:Sg} {ow ow':Ow} {fr:List PV} {dx dy:Nat} {cx cy:List PV} (hs:Inv fx gl G w sg ow) (hE:Ext G w G' w') (hI:Inv fx gl G' w' (sg++[(false,cy),(false,cx)]) ow')
  (hF:FRep fx G' w' nt a' (a0B (a0B fr dy (.lp sg.length 0)) dx (.lp (sg.length+1) 0))) (hd:dx≠dy) (hf:∀ k,k < nt→IdLt sg.length (a0A fr k)) (hx:∀ x,x∈cx→IdLt sg.length x) (hy:∀ x,x∈cy→IdLt sg.length x) :
  ∃ G2,Ext G w G2 w'∧Inv fx gl G2 w' (sg++[(false,cx),(false,cy)]) ow'∧FRep fx G2 w' nt a' (a0B (a0B fr dx (.lp sg.length 0)) dy (.lp (sg.length+1) 0)):=by
 obtain⟨r,hr,hn⟩:=hE.mu
 have l0:=hs.mul
 have l1:=hI.mul
 have lr:r.length=2:=by
  rw[hr,g3V,g3V] at l1
  simp only[g3W,g3Y] at l1
  omega
 match r,lr with
 |[b0,b1],_ =>
 have hm:∀ i:Nat,(G.mu++[b1,b0])[i]?=G'.mu[tau sg.length i]?:=fun i=>by rw[hr,b4E G.mu b0 b1 i,l0]
 have hg:∀ i:Nat,(sg++[(false,cx),(false,cy)])[i]?=(sg++[(false,cy),(false,cx)])[tau sg.length i]?:=fun i=>b4E sg (false,cy) (false,cx) i
 have hlow:∀ i,i < sg.length→(G.mu++[b1,b0])[i]?=G'.mu[i]?:=fun i hi=>by rw[hm i,b4D hi]
 have hset:∀ b,(∃ i:Nat,(G.mu++[b1,b0])[i]?=some b)→∃ i:Nat,G'.mu[i]?=some b:=fun b ⟨i,hi⟩=>⟨_,(hm i) ▸ hi⟩
 have ren:∀ {v:Value} {x:PV},PRep fx G' w' v x→IdLt sg.length x→PRep fx { G' with mu:=G.mu++[b1,b0] } w' v x:=fun h hi=>b3K (G2:={ G' with mu:=G.mu++[b1,b0] }) hlow hset rfl rfl rfl rfl h hi
 have old:∀ (i:Nat) (cs:List PV),(sg++[(false,cx),(false,cy)])[i]?=some (false,cs)→∀ x,x∈cs→IdLt sg.length x:=by
  intro i cs hi x hxm
  rcases g4X i sg.length with h|h
  ·rw[g3I h] at hi
   have hb:G.mu[i]?=some (G.mu[i]'(by omega)):=g3L (by omega)
   obtain⟨c,t,z,_,h2,h3,_⟩:=hs.blk i _ cs hb hi
   obtain⟨j,hj⟩:=g3P hxm
   have hjl:=(g3N.1 hj).1
   have:=b3J (h3 j c[j] x (g2M (by omega)) hj)
   rw[l0] at this
   exact this
  ·rw[g3J h] at hi
   have h2:i - sg.length=0∨i - sg.length=1:=by
    have:=(g3N.1 hi).1
    simp only[g3W,g3Y] at this
    omega
   rcases h2 with h2|h2
   ·rw[h2] at hi;simp at hi;subst hi;exact hx x hxm
   ·rw[h2] at hi;simp at hi;subst hi;exact hy x hxm
 refine⟨{ G' with mu:=G.mu++[b1,b0] },?_,?_,?_⟩
 ·exact⟨⟨[b1,b0],rfl,fun b hb=>hn b (by simp at hb ⊢;exact hb.symm)⟩,hE.frl,hE.tkb,hE.st,hE.stn,hE.cell,hE.keep,hE.bs,hE.size,hE.os,hE.tape,hE.output,hE.csz⟩
 ·refine⟨hI.fr,by simp [l0],fun i j b hi hj=>?_,fun i b cs hi hc=>?_,fun i b cs hi hc=>?_,hI.tkl,hI.tok,fun k b x i hk hi=>?_,hI.tkinj,hI.stlt,hI.glob,hI.bsz⟩
  ·change (G.mu++[b1,b0])[i]?=some b at hi
   change (G.mu++[b1,b0])[j]?=some b at hj
   rw[hm] at hi hj
   rcases hI.muinj _ _ b hi hj with h|h|h
   ·left
    have:=congrArg (tau sg.length) h
    rwa [b4C,b4C] at this
   ·right;left;rw[hg];exact h
   ·right;right;rw[hg];exact h
  ·change (G.mu++[b1,b0])[i]?=some b at hi
   have hco:=old i cs hc
   rw[hm] at hi
   rw[hg] at hc
   obtain⟨c,t,z,e1,e2,e3,e4,e5⟩:=hI.blk _ b cs hi hc
   exact⟨c,t,z,e1,e2,fun j v x hv hxj=>ren (e3 j v x hv hxj) (hco x (g4K hxj)),e4,e5⟩
  ·change (G.mu++[b1,b0])[i]?=some b at hi
   rw[hm] at hi
   rw[hg] at hc
   exact hI.mps _ b cs hi hc
  ·change (G.mu++[b1,b0])[i]?=some b at hi
   rw[hm] at hi
   exact hI.tkmu k b x _ hk hi
 ·obtain⟨f1,f2,f3⟩:=hF
  refine⟨f1,f2,fun k hk=>?_⟩
  have h3:=f3 k hk
  rw[a1V,a1V] at h3 ⊢
  have inv:∀ {v:Value} {i:Nat},PRep fx G' w' v (.lp i 0)→PRep fx { G' with mu:=G.mu++[b1,b0] } w' v (.lp (tau sg.length i) 0):=by
   intro v i h
   cases h with
   |lp _ _ b hb=>exact .lp _ _ b (by show(G.mu++[b1,b0])[tau sg.length i]?=_;rw[hm,b4C];exact hb)
  by_cases e1:k=dx
  ·subst e1
   rw[if_pos rfl] at h3
   rw[if_neg hd,if_pos rfl]
   have:=inv h3
   have e:tau sg.length (sg.length+1)=sg.length:=by
    unfold tau
    rw[if_neg (by omega),if_pos rfl]
   rw[e] at this
   exact this
  ·rw[if_neg e1] at h3
   by_cases e2:k=dy
   ·subst e2
    rw[if_pos rfl] at h3 ⊢
    have:=inv h3
    have e:tau sg.length sg.length=sg.length+1:=by
     unfold tau
     rw[if_pos rfl]
    rw[e] at this
    exact this
   ·rw[if_neg e2] at h3 ⊢
    rw[if_neg e1]
    exact ren h3 (hf k hk)
end Go.Pi
