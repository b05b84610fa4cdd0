/- PI 26: rules to reason about the interpreter. -/
import Derived.Test.YtdjcnfacjfnakaaGreatPi25
set_option linter.unusedSimpArgs false
set_option linter.unusedVariables false
namespace Go.Pi
variable {F:Nat->Option Fn} {gl:Nat->Option (List T)} {C C':Cal} {dr:Bool}
def CLe (C C':Cal):Prop:=∀ f a sg ow r,C f a sg ow=some r->C' f a sg ow=some r
theorem b3K (hC:CLe C C') {o:O} {s:S} {r:PV×Sg×Ow} (h:a1F C gl dr o s=some r):a1F C' gl dr o s=some r:=by
 cases o with
 |call f as =>
  simp only[a1F] at h ⊢
  split at h
  ·rename_i ts hts
   split at h
   ·rename_i r' sg' ow' hr
    rw[hC _ _ _ _ _ hr]
    exact h
   ·cases h
  ·cases h
 |cale f as=>exact hC _ _ _ _ _ h
 |calv g as =>
  simp only[a1F] at h ⊢
  split at h
  ·exact hC _ _ _ _ _ h
  ·cases h
 |calk f as ks =>
  simp only[a1F] at h ⊢
  split at h
  ·rename_i hc
   rw[hC _ _ _ _ _ hc]
   exact h
  ·cases h
 |calz f as ks =>
  simp only[a1F] at h ⊢
  split at h
  case h_2=>cases h
  rename_i ys sgz hf
  split at h
  case h_2=>cases h
  rename_i ts hts
  split at h
  case h_2=>cases h
  rename_i r' sg' ow' hr
  rw[hC _ _ _ _ _ hr]
  exact h
 |_=>exact h
theorem b3L (hC:CLe C C') {i:Ins} {s s':S} (h:a1G C gl dr i s=some s'):a1G C' gl dr i s=some s':=by
 unfold a1G at h ⊢
 split at h
 ·rename_i hw
  rw[if_pos hw]
  split at h
  ·rename_i v sg ow hs
   rw[b3K hC hs]
   exact h
  ·cases h
 ·rename_i hw
  rw[if_neg hw]
  exact h
theorem b3M (hC:CLe C C'):∀ {is:List Ins} {s s':S},a1H C gl dr is s=some s'->a1H C' gl dr is s=some s':=by
 intro is
 induction is with
 |nil=>intro s s' h;exact h
 |cons i r ih =>
  intro s s' h
  simp only[a1H] at h ⊢
  split at h
  ·rename_i s1 h1
   rw[b3L hC h1]
   exact ih h
  ·cases h
theorem b3N {b b':S->Option (Ex×S)} (hb:∀ s r,b s=some r->b' s=some r):∀ {n n':Nat} {s:S} {r:Ex×S},n<=n'->a1I b n s=some r->a1I b' n' s=some r:=by
 intro n
 induction n with
 |zero=>intro n' s r _ h;cases h
 |succ n ih =>
  intro n' s r hn h
  obtain⟨n',rfl⟩:∃ m,n'=m+1:=⟨n' - 1,by omega⟩
  simp only[a1I] at h ⊢
  split at h
  ·rename_i s1 h1
   rw[hb _ _ h1]
   exact ih (by omega) h
  ·rename_i x hno
   rw[hb _ _ h]
   split
   ·rename_i s1 h1
    injection h1 with h1
    rw[h1] at h
    exact absurd h (hno s1)
   ·rfl
theorem b3O (hC:CLe C C') {n n':Nat} (hn:n<=n'):∀ {c:Co} {s:S} {r:Ex×S},a1J C gl n c s=some r->a1J C' gl n' c s=some r:=by
 intro c
 induction c with
 |reg dr is =>
  intro s r h
  simp only[a1J,g7E] at h ⊢
  obtain⟨s1,h1,h2⟩:=h
  exact⟨s1,b3M hC h1,h2⟩
 |seq a b iha ihb =>
  intro s r h
  simp only[a1J] at h ⊢
  split at h
  ·rename_i s1 h1
   rw[iha h1]
   exact ihb h
  ·rename_i x hno
   rw[iha h]
   split
   ·rename_i s1 h1
    injection h1 with h1
    rw[h1] at h
    exact absurd h (hno s1)
   ·rfl
 |cond c a b iha ihb =>
  intro s r h
  simp only[a1J] at h ⊢
  split at h
  ·exact iha h
  ·exact ihb h
  ·cases h
 |block id b ih =>
  intro s r h
  simp only[a1J] at h ⊢
  split at h
  ·rename_i id' s1 h1
   rw[ih h1]
   exact h
  ·rename_i x hno
   rw[ih h]
   split
   ·rename_i id' s1 h1
    injection h1 with h1
    rw[h1] at h
    exact absurd h (hno id' s1)
   ·rfl
 |loop b ih =>
  intro s r h
  exact b3N (λs r h=>ih h) hn h
 |skip=>intro s r h;exact h
 |exit id=>intro s r h;exact h
 |ret=>intro s r h;exact h
 |bad=>intro s r h;cases h
theorem b3P:∀ n,CLe (a1M F gl n) (a1M F gl (n+1)):=by
 intro n
 induction n with
 |zero=>intro f a sg ow r h;cases h
 |succ n ih =>
  intro f a sg ow r h
  rw[a1M] at h ⊢
  split at h
  ·cases h
  ·rename_i fn hf
   split at h
   ·rename_i hl
    rw[if_pos hl]
    split at h
    ·rename_i s h1
     rw[b3O ih (Nat.le_succ n) h1]
     exact h
    ·rename_i s h1
     rw[b3O ih (Nat.le_succ n) h1]
     exact h
    ·cases h
   ·cases h
theorem b3Q {n n':Nat} (h:n<=n'):CLe (a1M F gl n) (a1M F gl n'):=by
 induction h with
 |refl=>exact λ_ _ _ _ _ h=>h
 |step _ ih=>exact λ_ _ _ _ _ h=>b3P _ _ _ _ _ _ (ih _ _ _ _ _ h)
def Wp (F:Nat->Option Fn) (gl:Nat->Option (List T)) (c:Co) (s:S) (Q:Ex->S->Prop):Prop:=∃ n ex s',a1J (a1M F gl n) gl n c s=some (ex,s')/\Q ex s'
def WpI (F:Nat->Option Fn) (gl:Nat->Option (List T)) (dr:Bool) (is:List Ins) (s:S) (Q:S->Prop):Prop:=∃ n s',a1H (a1M F gl n) gl dr is s=some s'/\Q s'
def WpL (F:Nat->Option Fn) (gl:Nat->Option (List T)) (b:Co) (s:S) (Q:Ex->S->Prop):Prop:=∃ n m ex s',a1I (a1J (a1M F gl n) gl n b) m s=some (ex,s')/\Q ex s'
def onN (k:S->Prop) (Q:Ex->S->Prop):Ex->S->Prop
 |.normal,s=>k s
 |.exit id,s=>Q (.exit id) s
 |.ret,s=>Q .ret s
def onB (id:Nat) (Q:Ex->S->Prop):Ex->S->Prop
 |.normal,s=>Q .normal s
 |.exit id',s=>if id'=id then Q .normal s else Q (.exit id') s
 |.ret,s=>Q .ret s
def onC (v:PV) (a b:Prop):Prop:=match v with
 |.t (.bool q)=>if q=true then a else b
 |_=>False
def onO {α:Type} (v:Option α) (k:α->Prop):Prop:=match v with
 |some x=>k x
 |none=>False
theorem b3R {id id':Nat} {Q:Ex->S->Prop} {s:S}:onB id Q (.exit id') s↔if id'=id then Q .normal s else Q (.exit id') s:=g4Y
theorem b3S {α:Type} {x:α} {k:α->Prop}:onO (some x) k↔k x:=g4Y
theorem Wp.mono {c:Co} {s:S} {Q Q':Ex->S->Prop} (h:Wp F gl c s Q) (hq:∀ ex s',Q ex s'->Q' ex s'):Wp F gl c s Q':=by
 obtain⟨n,ex,s',h1,h2⟩:=h
 exact⟨n,ex,s',h1,hq _ _ h2⟩
theorem b3T {s:S} {Q:Ex->S->Prop}:Wp F gl .skip s Q↔Q .normal s:=by
 refine⟨λ⟨n,ex,s',h,hq⟩=>?_,λh=>⟨0,_,_,rfl,h⟩⟩
 simp only[a1J,g7G,Prod.mk.injEq] at h
 obtain⟨rfl,rfl⟩:=h
 exact hq
theorem b3U {id:Nat} {s:S} {Q:Ex->S->Prop}:Wp F gl (.exit id) s Q↔Q (.exit id) s:=by
 refine⟨λ⟨n,ex,s',h,hq⟩=>?_,λh=>⟨0,_,_,rfl,h⟩⟩
 simp only[a1J,g7G,Prod.mk.injEq] at h
 obtain⟨rfl,rfl⟩:=h
 exact hq
theorem b3V {s:S} {Q:Ex->S->Prop}:Wp F gl .ret s Q↔Q .ret s:=by
 refine⟨λ⟨n,ex,s',h,hq⟩=>?_,λh=>⟨0,_,_,rfl,h⟩⟩
 simp only[a1J,g7G,Prod.mk.injEq] at h
 obtain⟨rfl,rfl⟩:=h
 exact hq
theorem b3W {is:List Ins} {s:S} {Q:Ex->S->Prop}:Wp F gl (.reg dr is) s Q↔WpI F gl dr is s (Q .normal):=by
 refine⟨λ⟨n,ex,s',h,hq⟩=>?_,λ⟨n,s',h,hq⟩=>⟨n,.normal,s',by simp [a1J,h],hq⟩⟩
 simp only[a1J,g7E,Prod.mk.injEq] at h
 obtain⟨s1,h1,rfl,rfl⟩:=h
 exact⟨n,s1,h1,hq⟩
theorem b3X {a b:Co} {s:S} {Q:Ex->S->Prop}:Wp F gl (.seq a b) s Q↔Wp F gl a s (onN (λs'=>Wp F gl b s' Q) Q):=by
 constructor
 ·intro ⟨n,ex,s',h,hq⟩
  simp only[a1J] at h
  split at h
  ·rename_i s1 h1
   exact⟨n,.normal,s1,h1,n,ex,s',h,hq⟩
  ·rename_i x hno
   refine⟨n,ex,s',h,?_⟩
   cases ex with
   |normal=>exact absurd h (hno s')
   |exit id=>exact hq
   |ret=>exact hq
 ·intro ⟨n,ex,s',h,hq⟩
  cases ex with
  |normal =>
   obtain⟨n2,ex2,s2,h2,hq2⟩:=hq
   refine⟨max n n2,ex2,s2,?_,hq2⟩
   simp only[a1J,b3O (b3Q (g6S n n2)) (g6S n n2) h]
   exact b3O (b3Q (g6T n n2)) (g6T n n2) h2
  |exit id=>exact⟨n,_,s',by simp only[a1J,h],hq⟩
  |ret=>exact⟨n,_,s',by simp only[a1J,h],hq⟩
theorem b3Y {id:Nat} {b:Co} {s:S} {Q:Ex->S->Prop}:Wp F gl (.block id b) s Q↔Wp F gl b s (onB id Q):=by
 constructor
 ·intro ⟨n,ex,s',h,hq⟩
  simp only[a1J] at h
  split at h
  ·rename_i id' s1 h1
   refine⟨n,_,s1,h1,?_⟩
   rw[b3R]
   split at h
   ·rename_i he
    rw[if_pos he]
    injection h with h
    injection h with e1 e2
    subst e1 e2
    exact hq
   ·rename_i he
    rw[if_neg he]
    injection h with h
    injection h with e1 e2
    subst e1 e2
    exact hq
  ·rename_i x hno
   refine⟨n,ex,s',h,?_⟩
   cases ex with
   |normal=>exact hq
   |exit id=>exact absurd h (hno id s')
   |ret=>exact hq
 ·intro ⟨n,ex,s',h,hq⟩
  cases ex with
  |normal=>exact⟨n,_,s',by simp only[a1J,h],hq⟩
  |ret=>exact⟨n,_,s',by simp only[a1J,h],hq⟩
  |exit id' =>
   rw[b3R] at hq
   split at hq
   ·rename_i he
    exact⟨n,_,s',by simp only[a1J,h,if_pos he],hq⟩
   ·rename_i he
    exact⟨n,_,s',by simp only[a1J,h,if_neg he],hq⟩
theorem b3Z {c:Opd} {a b:Co} {s:S} {Q:Ex->S->Prop}:Wp F gl (.cond c a b) s Q↔onC (c.ev s.fr) (Wp F gl a s Q) (Wp F gl b s Q):=by
 constructor
 ·intro ⟨n,ex,s',h,hq⟩
  simp only[a1J] at h
  split at h
  ·rename_i hc
   rw[hc]
   exact⟨n,ex,s',h,hq⟩
  ·rename_i hc
   rw[hc]
   exact⟨n,ex,s',h,hq⟩
  ·cases h
 ·intro h
  unfold onC at h
  split at h
  ·rename_i q hc
   cases q with
   |true =>
    obtain⟨n,ex,s',h,hq⟩:=h
    exact⟨n,ex,s',by simp only[a1J,hc,h],hq⟩
   |false =>
    obtain⟨n,ex,s',h,hq⟩:=h
    exact⟨n,ex,s',by simp only[a1J,hc,h],hq⟩
  ·cases h
theorem Wp.loop {b:Co} {s:S} {Q:Ex->S->Prop} (h:WpL F gl b s Q):Wp F gl (.loop b) s Q:=by
 obtain⟨n,m,ex,s',h,hq⟩:=h
 refine⟨max n m,ex,s',?_,hq⟩
 exact b3N (λs r h=>b3O (b3Q (g6S n m)) (g6S n m) h) (g6T n m) h
theorem WpL.step {b:Co} {s:S} {Q:Ex->S->Prop} (h:Wp F gl b s (onN (λs'=>WpL F gl b s' Q) Q)):WpL F gl b s Q:=by
 obtain⟨n,ex,s',h,hq⟩:=h
 cases ex with
 |normal =>
  obtain⟨n2,m,ex2,s2,h2,hq2⟩:=hq
  refine⟨max n n2,m+1,ex2,s2,?_,hq2⟩
  simp only[a1I,b3O (b3Q (g6S n n2)) (g6S n n2) h]
  exact b3N (λs r h=>b3O (b3Q (g6T n n2)) (g6T n n2) h) (g6U _) h2
 |exit id=>exact⟨n,1,_,s',by simp only[a1I,h],hq⟩
 |ret=>exact⟨n,1,_,s',by simp only[a1I,h],hq⟩
theorem b4A {s:S} {Q:S->Prop}:WpI F gl dr [] s Q↔Q s :=
 ⟨λ⟨n,s',h,hq⟩=>by simp only[a1H,g7G] at h;subst h;exact hq,λh=>⟨0,s,rfl,h⟩⟩
theorem b4B {d:Option Nat} {k:Nat} {b:Bool} {o:O} {r:List Ins} {s:S} {Q:S->Prop}:WpI F gl dr (⟨d,some (k,b),o⟩::r) s Q↔if wanted s.fr (some (k,b))=true then WpI F gl dr (⟨d,none,o⟩::r) s Q else WpI F gl dr r ⟨put s.fr d und,s.sg,s.ow⟩ Q:=by
 split
 ·rename_i hw
  have:∀ n,a1H (a1M F gl n) gl dr (⟨d,some (k,b),o⟩::r) s=a1H (a1M F gl n) gl dr (⟨d,none,o⟩::r) s:=by
   intro n
   have hn:wanted s.fr none=true:=rfl
   simp only[a1H,a1G,hw,hn,if_true]
  simp only[WpI,this]
 ·rename_i hw
  have:∀ n,a1H (a1M F gl n) gl dr (⟨d,some (k,b),o⟩::r) s=a1H (a1M F gl n) gl dr r ⟨put s.fr d und,s.sg,s.ow⟩:=by
   intro n
   simp only[a1H,a1G,hw]
   rfl
  simp only[WpI,this]
def noC:Cal:=λ_ _ _ _=>none
def O.isCall:O->Bool
 |.call _ _=>true
 |.cale _ _=>true
 |.calv _ _=>true
 |.calk _ _ _=>true
 |.calz _ _ _=>true
 |_=>false
theorem b4C {o:O} (ho:o.isCall=false) {s:S}:a1F C gl dr o s=a1F noC gl dr o s:=by
 cases o <;> first|rfl|cases ho
theorem b4D {d:Option Nat} {o:O} (ho:o.isCall=false) {r:List Ins} {s:S} {Q:S->Prop}:WpI F gl dr (⟨d,none,o⟩::r) s Q↔onO (a1F noC gl dr o s) (λx=>WpI F gl dr r ⟨put s.fr d x.1,x.2.1,x.2.2⟩ Q):=by
 cases hx:a1F noC gl dr o s with
 |none =>
  refine⟨λ⟨n,s',h,_⟩=>?_,λh=>absurd h id⟩
  simp only[a1H,a1G,wanted,if_true,b4C ho,hx] at h
  cases h
 |some x =>
  have:∀ n,a1H (a1M F gl n) gl dr (⟨d,none,o⟩::r) s=a1H (a1M F gl n) gl dr r ⟨put s.fr d x.1,x.2.1,x.2.2⟩:=by
   intro n
   simp only[a1H,a1G,wanted,if_true,b4C ho,hx]
  simp only[WpI,this,onO]
end Go.Pi
