/- PI 28: the walk's kit: what is simplified, loops, frames, integers. -/
import Derived.Test.YtdjcnfacjfnakaaGreatPi27
import Derived.IntWalk
set_option linter.unusedSimpArgs false
set_option linter.unusedVariables false
namespace Go.Pi
variable {F:Nat->Option Fn} {gl:Nat->Option (List T)} {dr:Bool}
def b6J:List (Nat×Fn)->Nat->Option Fn
 |[],_=>none
 |(j,f)::r,k=>if j=k then some f else b6J r k
theorem b6K {l:List (Nat×Fn)} {k:Nat} {f:Fn} (h:b6J l k=some f):(k,f)∈l:=by
 induction l with
 |nil=>cases h
 |cons p r ih =>
  obtain⟨j,g⟩:=p
  simp only[b6J] at h
  split at h
  ·rename_i e
   injection h with h
   subst e h
   exact List.mem_cons_self
  ·exact g6I _ (ih h)
@[congr] theorem Wp_congr {c:Co} {s s':S} {Q:Ex->S->Prop} (h:s=s'):Wp F gl c s Q=Wp F gl c s' Q:=by rw[h]
@[congr] theorem WpI_congr {is:List Ins} {s s':S} {Q:S->Prop} (h:s=s'):WpI F gl dr is s Q=WpI F gl dr is s' Q:=by rw[h]
@[congr] theorem WpL_congr {c:Co} {s s':S} {Q:Ex->S->Prop} (h:s=s'):WpL F gl c s Q=WpL F gl c s' Q:=by rw[h]
@[congr] theorem onO_congr {α:Type} {o o':Option α} {k:α->Prop} (h:o=o'):onO o k=onO o' k:=by rw[h]
@[congr] theorem onC_congr {v v':PV} {a b:Prop} (h:v=v'):onC v a b=onC v' a b:=by rw[h]
@[congr] theorem onN_congr {k:S->Prop} {Q:Ex->S->Prop} {e e':Ex} {s s':S} (he:e=e') (h:s=s'):onN k Q e s=onN k Q e' s':=by rw[he,h]
@[congr] theorem onB_congr {id:Nat} {Q:Ex->S->Prop} {e e':Ex} {s s':S} (he:e=e') (h:s=s'):onB id Q e s=onB id Q e' s':=by rw[he,h]
@[congr] theorem CallE_congr {f:Nat} {a a':List PV} {sg sg':Sg} {ow ow':Ow} {K:PV->Sg->Ow->Prop} (h1:a=a') (h2:sg=sg') (h3:ow=ow'):CallE F gl f a sg ow K=CallE F gl f a' sg' ow' K:=by rw[h1,h2,h3]
@[congr] theorem CallP_congr {f:Nat} {a a':List T} {K:PV->Prop} (h1:a=a'):CallP F gl f a K=CallP F gl f a' K:=by rw[h1]
@[congr] theorem fnK_congr {v v':PV} {K:Nat->List PV->Prop} (h:v=v'):fnK v K=fnK v' K:=by rw[h]
@[congr] theorem resK_congr {res:List (Nat×Option (Bool×Nat))} {K:PV->Sg->Ow->Prop} {e e':Ex} {s s':S} (he:e=e') (h:s=s'):b6E gl res K e s=b6E gl res K e' s':=by rw[he,h]
theorem WpL.by_nat {b:Co} {Q:Ex->S->Prop} (I:Nat->S->Prop) (h:∀ i s,I i s->Wp F gl b s (onN (λs'=>∃ j,j < i/\I j s') Q)):∀ i s,I i s->WpL F gl b s Q:=by
 intro i
 induction i using Nat.strongRecOn with
 |_ i ih =>
  intro s hs
  refine WpL.step ((h i s hs).mono λex s' hq=>?_)
  cases ex with
  |normal =>
   obtain⟨j,hj,hI⟩:=hq
   exact ih j hj s' hI
  |exit id=>exact hq
  |ret=>exact hq
theorem b6L {b:Co} {s:S} {Q:Ex->S->Prop}:Wp F gl (.loop b) s Q↔WpL F gl b s Q :=
 ⟨λ⟨n,ex,s',h,hq⟩=>⟨n,n,ex,s',h,hq⟩,Wp.loop⟩
theorem WpL.mono {b:Co} {s:S} {Q Q':Ex->S->Prop} (h:WpL F gl b s Q) (hq:∀ ex s',Q ex s'->Q' ex s'):WpL F gl b s Q':=by
 obtain⟨n,m,ex,s',h1,h2⟩:=h
 exact⟨n,m,ex,s',h1,hq _ _ h2⟩
theorem b6M {α:Type} {l r:List α} {i:Nat} {x:α} (h:l.drop i=x::r):l[i]?=some x/\l.drop (i+1)=r/\i < l.length:=by
 have hlt:i < l.length:=by
  rcases g6X i l.length with h'|h'
  ·exact h'
  ·rw[List.drop_eq_nil_of_le h'] at h;cases h
 rw[List.drop_eq_getElem_cons hlt] at h
 injection h with h1 h2
 exact⟨by rw[g5M hlt,h1],h2,hlt⟩
theorem b6N {α:Type} {l:List α} {i:Nat} (h:l.drop i=[]):l.length<=i:=by simpa using h
theorem b6O {α:Type} {l r:List α}:(l++r)[l.length]?=r[0]?:=by rw[g5K (g6U _),Nat.sub_self]
theorem b6P {α:Type} {l r:List α} {k:Nat}:(l++r)[l.length+k]?=r[k]?:=by rw[g5K (Nat.le_add_right _ _),Nat.add_sub_cancel_left]
theorem b6Q {α:Type} {l r:List α} {x:α}:(l++r).set l.length x=l++r.set 0 x:=by simp
theorem b6R {α:Type} {l r:List α} {x:α} {k:Nat}:(l++r).set (l.length+k) x=l++r.set k x:=by
 rw[List.set_append_right _ _ (by omega)]
 congr 2
 omega
def b6S (fr:List PV):List (Nat×PV)->Prop
 |[]=>True
 |p::r=>a0A fr p.1=p.2/\b6S fr r
theorem b6T {fr:List PV}:b6S fr []↔True:=g4Y
theorem b6U {fr:List PV} {k:Nat} {v:PV} {r:List (Nat×PV)}:b6S fr ((k,v)::r)↔a0A fr k=v/\b6S fr r:=g4Y
theorem b6V {x:PV} {r:List PV}:a0A (x::r) 0=x:=rfl
theorem b6W {x:PV} {r:List PV} {k:Nat}:a0A (x::r) (k+1)=a0A r k:=rfl
section
variable {k:IntKind} {x y:Int}
theorem b6X:a0H .add (.t (.int k x)) (.t (.int k y))=some (.int k (k.wrap (x+y))):=by simp [a0H,a0E]
theorem b6Y:a0H .sub (.t (.int k x)) (.t (.int k y))=some (.int k (k.wrap (x - y))):=by simp [a0H,a0E]
theorem b6Z:a0H .mul (.t (.int k x)) (.t (.int k y))=some (.int k (k.wrap (x * y))):=by simp [a0H,a0E]
theorem b7A:a0H .quo (.t (.int k x)) (.t (.int k y))=if y=0 then none else some (.int k (k.wrap (x.tdiv y))):=by simp [a0H,a0E]
theorem b7B:a0H .rem (.t (.int k x)) (.t (.int k y))=if y=0 then none else some (.int k (x.tmod y)):=by simp [a0H,a0E]
theorem b7C:a0H .eql (.t (.int k x)) (.t (.int k y))=some (.bool (decide (x=y))):=by simp [a0H,a0E];rfl
theorem b7D:a0H .neq (.t (.int k x)) (.t (.int k y))=some (.bool (!decide (x=y))):=by simp [a0H,a0E];rfl
theorem b7E:a0H .lss (.t (.int k x)) (.t (.int k y))=some (.bool (decide (x < y))):=by simp [a0H,a0E]
theorem b7F:a0H .leq (.t (.int k x)) (.t (.int k y))=some (.bool (decide (x<=y))):=by simp [a0H,a0E]
theorem b7G:a0H .gtr (.t (.int k x)) (.t (.int k y))=some (.bool (decide (y < x))):=by simp [a0H,a0E]
theorem b7H:a0H .geq (.t (.int k x)) (.t (.int k y))=some (.bool (decide (y<=x))):=by simp [a0H,a0E]
theorem b7I:a0H .and (.t (.int k x)) (.t (.int k y))=(a0D .and k x y).map (.int k):=by simp [a0H,a0E]
theorem b7J:a0H .or (.t (.int k x)) (.t (.int k y))=(a0D .or k x y).map (.int k):=by simp [a0H,a0E]
theorem b7K:a0H .xor (.t (.int k x)) (.t (.int k y))=(a0D .xor k x y).map (.int k):=by simp [a0H,a0E]
theorem b7L {k':IntKind}:a0H .shl (.t (.int k x)) (.t (.int k' y))=if y < 0 then none else some (.int k (k.wrap (x * 2 ^ (min y.toNat k.bits)))):=by simp [a0H,a0F]
theorem b7M {k':IntKind}:a0H .shr (.t (.int k x)) (.t (.int k' y))=if y < 0 then none else some (.int k (x.fdiv (2 ^ (min y.toNat k.bits)))):=by simp [a0H,a0F]
end
section
variable {x y:List UInt8}
theorem b7N:a0H .add (.t (.str x)) (.t (.str y))=if x.length+y.length<=4611686018427387904 then some (.str (x++y)) else none:=rfl
theorem b7O:a0H .eql (.t (.str x)) (.t (.str y))=some (.bool (decide (x=y))):=by
 simp only[a0H,a0G]
 congr 2
 by_cases h:x=y
 ·simp [h]
 ·simp [h]
theorem b7P:a0H .neq (.t (.str x)) (.t (.str y))=some (.bool (!decide (x=y))):=by
 simp only[a0H,a0G]
 congr 3
 by_cases h:x=y
 ·simp [h]
 ·simp [h]
end
theorem b7Q {a b:Bool}:eqT false [0] (.t (.bool a)) (.t (.bool b))=some (a == b):=by simp [eqT,eqs,eq1]
def onG (v:PV) (b:Bool) (A B:Prop):Prop:=match v with
 |.t (.bool q)=>if q=b then A else B
 |_=>B
@[congr] theorem onG_congr {v v':PV} {b:Bool} {A B:Prop} (h:v=v'):onG v b A B=onG v' b A B:=by rw[h]
theorem b7R {is:List Ins} {fr:List PV} {sg:Sg} {ow:Ow} {Q:S->Prop} {d:Option Nat} {k:Nat} {b:Bool} {o:O}:WpI F gl dr (⟨d,some (k,b),o⟩::is) ⟨fr,sg,ow⟩ Q↔onG (a0A fr k) b (WpI F gl dr (⟨d,none,o⟩::is) ⟨fr,sg,ow⟩ Q) (WpI F gl dr is ⟨put fr d und,sg,ow⟩ Q):=by
 rw[b4B]
 unfold onG wanted
 cases h:a0A fr k with
 |t x=>cases x <;> simp [h]
 |_=>simp [h]
end Go.Pi
