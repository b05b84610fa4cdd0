/- PI 31: from a tree's kinds to plain data. Program independent. -/
import Derived.Test.YtcbgiabippcpaaaGreatDoorPi30
set_option linter.unusedSimpArgs false
set_option linter.unusedVariables false
namespace Go.Pi
def Wts (env:Nat→List CT) (N:Nat) (ct:List CT) (e:List T):Prop:=e.length=ct.length∧∀ (j:Nat) (y:CT) (x:T),ct[j]?=some y→e[j]?=some x→Wt env N y x
theorem c9Z {env:Nat→List CT} {N:Nat} {ct:List CT} {x:T} (h:Wt env N (.sl ct) x):∃ (nl:Bool) (es:List (List T)),x=.sl nl es∧es.length≤N∧(nl=true→es=[])∧∀ e,e∈es→Wts env N ct e:=by
 cases h with
 |nsl=>exact⟨true,[],rfl,g9A _,fun _=>rfl,by simp⟩
 |sl _ es hl hc h=>exact⟨false,es,rfl,hl,by simp,fun e he=>⟨hc e he,h e he⟩⟩
theorem d0A {env:Nat→List CT} {N:Nat} {e:List T} (h:Wts env N [] e):e=[]:=by
 obtain⟨h,_⟩:=h
 simpa using h
theorem d0B {env:Nat→List CT} {N:Nat} {c:CT} {cs:List CT} {e:List T} (h:Wts env N (c::cs) e):∃ x r,e=x::r∧Wt env N c x∧Wts env N cs r:=by
 obtain⟨h1,h2⟩:=h
 cases e with
 |nil=>simp at h1
 |cons x r=>exact⟨x,r,rfl,h2 0 c x rfl rfl,by simpa using h1,fun j y z hy hz=>h2 (j+1) y z (by simpa using hy) (by simpa using hz)⟩
theorem d0C {env:Nat→List CT} {N:Nat} {k:IntKind} {x:T} (h:Wt env N (.int k) x):∃ n,x=.int k n∧k.min≤n∧n≤k.max:=by
 cases h with
 |int _ n h1 h2=>exact⟨n,rfl,h1,h2⟩
theorem d0D {env:Nat→List CT} {N:Nat} {x:T} (h:Wt env N (.int .i64) x):∃ n,x=.int .i64 n∧-9223372036854775808≤n∧n≤9223372036854775807:=d0C h
theorem d0E {env:Nat→List CT} {N:Nat} {x:T} (h:Wt env N (.int .u64) x):∃ n,x=.int .u64 n∧0≤n∧n≤18446744073709551615:=d0C h
theorem d0F {env:Nat→List CT} {N:Nat} {x:T} (h:Wt env N .str x):∃ s,x=.str s∧s.length≤N:=by
 cases h with
 |str s h=>exact⟨s,rfl,h⟩
theorem d0G {env:Nat→List CT} {N:Nat} {x:T} (h:Wt env N .bool x):∃ b,x=.bool b:=by
 cases h with
 |bool b=>exact⟨b,rfl⟩
theorem d0H {α:Type} {p:α→Prop} {enc:α→List T}:∀ {es:List (List T)},(∀ e,e∈es→∃ a,e=enc a∧p a)→∃ l:List α,es=l.map enc∧∀ a,a∈l→p a:=by
 intro es
 induction es with
 |nil=>intro _;exact⟨[],rfl,by simp⟩
 |cons e r ih =>
  intro h
  obtain⟨a,ha,hp⟩:=h e g7Y
  obtain⟨l,hl,hq⟩:=ih fun e he=>h e (g7X _ he)
  refine⟨a::l,by rw[ha,hl];rfl,fun b hb=>?_⟩
  rcases g7W.1 hb with e|e
  ·subst e;exact hp
  ·exact hq b e
theorem d0I {env:Nat→List CT} {N:Nat} {ct:List CT} {x:T} (h:b4Y env N (true,ct) x):∃ xs,x=.agg xs∧Wts env N ct xs:=by
 obtain⟨xs,h1,h2,h3⟩:=h
 exact⟨xs,h1,h2,h3⟩
theorem d0J {env:Nat→List CT} {N:Nat} {a:Bool×List CT} {as:List (Bool×List CT)} {xs:List T} (h:b4Z env N (a::as) xs):∃ x r,xs=x::r∧b4Y env N a x∧b4Z env N as r:=by
 cases xs with
 |nil=>cases h
 |cons x r=>exact⟨x,r,rfl,h.1,h.2⟩
theorem d0K {env:Nat→List CT} {N:Nat} {xs:List T} (h:b4Z env N [] xs):xs=[]:=by
 cases xs with
 |nil=>rfl
 |cons x r=>cases h
end Go.Pi
