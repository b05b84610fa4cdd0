/- PI 31: from a tree's kinds to plain data. Program independent. -/
import Derived.Test.YtcbgiabippcpaaaGreatDoorPi30
set_option linter.unusedSimpArgs false
set_option linter.unusedVariables false
namespace Go.Pi
theorem d0H {env:Nat→List CT} {N:Nat} {x:T} (h:Wt env N .str x):∃ s,x=.str s∧s.length≤N:=by
 cases h with
 |str s h=>exact⟨s,rfl,h⟩
theorem d0I {env:Nat→List CT} {N:Nat} {c:CT} {x:T} (h:b4Y env N (false,[c]) x):Wt env N c x:=by
 obtain⟨c',h1,h2⟩:=h
 injection h1 with h1
 subst h1
 exact h2
theorem d0J {env:Nat→List CT} {N:Nat} {a:Bool×List CT} {as:List (Bool×List CT)} {xs:List T} (h:b4Z env N (a::as) xs):∃ x r,xs=x::r∧b4Y env N a x∧b4Z env N as r:=by
 cases xs with
 |nil=>cases h
 |cons x r=>exact⟨x,r,rfl,h.1,h.2⟩
theorem d0K {env:Nat→List CT} {N:Nat} {xs:List T} (h:b4Z env N [] xs):xs=[]:=by
 cases xs with
 |nil=>rfl
 |cons x r=>cases h
end Go.Pi
