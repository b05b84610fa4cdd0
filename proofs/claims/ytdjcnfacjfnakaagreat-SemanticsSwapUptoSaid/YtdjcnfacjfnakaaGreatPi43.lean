/- PI 43: several codes, each of which ends as told, end so with one and the same fuel. Program independent. -/
import Derived.Test.YtdjcnfacjfnakaaGreatPi29
set_option linter.unusedSimpArgs false
set_option linter.unusedVariables false
namespace Go.Pi
theorem Wp.all {F:Nat→Option Fn} {gl:Nat→Option (List T)} {s:S} {Q:Ex→S→Prop}:∀ l:List Co,(∀ x,x∈l→Wp F gl x s Q)→∃ n,∀ x,x∈l→∃ ex s1,a1O (a1R F gl n) gl n x s=some (ex,s1)∧Q ex s1:=by
 intro l
 induction l with
 |nil=>intro _;exact⟨0,fun x hx=>by cases hx⟩
 |cons a r ih =>
  intro h
  obtain⟨n1,e1,s1,h1,q1⟩:=h a (by simp)
  obtain⟨n2,h2⟩:=ih fun x hx=>h x (by simp [hx])
  refine⟨max n1 n2,fun x hx=>?_⟩
  rcases g4U.1 hx with rfl|hx
  ·exact⟨e1,s1,b5U (b5W (g5I n1 n2)) (g5I n1 n2) h1,q1⟩
  ·obtain⟨e3,s3,h3,q3⟩:=h2 x hx
   exact⟨e3,s3,b5U (b5W (g5J n1 n2)) (g5J n1 n2) h3,q3⟩
end Go.Pi
