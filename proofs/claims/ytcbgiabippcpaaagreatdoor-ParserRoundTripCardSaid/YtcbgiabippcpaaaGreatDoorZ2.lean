/- strings.Builder: what it holds; WriteString. -/
import Derived.Test.YtcbgiabippcpaaaGreatDoorM36
import Derived.Test.YtcbgiabippcpaaaGreatDoorKx43
set_option maxRecDepth 10000
set_option linter.unusedVariables false
set_option linter.unusedSimpArgs false
namespace Go.Proofs.YtcbgiabippcpaaaGreatDoor
open Go.Pi Go.Lx Go.Ky
variable {gl:Nat→Option (List T)}
def Bwv (x:PV) (ow:Ow) (s:List UInt8):Prop:=(s=[]∧x=.t (.sl true []))∨∃ k,x=.owb k 5 s∧ow[k]?=some s.length∧s≠[]
def Bw (sg:Sg) (ow:Ow) (id:Nat) (s:List UInt8):Prop:=∃ x,sg[id]?=some (false,[.bp id 82,x])∧Bwv x ow s
theorem Bwv.app {x:PV} {ow:Ow} {s t:List UInt8} (h:Bwv x ow s) (hl:s.length+t.length≤1000000) :
  ∃ r ow',a0Y ow 5 x (.t (.str t))=some (r,ow')∧Bwv r ow' (s++t)∧cellsP r=[r]∧Go.Pi.one r=true:=by
 rcases h with⟨rfl,rfl⟩|⟨k,rfl,hk,hne⟩
 ·by_cases ht:t=[]
  ·subst ht
   exact⟨.t (.sl true []),ow,by simp [a0Y],.inl ⟨rfl,rfl⟩,rfl,rfl⟩
  ·have hr:a0N t.length 1=true:=by
    simp only[g7O] at hl
    unfold a0N;exact g9M ⟨by omega,by omega⟩
   refine⟨.owb ow.length 5 t,ow++[t.length],by simp only[a0Y,if_neg ht,hr,if_true],.inr ⟨ow.length,rfl,?_,ht⟩,rfl,rfl⟩
   simp
 ·by_cases ht:t=[]
  ·subst ht
   exact⟨.owb k 5 s,ow,by simp [a0Y],.inr ⟨k,by simp,by simpa using hk,by simpa using hne⟩,rfl,rfl⟩
  ·have hr:a0N (s.length+t.length) 1=true:=by unfold a0N;exact g9M ⟨by omega,by omega⟩
   refine⟨.owb k 5 (s++t),ow.set k (s.length+t.length),by simp only[a0Y,if_neg ht,hk,hr,g9J,if_true],.inr ⟨k,rfl,?_,by simp [hne]⟩,rfl,rfl⟩
   rw[g7G (g7B.1 hk).1,g7K]
theorem g2C {sg:Sg} {ow:Ow} {id:Nat} {s x:List UInt8} (h:Bw sg ow id s) (hl:s.length+x.length≤1000000) :
  CallE F gl 44 [.lp id 0,.t (.str x)] sg ow fun v sg' ow'=>Bw sg' ow' id (s++x)∧Fr id sg sg':=by
 obtain⟨y,hs,hy⟩:=h
 obtain⟨r,ow',h1,h2,h3,h4⟩:=hy.app hl
 have hc:a0X sg 82 (.lp id 0)=some und:=by simp [a0X,hs]
 refine XcE.of F44 rfl ?_
 simp only[c5K]
 simp only[wA,seval,reduceCtorEq,reduceIte,hc,hs,h1,h3,h4]
 exact⟨⟨r,d4Z hs,h2⟩,(Fr.refl _ _).set _⟩
theorem Bw.str {sg:Sg} {ow:Ow} {id:Nat} {s:List UInt8} (h:Bw sg ow id s) (hl:s.length≤1000000):a0Z sg ow 5 (.lp id 0)=some (.t (.str s)):=by
 obtain⟨x,hs,⟨rfl,rfl⟩|⟨k,rfl,hk,hne⟩⟩:=h
 ·simp [a0Z,hs]
 ·have:s.length≤4611686018427387904:=by omega
  simp only[a0Z,hs,hk,hne,this,ne_eq,not_false_eq_true,g9J,if_true]
theorem Bw.new (sg:Sg) (ow:Ow):Bw (sg++[(false,[.bp sg.length 82,.t (.sl true [])])]) ow sg.length []:=⟨_,by simp,.inl ⟨rfl,rfl⟩⟩
theorem Bw.fr {sg sg':Sg} {ow:Ow} {id:Nat} {s:List UInt8} (h:Bw sg ow id s) (hg:Grow sg sg'):Bw sg' ow id s:=by
 obtain⟨x,hs,hx⟩:=h
 exact⟨x,hg.get hs,hx⟩
theorem Bw.lt {sg:Sg} {ow:Ow} {id:Nat} {s:List UInt8} (h:Bw sg ow id s):id < sg.length:=by
 obtain⟨x,hs,hx⟩:=h
 exact d5A hs
end Go.Proofs.YtcbgiabippcpaaaGreatDoor
