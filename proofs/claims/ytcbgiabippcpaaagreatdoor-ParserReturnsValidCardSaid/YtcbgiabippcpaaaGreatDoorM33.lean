/- The reference's Same: a program is the same as itself. -/
import Derived.Test.YtcbgiabippcpaaaGreatDoorM36
import Derived.Test.YtcbgiabippcpaaaGreatDoorKx43
import Derived.Test.YtcbgiabippcpaaaGreatDoorKx43
set_option maxRecDepth 10000
set_option linter.unusedVariables false
set_option linter.unusedSimpArgs false
namespace Go.Proofs.YtcbgiabippcpaaaGreatDoor
open Go.Pi Go.Lx Go.Ky
variable {gl:Nat→Option (List T)}
set_option maxHeartbeats 2000000 in
theorem g9Z {n1 n2:Bool} {l:List St} (hl:l.length≤B20) (hx:∀ a,a∈l→szE a.ex≤B20) (ih:∀ a,a∈l→∀ n1 n2 K,XcP F gl 30 [.sl n1 (d2P a.body),.sl n2 (d2P a.body)] K ⟨⟩↔K (.t (.bool true))) {ow:Ow} (Q:Ex→S→Prop):∀ (r:List St) (i:Nat) (fr:List PV) (sg:Sg),l.drop i=r →
  b8Y fr [(0,.t (.sl n1 (d2P l))),(1,.t (.sl n2 (d2P l))),(5,.t (.int .i64 i))]→(∀ fr' sg',Q (.exit 0) ⟨fr',sg',ow⟩) →
  Xl F gl c4R ⟨fr,sg,ow⟩ Q ⟨⟩:=by
 intro r
 have hb:B20=1100000:=rfl
 induction r with
 |nil =>
  intro i fr sg hd hf h1
  have hd:=b8T hd
  simp only[b9A,b8Z] at hf
  obtain⟨f0,f1,f5,-⟩:=hf
  refine Xl.step ?_
  simp only[c4R]
  have c1:((i:Int) < (l.length:Int))=False:=h4U (by omega)
  simp only[wA,seval,reduceCtorEq,reduceIte,f0,f1,f5,d2S,c1]
  exact h1 _ _
 |cons x r ih2 =>
  intro i fr sg hd hf h1
  obtain⟨hxx,hr,hi⟩:=b8S hd
  simp only[b9A,b8Z] at hf
  obtain⟨f0,f1,f5,-⟩:=hf
  refine Xl.step ?_
  simp only[c4R]
  have hm:=h3C hxx
  have c1:((i:Int) < (l.length:Int))=True:=h4V (by omega)
  have hw1:IntKind.wrap .i64 ((i:Int)+1)=((i+1:Nat):Int):=by rw[IntWalk.i64_in _ (by omega)];omega
  have hc:=ih x hm
  have hE:=ok13 (gl:=gl) x.ex (hx x hm)
  have c0:(0≤(i:Int))=True:=h4V (by omega)
  simp only[wA,seval,reduceCtorEq,reduceIte,f0,f1,f5,d2S,d2T,hxx,h4I,d2R,hc,hE,hw1,c0,c1,h1D,d5A,b3I,b3J,b3K,b3L,BEq.rfl,bne_self_eq_false,h0W,ne_eq,h4X,h4T]
  exact ih2 (i+1) _ _ hr (by simp only[wQ,Nat.reduceEqDiff,reduceIte,f0,f1]) h1
theorem h0A:∀ (n:Nat) (l:List St),d2Y l≤n→n≤B20→∀ n1 n2 K,XcP F gl 30 [.sl n1 (d2P l),.sl n2 (d2P l)] K ⟨⟩↔K (.t (.bool true)):=by
 intro n
 induction n using Nat.strongRecOn with
 |_ n ih =>
  intro l hs hn n1 n2 K
  have hl:=d3G l
  refine Ret.iff (Ret.of F30 rfl ?_)
  simp only[c4S]
  simp only[wA,seval,reduceCtorEq,reduceIte,d2S,BEq.rfl,bne_self_eq_false,h0W,ne_eq,h4X,h4T]
  refine g9Z (n1:=n1) (n2:=n2) (l:=l) (by omega) (fun a ha=>?_) (fun a ha=>?_) _ l 0 _ _ rfl (by simp only[wQ,Nat.reduceEqDiff,reduceIte]) ?_
  ·have h1:=d3E ha
   rw[d3B] at h1
   rw[d2Z]
   omega
  ·have h1:=d3E ha
   rw[d3B] at h1
   exact ih (d2Y a.body) (by omega) a.body (h3V _) (by omega)
  ·intro fr' sg'
   simp only[wA,seval,reduceCtorEq,reduceIte]
theorem ok30 {l:List St} (hs:d2Y l≤B20) (n1 n2:Bool) (K:PV→Prop):XcP F gl 30 [.sl n1 (d2P l),.sl n2 (d2P l)] K ⟨⟩↔K (.t (.bool true)):=h0A _ l (h3V _) hs n1 n2 K
end Go.Proofs.YtcbgiabippcpaaaGreatDoor
