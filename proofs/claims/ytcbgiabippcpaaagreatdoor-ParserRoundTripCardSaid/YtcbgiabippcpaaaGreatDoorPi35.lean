/- PI 35: a variable that is laid as plain data holds it, cell for cell. Program independent. -/
import Derived.Test.YtcbgiabippcpaaaGreatDoorPi31
import Derived.OpenShut
import Derived.ChangeSame
set_option linter.unusedSimpArgs false
set_option linter.unusedVariables false
namespace Go.Pi
def f2I (cs:List Value) (ts:List T):Prop:=cs.length=ts.length∧∀ (j:Nat) (v:Value) (x:T),cs[j]?=some v→ts[j]?=some x→(∃ s:ByteArray,v=.string s∧x=.str s.data.toList)∨∃ k n,v=.int k n∧x=.int k n
theorem f2J {a b:List Value} {x y:List T} (h:f2I a x) (h':f2I b y):f2I (a++b) (x++y):=by
 refine⟨by rw[g7K,g7K,h.1,h'.1],fun j v z hv hz=>?_⟩
 rcases g8V j a.length with hj|hj
 ·rw[g6V hj] at hv
  rw[g6V (by rw[←h.1];exact hj)] at hz
  exact h.2 j v z hv hz
 ·rw[g6W hj] at hv
  rw[g6W (by rw[←h.1];exact hj),←h.1] at hz
  exact h'.2 _ v z hv hz
theorem f2K {c:Nat}:∀ (tss:List (List T)) (cs:List Value),cs.length=tss.length * c→(∀ i ts,tss[i]?=some ts→f2I ((cs.drop (i * c)).take c) ts)→f2I cs tss.flatten
 |[],cs,h,_=>by
  have:cs=[]:=g6P (by simpa using h)
  subst this
  exact⟨rfl,fun j v z hv=>by simp at hv⟩
 |ts::r,cs,h,hi=>by
  rw[g6R,←g8I c cs]
  refine f2J (by simpa using hi 0 ts rfl) (f2K (c:=c) r _ ?_ fun i us hu=>?_)
  ·rw[g7M,h,g7L,Nat.succ_mul];omega
  ·have:=hi (i+1) us (by simpa using hu)
   rw[g6M]
   have e:c+i * c=(i+1) * c:=by rw[Nat.succ_mul];omega
   rw[e];exact this
variable {H:Type} {enc:TypeId×Value→H} {P:Program} {w:World} {base:Nat} {sp:Nat→Bool} {held:Bool}
theorem f2L {α:Type} {dE:α→DataW H} {tE:α→List T} {t e:TypeId} {n fuel:Nat} {cs:List Value} {p:List MemPlace} {l:List α} (ht:P.underlying t=some (.array n e)) (hc:P.cellsOf t=n * P.cellsOf e)
  (hel:∀ (f:Nat) (us:List Value) (a:α) (q:List MemPlace),DataW.trod enc P w base sp held f e us=some (dE a,q)→f2I us (tE a))
  (h:DataW.trod enc P w base sp held fuel t cs=some (.agg (l.map dE),p)):f2I cs (l.map tE).flatten:=by
 obtain⟨xs,m,_,hx,hl,hn,hi⟩:=DataW.trod_array ht h
 injection hx with hx _
 injection hx with hx
 have hlen:l.length=n:=by
  have:=congrArg List.length hx
  simp only[g7N] at this
  omega
 refine f2K (c:=P.cellsOf e) _ _ (by rw[hl,hc,g7N,hlen]) fun i ts hts=>?_
 rw[g7C] at hts
 obtain⟨a,ha,rfl⟩:=g9E.1 hts
 have hlt:i < n:=by rw[←hlen];exact(g7B.1 ha).1
 have h1:=hi i hlt
 obtain⟨y,hy⟩:∃ y,xs[i]?=some y:=⟨xs[i],g6Z (by omega)⟩
 have h2:(xs.map (·.1))[i]?=some (dE a):=by rw[←hx,g7C,ha];rfl
 rw[g7C,hy] at h2
 injection h2 with h2
 rw[hy] at h1
 obtain⟨y1,y2⟩:=y
 simp only at h2
 subst h2
 exact hel _ _ _ _ h1
theorem f2M {t:TypeId} {f0 f1:Field} {k:IntKind} {fuel:Nat} {cs:List Value} {p:List MemPlace} {s:List UInt8} {z:Int} (ht:P.underlying t=some (.struct #[f0,f1])) (h0:P.underlying f0.type=some .string) (h1:P.underlying f1.type=some (.int k)) (c0:P.cellsOf f0.type=1) (c1:P.cellsOf f1.type=1) (o0:f0.offset=0) (o1:f1.offset=1) (ct:P.cellsOf t=2)
  (h:DataW.trod enc P w base sp held fuel t cs=some (.agg [.lit (.string s),.lit (.int k z)],p)):f2I cs [.str s,.int k z]:=by
 obtain⟨y0,y1,n,hx,hl,g0,g1⟩:=ChangeShapes.trod_struct2 ht h
 rw[ct] at hl
 match cs,hl with
 |[a,b],_ =>
  rw[o0,c0] at g0
  rw[o1,c1] at g1
  obtain⟨s',e1,e2,_⟩:=DataW.trod_string h0 g0
  obtain⟨z',e3,e4,_⟩:=DataW.trod_int h1 g1
  simp only[g6O,g8J,List.take_zero,g6N,g6K,g9K] at e1 e3
  subst e1 e3 e2 e4
  injection hx with hx _
  injection hx with hx
  injection hx with hx1 hx2
  injection hx1 with hx1
  injection hx1 with hx1
  injection hx2 with hx2 _
  injection hx2 with hx2
  injection hx2 with _ hx2
  subst hx1 hx2
  refine⟨rfl,fun j v x hv hx=>?_⟩
  match j,hv,hx with
  |0,hv,hx=>simp at hv hx;subst hv hx;exact .inl ⟨s',rfl,rfl⟩
  |1,hv,hx=>simp at hv hx;subst hv hx;exact .inr ⟨_,_,rfl,rfl⟩
  |j+2,hv,hx=>simp at hv
end Go.Pi
