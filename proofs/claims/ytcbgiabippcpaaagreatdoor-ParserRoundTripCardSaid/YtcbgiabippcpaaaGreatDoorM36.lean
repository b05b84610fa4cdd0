/- Contracts: names. -/
import Derived.Test.YtcbgiabippcpaaaGreatDoorIrA
import Derived.Test.YtcbgiabippcpaaaGreatDoorKx43
import Derived.Test.YtcbgiabippcpaaaGreatDoorKx43
set_option maxRecDepth 10000
set_option linter.unusedVariables false
set_option linter.unusedSimpArgs false
namespace Go.Proofs.YtcbgiabippcpaaaGreatDoor
open Go.Pi Go.Lx Go.Ky
variable {gl:Nat→Option (List T)}
abbrev tB (c:UInt8):T:=.int .u8 (c.toNat:Int)
theorem e1I {a c:UInt8}:a≤c↔((a.toNat:Int)≤(c.toNat:Int)):=by rw[UInt8.le_iff_toNat_le];omega
theorem e1J (c:UInt8):d0L c=(decide ((97:Int)≤(c.toNat:Int))&&decide ((c.toNat:Int)≤122)):=by
 unfold d0L
 congr 1 <;> (congr 1;exact propext e1I)
theorem e1K (c:UInt8):d0M c=(decide ((48:Int)≤(c.toNat:Int))&&decide ((c.toNat:Int)≤57)):=by
 unfold d0M
 congr 1 <;> (congr 1;exact propext e1I)
theorem e1L {c:UInt8} {n:Nat} (hn:n < 256):(c=UInt8.ofNat n)↔((c.toNat:Int)=(n:Int)):=by
 constructor
 ·intro h;subst h;rw[g9H];omega
 ·intro h
  apply UInt8.toNat_inj.1
  rw[g9H];omega
theorem e1M (c:UInt8) {K:PV→Prop}:XcP F gl 91 [tB c] K ⟨⟩↔K (.t (.bool (d0L c))):=by
 refine Ret.iff (Ret.of F91 rfl ?_)
 simp only[c7J]
 simp only[wA,seval,reduceCtorEq,reduceIte]
 repeat' ((with_reducible first|refine c3G ?_ ?_|refine c3H ?_ ?_|refine c3F ?_ ?_|refine c3E ?_ ?_|refine c3C ?_ ?_|refine c3D ?_ ?_|refine c3B ?_ ?_|refine c3A ?_ ?_) <;> intro h <;> (try simp only[wA,seval,reduceCtorEq,reduceIte,h]))
 all_goals (simp_all [e1J] <;> omega)
theorem e1N (c:UInt8) {K:PV→Prop}:XcP F gl 112 [tB c] K ⟨⟩↔K (.t (.bool (d0M c))):=by
 refine Ret.iff (Ret.of F112 rfl ?_)
 simp only[c8H]
 simp only[wA,seval,reduceCtorEq,reduceIte]
 repeat' ((with_reducible first|refine c3G ?_ ?_|refine c3H ?_ ?_|refine c3F ?_ ?_|refine c3E ?_ ?_|refine c3C ?_ ?_|refine c3D ?_ ?_|refine c3B ?_ ?_|refine c3A ?_ ?_) <;> intro h <;> (try simp only[wA,seval,reduceCtorEq,reduceIte,h]))
 all_goals (simp_all [e1K] <;> omega)
theorem e1O (c:UInt8):d0N c=(d0L c || d0M c || decide ((c.toNat:Int)=95)):=by
 unfold d0N
 congr 1
 have:(c=95)↔((c.toNat:Int)=95):=e1L (n:=95) (by omega)
 by_cases h:c=95
 ·rw[g9M (this.1 h),h];rfl
 ·rw[g9L (fun e=>h (this.2 e))];simpa using h
theorem e1P (c:UInt8) {sg:Sg} {ow:Ow} {K:PV→Sg→Ow→Prop}:XcE F gl 93 [.t (tB c)] sg ow K ⟨⟩↔K (.t (.bool (d0N c))) sg ow:=by
 refine CallE.iff (XcE.of F93 rfl ?_)
 simp only[c7M]
 simp only[wA,seval,reduceCtorEq,reduceIte,e1M,e1N]
 repeat' ((with_reducible first|refine c3G ?_ ?_|refine c3H ?_ ?_|refine c3F ?_ ?_|refine c3E ?_ ?_|refine c3C ?_ ?_|refine c3D ?_ ?_|refine c3B ?_ ?_|refine c3A ?_ ?_) <;> intro h <;> (try simp only[wA,seval,reduceCtorEq,reduceIte,e1M,e1N,h]))
 all_goals simp_all [e1O]
theorem e1Q {p:UInt8→Bool} {f:Nat} (hp:∀ (c:UInt8) {sg:Sg} {ow:Ow} {K:PV→Sg→Ow→Prop},XcE F gl f [.t (tB c)] sg ow K ⟨⟩↔K (.t (.bool (p c))) sg ow) {s:List UInt8} (hl:s.length≤281474976710656) {sg:Sg} {ow:Ow} (Q:Ex→S→Prop):∀ (r:List UInt8) (i:Nat) (fr:List PV),s.drop i=r →
  b8Y fr [(0,.t (.str s)),(1,.fn f []),(5,.t (.int .i64 i))] →
  (∀ fr',a0A fr' 5=.t (.int .i64 ((i+d0P p r:Nat):Int))→Q (.exit 0) ⟨fr',sg,ow⟩) →
  Xl F gl c7K ⟨fr,sg,ow⟩ Q ⟨⟩:=by
 intro r
 induction r with
 |nil =>
  intro i fr hd hf h1
  have hd:=b8T hd
  simp only[b9A,b8Z] at hf
  obtain⟨f0,f1,f5,-⟩:=hf
  refine Xl.step ?_
  simp only[c7K]
  have c1:¬((i:Int) < (s.length:Int)):=by omega
  simp only[wA,seval,reduceCtorEq,reduceIte,f0,f1,f5,c1]
  refine h1 _ ?_
  simp only[wQ,Nat.reduceEqDiff,reduceIte,f5,d0P,g8N]
 |cons x r ih =>
  intro i fr hd hf h1
  obtain⟨hx,hr,hi⟩:=b8S hd
  simp only[b9A,b8Z] at hf
  obtain⟨f0,f1,f5,-⟩:=hf
  refine Xl.step ?_
  simp only[c7K]
  have c1:(i:Int) < (s.length:Int):=by omega
  have hw1:IntKind.wrap .i64 ((i:Int)+1)=((i+1:Nat):Int):=by rw[IntWalk.i64_in _ (by omega)];omega
  have c0:(0:Int)≤(i:Int):=by omega
  cases hq:p x with
  |false =>
   simp only[wA,seval,reduceCtorEq,reduceIte,f0,f1,f5,c1,hw1,c0,g6D,hx,hp,hq,g6J]
   refine h1 _ ?_
   simp only[wQ,Nat.reduceEqDiff,reduceIte,f5,d0P,hq,g8N,g5V,if_false]
  |true =>
   simp only[wA,seval,reduceCtorEq,reduceIte,f0,f1,f5,c1,hw1,c0,g6D,hx,hp,hq,g6J]
   refine ih (i+1) _ hr (by simp only[wQ,Nat.reduceEqDiff,reduceIte,f0,f1]) fun fr' h=>h1 fr' ?_
   rw[h]
   simp only[d0P,hq,if_true]
   congr 3
   omega
theorem e1R {p:UInt8→Bool} {f:Nat} (hp:∀ (c:UInt8) {sg:Sg} {ow:Ow} {K:PV→Sg→Ow→Prop},XcE F gl f [.t (tB c)] sg ow K ⟨⟩↔K (.t (.bool (p c))) sg ow) {s:List UInt8} (hl:s.length≤281474976710656) {sg:Sg} {ow:Ow} {K:PV→Sg→Ow→Prop} :
  XcE F gl 92 [.t (.str s),.fn f []] sg ow K ⟨⟩↔K (.t (.int .i64 (d0P p s:Nat))) sg ow:=by
 refine CallE.iff (XcE.of F92 rfl ?_)
 simp only[c7L]
 simp only[wA,seval,reduceCtorEq,reduceIte]
 refine e1Q hp hl _ s 0 _ rfl (by simp only[wQ,Nat.reduceEqDiff,reduceIte]) fun fr' h=>?_
 simp only[wA,seval,reduceCtorEq,reduceIte,h]
 try simp
def e1S (l:List (List UInt8)):List (List T):=l.map fun s=>[.str s]
theorem e1T {K:PV→Prop}:XcP F gl 95 [] K ⟨⟩↔K (.t (.sl false (e1S keywords))):=by
 refine Ret.iff (Ret.of F95 rfl ?_)
 simp only[c7O]
 simp only[wA,seval,reduceCtorEq,reduceIte,b6J,a0C,a0M,T.isAgg,List.replicate,g6R,g6S,g6J]
 rfl
def e1U (s:List UInt8):List (List UInt8)→Nat→Int
 |[],_=>-1
 |x::l,i=>if s=x then (i:Int) else e1U s l (i+1)
theorem e1V (s:List UInt8):∀ (l:List (List UInt8)) (i:Nat),decide (0≤e1U s l i)=l.contains s:=by
 intro l
 induction l with
 |nil=>intro i;rfl
 |cons x l ih =>
  intro i
  rw[List.contains_cons,e1U]
  split
  ·rename_i h
   rw[h]
   simp
  ·rename_i h
   rw[ih,show(s == x)=false by simpa using h,Bool.false_or]
theorem e1W {nl:Bool} {l:List (List UInt8)} (hl:l.length≤281474976710656) {s:List UInt8} {sg:Sg} {ow:Ow} (Q:Ex→S→Prop):∀ (r:List (List UInt8)) (i:Nat) (fr:List PV),l.drop i=r →
  b8Y fr [(0,.t (.sl nl (e1S l))),(1,.t (.str s)),(7,.t (.int .i64 l.length)),(8,.t (.int .i64 i))] →
  (e1U s r i=-1→∀ fr',Q (.exit 0) ⟨fr',sg,ow⟩) →
  (∀ fr',a0A fr' 4=.t (.int .i64 (e1U s r i))→Q .ret ⟨fr',sg,ow⟩) →
  Xl F gl c8K ⟨fr,sg,ow⟩ Q ⟨⟩:=by
 intro r
 induction r with
 |nil =>
  intro i fr hd hf h1 h2
  have hd:=b8T hd
  simp only[b9A,b8Z] at hf
  obtain⟨f0,f1,f7,f8,-⟩:=hf
  refine Xl.step ?_
  simp only[c8K]
  have c1:¬((i:Int) < (l.length:Int)):=by omega
  simp only[wA,seval,reduceCtorEq,reduceIte,f0,f1,f7,f8,c1]
  exact h1 rfl _
 |cons x r ih =>
  intro i fr hd hf h1 h2
  obtain⟨hx,hr,hi⟩:=b8S hd
  simp only[b9A,b8Z] at hf
  obtain⟨f0,f1,f7,f8,-⟩:=hf
  refine Xl.step ?_
  simp only[c8K]
  have c1:(i:Int) < (l.length:Int):=by omega
  have hw1:IntKind.wrap .i64 ((i:Int)+1)=((i+1:Nat):Int):=by rw[IntWalk.i64_in _ (by omega)];omega
  by_cases c:s=x
  ·simp only[wA,seval,reduceCtorEq,reduceIte,f0,f1,f7,f8,c1,hw1,e1S,g7C,hx,c]
   refine h2 _ ?_
   simp only[wQ,Nat.reduceEqDiff,reduceIte,e1U,c]
  ·simp only[wA,seval,reduceCtorEq,reduceIte,f0,f1,f7,f8,c1,hw1,e1S,g7C,hx,c]
   refine ih (i+1) _ hr (by simp only[wQ,Nat.reduceEqDiff,reduceIte,f0,f1,f7,e1S]) (fun q=>h1 (by rw[e1U,if_neg c];exact q)) (fun fr' q=>h2 fr' (by rw[q,e1U,if_neg c]))
theorem e1X (nl:Bool) (l:List (List UInt8)) (hl:l.length≤281474976710656) (s:List UInt8) {K:PV→Prop}:XcP F gl 117 [.sl nl (e1S l),.str s] K ⟨⟩↔K (.t (.int .i64 (e1U s l 0))):=by
 refine Ret.iff (Ret.of F117 rfl ?_)
 simp only[c8L]
 have e:(e1S l).length=l.length:=by simp [e1S]
 simp only[wA,seval,reduceCtorEq,reduceIte,e]
 refine e1W hl (nl:=nl) (s:=s) _ l 0 _ rfl (by simp only[wQ,Nat.reduceEqDiff,reduceIte]) ?_ ?_
 ·intro h fr'
  simp only[wA,seval,reduceCtorEq,reduceIte,h]
 ·intro fr' h
  simp only[wA,seval,reduceCtorEq,reduceIte,h]
theorem ok94 (nl:Bool) (l:List (List UInt8)) (hl:l.length≤281474976710656) (s:List UInt8) {K:PV→Prop}:XcP F gl 94 [.sl nl (e1S l),.str s] K ⟨⟩↔K (.t (.bool (l.contains s))):=by
 refine Ret.iff (Ret.of F94 rfl ?_)
 simp only[c7N]
 have a:=@e1X gl nl l hl s
 simp only[wA,seval,reduceCtorEq,reduceIte,a,e1V]
theorem e1Y (s:List UInt8) (hl:s.length≤281474976710656) {K:PV→Prop}:XcP F gl 68 [.str s] K ⟨⟩↔K (.t (.bool (d3S s))):=by
 refine Ret.iff (Ret.of F68 rfl ?_)
 simp only[c6H]
 cases s with
 |nil =>
  simp only[wA,seval,reduceCtorEq,reduceIte]
  rfl
 |cons c r =>
  have a26:=@e1M gl c
  have a27:=@e1R gl d0N 93 e1P (c::r) hl
  have a29:=@ok94 gl false keywords (by decide) (c::r)
  have e:d3S (c::r)=(decide ((c::r).length≤24)&&d0L c&&decide (d0P d0N (c::r)=(c::r).length)&&!keywords.contains (c::r)):=rfl
  generalize hs:c::r=s at *
  have h0:s[0]?=some c:=by rw[←hs];rfl
  have hne:¬s=[]:=by rw[←hs];simp
  by_cases g:(24:Int) < (s.length:Int)
  ·simp only[wA,seval,reduceCtorEq,reduceIte,g,hne]
   rw[e,g9L (by omega)];rfl
  ·rw[g9M (show s.length≤24 by omega)] at e
   cases hL:d0L c with
   |false =>
    rw[hL] at a26 e
    simp only[wA,seval,reduceCtorEq,reduceIte,g,hne,h0,a26]
    rw[e];rfl
   |true =>
    rw[hL] at a26 e
    by_cases q:((d0P d0N s:Nat):Int)=(s.length:Int)
    ·rw[g9M (show d0P d0N s=s.length by omega)] at e
     simp only[wA,seval,reduceCtorEq,reduceIte,g,hne,h0,a26,a27,q,e1T,a29,g5Y]
     rw[e];rfl
    ·rw[g9L (show ¬d0P d0N s=s.length by omega)] at e
     simp only[wA,seval,reduceCtorEq,reduceIte,g,hne,h0,a26,a27,q,g5Y,g5X]
     rw[e];rfl
end Go.Proofs.YtcbgiabippcpaaaGreatDoor

/- Contracts: a property of all elements. -/
namespace Go.Proofs.YtcbgiabippcpaaaGreatDoor
open Go.Pi Go.Lx Go.Ky
variable {gl:Nat→Option (List T)}
def Says (f:Nat) (x:T) (b:Bool):Prop:=∀ (sg:Sg) (ow:Ow),CallE F gl f [.t x] sg ow fun v sg' ow'=>v=.t (.bool b)∧Grow sg sg'∧ow'=ow
theorem e1Z {f:Nat} {p:Fu→Bool} {nl:Bool} {l:List Fu} (hl:l.length≤B47) (hp:∀ x,x∈l→Says (gl:=gl) f (.agg (tFu x)) (p x)) {sg0:Sg} {ow:Ow} (Q:Ex→S→Prop):∀ (r:List Fu) (i:Nat) (fr:List PV) (sg:Sg),l.drop i=r→Grow sg0 sg →
  b8Y fr [(1,.fn f []),(7,.t (.sl nl (l.map tFu))),(8,.t (.int .i64 l.length)),(9,.t (.int .i64 i))] →
  (r.all p=true→∀ fr' sg',Grow sg0 sg'→Q (.exit 0) ⟨fr',sg',ow⟩) →
  (r.all p=false→∀ fr' sg',Grow sg0 sg'→a0A fr' 4=.t (.bool false)→Q .ret ⟨fr',sg',ow⟩) →
  Xl F gl c6K ⟨fr,sg,ow⟩ Q ⟨⟩:=by
 intro r
 induction r with
 |nil =>
  intro i fr sg hd hg hf h1 h2
  have hd:=b8T hd
  simp only[b9A,b8Z] at hf
  obtain⟨f1,f7,f8,f9,-⟩:=hf
  refine Xl.step ?_
  simp only[c6K]
  have c1:¬((i:Int) < (l.length:Int)):=by omega
  simp only[wA,seval,reduceCtorEq,reduceIte,f1,f7,f8,f9,c1]
  exact h1 rfl _ _ hg
 |cons x r ih =>
  intro i fr sg hd hg hf h1 h2
  obtain⟨hx,hr,hi⟩:=b8S hd
  simp only[b9A,b8Z] at hf
  obtain⟨f1,f7,f8,f9,-⟩:=hf
  refine Xl.step ?_
  simp only[c6K]
  have c1:(i:Int) < (l.length:Int):=by omega
  have hw1:=d5C hi (show l.length≤281474976710656 by have:B47=140737488355328:=rfl;omega)
  have hc:=hp x (g8B hx)
  simp only[wA,seval,reduceCtorEq,reduceIte,f1,f7,f8,f9,c1,g7C,hx,g6D]
  refine CallE.mono (hc _ _) ?_
  rintro v sg' ow' ⟨rfl,hg',rfl⟩
  cases hq:p x with
  |true =>
   simp only[wA,seval,reduceCtorEq,reduceIte,f1,f7,f8,f9,hw1,hq]
   refine ih (i+1) _ _ hr (hg.trans ((Grow.app _ _).trans hg')) (by simp only[wQ,Nat.reduceEqDiff,reduceIte,f1,f7,f8]) (fun h=>h1 (by simpa [hq] using h)) (fun h=>h2 (by simpa [hq] using h))
  |false =>
   simp only[wA,seval,reduceCtorEq,reduceIte,f1,f7,f8,f9,hq]
   exact h2 (by simp [hq]) _ _ (hg.trans ((Grow.app _ _).trans hg')) (by simp only[wQ,Nat.reduceEqDiff,reduceIte])
theorem ok71 {f:Nat} {p:Fu→Bool} {nl:Bool} {l:List Fu} (hl:l.length≤B47) (hp:∀ x,x∈l→Says (gl:=gl) f (.agg (tFu x)) (p x)) (sg:Sg) (ow:Ow) :
  CallE F gl 71 [.t (.sl nl (l.map tFu)),.fn f []] sg ow fun v sg' ow'=>v=.t (.bool (l.all p))∧Grow sg sg'∧ow'=ow:=by
 refine XcE.of F71 rfl ?_
 simp only[c6L]
 simp only[wA,seval,reduceCtorEq,reduceIte,g7N]
 refine e1Z hl hp (sg0:=sg) _ l 0 _ _ rfl (Grow.refl _) (by simp only[wQ,Nat.reduceEqDiff,reduceIte];exact rfl) ?_ ?_
 ·intro h fr' sg' hg
  simp only[wA,seval,reduceCtorEq,reduceIte]
  exact⟨by rw[h],hg⟩
 ·intro h fr' sg' hg h4
  simp only[wA,seval,reduceCtorEq,reduceIte,h4]
  exact⟨by rw[h],hg⟩
theorem e2A {f:Nat} {p:De→Bool} {nl:Bool} {l:List De} (hl:l.length≤B47) (hp:∀ x,x∈l→Says (gl:=gl) f (.agg (tDe x)) (p x)) {sg0:Sg} {ow:Ow} (Q:Ex→S→Prop):∀ (r:List De) (i:Nat) (fr:List PV) (sg:Sg),l.drop i=r→Grow sg0 sg →
  b8Y fr [(1,.fn f []),(7,.t (.sl nl (l.map tDe))),(8,.t (.int .i64 l.length)),(9,.t (.int .i64 i))] →
  (r.all p=true→∀ fr' sg',Grow sg0 sg'→Q (.exit 0) ⟨fr',sg',ow⟩) →
  (r.all p=false→∀ fr' sg',Grow sg0 sg'→a0A fr' 4=.t (.bool false)→Q .ret ⟨fr',sg',ow⟩) →
  Xl F gl c6N ⟨fr,sg,ow⟩ Q ⟨⟩:=by
 intro r
 induction r with
 |nil =>
  intro i fr sg hd hg hf h1 h2
  have hd:=b8T hd
  simp only[b9A,b8Z] at hf
  obtain⟨f1,f7,f8,f9,-⟩:=hf
  refine Xl.step ?_
  simp only[c6N]
  have c1:¬((i:Int) < (l.length:Int)):=by omega
  simp only[wA,seval,reduceCtorEq,reduceIte,f1,f7,f8,f9,c1]
  exact h1 rfl _ _ hg
 |cons x r ih =>
  intro i fr sg hd hg hf h1 h2
  obtain⟨hx,hr,hi⟩:=b8S hd
  simp only[b9A,b8Z] at hf
  obtain⟨f1,f7,f8,f9,-⟩:=hf
  refine Xl.step ?_
  simp only[c6N]
  have c1:(i:Int) < (l.length:Int):=by omega
  have hw1:=d5C hi (show l.length≤281474976710656 by have:B47=140737488355328:=rfl;omega)
  have hc:=hp x (g8B hx)
  simp only[wA,seval,reduceCtorEq,reduceIte,f1,f7,f8,f9,c1,g7C,hx,g6D]
  refine CallE.mono (hc _ _) ?_
  rintro v sg' ow' ⟨rfl,hg',rfl⟩
  cases hq:p x with
  |true =>
   simp only[wA,seval,reduceCtorEq,reduceIte,f1,f7,f8,f9,hw1,hq]
   refine ih (i+1) _ _ hr (hg.trans ((Grow.app _ _).trans hg')) (by simp only[wQ,Nat.reduceEqDiff,reduceIte,f1,f7,f8]) (fun h=>h1 (by simpa [hq] using h)) (fun h=>h2 (by simpa [hq] using h))
  |false =>
   simp only[wA,seval,reduceCtorEq,reduceIte,f1,f7,f8,f9,hq]
   exact h2 (by simp [hq]) _ _ (hg.trans ((Grow.app _ _).trans hg')) (by simp only[wQ,Nat.reduceEqDiff,reduceIte])
theorem ok73 {f:Nat} {p:De→Bool} {nl:Bool} {l:List De} (hl:l.length≤B47) (hp:∀ x,x∈l→Says (gl:=gl) f (.agg (tDe x)) (p x)) (sg:Sg) (ow:Ow) :
  CallE F gl 73 [.t (.sl nl (l.map tDe)),.fn f []] sg ow fun v sg' ow'=>v=.t (.bool (l.all p))∧Grow sg sg'∧ow'=ow:=by
 refine XcE.of F73 rfl ?_
 simp only[c6O]
 simp only[wA,seval,reduceCtorEq,reduceIte,g7N]
 refine e2A hl hp (sg0:=sg) _ l 0 _ _ rfl (Grow.refl _) (by simp only[wQ,Nat.reduceEqDiff,reduceIte];exact rfl) ?_ ?_
 ·intro h fr' sg' hg
  simp only[wA,seval,reduceCtorEq,reduceIte]
  exact⟨by rw[h],hg⟩
 ·intro h fr' sg' hg h4
  simp only[wA,seval,reduceCtorEq,reduceIte,h4]
  exact⟨by rw[h],hg⟩
theorem e2B {f:Nat} {p:St→Bool} {nl:Bool} {l:List St} (hl:l.length≤B47) (hp:∀ x,x∈l→Says (gl:=gl) f (.agg (tSt x)) (p x)) {sg0:Sg} {ow:Ow} (Q:Ex→S→Prop):∀ (r:List St) (i:Nat) (fr:List PV) (sg:Sg),l.drop i=r→Grow sg0 sg →
  b8Y fr [(1,.fn f []),(7,.t (.sl nl (d2P l))),(8,.t (.int .i64 l.length)),(9,.t (.int .i64 i))] →
  (r.all p=true→∀ fr' sg',Grow sg0 sg'→Q (.exit 0) ⟨fr',sg',ow⟩) →
  (r.all p=false→∀ fr' sg',Grow sg0 sg'→a0A fr' 4=.t (.bool false)→Q .ret ⟨fr',sg',ow⟩) →
  Xl F gl c6Q ⟨fr,sg,ow⟩ Q ⟨⟩:=by
 intro r
 induction r with
 |nil =>
  intro i fr sg hd hg hf h1 h2
  have hd:=b8T hd
  simp only[b9A,b8Z] at hf
  obtain⟨f1,f7,f8,f9,-⟩:=hf
  refine Xl.step ?_
  simp only[c6Q]
  have c1:¬((i:Int) < (l.length:Int)):=by omega
  simp only[wA,seval,reduceCtorEq,reduceIte,f1,f7,f8,f9,c1]
  exact h1 rfl _ _ hg
 |cons x r ih =>
  intro i fr sg hd hg hf h1 h2
  obtain⟨hx,hr,hi⟩:=b8S hd
  simp only[b9A,b8Z] at hf
  obtain⟨f1,f7,f8,f9,-⟩:=hf
  refine Xl.step ?_
  simp only[c6Q]
  have c1:(i:Int) < (l.length:Int):=by omega
  have hw1:=d5C hi (show l.length≤281474976710656 by have:B47=140737488355328:=rfl;omega)
  have hc:=hp x (g8B hx)
  simp only[d2R] at hc
  simp only[wA,seval,reduceCtorEq,reduceIte,f1,f7,f8,f9,c1,d2T,hx,d2R,g6D]
  refine CallE.mono (hc _ _) ?_
  rintro v sg' ow' ⟨rfl,hg',rfl⟩
  cases hq:p x with
  |true =>
   simp only[wA,seval,reduceCtorEq,reduceIte,f1,f7,f8,f9,hw1,hq]
   refine ih (i+1) _ _ hr (hg.trans ((Grow.app _ _).trans hg')) (by simp only[wQ,Nat.reduceEqDiff,reduceIte,f1,f7,f8]) (fun h=>h1 (by simpa [hq] using h)) (fun h=>h2 (by simpa [hq] using h))
  |false =>
   simp only[wA,seval,reduceCtorEq,reduceIte,f1,f7,f8,f9,hq]
   exact h2 (by simp [hq]) _ _ (hg.trans ((Grow.app _ _).trans hg')) (by simp only[wQ,Nat.reduceEqDiff,reduceIte])
theorem e2C {f:Nat} {p:St→Bool} {nl:Bool} {l:List St} (hl:l.length≤B47) (hp:∀ x,x∈l→Says (gl:=gl) f (.agg (tSt x)) (p x)) (sg:Sg) (ow:Ow) :
  CallE F gl 75 [.t (.sl nl (d2P l)),.fn f []] sg ow fun v sg' ow'=>v=.t (.bool (l.all p))∧Grow sg sg'∧ow'=ow:=by
 refine XcE.of F75 rfl ?_
 simp only[c6R]
 simp only[wA,seval,reduceCtorEq,reduceIte,d2S]
 refine e2B hl hp (sg0:=sg) _ l 0 _ _ rfl (Grow.refl _) (by simp only[wQ,Nat.reduceEqDiff,reduceIte];exact rfl) ?_ ?_
 ·intro h fr' sg' hg
  simp only[wA,seval,reduceCtorEq,reduceIte]
  exact⟨by rw[h],hg⟩
 ·intro h fr' sg' hg h4
  simp only[wA,seval,reduceCtorEq,reduceIte,h4]
  exact⟨by rw[h],hg⟩
theorem e2D {f:Nat} {p:Pa→Bool} {nl:Bool} {l:List Pa} (hl:l.length≤B47) (hp:∀ x,x∈l→Says (gl:=gl) f (.agg (tPa x)) (p x)) {sg0:Sg} {ow:Ow} (Q:Ex→S→Prop):∀ (r:List Pa) (i:Nat) (fr:List PV) (sg:Sg),l.drop i=r→Grow sg0 sg →
  b8Y fr [(1,.fn f []),(7,.t (.sl nl (l.map tPa))),(8,.t (.int .i64 l.length)),(9,.t (.int .i64 i))] →
  (r.all p=true→∀ fr' sg',Grow sg0 sg'→Q (.exit 0) ⟨fr',sg',ow⟩) →
  (r.all p=false→∀ fr' sg',Grow sg0 sg'→a0A fr' 4=.t (.bool false)→Q .ret ⟨fr',sg',ow⟩) →
  Xl F gl c7T ⟨fr,sg,ow⟩ Q ⟨⟩:=by
 intro r
 induction r with
 |nil =>
  intro i fr sg hd hg hf h1 h2
  have hd:=b8T hd
  simp only[b9A,b8Z] at hf
  obtain⟨f1,f7,f8,f9,-⟩:=hf
  refine Xl.step ?_
  simp only[c7T]
  have c1:¬((i:Int) < (l.length:Int)):=by omega
  simp only[wA,seval,reduceCtorEq,reduceIte,f1,f7,f8,f9,c1]
  exact h1 rfl _ _ hg
 |cons x r ih =>
  intro i fr sg hd hg hf h1 h2
  obtain⟨hx,hr,hi⟩:=b8S hd
  simp only[b9A,b8Z] at hf
  obtain⟨f1,f7,f8,f9,-⟩:=hf
  refine Xl.step ?_
  simp only[c7T]
  have c1:(i:Int) < (l.length:Int):=by omega
  have hw1:=d5C hi (show l.length≤281474976710656 by have:B47=140737488355328:=rfl;omega)
  have hc:=hp x (g8B hx)
  simp only[wA,seval,reduceCtorEq,reduceIte,f1,f7,f8,f9,c1,g7C,hx,g6D]
  refine CallE.mono (hc _ _) ?_
  rintro v sg' ow' ⟨rfl,hg',rfl⟩
  cases hq:p x with
  |true =>
   simp only[wA,seval,reduceCtorEq,reduceIte,f1,f7,f8,f9,hw1,hq]
   refine ih (i+1) _ _ hr (hg.trans ((Grow.app _ _).trans hg')) (by simp only[wQ,Nat.reduceEqDiff,reduceIte,f1,f7,f8]) (fun h=>h1 (by simpa [hq] using h)) (fun h=>h2 (by simpa [hq] using h))
  |false =>
   simp only[wA,seval,reduceCtorEq,reduceIte,f1,f7,f8,f9,hq]
   exact h2 (by simp [hq]) _ _ (hg.trans ((Grow.app _ _).trans hg')) (by simp only[wQ,Nat.reduceEqDiff,reduceIte])
theorem ok99 {f:Nat} {p:Pa→Bool} {nl:Bool} {l:List Pa} (hl:l.length≤B47) (hp:∀ x,x∈l→Says (gl:=gl) f (.agg (tPa x)) (p x)) (sg:Sg) (ow:Ow) :
  CallE F gl 99 [.t (.sl nl (l.map tPa)),.fn f []] sg ow fun v sg' ow'=>v=.t (.bool (l.all p))∧Grow sg sg'∧ow'=ow:=by
 refine XcE.of F99 rfl ?_
 simp only[c7U]
 simp only[wA,seval,reduceCtorEq,reduceIte,g7N]
 refine e2D hl hp (sg0:=sg) _ l 0 _ _ rfl (Grow.refl _) (by simp only[wQ,Nat.reduceEqDiff,reduceIte];exact rfl) ?_ ?_
 ·intro h fr' sg' hg
  simp only[wA,seval,reduceCtorEq,reduceIte]
  exact⟨by rw[h],hg⟩
 ·intro h fr' sg' hg h4
  simp only[wA,seval,reduceCtorEq,reduceIte,h4]
  exact⟨by rw[h],hg⟩
theorem e2E {f:Nat} {p:Exp→Bool} {nl:Bool} {l:List Exp} (hl:l.length≤B47) (hp:∀ x,x∈l→Says (gl:=gl) f (.agg (tEx x)) (p x)) {sg0:Sg} {ow:Ow} (Q:Ex→S→Prop):∀ (r:List Exp) (i:Nat) (fr:List PV) (sg:Sg),l.drop i=r→Grow sg0 sg →
  b8Y fr [(1,.fn f []),(7,.t (.sl nl (d2K l))),(8,.t (.int .i64 l.length)),(9,.t (.int .i64 i))] →
  (r.all p=true→∀ fr' sg',Grow sg0 sg'→Q (.exit 0) ⟨fr',sg',ow⟩) →
  (r.all p=false→∀ fr' sg',Grow sg0 sg'→a0A fr' 4=.t (.bool false)→Q .ret ⟨fr',sg',ow⟩) →
  Xl F gl c6F ⟨fr,sg,ow⟩ Q ⟨⟩:=by
 intro r
 induction r with
 |nil =>
  intro i fr sg hd hg hf h1 h2
  have hd:=b8T hd
  simp only[b9A,b8Z] at hf
  obtain⟨f1,f7,f8,f9,-⟩:=hf
  refine Xl.step ?_
  simp only[c6F]
  have c1:¬((i:Int) < (l.length:Int)):=by omega
  simp only[wA,seval,reduceCtorEq,reduceIte,f1,f7,f8,f9,c1]
  exact h1 rfl _ _ hg
 |cons x r ih =>
  intro i fr sg hd hg hf h1 h2
  obtain⟨hx,hr,hi⟩:=b8S hd
  simp only[b9A,b8Z] at hf
  obtain⟨f1,f7,f8,f9,-⟩:=hf
  refine Xl.step ?_
  simp only[c6F]
  have c1:(i:Int) < (l.length:Int):=by omega
  have hw1:=d5C hi (show l.length≤281474976710656 by have:B47=140737488355328:=rfl;omega)
  have hc:=hp x (g8B hx)
  simp only[d2M] at hc
  simp only[wA,seval,reduceCtorEq,reduceIte,f1,f7,f8,f9,c1,d2O,hx,d2M,g6D]
  refine CallE.mono (hc _ _) ?_
  rintro v sg' ow' ⟨rfl,hg',rfl⟩
  cases hq:p x with
  |true =>
   simp only[wA,seval,reduceCtorEq,reduceIte,f1,f7,f8,f9,hw1,hq]
   refine ih (i+1) _ _ hr (hg.trans ((Grow.app _ _).trans hg')) (by simp only[wQ,Nat.reduceEqDiff,reduceIte,f1,f7,f8]) (fun h=>h1 (by simpa [hq] using h)) (fun h=>h2 (by simpa [hq] using h))
  |false =>
   simp only[wA,seval,reduceCtorEq,reduceIte,f1,f7,f8,f9,hq]
   exact h2 (by simp [hq]) _ _ (hg.trans ((Grow.app _ _).trans hg')) (by simp only[wQ,Nat.reduceEqDiff,reduceIte])
theorem ok67 {f:Nat} {p:Exp→Bool} {nl:Bool} {l:List Exp} (hl:l.length≤B47) (hp:∀ x,x∈l→Says (gl:=gl) f (.agg (tEx x)) (p x)) (sg:Sg) (ow:Ow) :
  CallE F gl 67 [.t (.sl nl (d2K l)),.fn f []] sg ow fun v sg' ow'=>v=.t (.bool (l.all p))∧Grow sg sg'∧ow'=ow:=by
 refine XcE.of F67 rfl ?_
 simp only[c6G]
 simp only[wA,seval,reduceCtorEq,reduceIte,d2N]
 refine e2E hl hp (sg0:=sg) _ l 0 _ _ rfl (Grow.refl _) (by simp only[wQ,Nat.reduceEqDiff,reduceIte];exact rfl) ?_ ?_
 ·intro h fr' sg' hg
  simp only[wA,seval,reduceCtorEq,reduceIte]
  exact⟨by rw[h],hg⟩
 ·intro h fr' sg' hg h4
  simp only[wA,seval,reduceCtorEq,reduceIte,h4]
  exact⟨by rw[h],hg⟩
end Go.Proofs.YtcbgiabippcpaaaGreatDoor

/- Contracts: valid types, expressions, statements. -/
namespace Go.Proofs.YtcbgiabippcpaaaGreatDoor
open Go.Pi Go.Lx Go.Ky
variable {gl:Nat→Option (List T)}
theorem Says.call {f:Nat} {x:T} {b:Bool} (h:Says (gl:=gl) f x b) {K:PV→Prop}:XcP F gl f [x] K ⟨⟩↔K (.t (.bool b)):=by
 refine CallP.iff ?_
 refine(h [] []).mono ?_
 rintro v sg ow ⟨rfl,_,_⟩
 rfl
theorem e2F (t:Ty):Says (gl:=gl) 101 (.agg (tTy t)) (tyB t):=by
 intro sg ow
 refine XcE.of F101 rfl ?_
 simp only[c7W]
 simp only[wA,seval,reduceCtorEq,reduceIte]
 repeat' ((with_reducible first|refine c3G ?_ ?_|refine c3H ?_ ?_|refine c3F ?_ ?_|refine c3E ?_ ?_|refine c3C ?_ ?_|refine c3D ?_ ?_|refine c3B ?_ ?_|refine c3A ?_ ?_) <;> intro h <;> (try simp only[wA,seval,reduceCtorEq,reduceIte,h]))
 all_goals (refine⟨?_,Grow.app _ _⟩;simp only[PV.t.injEq,T.bool.injEq];unfold tyB)
 all_goals simp_all
 all_goals omega
theorem e2G (s:St):Says (gl:=gl) 102 (.agg (tSt s)) (d3Y s):=by
 intro sg ow
 refine XcE.of F102 rfl ?_
 simp only[c7X,d2R]
 simp only[wA,seval,reduceCtorEq,reduceIte]
 repeat' ((with_reducible first|refine c3G ?_ ?_|refine c3H ?_ ?_|refine c3F ?_ ?_|refine c3E ?_ ?_|refine c3C ?_ ?_|refine c3D ?_ ?_|refine c3B ?_ ?_|refine c3A ?_ ?_) <;> intro h <;> (try simp only[wA,seval,reduceCtorEq,reduceIte,h]))
 all_goals (refine⟨?_,Grow.app _ _⟩;simp only[PV.t.injEq,T.bool.injEq];unfold d3Y)
 all_goals simp_all [zTy,d5B]
 all_goals exact decide_eq_decide.2 g6B
theorem e2H (n:Int):Says (gl:=gl) 104 (.int .i64 n) (d3X n):=by
 intro sg ow
 refine XcE.of F104 rfl ?_
 simp only[c7Z]
 simp only[wA,seval,reduceCtorEq,reduceIte]
 repeat' ((with_reducible first|refine c3G ?_ ?_|refine c3H ?_ ?_|refine c3F ?_ ?_|refine c3E ?_ ?_|refine c3C ?_ ?_|refine c3D ?_ ?_|refine c3B ?_ ?_|refine c3A ?_ ?_) <;> intro h <;> (try simp only[wA,seval,reduceCtorEq,reduceIte,h]))
 all_goals (refine⟨?_,Grow.refl _⟩;simp only[PV.t.injEq,T.bool.injEq];unfold d3X)
 all_goals simp_all
 all_goals omega
theorem e2I (e:Exp):Says (gl:=gl) 103 (.agg (tEx e)) (d3W e):=by
 intro sg ow
 refine XcE.of F103 rfl ?_
 simp only[c7Y,d2M]
 simp only[wA,seval,reduceCtorEq,reduceIte,d2N]
 repeat' ((with_reducible first|refine c3G ?_ ?_|refine c3H ?_ ?_|refine c3F ?_ ?_|refine c3E ?_ ?_|refine c3C ?_ ?_|refine c3D ?_ ?_|refine c3B ?_ ?_|refine c3A ?_ ?_) <;> intro h <;> (try simp only[wA,seval,reduceCtorEq,reduceIte,d2N,h]))
 all_goals (refine⟨?_,Grow.app _ _⟩;simp only[PV.t.injEq,T.bool.injEq];unfold d3W)
 all_goals simp_all
theorem e2J (p:Pa) (h:d2V p):Says (gl:=gl) 100 (.agg (tPa p)) (paB p):=by
 intro sg ow
 have hn:=@e1Y gl p.name (by have:=h.1;have:B47=140737488355328:=rfl;omega)
 refine XcE.of F100 rfl ?_
 simp only[c7V]
 simp only[wA,seval,reduceCtorEq,reduceIte,hn,(e2F p.ty).call]
 repeat' ((with_reducible first|refine c3G ?_ ?_|refine c3H ?_ ?_|refine c3F ?_ ?_|refine c3E ?_ ?_|refine c3C ?_ ?_|refine c3D ?_ ?_|refine c3B ?_ ?_|refine c3A ?_ ?_) <;> intro h <;> (try simp only[wA,seval,reduceCtorEq,reduceIte,hn,(e2F p.ty).call,h]))
 all_goals (refine⟨?_,Grow.app _ _⟩;simp only[PV.t.injEq,T.bool.injEq];unfold paB)
 all_goals simp_all
theorem sy74 (p:De) (h:d2W p):Says (gl:=gl) 74 (.agg (tDe p)) (deB p):=by
 intro sg ow
 have hn:=@e1Y gl p.name (by have:=h.1;have:B47=140737488355328:=rfl;omega)
 refine XcE.of F74 rfl ?_
 simp only[c6P]
 simp only[wA,seval,reduceCtorEq,reduceIte,hn,(e2F p.ty).call]
 repeat' ((with_reducible first|refine c3G ?_ ?_|refine c3H ?_ ?_|refine c3F ?_ ?_|refine c3E ?_ ?_|refine c3C ?_ ?_|refine c3D ?_ ?_|refine c3B ?_ ?_|refine c3A ?_ ?_) <;> intro h <;> (try simp only[wA,seval,reduceCtorEq,reduceIte,hn,(e2F p.ty).call,h]))
 all_goals (refine⟨?_,Grow.app _ _⟩;simp only[PV.t.injEq,T.bool.injEq];unfold deB)
 all_goals simp_all
end Go.Proofs.YtcbgiabippcpaaaGreatDoor

/- Contracts: valid expressions, statements, functions; depths. -/
namespace Go.Proofs.YtcbgiabippcpaaaGreatDoor
open Go.Pi Go.Lx Go.Ky
variable {gl:Nat→Option (List T)}
set_option maxHeartbeats 1000000 in
theorem sy35:∀ e:Exp,ExpOk e→Says (gl:=gl) 35 (.agg (tEx e)) (exB e):=by
 refine Exp.ind fun e ih ho sg ow=>?_
 cases ho with|mk _ h1 h2 h3 h4 h5 h =>
 have hn:=@e1Y gl e.name (by have:B47=140737488355328:=rfl;omega)
 refine XcE.of F35 rfl ?_
 simp only[c4Z,d2M]
 simp only[wA,seval,reduceCtorEq,reduceIte]
 refine CallE.mono (ok67 h4 (fun x hx=>ih x hx (h x hx)) _ _) ?_
 rintro v sg' ow' ⟨rfl,⟨r,rfl⟩,rfl⟩
 have hle:(1≤(e.args.length:Int))↔(0 < e.args.length):=by omega
 rw[d3V]
 unfold opB
 cases hall:e.args.all exB with
 |false =>
  simp only[wA,seval,reduceCtorEq,reduceIte,hall]
  exact⟨by simp,Grow.app _ _⟩
 |true =>
  simp only[wA,seval,reduceCtorEq,reduceIte,hall,d2N,hn]
  repeat' ((with_reducible first|refine c3G ?_ ?_|refine c3H ?_ ?_|refine c3F ?_ ?_|refine c3E ?_ ?_|refine c3C ?_ ?_|refine c3D ?_ ?_|refine c3B ?_ ?_|refine c3A ?_ ?_) <;> intro h <;> (try simp only[wA,seval,reduceCtorEq,reduceIte,hall,d2N,hn,h]))
  all_goals (refine⟨?_,Grow.app _ _⟩;simp only[PV.t.injEq,T.bool.injEq,g6A])
  all_goals simp_all
end Go.Proofs.YtcbgiabippcpaaaGreatDoor

/- Contracts: valid statements, functions; depths; Valid. -/
namespace Go.Proofs.YtcbgiabippcpaaaGreatDoor
open Go.Pi Go.Lx Go.Ky
variable {gl:Nat→Option (List T)}
set_option maxHeartbeats 1000000 in
theorem sy76:∀ s:St,StOk s→Says (gl:=gl) 76 (.agg (tSt s)) (stB s):=by
 refine St.ind fun s ih ho sg ow=>?_
 cases ho with|mk _ h1 h2 h3 h4 h5 h6 h7 h8 h =>
 have hn:=@e1Y gl s.name (by have:B47=140737488355328:=rfl;omega)
 have hE:=fun K=>(sy35 (gl:=gl) s.ex h4).call (K:=K)
 have hM:=fun K=>(e2I (gl:=gl) s.ex).call (K:=K)
 have hU:=fun K=>(e2G (gl:=gl) s).call (K:=K)
 have hL:=fun n K=>(e2H (gl:=gl) n).call (K:=K)
 have hT:=fun K=>(e2F (gl:=gl) s.ty).call (K:=K)
 have hev:=fun sg'=>CallE.mono (K':=fun v sg2 ow2=>v=.t (.bool (s.body.all stB))∧Grow sg' sg2∧ow2=ow) (e2C (gl:=gl) (nl:=s.nl) h7 (fun x hx=>ih x hx (h x hx)) sg' ow) (fun _ _ _ h=>h)
 refine XcE.of F76 rfl ?_
 rw[d4B]
 simp only[d2M] at hE hM
 simp only[d2R] at hU
 simp only[c6S,d2R]
 by_cases k1:s.kind=1
 ·simp only[k1] at hU ⊢
  simp only[wA,seval,reduceCtorEq,reduceIte,hn,hE,hM,hU,hL,hT,d2S,d5B]
  repeat' ((with_reducible first|refine c3G ?_ ?_|refine c3H ?_ ?_|refine c3F ?_ ?_|refine c3E ?_ ?_|refine c3C ?_ ?_|refine c3D ?_ ?_|refine c3B ?_ ?_|refine c3A ?_ ?_) <;> intro h <;> (try simp only[wA,seval,reduceCtorEq,reduceIte,hn,hE,hM,hU,hL,hT,d2S,d5B,h]))
  all_goals (refine⟨?_,Grow.app _ _⟩;simp only[PV.t.injEq,T.bool.injEq])
  all_goals simp_all [zTy]
 ·by_cases k2:s.kind=2
  ·simp only[k2] at hU ⊢
   simp only[wA,seval,reduceCtorEq,reduceIte,hn,hE,hM,hU,hL,hT,d2S,d5B]
   repeat' ((with_reducible first|refine c3G ?_ ?_|refine c3H ?_ ?_|refine c3F ?_ ?_|refine c3E ?_ ?_|refine c3C ?_ ?_|refine c3D ?_ ?_|refine c3B ?_ ?_|refine c3A ?_ ?_) <;> intro h <;> (try simp only[wA,seval,reduceCtorEq,reduceIte,hn,hE,hM,hU,hL,hT,d2S,d5B,h]))
   all_goals (refine⟨?_,Grow.app _ _⟩;simp only[PV.t.injEq,T.bool.injEq])
   all_goals simp_all [zTy]
  ·by_cases k3:s.kind=3
   ·simp only[k3] at hU ⊢
    simp only[wA,seval,reduceCtorEq,reduceIte,hn,hE,hM,hU,hL,hT,d2S,d5B]
    repeat' ((with_reducible first|refine c3G ?_ ?_|refine c3H ?_ ?_|refine c3F ?_ ?_|refine c3E ?_ ?_|refine c3C ?_ ?_|refine c3D ?_ ?_|refine c3B ?_ ?_|refine c3A ?_ ?_) <;> intro h <;> (try simp only[wA,seval,reduceCtorEq,reduceIte,hn,hE,hM,hU,hL,hT,d2S,d5B,h]))
    any_goals (refine CallE.mono (hev _) ?_;rintro v sg' ow' ⟨rfl,⟨r,rfl⟩,rfl⟩;((simp only[wA,seval,reduceCtorEq,reduceIte]);(repeat' ((with_reducible first|refine c3G ?_ ?_|refine c3H ?_ ?_|refine c3F ?_ ?_|refine c3E ?_ ?_|refine c3C ?_ ?_|refine c3D ?_ ?_|refine c3B ?_ ?_|refine c3A ?_ ?_) <;> intro h <;> (try simp only[wA,seval,reduceCtorEq,reduceIte,h])))))
    all_goals (refine⟨?_,Grow.app _ _⟩;simp only[PV.t.injEq,T.bool.injEq])
    all_goals simp_all [zTy]
   ·simp only[wA,seval,reduceCtorEq,reduceIte,hn,hE,hM,hU,hL,hT,d2S,d5B,k1,k2,k3]
    repeat' ((with_reducible first|refine c3G ?_ ?_|refine c3H ?_ ?_|refine c3F ?_ ?_|refine c3E ?_ ?_|refine c3C ?_ ?_|refine c3D ?_ ?_|refine c3B ?_ ?_|refine c3A ?_ ?_) <;> intro h <;> (try simp only[wA,seval,reduceCtorEq,reduceIte,hn,hE,hM,hU,hL,hT,d2S,d5B,k1,k2,k3,h]))
    all_goals exact Grow.app _ _
theorem sy72 (f:Fu) (ho:FuOk f):Says (gl:=gl) 72 (.agg (tFu f)) (fuB f):=by
 intro sg ow
 have hn:=@e1Y gl f.name (by have:=ho.name;have:B47=140737488355328:=rfl;omega)
 have hE:=fun K=>(sy35 (gl:=gl) f.ret ho.ret).call (K:=K)
 have hT:=fun K=>(e2F (gl:=gl) f.res).call (K:=K)
 have hp:=fun sg'=>ok99 (gl:=gl) (nl:=f.pnl) ho.pl (fun x hx=>e2J x (ho.pa x hx)) sg' ow
 have hb:=fun sg'=>e2C (gl:=gl) (nl:=f.bnl) ho.bl (fun x hx=>sy76 x (ho.bo x hx)) sg' ow
 refine XcE.of F72 rfl ?_
 simp only[d2M] at hE
 simp only[c6M]
 unfold fuB
 simp only[wA,seval,reduceCtorEq,reduceIte,hn,hE,hT]
 repeat' ((with_reducible first|refine c3G ?_ ?_|refine c3H ?_ ?_|refine c3F ?_ ?_|refine c3E ?_ ?_|refine c3C ?_ ?_|refine c3D ?_ ?_|refine c3B ?_ ?_|refine c3A ?_ ?_) <;> intro h <;> (try simp only[wA,seval,reduceCtorEq,reduceIte,hn,hE,hT,h]))
 any_goals (refine CallE.mono (hp _) ?_;rintro v sg' ow' ⟨rfl,⟨r,rfl⟩,rfl⟩;((simp only[wA,seval,reduceCtorEq,reduceIte,hn,hE,hT]);(repeat' ((with_reducible first|refine c3G ?_ ?_|refine c3H ?_ ?_|refine c3F ?_ ?_|refine c3E ?_ ?_|refine c3C ?_ ?_|refine c3D ?_ ?_|refine c3B ?_ ?_|refine c3A ?_ ?_) <;> intro h <;> (try simp only[wA,seval,reduceCtorEq,reduceIte,hn,hE,hT,h])))))
 any_goals (refine CallE.mono (hb _) ?_;rintro v sg' ow' ⟨rfl,⟨r2,rfl⟩,rfl⟩;((simp only[wA,seval,reduceCtorEq,reduceIte,hn,hE,hT]);(repeat' ((with_reducible first|refine c3G ?_ ?_|refine c3H ?_ ?_|refine c3F ?_ ?_|refine c3E ?_ ?_|refine c3C ?_ ?_|refine c3D ?_ ?_|refine c3B ?_ ?_|refine c3A ?_ ?_) <;> intro h <;> (try simp only[wA,seval,reduceCtorEq,reduceIte,hn,hE,hT,h])))))
 all_goals (refine⟨?_,by first|exact Grow.app _ _|(simp only[g6H,g6L];exact Grow.app _ _)⟩;simp only[PV.t.injEq,T.bool.injEq])
 all_goals simp_all
theorem e2K (a b:Nat):(if (b:Int) > (a:Int) then (b:Int) else (a:Int))=((max a b:Nat):Int):=by
 split <;> omega
theorem e2L {l:List Exp} {nl:Bool} (hs:d3H l≤B20) (hd:∀ x,x∈l→∀ K,XcP F gl 34 [.agg (tEx x)] K ⟨⟩↔K (.t (.int .i64 (dEx x:Nat)))) {ow:Ow} (Q:Ex→S→Prop):∀ (r:List Exp) (i acc:Nat) (fr:List PV) (sg:Sg),l.drop i=r →
  b8Y fr [(3,.t (.int .i64 (acc:Nat))),(7,.t (.sl nl (d2K l))),(8,.t (.int .i64 l.length)),(9,.t (.int .i64 i))] →
  (∀ fr' sg',a0A fr' 3=.t (.int .i64 ((max acc (d4C r):Nat):Int))→Q (.exit 0) ⟨fr',sg',ow⟩) →
  Xl F gl c4X ⟨fr,sg,ow⟩ Q ⟨⟩:=by
 intro r
 induction r with
 |nil =>
  intro i acc fr sg hdr hf h1
  have hdr:=b8T hdr
  simp only[b9A,b8Z] at hf
  obtain⟨f3,f7,f8,f9,-⟩:=hf
  refine Xl.step ?_
  simp only[c4X]
  have c1:¬((i:Int) < (l.length:Int)):=by omega
  simp only[wA,seval,reduceCtorEq,reduceIte,f3,f7,f8,f9,c1]
  refine h1 _ _ ?_
  simp only[wQ,Nat.reduceEqDiff,reduceIte,f3,d4C,Nat.max_zero]
 |cons x r ih =>
  intro i acc fr sg hdr hf h1
  obtain⟨hx,hr,hi⟩:=b8S hdr
  simp only[b9A,b8Z] at hf
  obtain⟨f3,f7,f8,f9,-⟩:=hf
  refine Xl.step ?_
  simp only[c4X]
  have c1:(i:Int) < (l.length:Int):=by omega
  have hll:=d3P l
  have hw1:=d5C hi (show l.length≤281474976710656 by have:B20=1100000:=rfl;omega)
  have hc:=hd x (g8B hx)
  simp only[d2M] at hc
  simp only[wA,seval,reduceCtorEq,reduceIte,f3,f7,f8,f9,c1,hw1,d2O,hx,d2M,g6D,hc,mxT,e2K]
  refine ih (i+1) (max acc (dEx x)) _ _ hr (by simp only[wQ,Nat.reduceEqDiff,reduceIte,f7,f8]) fun fr' sg' h=>h1 fr' sg' ?_
  rw[h,d4C,Nat.max_assoc]
theorem e2M:∀ e:Exp,szE e≤B20→∀ K,XcP F gl 34 [.agg (tEx e)] K ⟨⟩↔K (.t (.int .i64 (dEx e:Nat))):=by
 refine Exp.ind fun e ih hs K=>?_
 refine Ret.iff (Ret.of F34 rfl ?_)
 have hse:=d3J e
 have hdl:=d4G e
 have hsl:d3H e.args≤B20:=by omega
 simp only[c4Y,d2M]
 simp only[wA,seval,reduceCtorEq,reduceIte,d2N]
 refine e2L hsl (fun x hx=>ih x hx (g8T (d3N hx) hsl)) _ e.args 0 0 _ _ rfl (by simp only[wQ,Nat.reduceEqDiff,reduceIte];first|done|exact⟨rfl,rfl⟩|exact rfl) fun fr' sg' h=>?_
 have hw:IntKind.wrap .i64 (((max 0 (d4C e.args):Nat):Int)+1)=((dEx e:Nat):Int):=by
  have:=d4E e
  rw[IntWalk.i64_in _ (by have:B20=1100000:=rfl;omega)]
  omega
 simp only[wA,seval,reduceCtorEq,reduceIte,h,hw]
end Go.Proofs.YtcbgiabippcpaaaGreatDoor

/- Contracts: depths of statements; Valid. -/
namespace Go.Proofs.YtcbgiabippcpaaaGreatDoor
open Go.Pi Go.Lx Go.Ky
variable {gl:Nat→Option (List T)}
theorem e2N {l:List St} {nl:Bool} (hs:d3I l≤B20) (hd:∀ x,x∈l→∀ K,XcP F gl 105 [.agg (tSt x)] K ⟨⟩↔K (.t (.int .i64 (dSt x:Nat)))) {ow:Ow} (Q:Ex→S→Prop):∀ (r:List St) (i acc:Nat) (fr:List PV) (sg:Sg),l.drop i=r →
  b8Y fr [(3,.t (.int .i64 (acc:Nat))),(7,.t (.sl nl (d2P l))),(8,.t (.int .i64 l.length)),(9,.t (.int .i64 i))] →
  (∀ fr' sg',a0A fr' 3=.t (.int .i64 ((max acc (d4D r):Nat):Int))→Q (.exit 0) ⟨fr',sg',ow⟩) →
  Xl F gl c8A ⟨fr,sg,ow⟩ Q ⟨⟩:=by
 intro r
 induction r with
 |nil =>
  intro i acc fr sg hdr hf h1
  have hdr:=b8T hdr
  simp only[b9A,b8Z] at hf
  obtain⟨f3,f7,f8,f9,-⟩:=hf
  refine Xl.step ?_
  simp only[c8A]
  have c1:¬((i:Int) < (l.length:Int)):=by omega
  simp only[wA,seval,reduceCtorEq,reduceIte,f3,f7,f8,f9,c1]
  refine h1 _ _ ?_
  simp only[wQ,Nat.reduceEqDiff,reduceIte,f3,d4D,Nat.max_zero]
 |cons x r ih =>
  intro i acc fr sg hdr hf h1
  obtain⟨hx,hr,hi⟩:=b8S hdr
  simp only[b9A,b8Z] at hf
  obtain⟨f3,f7,f8,f9,-⟩:=hf
  refine Xl.step ?_
  simp only[c8A]
  have c1:(i:Int) < (l.length:Int):=by omega
  have hll:=d3Q l
  have hw1:=d5C hi (show l.length≤281474976710656 by have:B20=1100000:=rfl;omega)
  have hc:=hd x (g8B hx)
  simp only[d2R] at hc
  simp only[wA,seval,reduceCtorEq,reduceIte,f3,f7,f8,f9,c1,hw1,d2T,hx,d2R,g6D,hc,mxT,e2K]
  refine ih (i+1) (max acc (dSt x)) _ _ hr (by simp only[wQ,Nat.reduceEqDiff,reduceIte,f7,f8]) fun fr' sg' h=>h1 fr' sg' ?_
  rw[h,d4D,Nat.max_assoc]
theorem e2O:∀ e:St,szS e≤B20→∀ K,XcP F gl 105 [.agg (tSt e)] K ⟨⟩↔K (.t (.int .i64 (dSt e:Nat))):=by
 refine St.ind fun e ih hs K=>?_
 refine Ret.iff (Ret.of F105 rfl ?_)
 have hse:=d3L e
 have hdl:=d4H e
 have hsl:d3I e.body≤B20:=by omega
 simp only[c8B,d2R]
 simp only[wA,seval,reduceCtorEq,reduceIte,d2S]
 refine e2N hsl (fun x hx=>ih x hx (g8T (d3O hx) hsl)) _ e.body 0 0 _ _ rfl (by simp only[wQ,Nat.reduceEqDiff,reduceIte];first|done|exact⟨rfl,rfl⟩|exact rfl) fun fr' sg' h=>?_
 have hw:IntKind.wrap .i64 (((max 0 (d4D e.body):Nat):Int)+1)=((dSt e:Nat):Int):=by
  have:=d4F e
  rw[IntWalk.i64_in _ (by have:B20=1100000:=rfl;omega)]
  omega
 simp only[wA,seval,reduceCtorEq,reduceIte,h,hw]
theorem sy36 (e:Exp) (hs:szE e≤B20):Says (gl:=gl) 36 (.agg (tEx e)) (shE e):=by
 intro sg ow
 have hd:=e2M (gl:=gl) e hs
 simp only[d2M] at hd
 refine XcE.of F36 rfl ?_
 simp only[c5A,d2M]
 simp only[wA,seval,reduceCtorEq,reduceIte,hd]
 exact⟨rfl,Grow.app _ _⟩
theorem sy78:∀ s:St,StOk s→szS s≤B20→Says (gl:=gl) 78 (.agg (tSt s)) (shS s):=by
 refine St.ind fun s ih ho hs sg ow=>?_
 have hse:=d3L s
 have hex:=d3R s
 cases ho with|mk _ h1 h2 h3 h4 h5 h6 h7 h8 h =>
 have hd:=e2O (gl:=gl) s hs
 have hE:=fun K=>(sy36 (gl:=gl) s.ex (by omega)).call (K:=K)
 have hev:=fun sg'=>e2C (gl:=gl) (nl:=s.nl) h7 (fun x hx=>ih x hx (h x hx) (by have:=d3O hx;omega)) sg' ow
 simp only[d2R] at hd
 simp only[d2M] at hE
 refine XcE.of F78 rfl ?_
 rw[d4K]
 simp only[c6U,d2R]
 simp only[wA,seval,reduceCtorEq,reduceIte,hd,hE]
 repeat' ((with_reducible first|refine c3G ?_ ?_|refine c3H ?_ ?_|refine c3F ?_ ?_|refine c3E ?_ ?_|refine c3C ?_ ?_|refine c3D ?_ ?_|refine c3B ?_ ?_|refine c3A ?_ ?_) <;> intro h <;> (try simp only[wA,seval,reduceCtorEq,reduceIte,hd,hE,h]))
 any_goals (refine CallE.mono (hev _) ?_;rintro v sg' ow' ⟨rfl,⟨r,rfl⟩,rfl⟩;((simp only[wA,seval,reduceCtorEq,reduceIte]);(repeat' ((with_reducible first|refine c3G ?_ ?_|refine c3H ?_ ?_|refine c3F ?_ ?_|refine c3E ?_ ?_|refine c3C ?_ ?_|refine c3D ?_ ?_|refine c3B ?_ ?_|refine c3A ?_ ?_) <;> intro h <;> (try simp only[wA,seval,reduceCtorEq,reduceIte,h])))))
 all_goals (refine⟨?_,Grow.app _ _⟩;simp only[PV.t.injEq,T.bool.injEq])
 all_goals simp_all
theorem sy77 (f:Fu) (ho:FuOk f) (hb:d3I f.body≤B20) (he:szE f.ret≤B20):Says (gl:=gl) 77 (.agg (tFu f)) (shF f):=by
 intro sg ow
 have hE:=fun K=>(sy36 (gl:=gl) f.ret he).call (K:=K)
 have hev:=fun sg'=>e2C (gl:=gl) (nl:=f.bnl) ho.bl (fun x hx=>sy78 x (ho.bo x hx) (by have:=d3O hx;omega)) sg' ow
 simp only[d2M] at hE
 refine XcE.of F77 rfl ?_
 simp only[c6T]
 unfold shF
 simp only[wA,seval,reduceCtorEq,reduceIte,hE]
 refine CallE.mono (hev _) ?_
 rintro v sg' ow' ⟨rfl,⟨r,rfl⟩,rfl⟩
 cases c:f.body.all shS with
 |false =>
  simp only[wA,seval,reduceCtorEq,reduceIte,hE,c,Bool.false_and]
  exact Grow.app _ _
 |true =>
  simp only[wA,seval,reduceCtorEq,reduceIte,hE,c,g6A]
  exact Grow.app _ _
structure PgSz (p:Pg):Prop where
 fu:∀ f,f∈p.funcs→d3I f.body≤B20∧szE f.ret≤B20
 bo:d3I p.body≤B20
set_option maxHeartbeats 1000000 in
theorem ok42 (p:Pg) (ho:PgOk p) (hs:PgSz p) {K:PV→Prop}:XcP F gl 42 [.agg (tPg p)] K ⟨⟩↔K (.t (.int .i64 (d4L p))):=by
 refine Ret.iff (Ret.of F42 rfl ?_)
 have h1:=fun sg' ow=>ok71 (gl:=gl) (nl:=p.fnl) ho.fl (fun x hx=>sy72 x (ho.fo x hx)) sg' ow
 have h2:=fun sg' ow=>ok73 (gl:=gl) (nl:=p.dnl) ho.dl (fun x hx=>sy74 x (ho.dok x hx)) sg' ow
 have h3:=fun sg' ow=>e2C (gl:=gl) (nl:=p.bnl) ho.bl (fun x hx=>sy76 x (ho.bo x hx)) sg' ow
 have h4:=fun sg' ow=>ok71 (gl:=gl) (nl:=p.fnl) ho.fl (fun x hx=>sy77 x (ho.fo x hx) (hs.fu x hx).1 (hs.fu x hx).2) sg' ow
 have h5:=fun sg' ow=>e2C (gl:=gl) (nl:=p.bnl) ho.bl (fun x hx=>sy78 x (ho.bo x hx) (by have:=d3O hx;have:=hs.bo;omega)) sg' ow
 simp only[c5H]
 unfold d4L
 simp only[wA,seval,reduceCtorEq,reduceIte]
 refine CallE.mono (h1 _ _) ?_
 rintro v sg' ow' ⟨rfl,⟨r1,rfl⟩,rfl⟩
 have done:∀ (sg:Sg) (a:Int),True:=fun _ _=>trivial
 cases c1:p.funcs.all fuB with
 |false =>
  simp only[wA,seval,reduceCtorEq,reduceIte,c1,Bool.false_and]
 |true =>
  simp only[wA,seval,reduceCtorEq,reduceIte,c1,g6A]
  refine CallE.mono (h2 _ _) ?_
  rintro v sg' ow' ⟨rfl,⟨r2,rfl⟩,rfl⟩
  cases c2:p.decls.all deB with
  |false =>
   simp only[wA,seval,reduceCtorEq,reduceIte,c2,Bool.false_and]
  |true =>
   simp only[wA,seval,reduceCtorEq,reduceIte,c2,g6A]
   refine CallE.mono (h3 _ _) ?_
   rintro v sg' ow' ⟨rfl,⟨r3,rfl⟩,rfl⟩
   cases c3:p.body.all stB with
   |false =>
    simp only[wA,seval,reduceCtorEq,reduceIte,c3]
   |true =>
    simp only[wA,seval,reduceCtorEq,reduceIte,c3]
    refine CallE.mono (h4 _ _) ?_
    rintro v sg' ow' ⟨rfl,⟨r4,rfl⟩,rfl⟩
    cases c4:p.funcs.all shF with
    |false =>
     simp only[wA,seval,reduceCtorEq,reduceIte,c4,Bool.false_and]
    |true =>
     simp only[wA,seval,reduceCtorEq,reduceIte,c4,g6A]
     refine CallE.mono (h5 _ _) ?_
     rintro v sg' ow' ⟨rfl,⟨r5,rfl⟩,rfl⟩
     cases c5:p.body.all shS with
     |false =>
      simp only[wA,seval,reduceCtorEq,reduceIte,c5]
     |true =>
      simp only[wA,seval,reduceCtorEq,reduceIte,c5]
end Go.Proofs.YtcbgiabippcpaaaGreatDoor

/- The reference's Same: a program is the same as itself. -/
namespace Go.Proofs.YtcbgiabippcpaaaGreatDoor
open Go.Pi Go.Lx Go.Ky
variable {gl:Nat→Option (List T)}
abbrev eL (e:Exp):List T:=[.int .i64 e.op,.int .u64 e.val,.str e.name,.sl e.nl (d2K e.args)]
end Go.Proofs.YtcbgiabippcpaaaGreatDoor
