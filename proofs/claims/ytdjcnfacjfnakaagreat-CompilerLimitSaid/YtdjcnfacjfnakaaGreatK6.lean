/- Contracts: names. -/
import Derived.Test.YtdjcnfacjfnakaaGreatIrA
import Derived.Test.YtdjcnfacjfnakaaGreatKx19
import Derived.Test.YtdjcnfacjfnakaaGreatKx19
set_option maxRecDepth 10000
set_option linter.unusedVariables false
set_option linter.unusedSimpArgs false
namespace Go.Proofs.YtdjcnfacjfnakaaGreat
open Go.Pi Go.Lx Go.Ky
variable {gl:Nat→Option (List T)}
abbrev tB (c:UInt8):T:=.int .u8 (c.toNat:Int)
theorem d8N {a c:UInt8}:a≤c↔((a.toNat:Int)≤(c.toNat:Int)):=by rw[UInt8.le_iff_toNat_le];omega
theorem d8O (c:UInt8):d1Q c=(decide ((97:Int)≤(c.toNat:Int))&&decide ((c.toNat:Int)≤122)):=by
 unfold d1Q
 congr 1 <;> (congr 1;exact propext d8N)
theorem d8P (c:UInt8):d1R c=(decide ((48:Int)≤(c.toNat:Int))&&decide ((c.toNat:Int)≤57)):=by
 unfold d1R
 congr 1 <;> (congr 1;exact propext d8N)
theorem d8Q {c:UInt8} {n:Nat} (hn:n < 256):(c=UInt8.ofNat n)↔((c.toNat:Int)=(n:Int)):=by
 constructor
 ·intro h;subst h;rw[UInt8.toNat_ofNat'];omega
 ·intro h
  apply UInt8.toNat_inj.1
  rw[UInt8.toNat_ofNat'];omega
theorem d8R (c:UInt8) {K:PV→Prop}:XcP F gl 178 [tB c] K ⟨⟩↔K (.t (.bool (d1Q c))):=by
 refine Ret.iff (Ret.of F178 rfl ?_)
 simp only[c9L]
 simp only[wA,seval,reduceCtorEq,reduceIte]
 repeat' ((with_reducible first|refine c4A ?_ ?_|refine c4B ?_ ?_|refine c3Z ?_ ?_|refine c3Y ?_ ?_|refine c3W ?_ ?_|refine c3X ?_ ?_|refine c3V ?_ ?_|refine c3U ?_ ?_) <;> intro h <;> (try simp only[wA,seval,reduceCtorEq,reduceIte,h]))
 all_goals (simp_all [d8O] <;> omega)
theorem d8S (c:UInt8) {K:PV→Prop}:XcP F gl 206 [tB c] K ⟨⟩↔K (.t (.bool (d1R c))):=by
 refine Ret.iff (Ret.of F206 rfl ?_)
 simp only[d0V]
 simp only[wA,seval,reduceCtorEq,reduceIte]
 repeat' ((with_reducible first|refine c4A ?_ ?_|refine c4B ?_ ?_|refine c3Z ?_ ?_|refine c3Y ?_ ?_|refine c3W ?_ ?_|refine c3X ?_ ?_|refine c3V ?_ ?_|refine c3U ?_ ?_) <;> intro h <;> (try simp only[wA,seval,reduceCtorEq,reduceIte,h]))
 all_goals (simp_all [d8P] <;> omega)
theorem d8T (c:UInt8):d1S c=(d1Q c || d1R c || decide ((c.toNat:Int)=95)):=by
 unfold d1S
 congr 1
 have:(c=95)↔((c.toNat:Int)=95):=d8Q (n:=95) (by omega)
 by_cases h:c=95
 ·rw[g5K (this.1 h),h];rfl
 ·rw[g5I (fun e=>h (this.2 e))];simpa using h
theorem d8U (c:UInt8) {sg:Sg} {ow:Ow} {K:PV→Sg→Ow→Prop}:XcE F gl 180 [.t (tB c)] sg ow K ⟨⟩↔K (.t (.bool (d1S c))) sg ow:=by
 refine CallE.iff (XcE.of F180 rfl ?_)
 simp only[c9O]
 simp only[wA,seval,reduceCtorEq,reduceIte,d8R,d8S]
 repeat' ((with_reducible first|refine c4A ?_ ?_|refine c4B ?_ ?_|refine c3Z ?_ ?_|refine c3Y ?_ ?_|refine c3W ?_ ?_|refine c3X ?_ ?_|refine c3V ?_ ?_|refine c3U ?_ ?_) <;> intro h <;> (try simp only[wA,seval,reduceCtorEq,reduceIte,d8R,d8S,h]))
 all_goals simp_all [d8T]
theorem d8V {p:UInt8→Bool} {f:Nat} (hp:∀ (c:UInt8) {sg:Sg} {ow:Ow} {K:PV→Sg→Ow→Prop},XcE F gl f [.t (tB c)] sg ow K ⟨⟩↔K (.t (.bool (p c))) sg ow) {s:List UInt8} (hl:s.length≤281474976710656) {sg:Sg} {ow:Ow} (Q:Ex→S→Prop):∀ (r:List UInt8) (i:Nat) (fr:List PV),s.drop i=r →
  b9P fr [(0,.t (.str s)),(1,.fn f []),(5,.t (.int .i64 i))] →
  (∀ fr',a0A fr' 5=.t (.int .i64 ((i+d1T p r:Nat):Int))→Q (.exit 0) ⟨fr',sg,ow⟩) →
  Xl F gl c9M ⟨fr,sg,ow⟩ Q ⟨⟩:=by
 intro r
 induction r with
 |nil =>
  intro i fr hd hf h1
  have hd:=b9K hd
  simp only[b9R,b9Q] at hf
  obtain⟨f0,f1,f5,-⟩:=hf
  refine Xl.step ?_
  simp only[c9M]
  have c1:¬((i:Int) < (s.length:Int)):=by omega
  simp only[wA,seval,reduceCtorEq,reduceIte,f0,f1,f5,c1]
  refine h1 _ ?_
  simp only[wQ,Nat.reduceEqDiff,reduceIte,f5,d1T,g4R]
 |cons x r ih =>
  intro i fr hd hf h1
  obtain⟨hx,hr,hi⟩:=b9J hd
  simp only[b9R,b9Q] at hf
  obtain⟨f0,f1,f5,-⟩:=hf
  refine Xl.step ?_
  simp only[c9M]
  have c1:(i:Int) < (s.length:Int):=by omega
  have hw1:IntKind.wrap .i64 ((i:Int)+1)=((i+1:Nat):Int):=by rw[IntWalk.i64_in _ (by omega)];omega
  have c0:(0:Int)≤(i:Int):=by omega
  cases hq:p x with
  |false =>
   simp only[wA,seval,reduceCtorEq,reduceIte,f0,f1,f5,c1,hw1,c0,g2X,hx,hp,hq,g3B]
   refine h1 _ ?_
   simp only[wQ,Nat.reduceEqDiff,reduceIte,f5,d1T,hq,g4R,g2S,if_false]
  |true =>
   simp only[wA,seval,reduceCtorEq,reduceIte,f0,f1,f5,c1,hw1,c0,g2X,hx,hp,hq,g3B]
   refine ih (i+1) _ hr (by simp only[wQ,Nat.reduceEqDiff,reduceIte,f0,f1]) fun fr' h=>h1 fr' ?_
   rw[h]
   simp only[d1T,hq,if_true]
   congr 3
   omega
theorem d8W {p:UInt8→Bool} {f:Nat} (hp:∀ (c:UInt8) {sg:Sg} {ow:Ow} {K:PV→Sg→Ow→Prop},XcE F gl f [.t (tB c)] sg ow K ⟨⟩↔K (.t (.bool (p c))) sg ow) {s:List UInt8} (hl:s.length≤281474976710656) {sg:Sg} {ow:Ow} {K:PV→Sg→Ow→Prop} :
  XcE F gl 179 [.t (.str s),.fn f []] sg ow K ⟨⟩↔K (.t (.int .i64 (d1T p s:Nat))) sg ow:=by
 refine CallE.iff (XcE.of F179 rfl ?_)
 simp only[c9N]
 simp only[wA,seval,reduceCtorEq,reduceIte]
 refine d8V hp hl _ s 0 _ rfl (by simp only[wQ,Nat.reduceEqDiff,reduceIte]) fun fr' h=>?_
 simp only[wA,seval,reduceCtorEq,reduceIte,h]
 try simp
def d8X (l:List (List UInt8)):List (List T):=l.map fun s=>[.str s]
theorem d8Y {K:PV→Prop}:XcP F gl 182 [] K ⟨⟩↔K (.t (.sl false (d8X keywords))):=by
 refine Ret.iff (Ret.of F182 rfl ?_)
 simp only[c9Q]
 simp only[wA,seval,reduceCtorEq,reduceIte,b6V,a0C,a0M,T.isAgg,List.replicate,g3G,g3H,g3B]
 rfl
def d8Z (s:List UInt8):List (List UInt8)→Nat→Int
 |[],_=>-1
 |x::l,i=>if s=x then (i:Int) else d8Z s l (i+1)
theorem d9A (s:List UInt8):∀ (l:List (List UInt8)) (i:Nat),decide (0≤d8Z s l i)=l.contains s:=by
 intro l
 induction l with
 |nil=>intro i;rfl
 |cons x l ih =>
  intro i
  rw[List.contains_cons,d8Z]
  split
  ·rename_i h
   rw[h]
   simp
  ·rename_i h
   rw[ih,show(s == x)=false by simpa using h,Bool.false_or]
theorem d9B {nl:Bool} {l:List (List UInt8)} (hl:l.length≤281474976710656) {s:List UInt8} {sg:Sg} {ow:Ow} (Q:Ex→S→Prop):∀ (r:List (List UInt8)) (i:Nat) (fr:List PV),l.drop i=r →
  b9P fr [(0,.t (.sl nl (d8X l))),(1,.t (.str s)),(7,.t (.int .i64 l.length)),(8,.t (.int .i64 i))] →
  (d8Z s r i=-1→∀ fr',Q (.exit 0) ⟨fr',sg,ow⟩) →
  (∀ fr',a0A fr' 4=.t (.int .i64 (d8Z s r i))→Q .ret ⟨fr',sg,ow⟩) →
  Xl F gl d0W ⟨fr,sg,ow⟩ Q ⟨⟩:=by
 intro r
 induction r with
 |nil =>
  intro i fr hd hf h1 h2
  have hd:=b9K hd
  simp only[b9R,b9Q] at hf
  obtain⟨f0,f1,f7,f8,-⟩:=hf
  refine Xl.step ?_
  simp only[d0W]
  have c1:¬((i:Int) < (l.length:Int)):=by omega
  simp only[wA,seval,reduceCtorEq,reduceIte,f0,f1,f7,f8,c1]
  exact h1 rfl _
 |cons x r ih =>
  intro i fr hd hf h1 h2
  obtain⟨hx,hr,hi⟩:=b9J hd
  simp only[b9R,b9Q] at hf
  obtain⟨f0,f1,f7,f8,-⟩:=hf
  refine Xl.step ?_
  simp only[d0W]
  have c1:(i:Int) < (l.length:Int):=by omega
  have hw1:IntKind.wrap .i64 ((i:Int)+1)=((i+1:Nat):Int):=by rw[IntWalk.i64_in _ (by omega)];omega
  by_cases c:s=x
  ·simp only[wA,seval,reduceCtorEq,reduceIte,f0,f1,f7,f8,c1,hw1,d8X,g3O,hx,c]
   refine h2 _ ?_
   simp only[wQ,Nat.reduceEqDiff,reduceIte,d8Z,c]
  ·simp only[wA,seval,reduceCtorEq,reduceIte,f0,f1,f7,f8,c1,hw1,d8X,g3O,hx,c]
   refine ih (i+1) _ hr (by simp only[wQ,Nat.reduceEqDiff,reduceIte,f0,f1,f7,d8X]) (fun q=>h1 (by rw[d8Z,if_neg c];exact q)) (fun fr' q=>h2 fr' (by rw[q,d8Z,if_neg c]))
theorem d9C (nl:Bool) (l:List (List UInt8)) (hl:l.length≤281474976710656) (s:List UInt8) {K:PV→Prop}:XcP F gl 207 [.sl nl (d8X l),.str s] K ⟨⟩↔K (.t (.int .i64 (d8Z s l 0))):=by
 refine Ret.iff (Ret.of F207 rfl ?_)
 simp only[d0X]
 have e:(d8X l).length=l.length:=by simp [d8X]
 simp only[wA,seval,reduceCtorEq,reduceIte,e]
 refine d9B hl (nl:=nl) (s:=s) _ l 0 _ rfl (by simp only[wQ,Nat.reduceEqDiff,reduceIte]) ?_ ?_
 ·intro h fr'
  simp only[wA,seval,reduceCtorEq,reduceIte,h]
 ·intro fr' h
  simp only[wA,seval,reduceCtorEq,reduceIte,h]
theorem d9D (nl:Bool) (l:List (List UInt8)) (hl:l.length≤281474976710656) (s:List UInt8) {K:PV→Prop}:XcP F gl 181 [.sl nl (d8X l),.str s] K ⟨⟩↔K (.t (.bool (l.contains s))):=by
 refine Ret.iff (Ret.of F181 rfl ?_)
 simp only[c9P]
 have a:=@d9C gl nl l hl s
 simp only[wA,seval,reduceCtorEq,reduceIte,a,d9A]
theorem d9E (s:List UInt8) (hl:s.length≤281474976710656) {K:PV→Prop}:XcP F gl 139 [.str s] K ⟨⟩↔K (.t (.bool (d2U s))):=by
 refine Ret.iff (Ret.of F139 rfl ?_)
 simp only[c7X]
 cases s with
 |nil =>
  simp only[wA,seval,reduceCtorEq,reduceIte]
  rfl
 |cons c r =>
  have a26:=@d8R gl c
  have a27:=@d8W gl d1S 180 d8U (c::r) hl
  have a29:=@d9D gl false keywords (by decide) (c::r)
  have e:d2U (c::r)=(decide ((c::r).length≤24)&&d1Q c&&decide (d1T d1S (c::r)=(c::r).length)&&!keywords.contains (c::r)):=rfl
  generalize hs:c::r=s at *
  have h0:s[0]?=some c:=by rw[←hs];rfl
  have hne:¬s=[]:=by rw[←hs];simp
  by_cases g:(24:Int) < (s.length:Int)
  ·simp only[wA,seval,reduceCtorEq,reduceIte,g,hne]
   rw[e,g5I (by omega)];rfl
  ·rw[g5K (show s.length≤24 by omega)] at e
   cases hL:d1Q c with
   |false =>
    rw[hL] at a26 e
    simp only[wA,seval,reduceCtorEq,reduceIte,g,hne,h0,a26]
    rw[e];rfl
   |true =>
    rw[hL] at a26 e
    by_cases q:((d1T d1S s:Nat):Int)=(s.length:Int)
    ·rw[g5K (show d1T d1S s=s.length by omega)] at e
     simp only[wA,seval,reduceCtorEq,reduceIte,g,hne,h0,a26,a27,q,d8Y,a29,Bool.not_true]
     rw[e];rfl
    ·rw[g5I (show ¬d1T d1S s=s.length by omega)] at e
     simp only[wA,seval,reduceCtorEq,reduceIte,g,hne,h0,a26,a27,q,Bool.not_true,Bool.not_false]
     rw[e];rfl
end Go.Proofs.YtdjcnfacjfnakaaGreat

/- Contracts: a property of all elements. -/
namespace Go.Proofs.YtdjcnfacjfnakaaGreat
open Go.Pi Go.Lx Go.Ky
variable {gl:Nat→Option (List T)}
def Says (f:Nat) (x:T) (b:Bool):Prop:=∀ (sg:Sg) (ow:Ow),CallE F gl f [.t x] sg ow fun v sg' ow'=>v=.t (.bool b)∧Grow sg sg'∧ow'=ow
theorem d9F {f:Nat} {p:Fu→Bool} {nl:Bool} {l:List Fu} (hl:l.length≤B47) (hp:∀ x,x∈l→Says (gl:=gl) f (.agg (tFu x)) (p x)) {sg0:Sg} {ow:Ow} (Q:Ex→S→Prop):∀ (r:List Fu) (i:Nat) (fr:List PV) (sg:Sg),l.drop i=r→Grow sg0 sg →
  b9P fr [(1,.fn f []),(7,.t (.sl nl (l.map tFu))),(8,.t (.int .i64 l.length)),(9,.t (.int .i64 i))] →
  (r.all p=true→∀ fr' sg',Grow sg0 sg'→Q (.exit 0) ⟨fr',sg',ow⟩) →
  (r.all p=false→∀ fr' sg',Grow sg0 sg'→a0A fr' 4=.t (.bool false)→Q .ret ⟨fr',sg',ow⟩) →
  Xl F gl c6C ⟨fr,sg,ow⟩ Q ⟨⟩:=by
 intro r
 induction r with
 |nil =>
  intro i fr sg hd hg hf h1 h2
  have hd:=b9K hd
  simp only[b9R,b9Q] at hf
  obtain⟨f1,f7,f8,f9,-⟩:=hf
  refine Xl.step ?_
  simp only[c6C]
  have c1:¬((i:Int) < (l.length:Int)):=by omega
  simp only[wA,seval,reduceCtorEq,reduceIte,f1,f7,f8,f9,c1]
  exact h1 rfl _ _ hg
 |cons x r ih =>
  intro i fr sg hd hg hf h1 h2
  obtain⟨hx,hr,hi⟩:=b9J hd
  simp only[b9R,b9Q] at hf
  obtain⟨f1,f7,f8,f9,-⟩:=hf
  refine Xl.step ?_
  simp only[c6C]
  have c1:(i:Int) < (l.length:Int):=by omega
  have hw1:=d5J hi (show l.length≤281474976710656 by have:B47=140737488355328:=rfl;omega)
  have hc:=hp x (g4K hx)
  simp only[wA,seval,reduceCtorEq,reduceIte,f1,f7,f8,f9,c1,g3O,hx,g2X]
  refine CallE.mono (hc _ _) ?_
  rintro v sg' ow' ⟨rfl,hg',rfl⟩
  cases hq:p x with
  |true =>
   simp only[wA,seval,reduceCtorEq,reduceIte,f1,f7,f8,f9,hw1,hq]
   refine ih (i+1) _ _ hr (hg.trans ((Grow.app _ _).trans hg')) (by simp only[wQ,Nat.reduceEqDiff,reduceIte,f1,f7,f8]) (fun h=>h1 (by simpa [hq] using h)) (fun h=>h2 (by simpa [hq] using h))
  |false =>
   simp only[wA,seval,reduceCtorEq,reduceIte,f1,f7,f8,f9,hq]
   exact h2 (by simp [hq]) _ _ (hg.trans ((Grow.app _ _).trans hg')) (by simp only[wQ,Nat.reduceEqDiff,reduceIte])
theorem ok95 {f:Nat} {p:Fu→Bool} {nl:Bool} {l:List Fu} (hl:l.length≤B47) (hp:∀ x,x∈l→Says (gl:=gl) f (.agg (tFu x)) (p x)) (sg:Sg) (ow:Ow) :
  CallE F gl 95 [.t (.sl nl (l.map tFu)),.fn f []] sg ow fun v sg' ow'=>v=.t (.bool (l.all p))∧Grow sg sg'∧ow'=ow:=by
 refine XcE.of F95 rfl ?_
 simp only[c6D]
 simp only[wA,seval,reduceCtorEq,reduceIte,g3X]
 refine d9F hl hp (sg0:=sg) _ l 0 _ _ rfl (Grow.refl _) (by simp only[wQ,Nat.reduceEqDiff,reduceIte];exact rfl) ?_ ?_
 ·intro h fr' sg' hg
  simp only[wA,seval,reduceCtorEq,reduceIte]
  exact⟨by rw[h],hg⟩
 ·intro h fr' sg' hg h4
  simp only[wA,seval,reduceCtorEq,reduceIte,h4]
  exact⟨by rw[h],hg⟩
theorem d9G {f:Nat} {p:De→Bool} {nl:Bool} {l:List De} (hl:l.length≤B47) (hp:∀ x,x∈l→Says (gl:=gl) f (.agg (tDe x)) (p x)) {sg0:Sg} {ow:Ow} (Q:Ex→S→Prop):∀ (r:List De) (i:Nat) (fr:List PV) (sg:Sg),l.drop i=r→Grow sg0 sg →
  b9P fr [(1,.fn f []),(7,.t (.sl nl (l.map tDe))),(8,.t (.int .i64 l.length)),(9,.t (.int .i64 i))] →
  (r.all p=true→∀ fr' sg',Grow sg0 sg'→Q (.exit 0) ⟨fr',sg',ow⟩) →
  (r.all p=false→∀ fr' sg',Grow sg0 sg'→a0A fr' 4=.t (.bool false)→Q .ret ⟨fr',sg',ow⟩) →
  Xl F gl c6F ⟨fr,sg,ow⟩ Q ⟨⟩:=by
 intro r
 induction r with
 |nil =>
  intro i fr sg hd hg hf h1 h2
  have hd:=b9K hd
  simp only[b9R,b9Q] at hf
  obtain⟨f1,f7,f8,f9,-⟩:=hf
  refine Xl.step ?_
  simp only[c6F]
  have c1:¬((i:Int) < (l.length:Int)):=by omega
  simp only[wA,seval,reduceCtorEq,reduceIte,f1,f7,f8,f9,c1]
  exact h1 rfl _ _ hg
 |cons x r ih =>
  intro i fr sg hd hg hf h1 h2
  obtain⟨hx,hr,hi⟩:=b9J hd
  simp only[b9R,b9Q] at hf
  obtain⟨f1,f7,f8,f9,-⟩:=hf
  refine Xl.step ?_
  simp only[c6F]
  have c1:(i:Int) < (l.length:Int):=by omega
  have hw1:=d5J hi (show l.length≤281474976710656 by have:B47=140737488355328:=rfl;omega)
  have hc:=hp x (g4K hx)
  simp only[wA,seval,reduceCtorEq,reduceIte,f1,f7,f8,f9,c1,g3O,hx,g2X]
  refine CallE.mono (hc _ _) ?_
  rintro v sg' ow' ⟨rfl,hg',rfl⟩
  cases hq:p x with
  |true =>
   simp only[wA,seval,reduceCtorEq,reduceIte,f1,f7,f8,f9,hw1,hq]
   refine ih (i+1) _ _ hr (hg.trans ((Grow.app _ _).trans hg')) (by simp only[wQ,Nat.reduceEqDiff,reduceIte,f1,f7,f8]) (fun h=>h1 (by simpa [hq] using h)) (fun h=>h2 (by simpa [hq] using h))
  |false =>
   simp only[wA,seval,reduceCtorEq,reduceIte,f1,f7,f8,f9,hq]
   exact h2 (by simp [hq]) _ _ (hg.trans ((Grow.app _ _).trans hg')) (by simp only[wQ,Nat.reduceEqDiff,reduceIte])
theorem ok97 {f:Nat} {p:De→Bool} {nl:Bool} {l:List De} (hl:l.length≤B47) (hp:∀ x,x∈l→Says (gl:=gl) f (.agg (tDe x)) (p x)) (sg:Sg) (ow:Ow) :
  CallE F gl 97 [.t (.sl nl (l.map tDe)),.fn f []] sg ow fun v sg' ow'=>v=.t (.bool (l.all p))∧Grow sg sg'∧ow'=ow:=by
 refine XcE.of F97 rfl ?_
 simp only[c6G]
 simp only[wA,seval,reduceCtorEq,reduceIte,g3X]
 refine d9G hl hp (sg0:=sg) _ l 0 _ _ rfl (Grow.refl _) (by simp only[wQ,Nat.reduceEqDiff,reduceIte];exact rfl) ?_ ?_
 ·intro h fr' sg' hg
  simp only[wA,seval,reduceCtorEq,reduceIte]
  exact⟨by rw[h],hg⟩
 ·intro h fr' sg' hg h4
  simp only[wA,seval,reduceCtorEq,reduceIte,h4]
  exact⟨by rw[h],hg⟩
theorem d9H {f:Nat} {p:St→Bool} {nl:Bool} {l:List St} (hl:l.length≤B47) (hp:∀ x,x∈l→Says (gl:=gl) f (.agg (tSt x)) (p x)) {sg0:Sg} {ow:Ow} (Q:Ex→S→Prop):∀ (r:List St) (i:Nat) (fr:List PV) (sg:Sg),l.drop i=r→Grow sg0 sg →
  b9P fr [(1,.fn f []),(7,.t (.sl nl (d2C l))),(8,.t (.int .i64 l.length)),(9,.t (.int .i64 i))] →
  (r.all p=true→∀ fr' sg',Grow sg0 sg'→Q (.exit 0) ⟨fr',sg',ow⟩) →
  (r.all p=false→∀ fr' sg',Grow sg0 sg'→a0A fr' 4=.t (.bool false)→Q .ret ⟨fr',sg',ow⟩) →
  Xl F gl c6I ⟨fr,sg,ow⟩ Q ⟨⟩:=by
 intro r
 induction r with
 |nil =>
  intro i fr sg hd hg hf h1 h2
  have hd:=b9K hd
  simp only[b9R,b9Q] at hf
  obtain⟨f1,f7,f8,f9,-⟩:=hf
  refine Xl.step ?_
  simp only[c6I]
  have c1:¬((i:Int) < (l.length:Int)):=by omega
  simp only[wA,seval,reduceCtorEq,reduceIte,f1,f7,f8,f9,c1]
  exact h1 rfl _ _ hg
 |cons x r ih =>
  intro i fr sg hd hg hf h1 h2
  obtain⟨hx,hr,hi⟩:=b9J hd
  simp only[b9R,b9Q] at hf
  obtain⟨f1,f7,f8,f9,-⟩:=hf
  refine Xl.step ?_
  simp only[c6I]
  have c1:(i:Int) < (l.length:Int):=by omega
  have hw1:=d5J hi (show l.length≤281474976710656 by have:B47=140737488355328:=rfl;omega)
  have hc:=hp x (g4K hx)
  simp only[d2E] at hc
  simp only[wA,seval,reduceCtorEq,reduceIte,f1,f7,f8,f9,c1,d2G,hx,d2E,g2X]
  refine CallE.mono (hc _ _) ?_
  rintro v sg' ow' ⟨rfl,hg',rfl⟩
  cases hq:p x with
  |true =>
   simp only[wA,seval,reduceCtorEq,reduceIte,f1,f7,f8,f9,hw1,hq]
   refine ih (i+1) _ _ hr (hg.trans ((Grow.app _ _).trans hg')) (by simp only[wQ,Nat.reduceEqDiff,reduceIte,f1,f7,f8]) (fun h=>h1 (by simpa [hq] using h)) (fun h=>h2 (by simpa [hq] using h))
  |false =>
   simp only[wA,seval,reduceCtorEq,reduceIte,f1,f7,f8,f9,hq]
   exact h2 (by simp [hq]) _ _ (hg.trans ((Grow.app _ _).trans hg')) (by simp only[wQ,Nat.reduceEqDiff,reduceIte])
theorem d9I {f:Nat} {p:St→Bool} {nl:Bool} {l:List St} (hl:l.length≤B47) (hp:∀ x,x∈l→Says (gl:=gl) f (.agg (tSt x)) (p x)) (sg:Sg) (ow:Ow) :
  CallE F gl 99 [.t (.sl nl (d2C l)),.fn f []] sg ow fun v sg' ow'=>v=.t (.bool (l.all p))∧Grow sg sg'∧ow'=ow:=by
 refine XcE.of F99 rfl ?_
 simp only[c6J]
 simp only[wA,seval,reduceCtorEq,reduceIte,d2F]
 refine d9H hl hp (sg0:=sg) _ l 0 _ _ rfl (Grow.refl _) (by simp only[wQ,Nat.reduceEqDiff,reduceIte];exact rfl) ?_ ?_
 ·intro h fr' sg' hg
  simp only[wA,seval,reduceCtorEq,reduceIte]
  exact⟨by rw[h],hg⟩
 ·intro h fr' sg' hg h4
  simp only[wA,seval,reduceCtorEq,reduceIte,h4]
  exact⟨by rw[h],hg⟩
theorem d9J {f:Nat} {p:Pa→Bool} {nl:Bool} {l:List Pa} (hl:l.length≤B47) (hp:∀ x,x∈l→Says (gl:=gl) f (.agg (tPa x)) (p x)) {sg0:Sg} {ow:Ow} (Q:Ex→S→Prop):∀ (r:List Pa) (i:Nat) (fr:List PV) (sg:Sg),l.drop i=r→Grow sg0 sg →
  b9P fr [(1,.fn f []),(7,.t (.sl nl (l.map tPa))),(8,.t (.int .i64 l.length)),(9,.t (.int .i64 i))] →
  (r.all p=true→∀ fr' sg',Grow sg0 sg'→Q (.exit 0) ⟨fr',sg',ow⟩) →
  (r.all p=false→∀ fr' sg',Grow sg0 sg'→a0A fr' 4=.t (.bool false)→Q .ret ⟨fr',sg',ow⟩) →
  Xl F gl c7Y ⟨fr,sg,ow⟩ Q ⟨⟩:=by
 intro r
 induction r with
 |nil =>
  intro i fr sg hd hg hf h1 h2
  have hd:=b9K hd
  simp only[b9R,b9Q] at hf
  obtain⟨f1,f7,f8,f9,-⟩:=hf
  refine Xl.step ?_
  simp only[c7Y]
  have c1:¬((i:Int) < (l.length:Int)):=by omega
  simp only[wA,seval,reduceCtorEq,reduceIte,f1,f7,f8,f9,c1]
  exact h1 rfl _ _ hg
 |cons x r ih =>
  intro i fr sg hd hg hf h1 h2
  obtain⟨hx,hr,hi⟩:=b9J hd
  simp only[b9R,b9Q] at hf
  obtain⟨f1,f7,f8,f9,-⟩:=hf
  refine Xl.step ?_
  simp only[c7Y]
  have c1:(i:Int) < (l.length:Int):=by omega
  have hw1:=d5J hi (show l.length≤281474976710656 by have:B47=140737488355328:=rfl;omega)
  have hc:=hp x (g4K hx)
  simp only[wA,seval,reduceCtorEq,reduceIte,f1,f7,f8,f9,c1,g3O,hx,g2X]
  refine CallE.mono (hc _ _) ?_
  rintro v sg' ow' ⟨rfl,hg',rfl⟩
  cases hq:p x with
  |true =>
   simp only[wA,seval,reduceCtorEq,reduceIte,f1,f7,f8,f9,hw1,hq]
   refine ih (i+1) _ _ hr (hg.trans ((Grow.app _ _).trans hg')) (by simp only[wQ,Nat.reduceEqDiff,reduceIte,f1,f7,f8]) (fun h=>h1 (by simpa [hq] using h)) (fun h=>h2 (by simpa [hq] using h))
  |false =>
   simp only[wA,seval,reduceCtorEq,reduceIte,f1,f7,f8,f9,hq]
   exact h2 (by simp [hq]) _ _ (hg.trans ((Grow.app _ _).trans hg')) (by simp only[wQ,Nat.reduceEqDiff,reduceIte])
theorem d9K {f:Nat} {p:Pa→Bool} {nl:Bool} {l:List Pa} (hl:l.length≤B47) (hp:∀ x,x∈l→Says (gl:=gl) f (.agg (tPa x)) (p x)) (sg:Sg) (ow:Ow) :
  CallE F gl 140 [.t (.sl nl (l.map tPa)),.fn f []] sg ow fun v sg' ow'=>v=.t (.bool (l.all p))∧Grow sg sg'∧ow'=ow:=by
 refine XcE.of F140 rfl ?_
 simp only[c7Z]
 simp only[wA,seval,reduceCtorEq,reduceIte,g3X]
 refine d9J hl hp (sg0:=sg) _ l 0 _ _ rfl (Grow.refl _) (by simp only[wQ,Nat.reduceEqDiff,reduceIte];exact rfl) ?_ ?_
 ·intro h fr' sg' hg
  simp only[wA,seval,reduceCtorEq,reduceIte]
  exact⟨by rw[h],hg⟩
 ·intro h fr' sg' hg h4
  simp only[wA,seval,reduceCtorEq,reduceIte,h4]
  exact⟨by rw[h],hg⟩
theorem d9L {f:Nat} {p:Exp→Bool} {nl:Bool} {l:List Exp} (hl:l.length≤B47) (hp:∀ x,x∈l→Says (gl:=gl) f (.agg (tEx x)) (p x)) {sg0:Sg} {ow:Ow} (Q:Ex→S→Prop):∀ (r:List Exp) (i:Nat) (fr:List PV) (sg:Sg),l.drop i=r→Grow sg0 sg →
  b9P fr [(1,.fn f []),(7,.t (.sl nl (d1X l))),(8,.t (.int .i64 l.length)),(9,.t (.int .i64 i))] →
  (r.all p=true→∀ fr' sg',Grow sg0 sg'→Q (.exit 0) ⟨fr',sg',ow⟩) →
  (r.all p=false→∀ fr' sg',Grow sg0 sg'→a0A fr' 4=.t (.bool false)→Q .ret ⟨fr',sg',ow⟩) →
  Xl F gl c9R ⟨fr,sg,ow⟩ Q ⟨⟩:=by
 intro r
 induction r with
 |nil =>
  intro i fr sg hd hg hf h1 h2
  have hd:=b9K hd
  simp only[b9R,b9Q] at hf
  obtain⟨f1,f7,f8,f9,-⟩:=hf
  refine Xl.step ?_
  simp only[c9R]
  have c1:¬((i:Int) < (l.length:Int)):=by omega
  simp only[wA,seval,reduceCtorEq,reduceIte,f1,f7,f8,f9,c1]
  exact h1 rfl _ _ hg
 |cons x r ih =>
  intro i fr sg hd hg hf h1 h2
  obtain⟨hx,hr,hi⟩:=b9J hd
  simp only[b9R,b9Q] at hf
  obtain⟨f1,f7,f8,f9,-⟩:=hf
  refine Xl.step ?_
  simp only[c9R]
  have c1:(i:Int) < (l.length:Int):=by omega
  have hw1:=d5J hi (show l.length≤281474976710656 by have:B47=140737488355328:=rfl;omega)
  have hc:=hp x (g4K hx)
  simp only[d1Z] at hc
  simp only[wA,seval,reduceCtorEq,reduceIte,f1,f7,f8,f9,c1,d2B,hx,d1Z,g2X]
  refine CallE.mono (hc _ _) ?_
  rintro v sg' ow' ⟨rfl,hg',rfl⟩
  cases hq:p x with
  |true =>
   simp only[wA,seval,reduceCtorEq,reduceIte,f1,f7,f8,f9,hw1,hq]
   refine ih (i+1) _ _ hr (hg.trans ((Grow.app _ _).trans hg')) (by simp only[wQ,Nat.reduceEqDiff,reduceIte,f1,f7,f8]) (fun h=>h1 (by simpa [hq] using h)) (fun h=>h2 (by simpa [hq] using h))
  |false =>
   simp only[wA,seval,reduceCtorEq,reduceIte,f1,f7,f8,f9,hq]
   exact h2 (by simp [hq]) _ _ (hg.trans ((Grow.app _ _).trans hg')) (by simp only[wQ,Nat.reduceEqDiff,reduceIte])
theorem d9M {f:Nat} {p:Exp→Bool} {nl:Bool} {l:List Exp} (hl:l.length≤B47) (hp:∀ x,x∈l→Says (gl:=gl) f (.agg (tEx x)) (p x)) (sg:Sg) (ow:Ow) :
  CallE F gl 183 [.t (.sl nl (d1X l)),.fn f []] sg ow fun v sg' ow'=>v=.t (.bool (l.all p))∧Grow sg sg'∧ow'=ow:=by
 refine XcE.of F183 rfl ?_
 simp only[c9S]
 simp only[wA,seval,reduceCtorEq,reduceIte,d2A]
 refine d9L hl hp (sg0:=sg) _ l 0 _ _ rfl (Grow.refl _) (by simp only[wQ,Nat.reduceEqDiff,reduceIte];exact rfl) ?_ ?_
 ·intro h fr' sg' hg
  simp only[wA,seval,reduceCtorEq,reduceIte]
  exact⟨by rw[h],hg⟩
 ·intro h fr' sg' hg h4
  simp only[wA,seval,reduceCtorEq,reduceIte,h4]
  exact⟨by rw[h],hg⟩
end Go.Proofs.YtdjcnfacjfnakaaGreat

/- Contracts: valid types, expressions, statements. -/
namespace Go.Proofs.YtdjcnfacjfnakaaGreat
open Go.Pi Go.Lx Go.Ky
variable {gl:Nat→Option (List T)}
theorem Says.call {f:Nat} {x:T} {b:Bool} (h:Says (gl:=gl) f x b) {K:PV→Prop}:XcP F gl f [x] K ⟨⟩↔K (.t (.bool b)):=by
 refine CallP.iff ?_
 refine(h [] []).mono ?_
 rintro v sg ow ⟨rfl,_,_⟩
 rfl
theorem d9N (t:Ty):Says (gl:=gl) 142 (.agg (tTy t)) (tyB t):=by
 intro sg ow
 refine XcE.of F142 rfl ?_
 simp only[c8B]
 simp only[wA,seval,reduceCtorEq,reduceIte]
 repeat' ((with_reducible first|refine c4A ?_ ?_|refine c4B ?_ ?_|refine c3Z ?_ ?_|refine c3Y ?_ ?_|refine c3W ?_ ?_|refine c3X ?_ ?_|refine c3V ?_ ?_|refine c3U ?_ ?_) <;> intro h <;> (try simp only[wA,seval,reduceCtorEq,reduceIte,h]))
 all_goals (refine⟨?_,Grow.app _ _⟩;simp only[PV.t.injEq,T.bool.injEq];unfold tyB)
 all_goals simp_all
 all_goals omega
theorem d9O (s:St):Says (gl:=gl) 144 (.agg (tSt s)) (d3A s):=by
 intro sg ow
 refine XcE.of F144 rfl ?_
 simp only[c8D,d2E]
 simp only[wA,seval,reduceCtorEq,reduceIte]
 repeat' ((with_reducible first|refine c4A ?_ ?_|refine c4B ?_ ?_|refine c3Z ?_ ?_|refine c3Y ?_ ?_|refine c3W ?_ ?_|refine c3X ?_ ?_|refine c3V ?_ ?_|refine c3U ?_ ?_) <;> intro h <;> (try simp only[wA,seval,reduceCtorEq,reduceIte,h]))
 all_goals (refine⟨?_,Grow.app _ _⟩;simp only[PV.t.injEq,T.bool.injEq];unfold d3A)
 all_goals simp_all [zTy,d5G]
 all_goals exact decide_eq_decide.2 g2W
theorem d9P (n:Int):Says (gl:=gl) 146 (.int .i64 n) (d2Z n):=by
 intro sg ow
 refine XcE.of F146 rfl ?_
 simp only[c8F]
 simp only[wA,seval,reduceCtorEq,reduceIte]
 repeat' ((with_reducible first|refine c4A ?_ ?_|refine c4B ?_ ?_|refine c3Z ?_ ?_|refine c3Y ?_ ?_|refine c3W ?_ ?_|refine c3X ?_ ?_|refine c3V ?_ ?_|refine c3U ?_ ?_) <;> intro h <;> (try simp only[wA,seval,reduceCtorEq,reduceIte,h]))
 all_goals (refine⟨?_,Grow.refl _⟩;simp only[PV.t.injEq,T.bool.injEq];unfold d2Z)
 all_goals simp_all
 all_goals omega
theorem d9Q (e:Exp):Says (gl:=gl) 145 (.agg (tEx e)) (d2Y e):=by
 intro sg ow
 refine XcE.of F145 rfl ?_
 simp only[c8E,d1Z]
 simp only[wA,seval,reduceCtorEq,reduceIte,d2A]
 repeat' ((with_reducible first|refine c4A ?_ ?_|refine c4B ?_ ?_|refine c3Z ?_ ?_|refine c3Y ?_ ?_|refine c3W ?_ ?_|refine c3X ?_ ?_|refine c3V ?_ ?_|refine c3U ?_ ?_) <;> intro h <;> (try simp only[wA,seval,reduceCtorEq,reduceIte,d2A,h]))
 all_goals (refine⟨?_,Grow.app _ _⟩;simp only[PV.t.injEq,T.bool.injEq];unfold d2Y)
 all_goals simp_all
theorem d9R (p:Pa) (h:PaOk p):Says (gl:=gl) 141 (.agg (tPa p)) (paB p):=by
 intro sg ow
 have hn:=@d9E gl p.name (by have:=h.1;have:B47=140737488355328:=rfl;omega)
 refine XcE.of F141 rfl ?_
 simp only[c8A]
 simp only[wA,seval,reduceCtorEq,reduceIte,hn,(d9N p.ty).call]
 repeat' ((with_reducible first|refine c4A ?_ ?_|refine c4B ?_ ?_|refine c3Z ?_ ?_|refine c3Y ?_ ?_|refine c3W ?_ ?_|refine c3X ?_ ?_|refine c3V ?_ ?_|refine c3U ?_ ?_) <;> intro h <;> (try simp only[wA,seval,reduceCtorEq,reduceIte,hn,(d9N p.ty).call,h]))
 all_goals (refine⟨?_,Grow.app _ _⟩;simp only[PV.t.injEq,T.bool.injEq];unfold paB)
 all_goals simp_all
theorem sy98 (p:De) (h:DeOk p):Says (gl:=gl) 98 (.agg (tDe p)) (deB p):=by
 intro sg ow
 have hn:=@d9E gl p.name (by have:=h.1;have:B47=140737488355328:=rfl;omega)
 refine XcE.of F98 rfl ?_
 simp only[c6H]
 simp only[wA,seval,reduceCtorEq,reduceIte,hn,(d9N p.ty).call]
 repeat' ((with_reducible first|refine c4A ?_ ?_|refine c4B ?_ ?_|refine c3Z ?_ ?_|refine c3Y ?_ ?_|refine c3W ?_ ?_|refine c3X ?_ ?_|refine c3V ?_ ?_|refine c3U ?_ ?_) <;> intro h <;> (try simp only[wA,seval,reduceCtorEq,reduceIte,hn,(d9N p.ty).call,h]))
 all_goals (refine⟨?_,Grow.app _ _⟩;simp only[PV.t.injEq,T.bool.injEq];unfold deB)
 all_goals simp_all
end Go.Proofs.YtdjcnfacjfnakaaGreat

/- Contracts: valid expressions, statements, functions; depths. -/
namespace Go.Proofs.YtdjcnfacjfnakaaGreat
open Go.Pi Go.Lx Go.Ky
variable {gl:Nat→Option (List T)}
set_option maxHeartbeats 1000000 in
theorem d9S:∀ e:Exp,ExpOk e→Says (gl:=gl) 143 (.agg (tEx e)) (exB e):=by
 refine Exp.ind fun e ih ho sg ow=>?_
 cases ho with|mk _ h1 h2 h3 h4 h5 h =>
 have hn:=@d9E gl e.name (by have:B47=140737488355328:=rfl;omega)
 refine XcE.of F143 rfl ?_
 simp only[c8C,d1Z]
 simp only[wA,seval,reduceCtorEq,reduceIte]
 refine CallE.mono (d9M h4 (fun x hx=>ih x hx (h x hx)) _ _) ?_
 rintro v sg' ow' ⟨rfl,⟨r,rfl⟩,rfl⟩
 have hle:(1≤(e.args.length:Int))↔(0 < e.args.length):=by omega
 rw[d2X]
 unfold opB
 cases hall:e.args.all exB with
 |false =>
  simp only[wA,seval,reduceCtorEq,reduceIte,hall]
  exact⟨by simp,Grow.app _ _⟩
 |true =>
  simp only[wA,seval,reduceCtorEq,reduceIte,hall,d2A,hn]
  repeat' ((with_reducible first|refine c4A ?_ ?_|refine c4B ?_ ?_|refine c3Z ?_ ?_|refine c3Y ?_ ?_|refine c3W ?_ ?_|refine c3X ?_ ?_|refine c3V ?_ ?_|refine c3U ?_ ?_) <;> intro h <;> (try simp only[wA,seval,reduceCtorEq,reduceIte,hall,d2A,hn,h]))
  all_goals (refine⟨?_,Grow.app _ _⟩;simp only[PV.t.injEq,T.bool.injEq,g2V])
  all_goals simp_all
end Go.Proofs.YtdjcnfacjfnakaaGreat

/- Contracts: valid statements, functions; depths; Valid. -/
namespace Go.Proofs.YtdjcnfacjfnakaaGreat
open Go.Pi Go.Lx Go.Ky
variable {gl:Nat→Option (List T)}
set_option maxHeartbeats 1000000 in
theorem d9T:∀ s:St,StOk s→Says (gl:=gl) 100 (.agg (tSt s)) (stB s):=by
 refine St.ind fun s ih ho sg ow=>?_
 cases ho with|mk _ h1 h2 h3 h4 h5 h6 h7 h8 h =>
 have hn:=@d9E gl s.name (by have:B47=140737488355328:=rfl;omega)
 have hE:=fun K=>(d9S (gl:=gl) s.ex h4).call (K:=K)
 have hM:=fun K=>(d9Q (gl:=gl) s.ex).call (K:=K)
 have hU:=fun K=>(d9O (gl:=gl) s).call (K:=K)
 have hL:=fun n K=>(d9P (gl:=gl) n).call (K:=K)
 have hT:=fun K=>(d9N (gl:=gl) s.ty).call (K:=K)
 have hev:=fun sg'=>CallE.mono (K':=fun v sg2 ow2=>v=.t (.bool (s.body.all stB))∧Grow sg' sg2∧ow2=ow) (d9I (gl:=gl) (nl:=s.nl) h7 (fun x hx=>ih x hx (h x hx)) sg' ow) (fun _ _ _ h=>h)
 refine XcE.of F100 rfl ?_
 rw[d3D]
 simp only[d1Z] at hE hM
 simp only[d2E] at hU
 simp only[c6K,d2E]
 by_cases k1:s.kind=1
 ·simp only[k1] at hU ⊢
  simp only[wA,seval,reduceCtorEq,reduceIte,hn,hE,hM,hU,hL,hT,d2F,d5G]
  repeat' ((with_reducible first|refine c4A ?_ ?_|refine c4B ?_ ?_|refine c3Z ?_ ?_|refine c3Y ?_ ?_|refine c3W ?_ ?_|refine c3X ?_ ?_|refine c3V ?_ ?_|refine c3U ?_ ?_) <;> intro h <;> (try simp only[wA,seval,reduceCtorEq,reduceIte,hn,hE,hM,hU,hL,hT,d2F,d5G,h]))
  all_goals (refine⟨?_,Grow.app _ _⟩;simp only[PV.t.injEq,T.bool.injEq])
  all_goals simp_all [zTy]
 ·by_cases k2:s.kind=2
  ·simp only[k2] at hU ⊢
   simp only[wA,seval,reduceCtorEq,reduceIte,hn,hE,hM,hU,hL,hT,d2F,d5G]
   repeat' ((with_reducible first|refine c4A ?_ ?_|refine c4B ?_ ?_|refine c3Z ?_ ?_|refine c3Y ?_ ?_|refine c3W ?_ ?_|refine c3X ?_ ?_|refine c3V ?_ ?_|refine c3U ?_ ?_) <;> intro h <;> (try simp only[wA,seval,reduceCtorEq,reduceIte,hn,hE,hM,hU,hL,hT,d2F,d5G,h]))
   all_goals (refine⟨?_,Grow.app _ _⟩;simp only[PV.t.injEq,T.bool.injEq])
   all_goals simp_all [zTy]
  ·by_cases k3:s.kind=3
   ·simp only[k3] at hU ⊢
    simp only[wA,seval,reduceCtorEq,reduceIte,hn,hE,hM,hU,hL,hT,d2F,d5G]
    repeat' ((with_reducible first|refine c4A ?_ ?_|refine c4B ?_ ?_|refine c3Z ?_ ?_|refine c3Y ?_ ?_|refine c3W ?_ ?_|refine c3X ?_ ?_|refine c3V ?_ ?_|refine c3U ?_ ?_) <;> intro h <;> (try simp only[wA,seval,reduceCtorEq,reduceIte,hn,hE,hM,hU,hL,hT,d2F,d5G,h]))
    any_goals (refine CallE.mono (hev _) ?_;rintro v sg' ow' ⟨rfl,⟨r,rfl⟩,rfl⟩;((simp only[wA,seval,reduceCtorEq,reduceIte]);(repeat' ((with_reducible first|refine c4A ?_ ?_|refine c4B ?_ ?_|refine c3Z ?_ ?_|refine c3Y ?_ ?_|refine c3W ?_ ?_|refine c3X ?_ ?_|refine c3V ?_ ?_|refine c3U ?_ ?_) <;> intro h <;> (try simp only[wA,seval,reduceCtorEq,reduceIte,h])))))
    all_goals (refine⟨?_,Grow.app _ _⟩;simp only[PV.t.injEq,T.bool.injEq])
    all_goals simp_all [zTy]
   ·simp only[wA,seval,reduceCtorEq,reduceIte,hn,hE,hM,hU,hL,hT,d2F,d5G,k1,k2,k3]
    repeat' ((with_reducible first|refine c4A ?_ ?_|refine c4B ?_ ?_|refine c3Z ?_ ?_|refine c3Y ?_ ?_|refine c3W ?_ ?_|refine c3X ?_ ?_|refine c3V ?_ ?_|refine c3U ?_ ?_) <;> intro h <;> (try simp only[wA,seval,reduceCtorEq,reduceIte,hn,hE,hM,hU,hL,hT,d2F,d5G,k1,k2,k3,h]))
    all_goals exact Grow.app _ _
theorem sy96 (f:Fu) (ho:FuOk f):Says (gl:=gl) 96 (.agg (tFu f)) (fuB f):=by
 intro sg ow
 have hn:=@d9E gl f.name (by have:=ho.name;have:B47=140737488355328:=rfl;omega)
 have hE:=fun K=>(d9S (gl:=gl) f.ret ho.ret).call (K:=K)
 have hT:=fun K=>(d9N (gl:=gl) f.res).call (K:=K)
 have hp:=fun sg'=>d9K (gl:=gl) (nl:=f.pnl) ho.pl (fun x hx=>d9R x (ho.pa x hx)) sg' ow
 have hb:=fun sg'=>d9I (gl:=gl) (nl:=f.bnl) ho.bl (fun x hx=>d9T x (ho.bo x hx)) sg' ow
 refine XcE.of F96 rfl ?_
 simp only[d1Z] at hE
 simp only[c6E]
 unfold fuB
 simp only[wA,seval,reduceCtorEq,reduceIte,hn,hE,hT]
 repeat' ((with_reducible first|refine c4A ?_ ?_|refine c4B ?_ ?_|refine c3Z ?_ ?_|refine c3Y ?_ ?_|refine c3W ?_ ?_|refine c3X ?_ ?_|refine c3V ?_ ?_|refine c3U ?_ ?_) <;> intro h <;> (try simp only[wA,seval,reduceCtorEq,reduceIte,hn,hE,hT,h]))
 any_goals (refine CallE.mono (hp _) ?_;rintro v sg' ow' ⟨rfl,⟨r,rfl⟩,rfl⟩;((simp only[wA,seval,reduceCtorEq,reduceIte,hn,hE,hT]);(repeat' ((with_reducible first|refine c4A ?_ ?_|refine c4B ?_ ?_|refine c3Z ?_ ?_|refine c3Y ?_ ?_|refine c3W ?_ ?_|refine c3X ?_ ?_|refine c3V ?_ ?_|refine c3U ?_ ?_) <;> intro h <;> (try simp only[wA,seval,reduceCtorEq,reduceIte,hn,hE,hT,h])))))
 any_goals (refine CallE.mono (hb _) ?_;rintro v sg' ow' ⟨rfl,⟨r2,rfl⟩,rfl⟩;((simp only[wA,seval,reduceCtorEq,reduceIte,hn,hE,hT]);(repeat' ((with_reducible first|refine c4A ?_ ?_|refine c4B ?_ ?_|refine c3Z ?_ ?_|refine c3Y ?_ ?_|refine c3W ?_ ?_|refine c3X ?_ ?_|refine c3V ?_ ?_|refine c3U ?_ ?_) <;> intro h <;> (try simp only[wA,seval,reduceCtorEq,reduceIte,hn,hE,hT,h])))))
 all_goals (refine⟨?_,by first|exact Grow.app _ _|(simp only[g3A,List.cons_append];exact Grow.app _ _)⟩;simp only[PV.t.injEq,T.bool.injEq])
 all_goals simp_all
theorem d9U (a b:Nat):(if (b:Int) > (a:Int) then (b:Int) else (a:Int))=((max a b:Nat):Int):=by
 split <;> omega
theorem d9V {l:List Exp} {nl:Bool} (hs:d2J l≤B20) (hd:∀ x,x∈l→∀ K,XcP F gl 184 [.agg (tEx x)] K ⟨⟩↔K (.t (.int .i64 (dEx x:Nat)))) {ow:Ow} (Q:Ex→S→Prop):∀ (r:List Exp) (i acc:Nat) (fr:List PV) (sg:Sg),l.drop i=r →
  b9P fr [(3,.t (.int .i64 (acc:Nat))),(7,.t (.sl nl (d1X l))),(8,.t (.int .i64 l.length)),(9,.t (.int .i64 i))] →
  (∀ fr' sg',a0A fr' 3=.t (.int .i64 ((max acc (d3E r):Nat):Int))→Q (.exit 0) ⟨fr',sg',ow⟩) →
  Xl F gl c9T ⟨fr,sg,ow⟩ Q ⟨⟩:=by
 intro r
 induction r with
 |nil =>
  intro i acc fr sg hdr hf h1
  have hdr:=b9K hdr
  simp only[b9R,b9Q] at hf
  obtain⟨f3,f7,f8,f9,-⟩:=hf
  refine Xl.step ?_
  simp only[c9T]
  have c1:¬((i:Int) < (l.length:Int)):=by omega
  simp only[wA,seval,reduceCtorEq,reduceIte,f3,f7,f8,f9,c1]
  refine h1 _ _ ?_
  simp only[wQ,Nat.reduceEqDiff,reduceIte,f3,d3E,Nat.max_zero]
 |cons x r ih =>
  intro i acc fr sg hdr hf h1
  obtain⟨hx,hr,hi⟩:=b9J hdr
  simp only[b9R,b9Q] at hf
  obtain⟨f3,f7,f8,f9,-⟩:=hf
  refine Xl.step ?_
  simp only[c9T]
  have c1:(i:Int) < (l.length:Int):=by omega
  have hll:=d2R l
  have hw1:=d5J hi (show l.length≤281474976710656 by have:B20=1100000:=rfl;omega)
  have hc:=hd x (g4K hx)
  simp only[d1Z] at hc
  simp only[wA,seval,reduceCtorEq,reduceIte,f3,f7,f8,f9,c1,hw1,d2B,hx,d1Z,g2X,hc,mxT,d9U]
  refine ih (i+1) (max acc (dEx x)) _ _ hr (by simp only[wQ,Nat.reduceEqDiff,reduceIte,f7,f8]) fun fr' sg' h=>h1 fr' sg' ?_
  rw[h,d3E,Nat.max_assoc]
theorem d9W:∀ e:Exp,szE e≤B20→∀ K,XcP F gl 184 [.agg (tEx e)] K ⟨⟩↔K (.t (.int .i64 (dEx e:Nat))):=by
 refine Exp.ind fun e ih hs K=>?_
 refine Ret.iff (Ret.of F184 rfl ?_)
 have hse:=d2L e
 have hdl:=d3I e
 have hsl:d2J e.args≤B20:=by omega
 simp only[c9U,d1Z]
 simp only[wA,seval,reduceCtorEq,reduceIte,d2A]
 refine d9V hsl (fun x hx=>ih x hx (g4V (d2P hx) hsl)) _ e.args 0 0 _ _ rfl (by simp only[wQ,Nat.reduceEqDiff,reduceIte];first|done|exact⟨rfl,rfl⟩|exact rfl) fun fr' sg' h=>?_
 have hw:IntKind.wrap .i64 (((max 0 (d3E e.args):Nat):Int)+1)=((dEx e:Nat):Int):=by
  have:=d3G e
  rw[IntWalk.i64_in _ (by have:B20=1100000:=rfl;omega)]
  omega
 simp only[wA,seval,reduceCtorEq,reduceIte,h,hw]
end Go.Proofs.YtdjcnfacjfnakaaGreat

/- Contracts: depths of statements; Valid. -/
namespace Go.Proofs.YtdjcnfacjfnakaaGreat
open Go.Pi Go.Lx Go.Ky
variable {gl:Nat→Option (List T)}
theorem d9X {l:List St} {nl:Bool} (hs:d2K l≤B20) (hd:∀ x,x∈l→∀ K,XcP F gl 148 [.agg (tSt x)] K ⟨⟩↔K (.t (.int .i64 (dSt x:Nat)))) {ow:Ow} (Q:Ex→S→Prop):∀ (r:List St) (i acc:Nat) (fr:List PV) (sg:Sg),l.drop i=r →
  b9P fr [(3,.t (.int .i64 (acc:Nat))),(7,.t (.sl nl (d2C l))),(8,.t (.int .i64 l.length)),(9,.t (.int .i64 i))] →
  (∀ fr' sg',a0A fr' 3=.t (.int .i64 ((max acc (d3F r):Nat):Int))→Q (.exit 0) ⟨fr',sg',ow⟩) →
  Xl F gl c8H ⟨fr,sg,ow⟩ Q ⟨⟩:=by
 intro r
 induction r with
 |nil =>
  intro i acc fr sg hdr hf h1
  have hdr:=b9K hdr
  simp only[b9R,b9Q] at hf
  obtain⟨f3,f7,f8,f9,-⟩:=hf
  refine Xl.step ?_
  simp only[c8H]
  have c1:¬((i:Int) < (l.length:Int)):=by omega
  simp only[wA,seval,reduceCtorEq,reduceIte,f3,f7,f8,f9,c1]
  refine h1 _ _ ?_
  simp only[wQ,Nat.reduceEqDiff,reduceIte,f3,d3F,Nat.max_zero]
 |cons x r ih =>
  intro i acc fr sg hdr hf h1
  obtain⟨hx,hr,hi⟩:=b9J hdr
  simp only[b9R,b9Q] at hf
  obtain⟨f3,f7,f8,f9,-⟩:=hf
  refine Xl.step ?_
  simp only[c8H]
  have c1:(i:Int) < (l.length:Int):=by omega
  have hll:=d2S l
  have hw1:=d5J hi (show l.length≤281474976710656 by have:B20=1100000:=rfl;omega)
  have hc:=hd x (g4K hx)
  simp only[d2E] at hc
  simp only[wA,seval,reduceCtorEq,reduceIte,f3,f7,f8,f9,c1,hw1,d2G,hx,d2E,g2X,hc,mxT,d9U]
  refine ih (i+1) (max acc (dSt x)) _ _ hr (by simp only[wQ,Nat.reduceEqDiff,reduceIte,f7,f8]) fun fr' sg' h=>h1 fr' sg' ?_
  rw[h,d3F,Nat.max_assoc]
theorem d9Y:∀ e:St,szS e≤B20→∀ K,XcP F gl 148 [.agg (tSt e)] K ⟨⟩↔K (.t (.int .i64 (dSt e:Nat))):=by
 refine St.ind fun e ih hs K=>?_
 refine Ret.iff (Ret.of F148 rfl ?_)
 have hse:=d2N e
 have hdl:=d3J e
 have hsl:d2K e.body≤B20:=by omega
 simp only[c8I,d2E]
 simp only[wA,seval,reduceCtorEq,reduceIte,d2F]
 refine d9X hsl (fun x hx=>ih x hx (g4V (d2Q hx) hsl)) _ e.body 0 0 _ _ rfl (by simp only[wQ,Nat.reduceEqDiff,reduceIte];first|done|exact⟨rfl,rfl⟩|exact rfl) fun fr' sg' h=>?_
 have hw:IntKind.wrap .i64 (((max 0 (d3F e.body):Nat):Int)+1)=((dSt e:Nat):Int):=by
  have:=d3H e
  rw[IntWalk.i64_in _ (by have:B20=1100000:=rfl;omega)]
  omega
 simp only[wA,seval,reduceCtorEq,reduceIte,h,hw]
theorem d9Z (e:Exp) (hs:szE e≤B20):Says (gl:=gl) 147 (.agg (tEx e)) (shE e):=by
 intro sg ow
 have hd:=d9W (gl:=gl) e hs
 simp only[d1Z] at hd
 refine XcE.of F147 rfl ?_
 simp only[c8G,d1Z]
 simp only[wA,seval,reduceCtorEq,reduceIte,hd]
 exact⟨rfl,Grow.app _ _⟩
theorem e0A:∀ s:St,StOk s→szS s≤B20→Says (gl:=gl) 102 (.agg (tSt s)) (shS s):=by
 refine St.ind fun s ih ho hs sg ow=>?_
 have hse:=d2N s
 have hex:=d2T s
 cases ho with|mk _ h1 h2 h3 h4 h5 h6 h7 h8 h =>
 have hd:=d9Y (gl:=gl) s hs
 have hE:=fun K=>(d9Z (gl:=gl) s.ex (by omega)).call (K:=K)
 have hev:=fun sg'=>d9I (gl:=gl) (nl:=s.nl) h7 (fun x hx=>ih x hx (h x hx) (by have:=d2Q hx;omega)) sg' ow
 simp only[d2E] at hd
 simp only[d1Z] at hE
 refine XcE.of F102 rfl ?_
 rw[d3M]
 simp only[c6M,d2E]
 simp only[wA,seval,reduceCtorEq,reduceIte,hd,hE]
 repeat' ((with_reducible first|refine c4A ?_ ?_|refine c4B ?_ ?_|refine c3Z ?_ ?_|refine c3Y ?_ ?_|refine c3W ?_ ?_|refine c3X ?_ ?_|refine c3V ?_ ?_|refine c3U ?_ ?_) <;> intro h <;> (try simp only[wA,seval,reduceCtorEq,reduceIte,hd,hE,h]))
 any_goals (refine CallE.mono (hev _) ?_;rintro v sg' ow' ⟨rfl,⟨r,rfl⟩,rfl⟩;((simp only[wA,seval,reduceCtorEq,reduceIte]);(repeat' ((with_reducible first|refine c4A ?_ ?_|refine c4B ?_ ?_|refine c3Z ?_ ?_|refine c3Y ?_ ?_|refine c3W ?_ ?_|refine c3X ?_ ?_|refine c3V ?_ ?_|refine c3U ?_ ?_) <;> intro h <;> (try simp only[wA,seval,reduceCtorEq,reduceIte,h])))))
 all_goals (refine⟨?_,Grow.app _ _⟩;simp only[PV.t.injEq,T.bool.injEq])
 all_goals simp_all
theorem e0B (f:Fu) (ho:FuOk f) (hb:d2K f.body≤B20) (he:szE f.ret≤B20):Says (gl:=gl) 101 (.agg (tFu f)) (shF f):=by
 intro sg ow
 have hE:=fun K=>(d9Z (gl:=gl) f.ret he).call (K:=K)
 have hev:=fun sg'=>d9I (gl:=gl) (nl:=f.bnl) ho.bl (fun x hx=>e0A x (ho.bo x hx) (by have:=d2Q hx;omega)) sg' ow
 simp only[d1Z] at hE
 refine XcE.of F101 rfl ?_
 simp only[c6L]
 unfold shF
 simp only[wA,seval,reduceCtorEq,reduceIte,hE]
 refine CallE.mono (hev _) ?_
 rintro v sg' ow' ⟨rfl,⟨r,rfl⟩,rfl⟩
 cases c:f.body.all shS with
 |false =>
  simp only[wA,seval,reduceCtorEq,reduceIte,hE,c,Bool.false_and]
  exact Grow.app _ _
 |true =>
  simp only[wA,seval,reduceCtorEq,reduceIte,hE,c,g2V]
  exact Grow.app _ _
structure PgSz (p:Pg):Prop where
 fu:∀ f,f∈p.funcs→d2K f.body≤B20∧szE f.ret≤B20
 bo:d2K p.body≤B20
set_option maxHeartbeats 1000000 in
theorem ok61 (p:Pg) (ho:PgOk p) (hs:PgSz p) {K:PV→Prop}:XcP F gl 61 [.agg (tPg p)] K ⟨⟩↔K (.t (.int .i64 (d3N p))):=by
 refine Ret.iff (Ret.of F61 rfl ?_)
 have h1:=fun sg' ow=>ok95 (gl:=gl) (nl:=p.fnl) ho.fl (fun x hx=>sy96 x (ho.fo x hx)) sg' ow
 have h2:=fun sg' ow=>ok97 (gl:=gl) (nl:=p.dnl) ho.dl (fun x hx=>sy98 x (ho.dok x hx)) sg' ow
 have h3:=fun sg' ow=>d9I (gl:=gl) (nl:=p.bnl) ho.bl (fun x hx=>d9T x (ho.bo x hx)) sg' ow
 have h4:=fun sg' ow=>ok95 (gl:=gl) (nl:=p.fnl) ho.fl (fun x hx=>e0B x (ho.fo x hx) (hs.fu x hx).1 (hs.fu x hx).2) sg' ow
 have h5:=fun sg' ow=>d9I (gl:=gl) (nl:=p.bnl) ho.bl (fun x hx=>e0A x (ho.bo x hx) (by have:=d2Q hx;have:=hs.bo;omega)) sg' ow
 simp only[c5K]
 unfold d3N
 simp only[wA,seval,reduceCtorEq,reduceIte]
 refine CallE.mono (h1 _ _) ?_
 rintro v sg' ow' ⟨rfl,⟨r1,rfl⟩,rfl⟩
 have done:∀ (sg:Sg) (a:Int),True:=fun _ _=>trivial
 cases c1:p.funcs.all fuB with
 |false =>
  simp only[wA,seval,reduceCtorEq,reduceIte,c1,Bool.false_and]
 |true =>
  simp only[wA,seval,reduceCtorEq,reduceIte,c1,g2V]
  refine CallE.mono (h2 _ _) ?_
  rintro v sg' ow' ⟨rfl,⟨r2,rfl⟩,rfl⟩
  cases c2:p.decls.all deB with
  |false =>
   simp only[wA,seval,reduceCtorEq,reduceIte,c2,Bool.false_and]
  |true =>
   simp only[wA,seval,reduceCtorEq,reduceIte,c2,g2V]
   refine CallE.mono (h3 _ _) ?_
   rintro v sg' ow' ⟨rfl,⟨r3,rfl⟩,rfl⟩
   cases c3:p.body.all stB with
   |false =>
    simp only[wA,seval,reduceCtorEq,reduceIte,c3]
   |true =>
    simp only[wA,seval,reduceCtorEq,reduceIte,c3]
    refine CallE.mono (h4 _ _) ?_
    rintro v sg' ow' ⟨rfl,⟨r4,rfl⟩,rfl⟩
    cases c4:p.funcs.all shF with
    |false =>
     simp only[wA,seval,reduceCtorEq,reduceIte,c4,Bool.false_and]
    |true =>
     simp only[wA,seval,reduceCtorEq,reduceIte,c4,g2V]
     refine CallE.mono (h5 _ _) ?_
     rintro v sg' ow' ⟨rfl,⟨r5,rfl⟩,rfl⟩
     cases c5:p.body.all shS with
     |false =>
      simp only[wA,seval,reduceCtorEq,reduceIte,c5]
     |true =>
      simp only[wA,seval,reduceCtorEq,reduceIte,c5]
end Go.Proofs.YtdjcnfacjfnakaaGreat
