/- Contracts: names. -/
import Derived.Test.YtdjcnfacjfnakaaGreatIrA
import Derived.Test.YtdjcnfacjfnakaaGreatKx19
import Derived.Test.YtdjcnfacjfnakaaGreatKx19
set_option maxRecDepth 10000
set_option linter.unusedVariables false
set_option linter.unusedSimpArgs false
namespace Go.Proofs.YtdjcnfacjfnakaaGreat
open Go.Pi Go.Lx Go.Ky
variable {gl:Nat→Option (List T)}
abbrev tB (c:UInt8):T:=.int .u8 (c.toNat:Int)
theorem e1F {a c:UInt8}:a≤c↔((a.toNat:Int)≤(c.toNat:Int)):=by rw[UInt8.le_iff_toNat_le];omega
theorem e1G (c:UInt8):d2U c=(decide ((97:Int)≤(c.toNat:Int))&&decide ((c.toNat:Int)≤122)):=by
 unfold d2U
 congr 1 <;> (congr 1;exact propext e1F)
theorem e1H (c:UInt8):d2V c=(decide ((48:Int)≤(c.toNat:Int))&&decide ((c.toNat:Int)≤57)):=by
 unfold d2V
 congr 1 <;> (congr 1;exact propext e1F)
theorem e1I {c:UInt8} {n:Nat} (hn:n < 256):(c=UInt8.ofNat n)↔((c.toNat:Int)=(n:Int)):=by
 constructor
 ·intro h;subst h;rw[UInt8.toNat_ofNat'];omega
 ·intro h
  apply UInt8.toNat_inj.1
  rw[UInt8.toNat_ofNat'];omega
theorem e1J (c:UInt8) {K:PV→Prop}:XcP F gl 178 [tB c] K ⟨⟩↔K (.t (.bool (d2U c))):=by
 refine Ret.iff (Ret.of F178 rfl ?_)
 simp only[d0I]
 simp only[wA,seval,reduceCtorEq,reduceIte]
 repeat' ((with_reducible first|refine c3U ?_ ?_|refine c3V ?_ ?_|refine c3T ?_ ?_|refine c3S ?_ ?_|refine c3Q ?_ ?_|refine c3R ?_ ?_|refine c3P ?_ ?_|refine c3O ?_ ?_) <;> intro h <;> (try simp only[wA,seval,reduceCtorEq,reduceIte,h]))
 all_goals (simp_all [e1G] <;> omega)
theorem e1K (c:UInt8) {K:PV→Prop}:XcP F gl 206 [tB c] K ⟨⟩↔K (.t (.bool (d2V c))):=by
 refine Ret.iff (Ret.of F206 rfl ?_)
 simp only[d1P]
 simp only[wA,seval,reduceCtorEq,reduceIte]
 repeat' ((with_reducible first|refine c3U ?_ ?_|refine c3V ?_ ?_|refine c3T ?_ ?_|refine c3S ?_ ?_|refine c3Q ?_ ?_|refine c3R ?_ ?_|refine c3P ?_ ?_|refine c3O ?_ ?_) <;> intro h <;> (try simp only[wA,seval,reduceCtorEq,reduceIte,h]))
 all_goals (simp_all [e1H] <;> omega)
theorem e1L (c:UInt8):d2W c=(d2U c || d2V c || decide ((c.toNat:Int)=95)):=by
 unfold d2W
 congr 1
 have:(c=95)↔((c.toNat:Int)=95):=e1I (n:=95) (by omega)
 by_cases h:c=95
 ·rw[g6A (this.1 h),h];rfl
 ·rw[g5Y (fun e=>h (this.2 e))];simpa using h
theorem e1M (c:UInt8) {sg:Sg} {ow:Ow} {K:PV→Sg→Ow→Prop}:XcE F gl 180 [.t (tB c)] sg ow K ⟨⟩↔K (.t (.bool (d2W c))) sg ow:=by
 refine CallE.iff (XcE.of F180 rfl ?_)
 simp only[d0L]
 simp only[wA,seval,reduceCtorEq,reduceIte,e1J,e1K]
 repeat' ((with_reducible first|refine c3U ?_ ?_|refine c3V ?_ ?_|refine c3T ?_ ?_|refine c3S ?_ ?_|refine c3Q ?_ ?_|refine c3R ?_ ?_|refine c3P ?_ ?_|refine c3O ?_ ?_) <;> intro h <;> (try simp only[wA,seval,reduceCtorEq,reduceIte,e1J,e1K,h]))
 all_goals simp_all [e1L]
theorem e1N {p:UInt8→Bool} {f:Nat} (hp:∀ (c:UInt8) {sg:Sg} {ow:Ow} {K:PV→Sg→Ow→Prop},XcE F gl f [.t (tB c)] sg ow K ⟨⟩↔K (.t (.bool (p c))) sg ow) {s:List UInt8} (hl:s.length≤281474976710656) {sg:Sg} {ow:Ow} (Q:Ex→S→Prop):∀ (r:List UInt8) (i:Nat) (fr:List PV),s.drop i=r →
  b9J fr [(0,.t (.str s)),(1,.fn f []),(5,.t (.int .i64 i))] →
  (∀ fr',a0A fr' 5=.t (.int .i64 ((i+d2X p r:Nat):Int))→Q (.exit 0) ⟨fr',sg,ow⟩) →
  Xl F gl d0J ⟨fr,sg,ow⟩ Q ⟨⟩:=by
 intro r
 induction r with
 |nil =>
  intro i fr hd hf h1
  have hd:=b9E hd
  simp only[b9L,b9K] at hf
  obtain⟨f0,f1,f5,-⟩:=hf
  refine Xl.step ?_
  simp only[d0J]
  have c1:¬((i:Int) < (s.length:Int)):=by omega
  simp only[wA,seval,reduceCtorEq,reduceIte,f0,f1,f5,c1]
  refine h1 _ ?_
  simp only[wQ,Nat.reduceEqDiff,reduceIte,f5,d2X,g5H]
 |cons x r ih =>
  intro i fr hd hf h1
  obtain⟨hx,hr,hi⟩:=b9D hd
  simp only[b9L,b9K] at hf
  obtain⟨f0,f1,f5,-⟩:=hf
  refine Xl.step ?_
  simp only[d0J]
  have c1:(i:Int) < (s.length:Int):=by omega
  have hw1:IntKind.wrap .i64 ((i:Int)+1)=((i+1:Nat):Int):=by rw[IntWalk.i64_in _ (by omega)];omega
  have c0:(0:Int)≤(i:Int):=by omega
  cases hq:p x with
  |false =>
   simp only[wA,seval,reduceCtorEq,reduceIte,f0,f1,f5,c1,hw1,c0,g3K,hx,hp,hq,g3O]
   refine h1 _ ?_
   simp only[wQ,Nat.reduceEqDiff,reduceIte,f5,d2X,hq,g5H,g3D,if_false]
  |true =>
   simp only[wA,seval,reduceCtorEq,reduceIte,f0,f1,f5,c1,hw1,c0,g3K,hx,hp,hq,g3O]
   refine ih (i+1) _ hr (by simp only[wQ,Nat.reduceEqDiff,reduceIte,f0,f1]) fun fr' h=>h1 fr' ?_
   rw[h]
   simp only[d2X,hq,if_true]
   congr 3
   omega
theorem e1O {p:UInt8→Bool} {f:Nat} (hp:∀ (c:UInt8) {sg:Sg} {ow:Ow} {K:PV→Sg→Ow→Prop},XcE F gl f [.t (tB c)] sg ow K ⟨⟩↔K (.t (.bool (p c))) sg ow) {s:List UInt8} (hl:s.length≤281474976710656) {sg:Sg} {ow:Ow} {K:PV→Sg→Ow→Prop} :
  XcE F gl 179 [.t (.str s),.fn f []] sg ow K ⟨⟩↔K (.t (.int .i64 (d2X p s:Nat))) sg ow:=by
 refine CallE.iff (XcE.of F179 rfl ?_)
 simp only[d0K]
 simp only[wA,seval,reduceCtorEq,reduceIte]
 refine e1N hp hl _ s 0 _ rfl (by simp only[wQ,Nat.reduceEqDiff,reduceIte]) fun fr' h=>?_
 simp only[wA,seval,reduceCtorEq,reduceIte,h]
 try simp
def e1P (l:List (List UInt8)):List (List T):=l.map fun s=>[.str s]
theorem e1Q {K:PV→Prop}:XcP F gl 182 [] K ⟨⟩↔K (.t (.sl false (e1P keywords))):=by
 refine Ret.iff (Ret.of F182 rfl ?_)
 simp only[d0N]
 simp only[wA,seval,reduceCtorEq,reduceIte,b6Q,a0C,a0M,T.isAgg,List.replicate,g3S,g3T,g3O]
 rfl
def e1R (s:List UInt8):List (List UInt8)→Nat→Int
 |[],_=>-1
 |x::l,i=>if s=x then (i:Int) else e1R s l (i+1)
theorem e1S (s:List UInt8):∀ (l:List (List UInt8)) (i:Nat),decide (0≤e1R s l i)=l.contains s:=by
 intro l
 induction l with
 |nil=>intro i;rfl
 |cons x l ih =>
  intro i
  rw[List.contains_cons,e1R]
  split
  ·rename_i h
   rw[h]
   simp
  ·rename_i h
   rw[ih,show(s == x)=false by simpa using h,Bool.false_or]
theorem e1T {nl:Bool} {l:List (List UInt8)} (hl:l.length≤281474976710656) {s:List UInt8} {sg:Sg} {ow:Ow} (Q:Ex→S→Prop):∀ (r:List (List UInt8)) (i:Nat) (fr:List PV),l.drop i=r →
  b9J fr [(0,.t (.sl nl (e1P l))),(1,.t (.str s)),(7,.t (.int .i64 l.length)),(8,.t (.int .i64 i))] →
  (e1R s r i=-1→∀ fr',Q (.exit 0) ⟨fr',sg,ow⟩) →
  (∀ fr',a0A fr' 4=.t (.int .i64 (e1R s r i))→Q .ret ⟨fr',sg,ow⟩) →
  Xl F gl d1Q ⟨fr,sg,ow⟩ Q ⟨⟩:=by
 intro r
 induction r with
 |nil =>
  intro i fr hd hf h1 h2
  have hd:=b9E hd
  simp only[b9L,b9K] at hf
  obtain⟨f0,f1,f7,f8,-⟩:=hf
  refine Xl.step ?_
  simp only[d1Q]
  have c1:¬((i:Int) < (l.length:Int)):=by omega
  simp only[wA,seval,reduceCtorEq,reduceIte,f0,f1,f7,f8,c1]
  exact h1 rfl _
 |cons x r ih =>
  intro i fr hd hf h1 h2
  obtain⟨hx,hr,hi⟩:=b9D hd
  simp only[b9L,b9K] at hf
  obtain⟨f0,f1,f7,f8,-⟩:=hf
  refine Xl.step ?_
  simp only[d1Q]
  have c1:(i:Int) < (l.length:Int):=by omega
  have hw1:IntKind.wrap .i64 ((i:Int)+1)=((i+1:Nat):Int):=by rw[IntWalk.i64_in _ (by omega)];omega
  by_cases c:s=x
  ·simp only[wA,seval,reduceCtorEq,reduceIte,f0,f1,f7,f8,c1,hw1,e1P,g4B,hx,c]
   refine h2 _ ?_
   simp only[wQ,Nat.reduceEqDiff,reduceIte,e1R,c]
  ·simp only[wA,seval,reduceCtorEq,reduceIte,f0,f1,f7,f8,c1,hw1,e1P,g4B,hx,c]
   refine ih (i+1) _ hr (by simp only[wQ,Nat.reduceEqDiff,reduceIte,f0,f1,f7,e1P]) (fun q=>h1 (by rw[e1R,if_neg c];exact q)) (fun fr' q=>h2 fr' (by rw[q,e1R,if_neg c]))
theorem e1U (nl:Bool) (l:List (List UInt8)) (hl:l.length≤281474976710656) (s:List UInt8) {K:PV→Prop}:XcP F gl 207 [.sl nl (e1P l),.str s] K ⟨⟩↔K (.t (.int .i64 (e1R s l 0))):=by
 refine Ret.iff (Ret.of F207 rfl ?_)
 simp only[d1R]
 have e:(e1P l).length=l.length:=by simp [e1P]
 simp only[wA,seval,reduceCtorEq,reduceIte,e]
 refine e1T hl (nl:=nl) (s:=s) _ l 0 _ rfl (by simp only[wQ,Nat.reduceEqDiff,reduceIte]) ?_ ?_
 ·intro h fr'
  simp only[wA,seval,reduceCtorEq,reduceIte,h]
 ·intro fr' h
  simp only[wA,seval,reduceCtorEq,reduceIte,h]
theorem e1V (nl:Bool) (l:List (List UInt8)) (hl:l.length≤281474976710656) (s:List UInt8) {K:PV→Prop}:XcP F gl 181 [.sl nl (e1P l),.str s] K ⟨⟩↔K (.t (.bool (l.contains s))):=by
 refine Ret.iff (Ret.of F181 rfl ?_)
 simp only[d0M]
 have a:=@e1U gl nl l hl s
 simp only[wA,seval,reduceCtorEq,reduceIte,a,e1S]
theorem e1W (s:List UInt8) (hl:s.length≤281474976710656) {K:PV→Prop}:XcP F gl 139 [.str s] K ⟨⟩↔K (.t (.bool (d4L s))):=by
 refine Ret.iff (Ret.of F139 rfl ?_)
 simp only[c9A]
 cases s with
 |nil =>
  simp only[wA,seval,reduceCtorEq,reduceIte]
  rfl
 |cons c r =>
  have a26:=@e1J gl c
  have a27:=@e1O gl d2W 180 e1M (c::r) hl
  have a29:=@e1V gl false keywords (by decide) (c::r)
  have e:d4L (c::r)=(decide ((c::r).length≤24)&&d2U c&&decide (d2X d2W (c::r)=(c::r).length)&&!keywords.contains (c::r)):=rfl
  generalize hs:c::r=s at *
  have h0:s[0]?=some c:=by rw[←hs];rfl
  have hne:¬s=[]:=by rw[←hs];simp
  by_cases g:(24:Int) < (s.length:Int)
  ·simp only[wA,seval,reduceCtorEq,reduceIte,g,hne]
   rw[e,g5Y (by omega)];rfl
  ·rw[g6A (show s.length≤24 by omega)] at e
   cases hL:d2U c with
   |false =>
    rw[hL] at a26 e
    simp only[wA,seval,reduceCtorEq,reduceIte,g,hne,h0,a26]
    rw[e];rfl
   |true =>
    rw[hL] at a26 e
    by_cases q:((d2X d2W s:Nat):Int)=(s.length:Int)
    ·rw[g6A (show d2X d2W s=s.length by omega)] at e
     simp only[wA,seval,reduceCtorEq,reduceIte,g,hne,h0,a26,a27,q,e1Q,a29,g3F]
     rw[e];rfl
    ·rw[g5Y (show ¬d2X d2W s=s.length by omega)] at e
     simp only[wA,seval,reduceCtorEq,reduceIte,g,hne,h0,a26,a27,q,g3F,g3E]
     rw[e];rfl
end Go.Proofs.YtdjcnfacjfnakaaGreat

/- Contracts: a property of all elements. -/
namespace Go.Proofs.YtdjcnfacjfnakaaGreat
open Go.Pi Go.Lx Go.Ky
variable {gl:Nat→Option (List T)}
def Says (f:Nat) (x:T) (b:Bool):Prop:=∀ (sg:Sg) (ow:Ow),CallE F gl f [.t x] sg ow fun v sg' ow'=>v=.t (.bool b)∧Grow sg sg'∧ow'=ow
theorem e1X {f:Nat} {p:Fu→Bool} {nl:Bool} {l:List Fu} (hl:l.length≤B47) (hp:∀ x,x∈l→Says (gl:=gl) f (.agg (tFu x)) (p x)) {sg0:Sg} {ow:Ow} (Q:Ex→S→Prop):∀ (r:List Fu) (i:Nat) (fr:List PV) (sg:Sg),l.drop i=r→Grow sg0 sg →
  b9J fr [(1,.fn f []),(7,.t (.sl nl (l.map tFu))),(8,.t (.int .i64 l.length)),(9,.t (.int .i64 i))] →
  (r.all p=true→∀ fr' sg',Grow sg0 sg'→Q (.exit 0) ⟨fr',sg',ow⟩) →
  (r.all p=false→∀ fr' sg',Grow sg0 sg'→a0A fr' 4=.t (.bool false)→Q .ret ⟨fr',sg',ow⟩) →
  Xl F gl c7O ⟨fr,sg,ow⟩ Q ⟨⟩:=by
 intro r
 induction r with
 |nil =>
  intro i fr sg hd hg hf h1 h2
  have hd:=b9E hd
  simp only[b9L,b9K] at hf
  obtain⟨f1,f7,f8,f9,-⟩:=hf
  refine Xl.step ?_
  simp only[c7O]
  have c1:¬((i:Int) < (l.length:Int)):=by omega
  simp only[wA,seval,reduceCtorEq,reduceIte,f1,f7,f8,f9,c1]
  exact h1 rfl _ _ hg
 |cons x r ih =>
  intro i fr sg hd hg hf h1 h2
  obtain⟨hx,hr,hi⟩:=b9D hd
  simp only[b9L,b9K] at hf
  obtain⟨f1,f7,f8,f9,-⟩:=hf
  refine Xl.step ?_
  simp only[c7O]
  have c1:(i:Int) < (l.length:Int):=by omega
  have hw1:=d7A hi (show l.length≤281474976710656 by have:B47=140737488355328:=rfl;omega)
  have hc:=hp x (g4Y hx)
  simp only[wA,seval,reduceCtorEq,reduceIte,f1,f7,f8,f9,c1,g4B,hx,g3K]
  refine CallE.mono (hc _ _) ?_
  rintro v sg' ow' ⟨rfl,hg',rfl⟩
  cases hq:p x with
  |true =>
   simp only[wA,seval,reduceCtorEq,reduceIte,f1,f7,f8,f9,hw1,hq]
   refine ih (i+1) _ _ hr (hg.trans ((Grow.app _ _).trans hg')) (by simp only[wQ,Nat.reduceEqDiff,reduceIte,f1,f7,f8]) (fun h=>h1 (by simpa [hq] using h)) (fun h=>h2 (by simpa [hq] using h))
  |false =>
   simp only[wA,seval,reduceCtorEq,reduceIte,f1,f7,f8,f9,hq]
   exact h2 (by simp [hq]) _ _ (hg.trans ((Grow.app _ _).trans hg')) (by simp only[wQ,Nat.reduceEqDiff,reduceIte])
theorem ok95 {f:Nat} {p:Fu→Bool} {nl:Bool} {l:List Fu} (hl:l.length≤B47) (hp:∀ x,x∈l→Says (gl:=gl) f (.agg (tFu x)) (p x)) (sg:Sg) (ow:Ow) :
  CallE F gl 95 [.t (.sl nl (l.map tFu)),.fn f []] sg ow fun v sg' ow'=>v=.t (.bool (l.all p))∧Grow sg sg'∧ow'=ow:=by
 refine XcE.of F95 rfl ?_
 simp only[c7P]
 simp only[wA,seval,reduceCtorEq,reduceIte,g4L]
 refine e1X hl hp (sg0:=sg) _ l 0 _ _ rfl (Grow.refl _) (by simp only[wQ,Nat.reduceEqDiff,reduceIte];exact rfl) ?_ ?_
 ·intro h fr' sg' hg
  simp only[wA,seval,reduceCtorEq,reduceIte]
  exact⟨by rw[h],hg⟩
 ·intro h fr' sg' hg h4
  simp only[wA,seval,reduceCtorEq,reduceIte,h4]
  exact⟨by rw[h],hg⟩
theorem e1Y {f:Nat} {p:De→Bool} {nl:Bool} {l:List De} (hl:l.length≤B47) (hp:∀ x,x∈l→Says (gl:=gl) f (.agg (tDe x)) (p x)) {sg0:Sg} {ow:Ow} (Q:Ex→S→Prop):∀ (r:List De) (i:Nat) (fr:List PV) (sg:Sg),l.drop i=r→Grow sg0 sg →
  b9J fr [(1,.fn f []),(7,.t (.sl nl (l.map tDe))),(8,.t (.int .i64 l.length)),(9,.t (.int .i64 i))] →
  (r.all p=true→∀ fr' sg',Grow sg0 sg'→Q (.exit 0) ⟨fr',sg',ow⟩) →
  (r.all p=false→∀ fr' sg',Grow sg0 sg'→a0A fr' 4=.t (.bool false)→Q .ret ⟨fr',sg',ow⟩) →
  Xl F gl c7R ⟨fr,sg,ow⟩ Q ⟨⟩:=by
 intro r
 induction r with
 |nil =>
  intro i fr sg hd hg hf h1 h2
  have hd:=b9E hd
  simp only[b9L,b9K] at hf
  obtain⟨f1,f7,f8,f9,-⟩:=hf
  refine Xl.step ?_
  simp only[c7R]
  have c1:¬((i:Int) < (l.length:Int)):=by omega
  simp only[wA,seval,reduceCtorEq,reduceIte,f1,f7,f8,f9,c1]
  exact h1 rfl _ _ hg
 |cons x r ih =>
  intro i fr sg hd hg hf h1 h2
  obtain⟨hx,hr,hi⟩:=b9D hd
  simp only[b9L,b9K] at hf
  obtain⟨f1,f7,f8,f9,-⟩:=hf
  refine Xl.step ?_
  simp only[c7R]
  have c1:(i:Int) < (l.length:Int):=by omega
  have hw1:=d7A hi (show l.length≤281474976710656 by have:B47=140737488355328:=rfl;omega)
  have hc:=hp x (g4Y hx)
  simp only[wA,seval,reduceCtorEq,reduceIte,f1,f7,f8,f9,c1,g4B,hx,g3K]
  refine CallE.mono (hc _ _) ?_
  rintro v sg' ow' ⟨rfl,hg',rfl⟩
  cases hq:p x with
  |true =>
   simp only[wA,seval,reduceCtorEq,reduceIte,f1,f7,f8,f9,hw1,hq]
   refine ih (i+1) _ _ hr (hg.trans ((Grow.app _ _).trans hg')) (by simp only[wQ,Nat.reduceEqDiff,reduceIte,f1,f7,f8]) (fun h=>h1 (by simpa [hq] using h)) (fun h=>h2 (by simpa [hq] using h))
  |false =>
   simp only[wA,seval,reduceCtorEq,reduceIte,f1,f7,f8,f9,hq]
   exact h2 (by simp [hq]) _ _ (hg.trans ((Grow.app _ _).trans hg')) (by simp only[wQ,Nat.reduceEqDiff,reduceIte])
theorem ok97 {f:Nat} {p:De→Bool} {nl:Bool} {l:List De} (hl:l.length≤B47) (hp:∀ x,x∈l→Says (gl:=gl) f (.agg (tDe x)) (p x)) (sg:Sg) (ow:Ow) :
  CallE F gl 97 [.t (.sl nl (l.map tDe)),.fn f []] sg ow fun v sg' ow'=>v=.t (.bool (l.all p))∧Grow sg sg'∧ow'=ow:=by
 refine XcE.of F97 rfl ?_
 simp only[c7S]
 simp only[wA,seval,reduceCtorEq,reduceIte,g4L]
 refine e1Y hl hp (sg0:=sg) _ l 0 _ _ rfl (Grow.refl _) (by simp only[wQ,Nat.reduceEqDiff,reduceIte];exact rfl) ?_ ?_
 ·intro h fr' sg' hg
  simp only[wA,seval,reduceCtorEq,reduceIte]
  exact⟨by rw[h],hg⟩
 ·intro h fr' sg' hg h4
  simp only[wA,seval,reduceCtorEq,reduceIte,h4]
  exact⟨by rw[h],hg⟩
theorem e1Z {f:Nat} {p:St→Bool} {nl:Bool} {l:List St} (hl:l.length≤B47) (hp:∀ x,x∈l→Says (gl:=gl) f (.agg (tSt x)) (p x)) {sg0:Sg} {ow:Ow} (Q:Ex→S→Prop):∀ (r:List St) (i:Nat) (fr:List PV) (sg:Sg),l.drop i=r→Grow sg0 sg →
  b9J fr [(1,.fn f []),(7,.t (.sl nl (d3G l))),(8,.t (.int .i64 l.length)),(9,.t (.int .i64 i))] →
  (r.all p=true→∀ fr' sg',Grow sg0 sg'→Q (.exit 0) ⟨fr',sg',ow⟩) →
  (r.all p=false→∀ fr' sg',Grow sg0 sg'→a0A fr' 4=.t (.bool false)→Q .ret ⟨fr',sg',ow⟩) →
  Xl F gl c7U ⟨fr,sg,ow⟩ Q ⟨⟩:=by
 intro r
 induction r with
 |nil =>
  intro i fr sg hd hg hf h1 h2
  have hd:=b9E hd
  simp only[b9L,b9K] at hf
  obtain⟨f1,f7,f8,f9,-⟩:=hf
  refine Xl.step ?_
  simp only[c7U]
  have c1:¬((i:Int) < (l.length:Int)):=by omega
  simp only[wA,seval,reduceCtorEq,reduceIte,f1,f7,f8,f9,c1]
  exact h1 rfl _ _ hg
 |cons x r ih =>
  intro i fr sg hd hg hf h1 h2
  obtain⟨hx,hr,hi⟩:=b9D hd
  simp only[b9L,b9K] at hf
  obtain⟨f1,f7,f8,f9,-⟩:=hf
  refine Xl.step ?_
  simp only[c7U]
  have c1:(i:Int) < (l.length:Int):=by omega
  have hw1:=d7A hi (show l.length≤281474976710656 by have:B47=140737488355328:=rfl;omega)
  have hc:=hp x (g4Y hx)
  simp only[d3I] at hc
  simp only[wA,seval,reduceCtorEq,reduceIte,f1,f7,f8,f9,c1,d3K,hx,d3I,g3K]
  refine CallE.mono (hc _ _) ?_
  rintro v sg' ow' ⟨rfl,hg',rfl⟩
  cases hq:p x with
  |true =>
   simp only[wA,seval,reduceCtorEq,reduceIte,f1,f7,f8,f9,hw1,hq]
   refine ih (i+1) _ _ hr (hg.trans ((Grow.app _ _).trans hg')) (by simp only[wQ,Nat.reduceEqDiff,reduceIte,f1,f7,f8]) (fun h=>h1 (by simpa [hq] using h)) (fun h=>h2 (by simpa [hq] using h))
  |false =>
   simp only[wA,seval,reduceCtorEq,reduceIte,f1,f7,f8,f9,hq]
   exact h2 (by simp [hq]) _ _ (hg.trans ((Grow.app _ _).trans hg')) (by simp only[wQ,Nat.reduceEqDiff,reduceIte])
theorem e2A {f:Nat} {p:St→Bool} {nl:Bool} {l:List St} (hl:l.length≤B47) (hp:∀ x,x∈l→Says (gl:=gl) f (.agg (tSt x)) (p x)) (sg:Sg) (ow:Ow) :
  CallE F gl 99 [.t (.sl nl (d3G l)),.fn f []] sg ow fun v sg' ow'=>v=.t (.bool (l.all p))∧Grow sg sg'∧ow'=ow:=by
 refine XcE.of F99 rfl ?_
 simp only[c7V]
 simp only[wA,seval,reduceCtorEq,reduceIte,d3J]
 refine e1Z hl hp (sg0:=sg) _ l 0 _ _ rfl (Grow.refl _) (by simp only[wQ,Nat.reduceEqDiff,reduceIte];exact rfl) ?_ ?_
 ·intro h fr' sg' hg
  simp only[wA,seval,reduceCtorEq,reduceIte]
  exact⟨by rw[h],hg⟩
 ·intro h fr' sg' hg h4
  simp only[wA,seval,reduceCtorEq,reduceIte,h4]
  exact⟨by rw[h],hg⟩
theorem e2B {f:Nat} {p:Pa→Bool} {nl:Bool} {l:List Pa} (hl:l.length≤B47) (hp:∀ x,x∈l→Says (gl:=gl) f (.agg (tPa x)) (p x)) {sg0:Sg} {ow:Ow} (Q:Ex→S→Prop):∀ (r:List Pa) (i:Nat) (fr:List PV) (sg:Sg),l.drop i=r→Grow sg0 sg →
  b9J fr [(1,.fn f []),(7,.t (.sl nl (l.map tPa))),(8,.t (.int .i64 l.length)),(9,.t (.int .i64 i))] →
  (r.all p=true→∀ fr' sg',Grow sg0 sg'→Q (.exit 0) ⟨fr',sg',ow⟩) →
  (r.all p=false→∀ fr' sg',Grow sg0 sg'→a0A fr' 4=.t (.bool false)→Q .ret ⟨fr',sg',ow⟩) →
  Xl F gl c9B ⟨fr,sg,ow⟩ Q ⟨⟩:=by
 intro r
 induction r with
 |nil =>
  intro i fr sg hd hg hf h1 h2
  have hd:=b9E hd
  simp only[b9L,b9K] at hf
  obtain⟨f1,f7,f8,f9,-⟩:=hf
  refine Xl.step ?_
  simp only[c9B]
  have c1:¬((i:Int) < (l.length:Int)):=by omega
  simp only[wA,seval,reduceCtorEq,reduceIte,f1,f7,f8,f9,c1]
  exact h1 rfl _ _ hg
 |cons x r ih =>
  intro i fr sg hd hg hf h1 h2
  obtain⟨hx,hr,hi⟩:=b9D hd
  simp only[b9L,b9K] at hf
  obtain⟨f1,f7,f8,f9,-⟩:=hf
  refine Xl.step ?_
  simp only[c9B]
  have c1:(i:Int) < (l.length:Int):=by omega
  have hw1:=d7A hi (show l.length≤281474976710656 by have:B47=140737488355328:=rfl;omega)
  have hc:=hp x (g4Y hx)
  simp only[wA,seval,reduceCtorEq,reduceIte,f1,f7,f8,f9,c1,g4B,hx,g3K]
  refine CallE.mono (hc _ _) ?_
  rintro v sg' ow' ⟨rfl,hg',rfl⟩
  cases hq:p x with
  |true =>
   simp only[wA,seval,reduceCtorEq,reduceIte,f1,f7,f8,f9,hw1,hq]
   refine ih (i+1) _ _ hr (hg.trans ((Grow.app _ _).trans hg')) (by simp only[wQ,Nat.reduceEqDiff,reduceIte,f1,f7,f8]) (fun h=>h1 (by simpa [hq] using h)) (fun h=>h2 (by simpa [hq] using h))
  |false =>
   simp only[wA,seval,reduceCtorEq,reduceIte,f1,f7,f8,f9,hq]
   exact h2 (by simp [hq]) _ _ (hg.trans ((Grow.app _ _).trans hg')) (by simp only[wQ,Nat.reduceEqDiff,reduceIte])
theorem e2C {f:Nat} {p:Pa→Bool} {nl:Bool} {l:List Pa} (hl:l.length≤B47) (hp:∀ x,x∈l→Says (gl:=gl) f (.agg (tPa x)) (p x)) (sg:Sg) (ow:Ow) :
  CallE F gl 140 [.t (.sl nl (l.map tPa)),.fn f []] sg ow fun v sg' ow'=>v=.t (.bool (l.all p))∧Grow sg sg'∧ow'=ow:=by
 refine XcE.of F140 rfl ?_
 simp only[c9C]
 simp only[wA,seval,reduceCtorEq,reduceIte,g4L]
 refine e2B hl hp (sg0:=sg) _ l 0 _ _ rfl (Grow.refl _) (by simp only[wQ,Nat.reduceEqDiff,reduceIte];exact rfl) ?_ ?_
 ·intro h fr' sg' hg
  simp only[wA,seval,reduceCtorEq,reduceIte]
  exact⟨by rw[h],hg⟩
 ·intro h fr' sg' hg h4
  simp only[wA,seval,reduceCtorEq,reduceIte,h4]
  exact⟨by rw[h],hg⟩
theorem e2D {f:Nat} {p:Exp→Bool} {nl:Bool} {l:List Exp} (hl:l.length≤B47) (hp:∀ x,x∈l→Says (gl:=gl) f (.agg (tEx x)) (p x)) {sg0:Sg} {ow:Ow} (Q:Ex→S→Prop):∀ (r:List Exp) (i:Nat) (fr:List PV) (sg:Sg),l.drop i=r→Grow sg0 sg →
  b9J fr [(1,.fn f []),(7,.t (.sl nl (d3B l))),(8,.t (.int .i64 l.length)),(9,.t (.int .i64 i))] →
  (r.all p=true→∀ fr' sg',Grow sg0 sg'→Q (.exit 0) ⟨fr',sg',ow⟩) →
  (r.all p=false→∀ fr' sg',Grow sg0 sg'→a0A fr' 4=.t (.bool false)→Q .ret ⟨fr',sg',ow⟩) →
  Xl F gl d0O ⟨fr,sg,ow⟩ Q ⟨⟩:=by
 intro r
 induction r with
 |nil =>
  intro i fr sg hd hg hf h1 h2
  have hd:=b9E hd
  simp only[b9L,b9K] at hf
  obtain⟨f1,f7,f8,f9,-⟩:=hf
  refine Xl.step ?_
  simp only[d0O]
  have c1:¬((i:Int) < (l.length:Int)):=by omega
  simp only[wA,seval,reduceCtorEq,reduceIte,f1,f7,f8,f9,c1]
  exact h1 rfl _ _ hg
 |cons x r ih =>
  intro i fr sg hd hg hf h1 h2
  obtain⟨hx,hr,hi⟩:=b9D hd
  simp only[b9L,b9K] at hf
  obtain⟨f1,f7,f8,f9,-⟩:=hf
  refine Xl.step ?_
  simp only[d0O]
  have c1:(i:Int) < (l.length:Int):=by omega
  have hw1:=d7A hi (show l.length≤281474976710656 by have:B47=140737488355328:=rfl;omega)
  have hc:=hp x (g4Y hx)
  simp only[d3D] at hc
  simp only[wA,seval,reduceCtorEq,reduceIte,f1,f7,f8,f9,c1,d3F,hx,d3D,g3K]
  refine CallE.mono (hc _ _) ?_
  rintro v sg' ow' ⟨rfl,hg',rfl⟩
  cases hq:p x with
  |true =>
   simp only[wA,seval,reduceCtorEq,reduceIte,f1,f7,f8,f9,hw1,hq]
   refine ih (i+1) _ _ hr (hg.trans ((Grow.app _ _).trans hg')) (by simp only[wQ,Nat.reduceEqDiff,reduceIte,f1,f7,f8]) (fun h=>h1 (by simpa [hq] using h)) (fun h=>h2 (by simpa [hq] using h))
  |false =>
   simp only[wA,seval,reduceCtorEq,reduceIte,f1,f7,f8,f9,hq]
   exact h2 (by simp [hq]) _ _ (hg.trans ((Grow.app _ _).trans hg')) (by simp only[wQ,Nat.reduceEqDiff,reduceIte])
theorem e2E {f:Nat} {p:Exp→Bool} {nl:Bool} {l:List Exp} (hl:l.length≤B47) (hp:∀ x,x∈l→Says (gl:=gl) f (.agg (tEx x)) (p x)) (sg:Sg) (ow:Ow) :
  CallE F gl 183 [.t (.sl nl (d3B l)),.fn f []] sg ow fun v sg' ow'=>v=.t (.bool (l.all p))∧Grow sg sg'∧ow'=ow:=by
 refine XcE.of F183 rfl ?_
 simp only[d0P]
 simp only[wA,seval,reduceCtorEq,reduceIte,d3E]
 refine e2D hl hp (sg0:=sg) _ l 0 _ _ rfl (Grow.refl _) (by simp only[wQ,Nat.reduceEqDiff,reduceIte];exact rfl) ?_ ?_
 ·intro h fr' sg' hg
  simp only[wA,seval,reduceCtorEq,reduceIte]
  exact⟨by rw[h],hg⟩
 ·intro h fr' sg' hg h4
  simp only[wA,seval,reduceCtorEq,reduceIte,h4]
  exact⟨by rw[h],hg⟩
end Go.Proofs.YtdjcnfacjfnakaaGreat

/- Contracts: valid types, expressions, statements. -/
namespace Go.Proofs.YtdjcnfacjfnakaaGreat
open Go.Pi Go.Lx Go.Ky
variable {gl:Nat→Option (List T)}
theorem Says.call {f:Nat} {x:T} {b:Bool} (h:Says (gl:=gl) f x b) {K:PV→Prop}:XcP F gl f [x] K ⟨⟩↔K (.t (.bool b)):=by
 refine CallP.iff ?_
 refine(h [] []).mono ?_
 rintro v sg ow ⟨rfl,_,_⟩
 rfl
theorem e2F (t:Ty):Says (gl:=gl) 142 (.agg (tTy t)) (tyB t):=by
 intro sg ow
 refine XcE.of F142 rfl ?_
 simp only[c9E]
 simp only[wA,seval,reduceCtorEq,reduceIte]
 repeat' ((with_reducible first|refine c3U ?_ ?_|refine c3V ?_ ?_|refine c3T ?_ ?_|refine c3S ?_ ?_|refine c3Q ?_ ?_|refine c3R ?_ ?_|refine c3P ?_ ?_|refine c3O ?_ ?_) <;> intro h <;> (try simp only[wA,seval,reduceCtorEq,reduceIte,h]))
 all_goals (refine⟨?_,Grow.app _ _⟩;simp only[PV.t.injEq,T.bool.injEq];unfold tyB)
 all_goals simp_all
 all_goals omega
theorem e2G (s:St):Says (gl:=gl) 144 (.agg (tSt s)) (d4R s):=by
 intro sg ow
 refine XcE.of F144 rfl ?_
 simp only[c9G,d3I]
 simp only[wA,seval,reduceCtorEq,reduceIte]
 repeat' ((with_reducible first|refine c3U ?_ ?_|refine c3V ?_ ?_|refine c3T ?_ ?_|refine c3S ?_ ?_|refine c3Q ?_ ?_|refine c3R ?_ ?_|refine c3P ?_ ?_|refine c3O ?_ ?_) <;> intro h <;> (try simp only[wA,seval,reduceCtorEq,reduceIte,h]))
 all_goals (refine⟨?_,Grow.app _ _⟩;simp only[PV.t.injEq,T.bool.injEq];unfold d4R)
 all_goals simp_all [zTy,d6X]
 all_goals exact decide_eq_decide.2 g3J
theorem e2H (n:Int):Says (gl:=gl) 146 (.int .i64 n) (d4Q n):=by
 intro sg ow
 refine XcE.of F146 rfl ?_
 simp only[c9I]
 simp only[wA,seval,reduceCtorEq,reduceIte]
 repeat' ((with_reducible first|refine c3U ?_ ?_|refine c3V ?_ ?_|refine c3T ?_ ?_|refine c3S ?_ ?_|refine c3Q ?_ ?_|refine c3R ?_ ?_|refine c3P ?_ ?_|refine c3O ?_ ?_) <;> intro h <;> (try simp only[wA,seval,reduceCtorEq,reduceIte,h]))
 all_goals (refine⟨?_,Grow.refl _⟩;simp only[PV.t.injEq,T.bool.injEq];unfold d4Q)
 all_goals simp_all
 all_goals omega
theorem e2I (e:Exp):Says (gl:=gl) 145 (.agg (tEx e)) (d4P e):=by
 intro sg ow
 refine XcE.of F145 rfl ?_
 simp only[c9H,d3D]
 simp only[wA,seval,reduceCtorEq,reduceIte,d3E]
 repeat' ((with_reducible first|refine c3U ?_ ?_|refine c3V ?_ ?_|refine c3T ?_ ?_|refine c3S ?_ ?_|refine c3Q ?_ ?_|refine c3R ?_ ?_|refine c3P ?_ ?_|refine c3O ?_ ?_) <;> intro h <;> (try simp only[wA,seval,reduceCtorEq,reduceIte,d3E,h]))
 all_goals (refine⟨?_,Grow.app _ _⟩;simp only[PV.t.injEq,T.bool.injEq];unfold d4P)
 all_goals simp_all
theorem e2J (p:Pa) (h:d3M p):Says (gl:=gl) 141 (.agg (tPa p)) (paB p):=by
 intro sg ow
 have hn:=@e1W gl p.name (by have:=h.1;have:B47=140737488355328:=rfl;omega)
 refine XcE.of F141 rfl ?_
 simp only[c9D]
 simp only[wA,seval,reduceCtorEq,reduceIte,hn,(e2F p.ty).call]
 repeat' ((with_reducible first|refine c3U ?_ ?_|refine c3V ?_ ?_|refine c3T ?_ ?_|refine c3S ?_ ?_|refine c3Q ?_ ?_|refine c3R ?_ ?_|refine c3P ?_ ?_|refine c3O ?_ ?_) <;> intro h <;> (try simp only[wA,seval,reduceCtorEq,reduceIte,hn,(e2F p.ty).call,h]))
 all_goals (refine⟨?_,Grow.app _ _⟩;simp only[PV.t.injEq,T.bool.injEq];unfold paB)
 all_goals simp_all
theorem sy98 (p:De) (h:d3N p):Says (gl:=gl) 98 (.agg (tDe p)) (deB p):=by
 intro sg ow
 have hn:=@e1W gl p.name (by have:=h.1;have:B47=140737488355328:=rfl;omega)
 refine XcE.of F98 rfl ?_
 simp only[c7T]
 simp only[wA,seval,reduceCtorEq,reduceIte,hn,(e2F p.ty).call]
 repeat' ((with_reducible first|refine c3U ?_ ?_|refine c3V ?_ ?_|refine c3T ?_ ?_|refine c3S ?_ ?_|refine c3Q ?_ ?_|refine c3R ?_ ?_|refine c3P ?_ ?_|refine c3O ?_ ?_) <;> intro h <;> (try simp only[wA,seval,reduceCtorEq,reduceIte,hn,(e2F p.ty).call,h]))
 all_goals (refine⟨?_,Grow.app _ _⟩;simp only[PV.t.injEq,T.bool.injEq];unfold deB)
 all_goals simp_all
end Go.Proofs.YtdjcnfacjfnakaaGreat

/- Contracts: valid expressions, statements, functions; depths. -/
namespace Go.Proofs.YtdjcnfacjfnakaaGreat
open Go.Pi Go.Lx Go.Ky
variable {gl:Nat→Option (List T)}
set_option maxHeartbeats 1000000 in
theorem e2K:∀ e:Exp,ExpOk e→Says (gl:=gl) 143 (.agg (tEx e)) (exB e):=by
 refine Exp.ind fun e ih ho sg ow=>?_
 cases ho with|mk _ h1 h2 h3 h4 h5 h =>
 have hn:=@e1W gl e.name (by have:B47=140737488355328:=rfl;omega)
 refine XcE.of F143 rfl ?_
 simp only[c9F,d3D]
 simp only[wA,seval,reduceCtorEq,reduceIte]
 refine CallE.mono (e2E h4 (fun x hx=>ih x hx (h x hx)) _ _) ?_
 rintro v sg' ow' ⟨rfl,⟨r,rfl⟩,rfl⟩
 have hle:(1≤(e.args.length:Int))↔(0 < e.args.length):=by omega
 rw[d4O]
 unfold opB
 cases hall:e.args.all exB with
 |false =>
  simp only[wA,seval,reduceCtorEq,reduceIte,hall]
  exact⟨by simp,Grow.app _ _⟩
 |true =>
  simp only[wA,seval,reduceCtorEq,reduceIte,hall,d3E,hn]
  repeat' ((with_reducible first|refine c3U ?_ ?_|refine c3V ?_ ?_|refine c3T ?_ ?_|refine c3S ?_ ?_|refine c3Q ?_ ?_|refine c3R ?_ ?_|refine c3P ?_ ?_|refine c3O ?_ ?_) <;> intro h <;> (try simp only[wA,seval,reduceCtorEq,reduceIte,hall,d3E,hn,h]))
  all_goals (refine⟨?_,Grow.app _ _⟩;simp only[PV.t.injEq,T.bool.injEq,g3H])
  all_goals simp_all
end Go.Proofs.YtdjcnfacjfnakaaGreat

/- Contracts: valid statements, functions; depths; Valid. -/
namespace Go.Proofs.YtdjcnfacjfnakaaGreat
open Go.Pi Go.Lx Go.Ky
variable {gl:Nat→Option (List T)}
set_option maxHeartbeats 1000000 in
theorem e2L:∀ s:St,StOk s→Says (gl:=gl) 100 (.agg (tSt s)) (stB s):=by
 refine St.ind fun s ih ho sg ow=>?_
 cases ho with|mk _ h1 h2 h3 h4 h5 h6 h7 h8 h =>
 have hn:=@e1W gl s.name (by have:B47=140737488355328:=rfl;omega)
 have hE:=fun K=>(e2K (gl:=gl) s.ex h4).call (K:=K)
 have hM:=fun K=>(e2I (gl:=gl) s.ex).call (K:=K)
 have hU:=fun K=>(e2G (gl:=gl) s).call (K:=K)
 have hL:=fun n K=>(e2H (gl:=gl) n).call (K:=K)
 have hT:=fun K=>(e2F (gl:=gl) s.ty).call (K:=K)
 have hev:=fun sg'=>CallE.mono (K':=fun v sg2 ow2=>v=.t (.bool (s.body.all stB))∧Grow sg' sg2∧ow2=ow) (e2A (gl:=gl) (nl:=s.nl) h7 (fun x hx=>ih x hx (h x hx)) sg' ow) (fun _ _ _ h=>h)
 refine XcE.of F100 rfl ?_
 rw[d4U]
 simp only[d3D] at hE hM
 simp only[d3I] at hU
 simp only[c7W,d3I]
 by_cases k1:s.kind=1
 ·simp only[k1] at hU ⊢
  simp only[wA,seval,reduceCtorEq,reduceIte,hn,hE,hM,hU,hL,hT,d3J,d6X]
  repeat' ((with_reducible first|refine c3U ?_ ?_|refine c3V ?_ ?_|refine c3T ?_ ?_|refine c3S ?_ ?_|refine c3Q ?_ ?_|refine c3R ?_ ?_|refine c3P ?_ ?_|refine c3O ?_ ?_) <;> intro h <;> (try simp only[wA,seval,reduceCtorEq,reduceIte,hn,hE,hM,hU,hL,hT,d3J,d6X,h]))
  all_goals (refine⟨?_,Grow.app _ _⟩;simp only[PV.t.injEq,T.bool.injEq])
  all_goals simp_all [zTy]
 ·by_cases k2:s.kind=2
  ·simp only[k2] at hU ⊢
   simp only[wA,seval,reduceCtorEq,reduceIte,hn,hE,hM,hU,hL,hT,d3J,d6X]
   repeat' ((with_reducible first|refine c3U ?_ ?_|refine c3V ?_ ?_|refine c3T ?_ ?_|refine c3S ?_ ?_|refine c3Q ?_ ?_|refine c3R ?_ ?_|refine c3P ?_ ?_|refine c3O ?_ ?_) <;> intro h <;> (try simp only[wA,seval,reduceCtorEq,reduceIte,hn,hE,hM,hU,hL,hT,d3J,d6X,h]))
   all_goals (refine⟨?_,Grow.app _ _⟩;simp only[PV.t.injEq,T.bool.injEq])
   all_goals simp_all [zTy]
  ·by_cases k3:s.kind=3
   ·simp only[k3] at hU ⊢
    simp only[wA,seval,reduceCtorEq,reduceIte,hn,hE,hM,hU,hL,hT,d3J,d6X]
    repeat' ((with_reducible first|refine c3U ?_ ?_|refine c3V ?_ ?_|refine c3T ?_ ?_|refine c3S ?_ ?_|refine c3Q ?_ ?_|refine c3R ?_ ?_|refine c3P ?_ ?_|refine c3O ?_ ?_) <;> intro h <;> (try simp only[wA,seval,reduceCtorEq,reduceIte,hn,hE,hM,hU,hL,hT,d3J,d6X,h]))
    any_goals (refine CallE.mono (hev _) ?_;rintro v sg' ow' ⟨rfl,⟨r,rfl⟩,rfl⟩;((simp only[wA,seval,reduceCtorEq,reduceIte]);(repeat' ((with_reducible first|refine c3U ?_ ?_|refine c3V ?_ ?_|refine c3T ?_ ?_|refine c3S ?_ ?_|refine c3Q ?_ ?_|refine c3R ?_ ?_|refine c3P ?_ ?_|refine c3O ?_ ?_) <;> intro h <;> (try simp only[wA,seval,reduceCtorEq,reduceIte,h])))))
    all_goals (refine⟨?_,Grow.app _ _⟩;simp only[PV.t.injEq,T.bool.injEq])
    all_goals simp_all [zTy]
   ·simp only[wA,seval,reduceCtorEq,reduceIte,hn,hE,hM,hU,hL,hT,d3J,d6X,k1,k2,k3]
    repeat' ((with_reducible first|refine c3U ?_ ?_|refine c3V ?_ ?_|refine c3T ?_ ?_|refine c3S ?_ ?_|refine c3Q ?_ ?_|refine c3R ?_ ?_|refine c3P ?_ ?_|refine c3O ?_ ?_) <;> intro h <;> (try simp only[wA,seval,reduceCtorEq,reduceIte,hn,hE,hM,hU,hL,hT,d3J,d6X,k1,k2,k3,h]))
    all_goals exact Grow.app _ _
theorem sy96 (f:Fu) (ho:FuOk f):Says (gl:=gl) 96 (.agg (tFu f)) (fuB f):=by
 intro sg ow
 have hn:=@e1W gl f.name (by have:=ho.name;have:B47=140737488355328:=rfl;omega)
 have hE:=fun K=>(e2K (gl:=gl) f.ret ho.ret).call (K:=K)
 have hT:=fun K=>(e2F (gl:=gl) f.res).call (K:=K)
 have hp:=fun sg'=>e2C (gl:=gl) (nl:=f.pnl) ho.pl (fun x hx=>e2J x (ho.pa x hx)) sg' ow
 have hb:=fun sg'=>e2A (gl:=gl) (nl:=f.bnl) ho.bl (fun x hx=>e2L x (ho.bo x hx)) sg' ow
 refine XcE.of F96 rfl ?_
 simp only[d3D] at hE
 simp only[c7Q]
 unfold fuB
 simp only[wA,seval,reduceCtorEq,reduceIte,hn,hE,hT]
 repeat' ((with_reducible first|refine c3U ?_ ?_|refine c3V ?_ ?_|refine c3T ?_ ?_|refine c3S ?_ ?_|refine c3Q ?_ ?_|refine c3R ?_ ?_|refine c3P ?_ ?_|refine c3O ?_ ?_) <;> intro h <;> (try simp only[wA,seval,reduceCtorEq,reduceIte,hn,hE,hT,h]))
 any_goals (refine CallE.mono (hp _) ?_;rintro v sg' ow' ⟨rfl,⟨r,rfl⟩,rfl⟩;((simp only[wA,seval,reduceCtorEq,reduceIte,hn,hE,hT]);(repeat' ((with_reducible first|refine c3U ?_ ?_|refine c3V ?_ ?_|refine c3T ?_ ?_|refine c3S ?_ ?_|refine c3Q ?_ ?_|refine c3R ?_ ?_|refine c3P ?_ ?_|refine c3O ?_ ?_) <;> intro h <;> (try simp only[wA,seval,reduceCtorEq,reduceIte,hn,hE,hT,h])))))
 any_goals (refine CallE.mono (hb _) ?_;rintro v sg' ow' ⟨rfl,⟨r2,rfl⟩,rfl⟩;((simp only[wA,seval,reduceCtorEq,reduceIte,hn,hE,hT]);(repeat' ((with_reducible first|refine c3U ?_ ?_|refine c3V ?_ ?_|refine c3T ?_ ?_|refine c3S ?_ ?_|refine c3Q ?_ ?_|refine c3R ?_ ?_|refine c3P ?_ ?_|refine c3O ?_ ?_) <;> intro h <;> (try simp only[wA,seval,reduceCtorEq,reduceIte,hn,hE,hT,h])))))
 all_goals (refine⟨?_,by first|exact Grow.app _ _|(simp only[g3N,g3Q];exact Grow.app _ _)⟩;simp only[PV.t.injEq,T.bool.injEq])
 all_goals simp_all
theorem e2M (a b:Nat):(if (b:Int) > (a:Int) then (b:Int) else (a:Int))=((max a b:Nat):Int):=by
 split <;> omega
theorem e2N {l:List Exp} {nl:Bool} (hs:d4A l≤B20) (hd:∀ x,x∈l→∀ K,XcP F gl 184 [.agg (tEx x)] K ⟨⟩↔K (.t (.int .i64 (dEx x:Nat)))) {ow:Ow} (Q:Ex→S→Prop):∀ (r:List Exp) (i acc:Nat) (fr:List PV) (sg:Sg),l.drop i=r →
  b9J fr [(3,.t (.int .i64 (acc:Nat))),(7,.t (.sl nl (d3B l))),(8,.t (.int .i64 l.length)),(9,.t (.int .i64 i))] →
  (∀ fr' sg',a0A fr' 3=.t (.int .i64 ((max acc (d4V r):Nat):Int))→Q (.exit 0) ⟨fr',sg',ow⟩) →
  Xl F gl d0Q ⟨fr,sg,ow⟩ Q ⟨⟩:=by
 intro r
 induction r with
 |nil =>
  intro i acc fr sg hdr hf h1
  have hdr:=b9E hdr
  simp only[b9L,b9K] at hf
  obtain⟨f3,f7,f8,f9,-⟩:=hf
  refine Xl.step ?_
  simp only[d0Q]
  have c1:¬((i:Int) < (l.length:Int)):=by omega
  simp only[wA,seval,reduceCtorEq,reduceIte,f3,f7,f8,f9,c1]
  refine h1 _ _ ?_
  simp only[wQ,Nat.reduceEqDiff,reduceIte,f3,d4V,Nat.max_zero]
 |cons x r ih =>
  intro i acc fr sg hdr hf h1
  obtain⟨hx,hr,hi⟩:=b9D hdr
  simp only[b9L,b9K] at hf
  obtain⟨f3,f7,f8,f9,-⟩:=hf
  refine Xl.step ?_
  simp only[d0Q]
  have c1:(i:Int) < (l.length:Int):=by omega
  have hll:=d4I l
  have hw1:=d7A hi (show l.length≤281474976710656 by have:B20=1100000:=rfl;omega)
  have hc:=hd x (g4Y hx)
  simp only[d3D] at hc
  simp only[wA,seval,reduceCtorEq,reduceIte,f3,f7,f8,f9,c1,hw1,d3F,hx,d3D,g3K,hc,mxT,e2M]
  refine ih (i+1) (max acc (dEx x)) _ _ hr (by simp only[wQ,Nat.reduceEqDiff,reduceIte,f7,f8]) fun fr' sg' h=>h1 fr' sg' ?_
  rw[h,d4V,Nat.max_assoc]
theorem e2O:∀ e:Exp,szE e≤B20→∀ K,XcP F gl 184 [.agg (tEx e)] K ⟨⟩↔K (.t (.int .i64 (dEx e:Nat))):=by
 refine Exp.ind fun e ih hs K=>?_
 refine Ret.iff (Ret.of F184 rfl ?_)
 have hse:=d4C e
 have hdl:=d4Z e
 have hsl:d4A e.args≤B20:=by omega
 simp only[d0R,d3D]
 simp only[wA,seval,reduceCtorEq,reduceIte,d3E]
 refine e2N hsl (fun x hx=>ih x hx (g5L (d4G hx) hsl)) _ e.args 0 0 _ _ rfl (by simp only[wQ,Nat.reduceEqDiff,reduceIte];first|done|exact⟨rfl,rfl⟩|exact rfl) fun fr' sg' h=>?_
 have hw:IntKind.wrap .i64 (((max 0 (d4V e.args):Nat):Int)+1)=((dEx e:Nat):Int):=by
  have:=d4X e
  rw[IntWalk.i64_in _ (by have:B20=1100000:=rfl;omega)]
  omega
 simp only[wA,seval,reduceCtorEq,reduceIte,h,hw]
end Go.Proofs.YtdjcnfacjfnakaaGreat

/- Contracts: depths of statements; Valid. -/
namespace Go.Proofs.YtdjcnfacjfnakaaGreat
open Go.Pi Go.Lx Go.Ky
variable {gl:Nat→Option (List T)}
theorem e2P {l:List St} {nl:Bool} (hs:d4B l≤B20) (hd:∀ x,x∈l→∀ K,XcP F gl 148 [.agg (tSt x)] K ⟨⟩↔K (.t (.int .i64 (dSt x:Nat)))) {ow:Ow} (Q:Ex→S→Prop):∀ (r:List St) (i acc:Nat) (fr:List PV) (sg:Sg),l.drop i=r →
  b9J fr [(3,.t (.int .i64 (acc:Nat))),(7,.t (.sl nl (d3G l))),(8,.t (.int .i64 l.length)),(9,.t (.int .i64 i))] →
  (∀ fr' sg',a0A fr' 3=.t (.int .i64 ((max acc (d4W r):Nat):Int))→Q (.exit 0) ⟨fr',sg',ow⟩) →
  Xl F gl c9K ⟨fr,sg,ow⟩ Q ⟨⟩:=by
 intro r
 induction r with
 |nil =>
  intro i acc fr sg hdr hf h1
  have hdr:=b9E hdr
  simp only[b9L,b9K] at hf
  obtain⟨f3,f7,f8,f9,-⟩:=hf
  refine Xl.step ?_
  simp only[c9K]
  have c1:¬((i:Int) < (l.length:Int)):=by omega
  simp only[wA,seval,reduceCtorEq,reduceIte,f3,f7,f8,f9,c1]
  refine h1 _ _ ?_
  simp only[wQ,Nat.reduceEqDiff,reduceIte,f3,d4W,Nat.max_zero]
 |cons x r ih =>
  intro i acc fr sg hdr hf h1
  obtain⟨hx,hr,hi⟩:=b9D hdr
  simp only[b9L,b9K] at hf
  obtain⟨f3,f7,f8,f9,-⟩:=hf
  refine Xl.step ?_
  simp only[c9K]
  have c1:(i:Int) < (l.length:Int):=by omega
  have hll:=d4J l
  have hw1:=d7A hi (show l.length≤281474976710656 by have:B20=1100000:=rfl;omega)
  have hc:=hd x (g4Y hx)
  simp only[d3I] at hc
  simp only[wA,seval,reduceCtorEq,reduceIte,f3,f7,f8,f9,c1,hw1,d3K,hx,d3I,g3K,hc,mxT,e2M]
  refine ih (i+1) (max acc (dSt x)) _ _ hr (by simp only[wQ,Nat.reduceEqDiff,reduceIte,f7,f8]) fun fr' sg' h=>h1 fr' sg' ?_
  rw[h,d4W,Nat.max_assoc]
theorem e2Q:∀ e:St,szS e≤B20→∀ K,XcP F gl 148 [.agg (tSt e)] K ⟨⟩↔K (.t (.int .i64 (dSt e:Nat))):=by
 refine St.ind fun e ih hs K=>?_
 refine Ret.iff (Ret.of F148 rfl ?_)
 have hse:=d4E e
 have hdl:=d5A e
 have hsl:d4B e.body≤B20:=by omega
 simp only[c9L,d3I]
 simp only[wA,seval,reduceCtorEq,reduceIte,d3J]
 refine e2P hsl (fun x hx=>ih x hx (g5L (d4H hx) hsl)) _ e.body 0 0 _ _ rfl (by simp only[wQ,Nat.reduceEqDiff,reduceIte];first|done|exact⟨rfl,rfl⟩|exact rfl) fun fr' sg' h=>?_
 have hw:IntKind.wrap .i64 (((max 0 (d4W e.body):Nat):Int)+1)=((dSt e:Nat):Int):=by
  have:=d4Y e
  rw[IntWalk.i64_in _ (by have:B20=1100000:=rfl;omega)]
  omega
 simp only[wA,seval,reduceCtorEq,reduceIte,h,hw]
theorem e2R (e:Exp) (hs:szE e≤B20):Says (gl:=gl) 147 (.agg (tEx e)) (shE e):=by
 intro sg ow
 have hd:=e2O (gl:=gl) e hs
 simp only[d3D] at hd
 refine XcE.of F147 rfl ?_
 simp only[c9J,d3D]
 simp only[wA,seval,reduceCtorEq,reduceIte,hd]
 exact⟨rfl,Grow.app _ _⟩
theorem e2S:∀ s:St,StOk s→szS s≤B20→Says (gl:=gl) 102 (.agg (tSt s)) (shS s):=by
 refine St.ind fun s ih ho hs sg ow=>?_
 have hse:=d4E s
 have hex:=d4K s
 cases ho with|mk _ h1 h2 h3 h4 h5 h6 h7 h8 h =>
 have hd:=e2Q (gl:=gl) s hs
 have hE:=fun K=>(e2R (gl:=gl) s.ex (by omega)).call (K:=K)
 have hev:=fun sg'=>e2A (gl:=gl) (nl:=s.nl) h7 (fun x hx=>ih x hx (h x hx) (by have:=d4H hx;omega)) sg' ow
 simp only[d3I] at hd
 simp only[d3D] at hE
 refine XcE.of F102 rfl ?_
 rw[d5D]
 simp only[c7Y,d3I]
 simp only[wA,seval,reduceCtorEq,reduceIte,hd,hE]
 repeat' ((with_reducible first|refine c3U ?_ ?_|refine c3V ?_ ?_|refine c3T ?_ ?_|refine c3S ?_ ?_|refine c3Q ?_ ?_|refine c3R ?_ ?_|refine c3P ?_ ?_|refine c3O ?_ ?_) <;> intro h <;> (try simp only[wA,seval,reduceCtorEq,reduceIte,hd,hE,h]))
 any_goals (refine CallE.mono (hev _) ?_;rintro v sg' ow' ⟨rfl,⟨r,rfl⟩,rfl⟩;((simp only[wA,seval,reduceCtorEq,reduceIte]);(repeat' ((with_reducible first|refine c3U ?_ ?_|refine c3V ?_ ?_|refine c3T ?_ ?_|refine c3S ?_ ?_|refine c3Q ?_ ?_|refine c3R ?_ ?_|refine c3P ?_ ?_|refine c3O ?_ ?_) <;> intro h <;> (try simp only[wA,seval,reduceCtorEq,reduceIte,h])))))
 all_goals (refine⟨?_,Grow.app _ _⟩;simp only[PV.t.injEq,T.bool.injEq])
 all_goals simp_all
theorem e2T (f:Fu) (ho:FuOk f) (hb:d4B f.body≤B20) (he:szE f.ret≤B20):Says (gl:=gl) 101 (.agg (tFu f)) (shF f):=by
 intro sg ow
 have hE:=fun K=>(e2R (gl:=gl) f.ret he).call (K:=K)
 have hev:=fun sg'=>e2A (gl:=gl) (nl:=f.bnl) ho.bl (fun x hx=>e2S x (ho.bo x hx) (by have:=d4H hx;omega)) sg' ow
 simp only[d3D] at hE
 refine XcE.of F101 rfl ?_
 simp only[c7X]
 unfold shF
 simp only[wA,seval,reduceCtorEq,reduceIte,hE]
 refine CallE.mono (hev _) ?_
 rintro v sg' ow' ⟨rfl,⟨r,rfl⟩,rfl⟩
 cases c:f.body.all shS with
 |false =>
  simp only[wA,seval,reduceCtorEq,reduceIte,hE,c,Bool.false_and]
  exact Grow.app _ _
 |true =>
  simp only[wA,seval,reduceCtorEq,reduceIte,hE,c,g3H]
  exact Grow.app _ _
structure PgSz (p:Pg):Prop where
 fu:∀ f,f∈p.funcs→d4B f.body≤B20∧szE f.ret≤B20
 bo:d4B p.body≤B20
set_option maxHeartbeats 1000000 in
theorem ok61 (p:Pg) (ho:PgOk p) (hs:PgSz p) {K:PV→Prop}:XcP F gl 61 [.agg (tPg p)] K ⟨⟩↔K (.t (.int .i64 (d5E p))):=by
 refine Ret.iff (Ret.of F61 rfl ?_)
 have h1:=fun sg' ow=>ok95 (gl:=gl) (nl:=p.fnl) ho.fl (fun x hx=>sy96 x (ho.fo x hx)) sg' ow
 have h2:=fun sg' ow=>ok97 (gl:=gl) (nl:=p.dnl) ho.dl (fun x hx=>sy98 x (ho.dok x hx)) sg' ow
 have h3:=fun sg' ow=>e2A (gl:=gl) (nl:=p.bnl) ho.bl (fun x hx=>e2L x (ho.bo x hx)) sg' ow
 have h4:=fun sg' ow=>ok95 (gl:=gl) (nl:=p.fnl) ho.fl (fun x hx=>e2T x (ho.fo x hx) (hs.fu x hx).1 (hs.fu x hx).2) sg' ow
 have h5:=fun sg' ow=>e2A (gl:=gl) (nl:=p.bnl) ho.bl (fun x hx=>e2S x (ho.bo x hx) (by have:=d4H hx;have:=hs.bo;omega)) sg' ow
 simp only[c6B]
 unfold d5E
 simp only[wA,seval,reduceCtorEq,reduceIte]
 refine CallE.mono (h1 _ _) ?_
 rintro v sg' ow' ⟨rfl,⟨r1,rfl⟩,rfl⟩
 have done:∀ (sg:Sg) (a:Int),True:=fun _ _=>trivial
 cases c1:p.funcs.all fuB with
 |false =>
  simp only[wA,seval,reduceCtorEq,reduceIte,c1,Bool.false_and]
 |true =>
  simp only[wA,seval,reduceCtorEq,reduceIte,c1,g3H]
  refine CallE.mono (h2 _ _) ?_
  rintro v sg' ow' ⟨rfl,⟨r2,rfl⟩,rfl⟩
  cases c2:p.decls.all deB with
  |false =>
   simp only[wA,seval,reduceCtorEq,reduceIte,c2,Bool.false_and]
  |true =>
   simp only[wA,seval,reduceCtorEq,reduceIte,c2,g3H]
   refine CallE.mono (h3 _ _) ?_
   rintro v sg' ow' ⟨rfl,⟨r3,rfl⟩,rfl⟩
   cases c3:p.body.all stB with
   |false =>
    simp only[wA,seval,reduceCtorEq,reduceIte,c3]
   |true =>
    simp only[wA,seval,reduceCtorEq,reduceIte,c3]
    refine CallE.mono (h4 _ _) ?_
    rintro v sg' ow' ⟨rfl,⟨r4,rfl⟩,rfl⟩
    cases c4:p.funcs.all shF with
    |false =>
     simp only[wA,seval,reduceCtorEq,reduceIte,c4,Bool.false_and]
    |true =>
     simp only[wA,seval,reduceCtorEq,reduceIte,c4,g3H]
     refine CallE.mono (h5 _ _) ?_
     rintro v sg' ow' ⟨rfl,⟨r5,rfl⟩,rfl⟩
     cases c5:p.body.all shS with
     |false =>
      simp only[wA,seval,reduceCtorEq,reduceIte,c5]
     |true =>
      simp only[wA,seval,reduceCtorEq,reduceIte,c5]
end Go.Proofs.YtdjcnfacjfnakaaGreat
