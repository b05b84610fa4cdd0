/- Contracts: names. -/
import Derived.Test.YtdjcnfacjfnakaaGreatIrA
import Derived.Test.YtdjcnfacjfnakaaGreatKx19
import Derived.Test.YtdjcnfacjfnakaaGreatKx19
set_option maxRecDepth 10000
set_option linter.unusedVariables false
set_option linter.unusedSimpArgs false
namespace Go.Proofs.YtdjcnfacjfnakaaGreat
open Go.Pi Go.Lx Go.Ky
variable {gl:Nat->Option (List T)}
abbrev tB (c:UInt8):T:=.int .u8 (c.toNat:Int)
theorem d8S {a c:UInt8}:a<=c↔((a.toNat:Int)<=(c.toNat:Int)):=by rw[UInt8.le_iff_toNat_le];omega
theorem d8T (c:UInt8):d1A c=(decide ((97:Int)<=(c.toNat:Int))&&decide ((c.toNat:Int)<=122)):=by
 unfold d1A
 congr 1 <;> (congr 1;exact propext d8S)
theorem d8U (c:UInt8):d1B c=(decide ((48:Int)<=(c.toNat:Int))&&decide ((c.toNat:Int)<=57)):=by
 unfold d1B
 congr 1 <;> (congr 1;exact propext d8S)
theorem d8V {c:UInt8} {n:Nat} (hn:n < 256):(c=UInt8.ofNat n)↔((c.toNat:Int)=(n:Int)):=by
 constructor
 ·intro h;subst h;rw[UInt8.toNat_ofNat'];omega
 ·intro h
  apply UInt8.toNat_inj.1
  rw[UInt8.toNat_ofNat'];omega
theorem d8W (c:UInt8) {K:PV->Prop}:XcP F gl 178 [tB c] K ⟨⟩↔K (.t (.bool (d1A c))):=by
 refine Ret.iff (Ret.of F178 rfl ?_)
 simp only[c8M]
 simp only[wA,seval]
 repeat' ((with_reducible first|refine c0S ?_ ?_|refine c0T ?_ ?_|refine c0R ?_ ?_|refine c0Q ?_ ?_|refine c0O ?_ ?_|refine c0P ?_ ?_|refine c0N ?_ ?_|refine c0M ?_ ?_) <;> intro h <;> (try simp only[wA,seval,h]))
 all_goals (simp_all [d8T] <;> omega)
theorem d8X (c:UInt8) {K:PV->Prop}:XcP F gl 206 [tB c] K ⟨⟩↔K (.t (.bool (d1B c))):=by
 refine Ret.iff (Ret.of F206 rfl ?_)
 simp only[c9Y]
 simp only[wA,seval]
 repeat' ((with_reducible first|refine c0S ?_ ?_|refine c0T ?_ ?_|refine c0R ?_ ?_|refine c0Q ?_ ?_|refine c0O ?_ ?_|refine c0P ?_ ?_|refine c0N ?_ ?_|refine c0M ?_ ?_) <;> intro h <;> (try simp only[wA,seval,h]))
 all_goals (simp_all [d8U] <;> omega)
theorem d8Y (c:UInt8):d1C c=(d1A c || d1B c || decide ((c.toNat:Int)=95)):=by
 unfold d1C
 congr 1
 have:(c=95)↔((c.toNat:Int)=95):=d8V (n:=95) (by omega)
 by_cases h:c=95
 ·rw[g7K (this.1 h),h];rfl
 ·rw[g7I (λe=>h (this.2 e))];simpa using h
theorem d8Z (c:UInt8) {sg:Sg} {ow:Ow} {K:PV->Sg->Ow->Prop}:XcE F gl 180 [.t (tB c)] sg ow K ⟨⟩↔K (.t (.bool (d1C c))) sg ow:=by
 refine CallE.iff (XcE.of F180 rfl ?_)
 simp only[c8P]
 simp only[wA,seval,d8W,d8X]
 repeat' ((with_reducible first|refine c0S ?_ ?_|refine c0T ?_ ?_|refine c0R ?_ ?_|refine c0Q ?_ ?_|refine c0O ?_ ?_|refine c0P ?_ ?_|refine c0N ?_ ?_|refine c0M ?_ ?_) <;> intro h <;> (try simp only[wA,seval,d8W,d8X,h]))
 all_goals simp_all [d8Y]
theorem d9A {p:UInt8->Bool} {f:Nat} (hp:∀ (c:UInt8) {sg:Sg} {ow:Ow} {K:PV->Sg->Ow->Prop},XcE F gl f [.t (tB c)] sg ow K ⟨⟩↔K (.t (.bool (p c))) sg ow) {s:List UInt8} (hl:s.length<=281474976710656) {sg:Sg} {ow:Ow} (Q:Ex->S->Prop):∀ (r:List UInt8) (i:Nat) (fr:List PV),s.drop i=r ->
  b6S fr [(0,.t (.str s)),(1,.fn f []),(5,.t (.int .i64 i))] ->
  (∀ fr',a0A fr' 5=.t (.int .i64 ((i+d1D p r:Nat):Int))->Q (.exit 0) ⟨fr',sg,ow⟩) ->
  Xl F gl c8N ⟨fr,sg,ow⟩ Q ⟨⟩:=by
 intro r
 induction r with
 |nil =>
  intro i fr hd hf h1
  have hd:=b6N hd
  simp only[b6U,b6T] at hf
  obtain⟨f0,f1,f5,-⟩:=hf
  refine Xl.step ?_
  simp only[c8N]
  have c1:¬((i:Int) < (s.length:Int)):=by omega
  simp only[wA,seval,f0,f1,f5,c1]
  refine h1 _ ?_
  simp only[wQ,seval,f5,d1D,g6R]
 |cons x r ih =>
  intro i fr hd hf h1
  obtain⟨hx,hr,hi⟩:=b6M hd
  simp only[b6U,b6T] at hf
  obtain⟨f0,f1,f5,-⟩:=hf
  refine Xl.step ?_
  simp only[c8N]
  have c1:(i:Int) < (s.length:Int):=by omega
  have hw1:IntKind.wrap .i64 ((i:Int)+1)=((i+1:Nat):Int):=by rw[IntWalk.i64_in _ (by omega)];omega
  have c0:(0:Int)<=(i:Int):=by omega
  cases hq:p x with
  |false =>
   simp only[wA,seval,f0,f1,f5,c1,hw1,c0,g4Z,hx,hp,hq,g5C]
   refine h1 _ ?_
   simp only[wQ,seval,f5,d1D,hq,g6R,g4T,if_false]
  |true =>
   simp only[wA,seval,f0,f1,f5,c1,hw1,c0,g4Z,hx,hp,hq,g5C]
   refine ih (i+1) _ hr (by simp only[wQ,seval,f0,f1]) λfr' h=>h1 fr' ?_
   rw[h]
   simp only[d1D,hq,if_true]
   congr 3
   omega
theorem d9B {p:UInt8->Bool} {f:Nat} (hp:∀ (c:UInt8) {sg:Sg} {ow:Ow} {K:PV->Sg->Ow->Prop},XcE F gl f [.t (tB c)] sg ow K ⟨⟩↔K (.t (.bool (p c))) sg ow) {s:List UInt8} (hl:s.length<=281474976710656) {sg:Sg} {ow:Ow} {K:PV->Sg->Ow->Prop} :
  XcE F gl 179 [.t (.str s),.fn f []] sg ow K ⟨⟩↔K (.t (.int .i64 (d1D p s:Nat))) sg ow:=by
 refine CallE.iff (XcE.of F179 rfl ?_)
 simp only[c8O]
 simp only[wA,seval]
 refine d9A hp hl _ s 0 _ rfl (by simp only[wQ,seval]) λfr' h=>?_
 simp only[wA,seval,h]
 try simp
def d9C (l:List (List UInt8)):List (List T):=l.map λs=>[.str s]
theorem d9D {K:PV->Prop}:XcP F gl 182 [] K ⟨⟩↔K (.t (.sl false (d9C keywords))):=by
 refine Ret.iff (Ret.of F182 rfl ?_)
 simp only[c8R]
 simp only[wA,seval,b4J,a0C,a0L,T.isAgg,List.replicate,g5H,g5I,g5C]
 rfl
def d9E (s:List UInt8):List (List UInt8)->Nat->Int
 |[],_=>-1
 |x::l,i=>if s=x then (i:Int) else d9E s l (i+1)
theorem d9F (s:List UInt8):∀ (l:List (List UInt8)) (i:Nat),decide (0<=d9E s l i)=l.contains s:=by
 intro l
 induction l with
 |nil=>intro i;rfl
 |cons x l ih =>
  intro i
  rw[List.contains_cons,d9E]
  split
  ·rename_i h
   rw[h]
   simp
  ·rename_i h
   rw[ih,show(s == x)=false by simpa using h,Bool.false_or]
theorem d9G {nl:Bool} {l:List (List UInt8)} (hl:l.length<=281474976710656) {s:List UInt8} {sg:Sg} {ow:Ow} (Q:Ex->S->Prop):∀ (r:List (List UInt8)) (i:Nat) (fr:List PV),l.drop i=r ->
  b6S fr [(0,.t (.sl nl (d9C l))),(1,.t (.str s)),(7,.t (.int .i64 l.length)),(8,.t (.int .i64 i))] ->
  (d9E s r i=-1->∀ fr',Q (.exit 0) ⟨fr',sg,ow⟩) ->
  (∀ fr',a0A fr' 4=.t (.int .i64 (d9E s r i))->Q .ret ⟨fr',sg,ow⟩) ->
  Xl F gl c9Z ⟨fr,sg,ow⟩ Q ⟨⟩:=by
 intro r
 induction r with
 |nil =>
  intro i fr hd hf h1 h2
  have hd:=b6N hd
  simp only[b6U,b6T] at hf
  obtain⟨f0,f1,f7,f8,-⟩:=hf
  refine Xl.step ?_
  simp only[c9Z]
  have c1:¬((i:Int) < (l.length:Int)):=by omega
  simp only[wA,seval,f0,f1,f7,f8,c1]
  exact h1 rfl _
 |cons x r ih =>
  intro i fr hd hf h1 h2
  obtain⟨hx,hr,hi⟩:=b6M hd
  simp only[b6U,b6T] at hf
  obtain⟨f0,f1,f7,f8,-⟩:=hf
  refine Xl.step ?_
  simp only[c9Z]
  have c1:(i:Int) < (l.length:Int):=by omega
  have hw1:IntKind.wrap .i64 ((i:Int)+1)=((i+1:Nat):Int):=by rw[IntWalk.i64_in _ (by omega)];omega
  by_cases c:s=x
  ·simp only[wA,seval,f0,f1,f7,f8,c1,hw1,d9C,g5P,hx,c]
   refine h2 _ ?_
   simp only[wQ,seval,d9E,c]
  ·simp only[wA,seval,f0,f1,f7,f8,c1,hw1,d9C,g5P,hx,c]
   refine ih (i+1) _ hr (by simp only[wQ,seval,f0,f1,f7,d9C]) (λq=>h1 (by rw[d9E,if_neg c];exact q)) (λfr' q=>h2 fr' (by rw[q,d9E,if_neg c]))
theorem d9H (nl:Bool) (l:List (List UInt8)) (hl:l.length<=281474976710656) (s:List UInt8) {K:PV->Prop}:XcP F gl 207 [.sl nl (d9C l),.str s] K ⟨⟩↔K (.t (.int .i64 (d9E s l 0))):=by
 refine Ret.iff (Ret.of F207 rfl ?_)
 simp only[d0A]
 have e:(d9C l).length=l.length:=by simp [d9C]
 simp only[wA,seval,e]
 refine d9G hl (nl:=nl) (s:=s) _ l 0 _ rfl (by simp only[wQ,seval]) ?_ ?_
 ·intro h fr'
  simp only[wA,seval,h]
 ·intro fr' h
  simp only[wA,seval,h]
theorem d9I (nl:Bool) (l:List (List UInt8)) (hl:l.length<=281474976710656) (s:List UInt8) {K:PV->Prop}:XcP F gl 181 [.sl nl (d9C l),.str s] K ⟨⟩↔K (.t (.bool (l.contains s))):=by
 refine Ret.iff (Ret.of F181 rfl ?_)
 simp only[c8Q]
 have a:=@d9H gl nl l hl s
 simp only[wA,seval,a,d9F]
theorem d9J (s:List UInt8) (hl:s.length<=281474976710656) {K:PV->Prop}:XcP F gl 139 [.str s] K ⟨⟩↔K (.t (.bool (d2Q s))):=by
 refine Ret.iff (Ret.of F139 rfl ?_)
 simp only[c6V]
 cases s with
 |nil =>
  simp only[wA,seval]
  rfl
 |cons c r =>
  have a26:=@d8W gl c
  have a27:=@d9B gl d1C 180 d8Z (c::r) hl
  have a29:=@d9I gl false keywords (by decide) (c::r)
  have e:d2Q (c::r)=(decide ((c::r).length<=24)&&d1A c&&decide (d1D d1C (c::r)=(c::r).length)&&!keywords.contains (c::r)):=rfl
  generalize hs:c::r=s at *
  have h0:s[0]?=some c:=by rw[<-hs];rfl
  have hne:¬s=[]:=by rw[<-hs];simp
  by_cases g:(24:Int) < (s.length:Int)
  ·simp only[wA,seval,g,hne]
   rw[e,g7I (by omega)];rfl
  ·rw[g7K (show s.length<=24 by omega)] at e
   cases hL:d1A c with
   |false =>
    rw[hL] at a26 e
    simp only[wA,seval,g,hne,h0,a26]
    rw[e];rfl
   |true =>
    rw[hL] at a26 e
    by_cases q:((d1D d1C s:Nat):Int)=(s.length:Int)
    ·rw[g7K (show d1D d1C s=s.length by omega)] at e
     simp only[wA,seval,g,hne,h0,a26,a27,q,d9D,a29,g4V]
     rw[e];rfl
    ·rw[g7I (show ¬d1D d1C s=s.length by omega)] at e
     simp only[wA,seval,g,hne,h0,a26,a27,q,g4V,g4U]
     rw[e];rfl
end Go.Proofs.YtdjcnfacjfnakaaGreat

/- Contracts: a property of all elements. -/
namespace Go.Proofs.YtdjcnfacjfnakaaGreat
open Go.Pi Go.Lx Go.Ky
variable {gl:Nat->Option (List T)}
def Says (f:Nat) (x:T) (b:Bool):Prop:=∀ (sg:Sg) (ow:Ow),CallE F gl f [.t x] sg ow λv sg' ow'=>v=.t (.bool b)/\Grow sg sg'/\ow'=ow
theorem d9K {f:Nat} {p:Fu->Bool} {nl:Bool} {l:List Fu} (hl:l.length<=B47) (hp:∀ x,x∈l->Says (gl:=gl) f (.agg (tFu x)) (p x)) {sg0:Sg} {ow:Ow} (Q:Ex->S->Prop):∀ (r:List Fu) (i:Nat) (fr:List PV) (sg:Sg),l.drop i=r->Grow sg0 sg ->
  b6S fr [(1,.fn f []),(7,.t (.sl nl (l.map tFu))),(8,.t (.int .i64 l.length)),(9,.t (.int .i64 i))] ->
  (r.all p=true->∀ fr' sg',Grow sg0 sg'->Q (.exit 0) ⟨fr',sg',ow⟩) ->
  (r.all p=false->∀ fr' sg',Grow sg0 sg'->a0A fr' 4=.t (.bool false)->Q .ret ⟨fr',sg',ow⟩) ->
  Xl F gl c4U ⟨fr,sg,ow⟩ Q ⟨⟩:=by
 intro r
 induction r with
 |nil =>
  intro i fr sg hd hg hf h1 h2
  have hd:=b6N hd
  simp only[b6U,b6T] at hf
  obtain⟨f1,f7,f8,f9,-⟩:=hf
  refine Xl.step ?_
  simp only[c4U]
  have c1:¬((i:Int) < (l.length:Int)):=by omega
  simp only[wA,seval,f1,f7,f8,f9,c1]
  exact h1 rfl _ _ hg
 |cons x r ih =>
  intro i fr sg hd hg hf h1 h2
  obtain⟨hx,hr,hi⟩:=b6M hd
  simp only[b6U,b6T] at hf
  obtain⟨f1,f7,f8,f9,-⟩:=hf
  refine Xl.step ?_
  simp only[c4U]
  have c1:(i:Int) < (l.length:Int):=by omega
  have hw1:=d5F hi (show l.length<=281474976710656 by have:B47=140737488355328:=rfl;omega)
  have hc:=hp x (g6K hx)
  simp only[wA,seval,f1,f7,f8,f9,c1,g5P,hx,g4Z]
  refine CallE.mono (hc _ _) ?_
  rintro v sg' ow' ⟨rfl,hg',rfl⟩
  cases hq:p x with
  |true =>
   simp only[wA,seval,f1,f7,f8,f9,hw1,hq]
   refine ih (i+1) _ _ hr (hg.trans ((Grow.app _ _).trans hg')) (by simp only[wQ,seval,f1,f7,f8]) (λh=>h1 (by simpa [hq] using h)) (λh=>h2 (by simpa [hq] using h))
  |false =>
   simp only[wA,seval,f1,f7,f8,f9,hq]
   exact h2 (by simp [hq]) _ _ (hg.trans ((Grow.app _ _).trans hg')) (by simp only[wQ,seval])
theorem ok95 {f:Nat} {p:Fu->Bool} {nl:Bool} {l:List Fu} (hl:l.length<=B47) (hp:∀ x,x∈l->Says (gl:=gl) f (.agg (tFu x)) (p x)) (sg:Sg) (ow:Ow) :
  CallE F gl 95 [.t (.sl nl (l.map tFu)),.fn f []] sg ow λv sg' ow'=>v=.t (.bool (l.all p))/\Grow sg sg'/\ow'=ow:=by
 refine XcE.of F95 rfl ?_
 simp only[c4V]
 simp only[wA,seval,g5Y]
 refine d9K hl hp (sg0:=sg) _ l 0 _ _ rfl (Grow.refl _) (by simp only[wQ,seval];exact rfl) ?_ ?_
 ·intro h fr' sg' hg
  simp only[wA,seval]
  exact⟨by rw[h],hg⟩
 ·intro h fr' sg' hg h4
  simp only[wA,seval,h4]
  exact⟨by rw[h],hg⟩
theorem d9L {f:Nat} {p:De->Bool} {nl:Bool} {l:List De} (hl:l.length<=B47) (hp:∀ x,x∈l->Says (gl:=gl) f (.agg (tDe x)) (p x)) {sg0:Sg} {ow:Ow} (Q:Ex->S->Prop):∀ (r:List De) (i:Nat) (fr:List PV) (sg:Sg),l.drop i=r->Grow sg0 sg ->
  b6S fr [(1,.fn f []),(7,.t (.sl nl (l.map tDe))),(8,.t (.int .i64 l.length)),(9,.t (.int .i64 i))] ->
  (r.all p=true->∀ fr' sg',Grow sg0 sg'->Q (.exit 0) ⟨fr',sg',ow⟩) ->
  (r.all p=false->∀ fr' sg',Grow sg0 sg'->a0A fr' 4=.t (.bool false)->Q .ret ⟨fr',sg',ow⟩) ->
  Xl F gl c4X ⟨fr,sg,ow⟩ Q ⟨⟩:=by
 intro r
 induction r with
 |nil =>
  intro i fr sg hd hg hf h1 h2
  have hd:=b6N hd
  simp only[b6U,b6T] at hf
  obtain⟨f1,f7,f8,f9,-⟩:=hf
  refine Xl.step ?_
  simp only[c4X]
  have c1:¬((i:Int) < (l.length:Int)):=by omega
  simp only[wA,seval,f1,f7,f8,f9,c1]
  exact h1 rfl _ _ hg
 |cons x r ih =>
  intro i fr sg hd hg hf h1 h2
  obtain⟨hx,hr,hi⟩:=b6M hd
  simp only[b6U,b6T] at hf
  obtain⟨f1,f7,f8,f9,-⟩:=hf
  refine Xl.step ?_
  simp only[c4X]
  have c1:(i:Int) < (l.length:Int):=by omega
  have hw1:=d5F hi (show l.length<=281474976710656 by have:B47=140737488355328:=rfl;omega)
  have hc:=hp x (g6K hx)
  simp only[wA,seval,f1,f7,f8,f9,c1,g5P,hx,g4Z]
  refine CallE.mono (hc _ _) ?_
  rintro v sg' ow' ⟨rfl,hg',rfl⟩
  cases hq:p x with
  |true =>
   simp only[wA,seval,f1,f7,f8,f9,hw1,hq]
   refine ih (i+1) _ _ hr (hg.trans ((Grow.app _ _).trans hg')) (by simp only[wQ,seval,f1,f7,f8]) (λh=>h1 (by simpa [hq] using h)) (λh=>h2 (by simpa [hq] using h))
  |false =>
   simp only[wA,seval,f1,f7,f8,f9,hq]
   exact h2 (by simp [hq]) _ _ (hg.trans ((Grow.app _ _).trans hg')) (by simp only[wQ,seval])
theorem ok97 {f:Nat} {p:De->Bool} {nl:Bool} {l:List De} (hl:l.length<=B47) (hp:∀ x,x∈l->Says (gl:=gl) f (.agg (tDe x)) (p x)) (sg:Sg) (ow:Ow) :
  CallE F gl 97 [.t (.sl nl (l.map tDe)),.fn f []] sg ow λv sg' ow'=>v=.t (.bool (l.all p))/\Grow sg sg'/\ow'=ow:=by
 refine XcE.of F97 rfl ?_
 simp only[c4Y]
 simp only[wA,seval,g5Y]
 refine d9L hl hp (sg0:=sg) _ l 0 _ _ rfl (Grow.refl _) (by simp only[wQ,seval];exact rfl) ?_ ?_
 ·intro h fr' sg' hg
  simp only[wA,seval]
  exact⟨by rw[h],hg⟩
 ·intro h fr' sg' hg h4
  simp only[wA,seval,h4]
  exact⟨by rw[h],hg⟩
theorem d9M {f:Nat} {p:St->Bool} {nl:Bool} {l:List St} (hl:l.length<=B47) (hp:∀ x,x∈l->Says (gl:=gl) f (.agg (tSt x)) (p x)) {sg0:Sg} {ow:Ow} (Q:Ex->S->Prop):∀ (r:List St) (i:Nat) (fr:List PV) (sg:Sg),l.drop i=r->Grow sg0 sg ->
  b6S fr [(1,.fn f []),(7,.t (.sl nl (d1M l))),(8,.t (.int .i64 l.length)),(9,.t (.int .i64 i))] ->
  (r.all p=true->∀ fr' sg',Grow sg0 sg'->Q (.exit 0) ⟨fr',sg',ow⟩) ->
  (r.all p=false->∀ fr' sg',Grow sg0 sg'->a0A fr' 4=.t (.bool false)->Q .ret ⟨fr',sg',ow⟩) ->
  Xl F gl c5A ⟨fr,sg,ow⟩ Q ⟨⟩:=by
 intro r
 induction r with
 |nil =>
  intro i fr sg hd hg hf h1 h2
  have hd:=b6N hd
  simp only[b6U,b6T] at hf
  obtain⟨f1,f7,f8,f9,-⟩:=hf
  refine Xl.step ?_
  simp only[c5A]
  have c1:¬((i:Int) < (l.length:Int)):=by omega
  simp only[wA,seval,f1,f7,f8,f9,c1]
  exact h1 rfl _ _ hg
 |cons x r ih =>
  intro i fr sg hd hg hf h1 h2
  obtain⟨hx,hr,hi⟩:=b6M hd
  simp only[b6U,b6T] at hf
  obtain⟨f1,f7,f8,f9,-⟩:=hf
  refine Xl.step ?_
  simp only[c5A]
  have c1:(i:Int) < (l.length:Int):=by omega
  have hw1:=d5F hi (show l.length<=281474976710656 by have:B47=140737488355328:=rfl;omega)
  have hc:=hp x (g6K hx)
  simp only[d1O] at hc
  simp only[wA,seval,f1,f7,f8,f9,c1,d1Q,hx,d1O,g4Z]
  refine CallE.mono (hc _ _) ?_
  rintro v sg' ow' ⟨rfl,hg',rfl⟩
  cases hq:p x with
  |true =>
   simp only[wA,seval,f1,f7,f8,f9,hw1,hq]
   refine ih (i+1) _ _ hr (hg.trans ((Grow.app _ _).trans hg')) (by simp only[wQ,seval,f1,f7,f8]) (λh=>h1 (by simpa [hq] using h)) (λh=>h2 (by simpa [hq] using h))
  |false =>
   simp only[wA,seval,f1,f7,f8,f9,hq]
   exact h2 (by simp [hq]) _ _ (hg.trans ((Grow.app _ _).trans hg')) (by simp only[wQ,seval])
theorem d9N {f:Nat} {p:St->Bool} {nl:Bool} {l:List St} (hl:l.length<=B47) (hp:∀ x,x∈l->Says (gl:=gl) f (.agg (tSt x)) (p x)) (sg:Sg) (ow:Ow) :
  CallE F gl 99 [.t (.sl nl (d1M l)),.fn f []] sg ow λv sg' ow'=>v=.t (.bool (l.all p))/\Grow sg sg'/\ow'=ow:=by
 refine XcE.of F99 rfl ?_
 simp only[c5B]
 simp only[wA,seval,d1P]
 refine d9M hl hp (sg0:=sg) _ l 0 _ _ rfl (Grow.refl _) (by simp only[wQ,seval];exact rfl) ?_ ?_
 ·intro h fr' sg' hg
  simp only[wA,seval]
  exact⟨by rw[h],hg⟩
 ·intro h fr' sg' hg h4
  simp only[wA,seval,h4]
  exact⟨by rw[h],hg⟩
theorem d9O {f:Nat} {p:Pa->Bool} {nl:Bool} {l:List Pa} (hl:l.length<=B47) (hp:∀ x,x∈l->Says (gl:=gl) f (.agg (tPa x)) (p x)) {sg0:Sg} {ow:Ow} (Q:Ex->S->Prop):∀ (r:List Pa) (i:Nat) (fr:List PV) (sg:Sg),l.drop i=r->Grow sg0 sg ->
  b6S fr [(1,.fn f []),(7,.t (.sl nl (l.map tPa))),(8,.t (.int .i64 l.length)),(9,.t (.int .i64 i))] ->
  (r.all p=true->∀ fr' sg',Grow sg0 sg'->Q (.exit 0) ⟨fr',sg',ow⟩) ->
  (r.all p=false->∀ fr' sg',Grow sg0 sg'->a0A fr' 4=.t (.bool false)->Q .ret ⟨fr',sg',ow⟩) ->
  Xl F gl c6W ⟨fr,sg,ow⟩ Q ⟨⟩:=by
 intro r
 induction r with
 |nil =>
  intro i fr sg hd hg hf h1 h2
  have hd:=b6N hd
  simp only[b6U,b6T] at hf
  obtain⟨f1,f7,f8,f9,-⟩:=hf
  refine Xl.step ?_
  simp only[c6W]
  have c1:¬((i:Int) < (l.length:Int)):=by omega
  simp only[wA,seval,f1,f7,f8,f9,c1]
  exact h1 rfl _ _ hg
 |cons x r ih =>
  intro i fr sg hd hg hf h1 h2
  obtain⟨hx,hr,hi⟩:=b6M hd
  simp only[b6U,b6T] at hf
  obtain⟨f1,f7,f8,f9,-⟩:=hf
  refine Xl.step ?_
  simp only[c6W]
  have c1:(i:Int) < (l.length:Int):=by omega
  have hw1:=d5F hi (show l.length<=281474976710656 by have:B47=140737488355328:=rfl;omega)
  have hc:=hp x (g6K hx)
  simp only[wA,seval,f1,f7,f8,f9,c1,g5P,hx,g4Z]
  refine CallE.mono (hc _ _) ?_
  rintro v sg' ow' ⟨rfl,hg',rfl⟩
  cases hq:p x with
  |true =>
   simp only[wA,seval,f1,f7,f8,f9,hw1,hq]
   refine ih (i+1) _ _ hr (hg.trans ((Grow.app _ _).trans hg')) (by simp only[wQ,seval,f1,f7,f8]) (λh=>h1 (by simpa [hq] using h)) (λh=>h2 (by simpa [hq] using h))
  |false =>
   simp only[wA,seval,f1,f7,f8,f9,hq]
   exact h2 (by simp [hq]) _ _ (hg.trans ((Grow.app _ _).trans hg')) (by simp only[wQ,seval])
theorem d9P {f:Nat} {p:Pa->Bool} {nl:Bool} {l:List Pa} (hl:l.length<=B47) (hp:∀ x,x∈l->Says (gl:=gl) f (.agg (tPa x)) (p x)) (sg:Sg) (ow:Ow) :
  CallE F gl 140 [.t (.sl nl (l.map tPa)),.fn f []] sg ow λv sg' ow'=>v=.t (.bool (l.all p))/\Grow sg sg'/\ow'=ow:=by
 refine XcE.of F140 rfl ?_
 simp only[c6X]
 simp only[wA,seval,g5Y]
 refine d9O hl hp (sg0:=sg) _ l 0 _ _ rfl (Grow.refl _) (by simp only[wQ,seval];exact rfl) ?_ ?_
 ·intro h fr' sg' hg
  simp only[wA,seval]
  exact⟨by rw[h],hg⟩
 ·intro h fr' sg' hg h4
  simp only[wA,seval,h4]
  exact⟨by rw[h],hg⟩
theorem d9Q {f:Nat} {p:Exp->Bool} {nl:Bool} {l:List Exp} (hl:l.length<=B47) (hp:∀ x,x∈l->Says (gl:=gl) f (.agg (tEx x)) (p x)) {sg0:Sg} {ow:Ow} (Q:Ex->S->Prop):∀ (r:List Exp) (i:Nat) (fr:List PV) (sg:Sg),l.drop i=r->Grow sg0 sg ->
  b6S fr [(1,.fn f []),(7,.t (.sl nl (d1H l))),(8,.t (.int .i64 l.length)),(9,.t (.int .i64 i))] ->
  (r.all p=true->∀ fr' sg',Grow sg0 sg'->Q (.exit 0) ⟨fr',sg',ow⟩) ->
  (r.all p=false->∀ fr' sg',Grow sg0 sg'->a0A fr' 4=.t (.bool false)->Q .ret ⟨fr',sg',ow⟩) ->
  Xl F gl c8S ⟨fr,sg,ow⟩ Q ⟨⟩:=by
 intro r
 induction r with
 |nil =>
  intro i fr sg hd hg hf h1 h2
  have hd:=b6N hd
  simp only[b6U,b6T] at hf
  obtain⟨f1,f7,f8,f9,-⟩:=hf
  refine Xl.step ?_
  simp only[c8S]
  have c1:¬((i:Int) < (l.length:Int)):=by omega
  simp only[wA,seval,f1,f7,f8,f9,c1]
  exact h1 rfl _ _ hg
 |cons x r ih =>
  intro i fr sg hd hg hf h1 h2
  obtain⟨hx,hr,hi⟩:=b6M hd
  simp only[b6U,b6T] at hf
  obtain⟨f1,f7,f8,f9,-⟩:=hf
  refine Xl.step ?_
  simp only[c8S]
  have c1:(i:Int) < (l.length:Int):=by omega
  have hw1:=d5F hi (show l.length<=281474976710656 by have:B47=140737488355328:=rfl;omega)
  have hc:=hp x (g6K hx)
  simp only[d1J] at hc
  simp only[wA,seval,f1,f7,f8,f9,c1,d1L,hx,d1J,g4Z]
  refine CallE.mono (hc _ _) ?_
  rintro v sg' ow' ⟨rfl,hg',rfl⟩
  cases hq:p x with
  |true =>
   simp only[wA,seval,f1,f7,f8,f9,hw1,hq]
   refine ih (i+1) _ _ hr (hg.trans ((Grow.app _ _).trans hg')) (by simp only[wQ,seval,f1,f7,f8]) (λh=>h1 (by simpa [hq] using h)) (λh=>h2 (by simpa [hq] using h))
  |false =>
   simp only[wA,seval,f1,f7,f8,f9,hq]
   exact h2 (by simp [hq]) _ _ (hg.trans ((Grow.app _ _).trans hg')) (by simp only[wQ,seval])
theorem d9R {f:Nat} {p:Exp->Bool} {nl:Bool} {l:List Exp} (hl:l.length<=B47) (hp:∀ x,x∈l->Says (gl:=gl) f (.agg (tEx x)) (p x)) (sg:Sg) (ow:Ow) :
  CallE F gl 183 [.t (.sl nl (d1H l)),.fn f []] sg ow λv sg' ow'=>v=.t (.bool (l.all p))/\Grow sg sg'/\ow'=ow:=by
 refine XcE.of F183 rfl ?_
 simp only[c8T]
 simp only[wA,seval,d1K]
 refine d9Q hl hp (sg0:=sg) _ l 0 _ _ rfl (Grow.refl _) (by simp only[wQ,seval];exact rfl) ?_ ?_
 ·intro h fr' sg' hg
  simp only[wA,seval]
  exact⟨by rw[h],hg⟩
 ·intro h fr' sg' hg h4
  simp only[wA,seval,h4]
  exact⟨by rw[h],hg⟩
end Go.Proofs.YtdjcnfacjfnakaaGreat

/- Contracts: valid types, expressions, statements. -/
namespace Go.Proofs.YtdjcnfacjfnakaaGreat
open Go.Pi Go.Lx Go.Ky
variable {gl:Nat->Option (List T)}
theorem Says.call {f:Nat} {x:T} {b:Bool} (h:Says (gl:=gl) f x b) {K:PV->Prop}:XcP F gl f [x] K ⟨⟩↔K (.t (.bool b)):=by
 refine CallP.iff ?_
 refine(h [] []).mono ?_
 rintro v sg ow ⟨rfl,_,_⟩
 rfl
theorem d9S (t:Ty):Says (gl:=gl) 142 (.agg (tTy t)) (tyB t):=by
 intro sg ow
 refine XcE.of F142 rfl ?_
 simp only[c6Z]
 simp only[wA,seval]
 repeat' ((with_reducible first|refine c0S ?_ ?_|refine c0T ?_ ?_|refine c0R ?_ ?_|refine c0Q ?_ ?_|refine c0O ?_ ?_|refine c0P ?_ ?_|refine c0N ?_ ?_|refine c0M ?_ ?_) <;> intro h <;> (try simp only[wA,seval,h]))
 all_goals (refine⟨?_,Grow.app _ _⟩;simp only[PV.t.injEq,T.bool.injEq];unfold tyB)
 all_goals simp_all
 all_goals omega
theorem d9T (s:St):Says (gl:=gl) 144 (.agg (tSt s)) (d2W s):=by
 intro sg ow
 refine XcE.of F144 rfl ?_
 simp only[c7B,d1O]
 simp only[wA,seval]
 repeat' ((with_reducible first|refine c0S ?_ ?_|refine c0T ?_ ?_|refine c0R ?_ ?_|refine c0Q ?_ ?_|refine c0O ?_ ?_|refine c0P ?_ ?_|refine c0N ?_ ?_|refine c0M ?_ ?_) <;> intro h <;> (try simp only[wA,seval,h]))
 all_goals (refine⟨?_,Grow.app _ _⟩;simp only[PV.t.injEq,T.bool.injEq];unfold d2W)
 all_goals simp_all [zTy,d5C]
 all_goals exact decide_eq_decide.2 g4Y
theorem d9U (n:Int):Says (gl:=gl) 146 (.int .i64 n) (d2V n):=by
 intro sg ow
 refine XcE.of F146 rfl ?_
 simp only[c7D]
 simp only[wA,seval]
 repeat' ((with_reducible first|refine c0S ?_ ?_|refine c0T ?_ ?_|refine c0R ?_ ?_|refine c0Q ?_ ?_|refine c0O ?_ ?_|refine c0P ?_ ?_|refine c0N ?_ ?_|refine c0M ?_ ?_) <;> intro h <;> (try simp only[wA,seval,h]))
 all_goals (refine⟨?_,Grow.refl _⟩;simp only[PV.t.injEq,T.bool.injEq];unfold d2V)
 all_goals simp_all
 all_goals omega
theorem d9V (e:Exp):Says (gl:=gl) 145 (.agg (tEx e)) (d2U e):=by
 intro sg ow
 refine XcE.of F145 rfl ?_
 simp only[c7C,d1J]
 simp only[wA,seval,d1K]
 repeat' ((with_reducible first|refine c0S ?_ ?_|refine c0T ?_ ?_|refine c0R ?_ ?_|refine c0Q ?_ ?_|refine c0O ?_ ?_|refine c0P ?_ ?_|refine c0N ?_ ?_|refine c0M ?_ ?_) <;> intro h <;> (try simp only[wA,seval,d1K,h]))
 all_goals (refine⟨?_,Grow.app _ _⟩;simp only[PV.t.injEq,T.bool.injEq];unfold d2U)
 all_goals simp_all
theorem d9W (p:Pa) (h:d1S p):Says (gl:=gl) 141 (.agg (tPa p)) (paB p):=by
 intro sg ow
 have hn:=@d9J gl p.name (by have:=h.1;have:B47=140737488355328:=rfl;omega)
 refine XcE.of F141 rfl ?_
 simp only[c6Y]
 simp only[wA,seval,hn,(d9S p.ty).call]
 repeat' ((with_reducible first|refine c0S ?_ ?_|refine c0T ?_ ?_|refine c0R ?_ ?_|refine c0Q ?_ ?_|refine c0O ?_ ?_|refine c0P ?_ ?_|refine c0N ?_ ?_|refine c0M ?_ ?_) <;> intro h <;> (try simp only[wA,seval,hn,(d9S p.ty).call,h]))
 all_goals (refine⟨?_,Grow.app _ _⟩;simp only[PV.t.injEq,T.bool.injEq];unfold paB)
 all_goals simp_all
theorem sy98 (p:De) (h:d1T p):Says (gl:=gl) 98 (.agg (tDe p)) (deB p):=by
 intro sg ow
 have hn:=@d9J gl p.name (by have:=h.1;have:B47=140737488355328:=rfl;omega)
 refine XcE.of F98 rfl ?_
 simp only[c4Z]
 simp only[wA,seval,hn,(d9S p.ty).call]
 repeat' ((with_reducible first|refine c0S ?_ ?_|refine c0T ?_ ?_|refine c0R ?_ ?_|refine c0Q ?_ ?_|refine c0O ?_ ?_|refine c0P ?_ ?_|refine c0N ?_ ?_|refine c0M ?_ ?_) <;> intro h <;> (try simp only[wA,seval,hn,(d9S p.ty).call,h]))
 all_goals (refine⟨?_,Grow.app _ _⟩;simp only[PV.t.injEq,T.bool.injEq];unfold deB)
 all_goals simp_all
end Go.Proofs.YtdjcnfacjfnakaaGreat

/- Contracts: valid expressions, statements, functions; depths. -/
namespace Go.Proofs.YtdjcnfacjfnakaaGreat
open Go.Pi Go.Lx Go.Ky
variable {gl:Nat->Option (List T)}
set_option maxHeartbeats 1000000 in
theorem d9X:∀ e:Exp,ExpOk e->Says (gl:=gl) 143 (.agg (tEx e)) (exB e):=by
 refine Exp.ind λe ih ho sg ow=>?_
 cases ho with|mk _ h1 h2 h3 h4 h5 h =>
 have hn:=@d9J gl e.name (by have:B47=140737488355328:=rfl;omega)
 refine XcE.of F143 rfl ?_
 simp only[c7A,d1J]
 simp only[wA,seval]
 refine CallE.mono (d9R h4 (λx hx=>ih x hx (h x hx)) _ _) ?_
 rintro v sg' ow' ⟨rfl,⟨r,rfl⟩,rfl⟩
 have hle:(1<=(e.args.length:Int))↔(0 < e.args.length):=by omega
 rw[d2T]
 unfold opB
 cases hall:e.args.all exB with
 |false =>
  simp only[wA,seval,hall]
  exact⟨by simp,Grow.app _ _⟩
 |true =>
  simp only[wA,seval,hall,d1K,hn]
  repeat' ((with_reducible first|refine c0S ?_ ?_|refine c0T ?_ ?_|refine c0R ?_ ?_|refine c0Q ?_ ?_|refine c0O ?_ ?_|refine c0P ?_ ?_|refine c0N ?_ ?_|refine c0M ?_ ?_) <;> intro h <;> (try simp only[wA,seval,hall,d1K,hn,h]))
  all_goals (refine⟨?_,Grow.app _ _⟩;simp only[PV.t.injEq,T.bool.injEq,g4X])
  all_goals simp_all
end Go.Proofs.YtdjcnfacjfnakaaGreat

/- Contracts: valid statements, functions; depths; Valid. -/
namespace Go.Proofs.YtdjcnfacjfnakaaGreat
open Go.Pi Go.Lx Go.Ky
variable {gl:Nat->Option (List T)}
set_option maxHeartbeats 1000000 in
theorem d9Y:∀ s:St,StOk s->Says (gl:=gl) 100 (.agg (tSt s)) (stB s):=by
 refine St.ind λs ih ho sg ow=>?_
 cases ho with|mk _ h1 h2 h3 h4 h5 h6 h7 h8 h =>
 have hn:=@d9J gl s.name (by have:B47=140737488355328:=rfl;omega)
 have hE:=λK=>(d9X (gl:=gl) s.ex h4).call (K:=K)
 have hM:=λK=>(d9V (gl:=gl) s.ex).call (K:=K)
 have hU:=λK=>(d9T (gl:=gl) s).call (K:=K)
 have hL:=λn K=>(d9U (gl:=gl) n).call (K:=K)
 have hT:=λK=>(d9S (gl:=gl) s.ty).call (K:=K)
 have hev:=λsg'=>CallE.mono (K':=λv sg2 ow2=>v=.t (.bool (s.body.all stB))/\Grow sg' sg2/\ow2=ow) (d9N (gl:=gl) (nl:=s.nl) h7 (λx hx=>ih x hx (h x hx)) sg' ow) (λ_ _ _ h=>h)
 refine XcE.of F100 rfl ?_
 rw[d2Z]
 simp only[d1J] at hE hM
 simp only[d1O] at hU
 simp only[c5C,d1O]
 by_cases k1:s.kind=1
 ·simp only[k1] at hU ⊢
  simp only[wA,seval,hn,hE,hM,hU,hL,hT,d1P,d5C]
  repeat' ((with_reducible first|refine c0S ?_ ?_|refine c0T ?_ ?_|refine c0R ?_ ?_|refine c0Q ?_ ?_|refine c0O ?_ ?_|refine c0P ?_ ?_|refine c0N ?_ ?_|refine c0M ?_ ?_) <;> intro h <;> (try simp only[wA,seval,hn,hE,hM,hU,hL,hT,d1P,d5C,h]))
  all_goals (refine⟨?_,Grow.app _ _⟩;simp only[PV.t.injEq,T.bool.injEq])
  all_goals simp_all [zTy]
 ·by_cases k2:s.kind=2
  ·simp only[k2] at hU ⊢
   simp only[wA,seval,hn,hE,hM,hU,hL,hT,d1P,d5C]
   repeat' ((with_reducible first|refine c0S ?_ ?_|refine c0T ?_ ?_|refine c0R ?_ ?_|refine c0Q ?_ ?_|refine c0O ?_ ?_|refine c0P ?_ ?_|refine c0N ?_ ?_|refine c0M ?_ ?_) <;> intro h <;> (try simp only[wA,seval,hn,hE,hM,hU,hL,hT,d1P,d5C,h]))
   all_goals (refine⟨?_,Grow.app _ _⟩;simp only[PV.t.injEq,T.bool.injEq])
   all_goals simp_all [zTy]
  ·by_cases k3:s.kind=3
   ·simp only[k3] at hU ⊢
    simp only[wA,seval,hn,hE,hM,hU,hL,hT,d1P,d5C]
    repeat' ((with_reducible first|refine c0S ?_ ?_|refine c0T ?_ ?_|refine c0R ?_ ?_|refine c0Q ?_ ?_|refine c0O ?_ ?_|refine c0P ?_ ?_|refine c0N ?_ ?_|refine c0M ?_ ?_) <;> intro h <;> (try simp only[wA,seval,hn,hE,hM,hU,hL,hT,d1P,d5C,h]))
    any_goals (refine CallE.mono (hev _) ?_;rintro v sg' ow' ⟨rfl,⟨r,rfl⟩,rfl⟩;((simp only[wA,seval]);(repeat' ((with_reducible first|refine c0S ?_ ?_|refine c0T ?_ ?_|refine c0R ?_ ?_|refine c0Q ?_ ?_|refine c0O ?_ ?_|refine c0P ?_ ?_|refine c0N ?_ ?_|refine c0M ?_ ?_) <;> intro h <;> (try simp only[wA,seval,h])))))
    all_goals (refine⟨?_,Grow.app _ _⟩;simp only[PV.t.injEq,T.bool.injEq])
    all_goals simp_all [zTy]
   ·simp only[wA,seval,hn,hE,hM,hU,hL,hT,d1P,d5C,k1,k2,k3]
    repeat' ((with_reducible first|refine c0S ?_ ?_|refine c0T ?_ ?_|refine c0R ?_ ?_|refine c0Q ?_ ?_|refine c0O ?_ ?_|refine c0P ?_ ?_|refine c0N ?_ ?_|refine c0M ?_ ?_) <;> intro h <;> (try simp only[wA,seval,hn,hE,hM,hU,hL,hT,d1P,d5C,k1,k2,k3,h]))
    all_goals exact Grow.app _ _
theorem sy96 (f:Fu) (ho:FuOk f):Says (gl:=gl) 96 (.agg (tFu f)) (fuB f):=by
 intro sg ow
 have hn:=@d9J gl f.name (by have:=ho.name;have:B47=140737488355328:=rfl;omega)
 have hE:=λK=>(d9X (gl:=gl) f.ret ho.ret).call (K:=K)
 have hT:=λK=>(d9S (gl:=gl) f.res).call (K:=K)
 have hp:=λsg'=>d9P (gl:=gl) (nl:=f.pnl) ho.pl (λx hx=>d9W x (ho.pa x hx)) sg' ow
 have hb:=λsg'=>d9N (gl:=gl) (nl:=f.bnl) ho.bl (λx hx=>d9Y x (ho.bo x hx)) sg' ow
 refine XcE.of F96 rfl ?_
 simp only[d1J] at hE
 simp only[c4W]
 unfold fuB
 simp only[wA,seval,hn,hE,hT]
 repeat' ((with_reducible first|refine c0S ?_ ?_|refine c0T ?_ ?_|refine c0R ?_ ?_|refine c0Q ?_ ?_|refine c0O ?_ ?_|refine c0P ?_ ?_|refine c0N ?_ ?_|refine c0M ?_ ?_) <;> intro h <;> (try simp only[wA,seval,hn,hE,hT,h]))
 any_goals (refine CallE.mono (hp _) ?_;rintro v sg' ow' ⟨rfl,⟨r,rfl⟩,rfl⟩;((simp only[wA,seval,hn,hE,hT]);(repeat' ((with_reducible first|refine c0S ?_ ?_|refine c0T ?_ ?_|refine c0R ?_ ?_|refine c0Q ?_ ?_|refine c0O ?_ ?_|refine c0P ?_ ?_|refine c0N ?_ ?_|refine c0M ?_ ?_) <;> intro h <;> (try simp only[wA,seval,hn,hE,hT,h])))))
 any_goals (refine CallE.mono (hb _) ?_;rintro v sg' ow' ⟨rfl,⟨r2,rfl⟩,rfl⟩;((simp only[wA,seval,hn,hE,hT]);(repeat' ((with_reducible first|refine c0S ?_ ?_|refine c0T ?_ ?_|refine c0R ?_ ?_|refine c0Q ?_ ?_|refine c0O ?_ ?_|refine c0P ?_ ?_|refine c0N ?_ ?_|refine c0M ?_ ?_) <;> intro h <;> (try simp only[wA,seval,hn,hE,hT,h])))))
 all_goals (refine⟨?_,by first|exact Grow.app _ _|(simp only[g5B,List.cons_append];exact Grow.app _ _)⟩;simp only[PV.t.injEq,T.bool.injEq])
 all_goals simp_all
theorem d9Z (a b:Nat):(if (b:Int) > (a:Int) then (b:Int) else (a:Int))=((max a b:Nat):Int):=by
 split <;> omega
theorem e0A {l:List Exp} {nl:Bool} (hs:d2F l<=B20) (hd:∀ x,x∈l->∀ K,XcP F gl 184 [.agg (tEx x)] K ⟨⟩↔K (.t (.int .i64 (dEx x:Nat)))) {ow:Ow} (Q:Ex->S->Prop):∀ (r:List Exp) (i acc:Nat) (fr:List PV) (sg:Sg),l.drop i=r ->
  b6S fr [(3,.t (.int .i64 (acc:Nat))),(7,.t (.sl nl (d1H l))),(8,.t (.int .i64 l.length)),(9,.t (.int .i64 i))] ->
  (∀ fr' sg',a0A fr' 3=.t (.int .i64 ((max acc (d3A r):Nat):Int))->Q (.exit 0) ⟨fr',sg',ow⟩) ->
  Xl F gl c8U ⟨fr,sg,ow⟩ Q ⟨⟩:=by
 intro r
 induction r with
 |nil =>
  intro i acc fr sg hdr hf h1
  have hdr:=b6N hdr
  simp only[b6U,b6T] at hf
  obtain⟨f3,f7,f8,f9,-⟩:=hf
  refine Xl.step ?_
  simp only[c8U]
  have c1:¬((i:Int) < (l.length:Int)):=by omega
  simp only[wA,seval,f3,f7,f8,f9,c1]
  refine h1 _ _ ?_
  simp only[wQ,seval,f3,d3A,Nat.max_zero]
 |cons x r ih =>
  intro i acc fr sg hdr hf h1
  obtain⟨hx,hr,hi⟩:=b6M hdr
  simp only[b6U,b6T] at hf
  obtain⟨f3,f7,f8,f9,-⟩:=hf
  refine Xl.step ?_
  simp only[c8U]
  have c1:(i:Int) < (l.length:Int):=by omega
  have hll:=d2N l
  have hw1:=d5F hi (show l.length<=281474976710656 by have:B20=1100000:=rfl;omega)
  have hc:=hd x (g6K hx)
  simp only[d1J] at hc
  simp only[wA,seval,f3,f7,f8,f9,c1,hw1,d1L,hx,d1J,g4Z,hc,mxT,d9Z]
  refine ih (i+1) (max acc (dEx x)) _ _ hr (by simp only[wQ,seval,f7,f8]) λfr' sg' h=>h1 fr' sg' ?_
  rw[h,d3A,Nat.max_assoc]
theorem e0B:∀ e:Exp,szE e<=B20->∀ K,XcP F gl 184 [.agg (tEx e)] K ⟨⟩↔K (.t (.int .i64 (dEx e:Nat))):=by
 refine Exp.ind λe ih hs K=>?_
 refine Ret.iff (Ret.of F184 rfl ?_)
 have hse:=d2H e
 have hdl:=d3E e
 have hsl:d2F e.args<=B20:=by omega
 simp only[c8V,d1J]
 simp only[wA,seval,d1K]
 refine e0A hsl (λx hx=>ih x hx (g6V (d2L hx) hsl)) _ e.args 0 0 _ _ rfl (by simp only[wQ,seval];first|done|exact⟨rfl,rfl⟩|exact rfl) λfr' sg' h=>?_
 have hw:IntKind.wrap .i64 (((max 0 (d3A e.args):Nat):Int)+1)=((dEx e:Nat):Int):=by
  have:=d3C e
  rw[IntWalk.i64_in _ (by have:B20=1100000:=rfl;omega)]
  omega
 simp only[wA,seval,h,hw]
end Go.Proofs.YtdjcnfacjfnakaaGreat

/- Contracts: depths of statements; Valid. -/
namespace Go.Proofs.YtdjcnfacjfnakaaGreat
open Go.Pi Go.Lx Go.Ky
variable {gl:Nat->Option (List T)}
theorem e0C {l:List St} {nl:Bool} (hs:d2G l<=B20) (hd:∀ x,x∈l->∀ K,XcP F gl 148 [.agg (tSt x)] K ⟨⟩↔K (.t (.int .i64 (dSt x:Nat)))) {ow:Ow} (Q:Ex->S->Prop):∀ (r:List St) (i acc:Nat) (fr:List PV) (sg:Sg),l.drop i=r ->
  b6S fr [(3,.t (.int .i64 (acc:Nat))),(7,.t (.sl nl (d1M l))),(8,.t (.int .i64 l.length)),(9,.t (.int .i64 i))] ->
  (∀ fr' sg',a0A fr' 3=.t (.int .i64 ((max acc (d3B r):Nat):Int))->Q (.exit 0) ⟨fr',sg',ow⟩) ->
  Xl F gl c7F ⟨fr,sg,ow⟩ Q ⟨⟩:=by
 intro r
 induction r with
 |nil =>
  intro i acc fr sg hdr hf h1
  have hdr:=b6N hdr
  simp only[b6U,b6T] at hf
  obtain⟨f3,f7,f8,f9,-⟩:=hf
  refine Xl.step ?_
  simp only[c7F]
  have c1:¬((i:Int) < (l.length:Int)):=by omega
  simp only[wA,seval,f3,f7,f8,f9,c1]
  refine h1 _ _ ?_
  simp only[wQ,seval,f3,d3B,Nat.max_zero]
 |cons x r ih =>
  intro i acc fr sg hdr hf h1
  obtain⟨hx,hr,hi⟩:=b6M hdr
  simp only[b6U,b6T] at hf
  obtain⟨f3,f7,f8,f9,-⟩:=hf
  refine Xl.step ?_
  simp only[c7F]
  have c1:(i:Int) < (l.length:Int):=by omega
  have hll:=d2O l
  have hw1:=d5F hi (show l.length<=281474976710656 by have:B20=1100000:=rfl;omega)
  have hc:=hd x (g6K hx)
  simp only[d1O] at hc
  simp only[wA,seval,f3,f7,f8,f9,c1,hw1,d1Q,hx,d1O,g4Z,hc,mxT,d9Z]
  refine ih (i+1) (max acc (dSt x)) _ _ hr (by simp only[wQ,seval,f7,f8]) λfr' sg' h=>h1 fr' sg' ?_
  rw[h,d3B,Nat.max_assoc]
theorem e0D:∀ e:St,szS e<=B20->∀ K,XcP F gl 148 [.agg (tSt e)] K ⟨⟩↔K (.t (.int .i64 (dSt e:Nat))):=by
 refine St.ind λe ih hs K=>?_
 refine Ret.iff (Ret.of F148 rfl ?_)
 have hse:=d2J e
 have hdl:=d3F e
 have hsl:d2G e.body<=B20:=by omega
 simp only[c7G,d1O]
 simp only[wA,seval,d1P]
 refine e0C hsl (λx hx=>ih x hx (g6V (d2M hx) hsl)) _ e.body 0 0 _ _ rfl (by simp only[wQ,seval];first|done|exact⟨rfl,rfl⟩|exact rfl) λfr' sg' h=>?_
 have hw:IntKind.wrap .i64 (((max 0 (d3B e.body):Nat):Int)+1)=((dSt e:Nat):Int):=by
  have:=d3D e
  rw[IntWalk.i64_in _ (by have:B20=1100000:=rfl;omega)]
  omega
 simp only[wA,seval,h,hw]
theorem e0E (e:Exp) (hs:szE e<=B20):Says (gl:=gl) 147 (.agg (tEx e)) (shE e):=by
 intro sg ow
 have hd:=e0B (gl:=gl) e hs
 simp only[d1J] at hd
 refine XcE.of F147 rfl ?_
 simp only[c7E,d1J]
 simp only[wA,seval,hd]
 exact⟨rfl,Grow.app _ _⟩
theorem e0F:∀ s:St,StOk s->szS s<=B20->Says (gl:=gl) 102 (.agg (tSt s)) (shS s):=by
 refine St.ind λs ih ho hs sg ow=>?_
 have hse:=d2J s
 have hex:=d2P s
 cases ho with|mk _ h1 h2 h3 h4 h5 h6 h7 h8 h =>
 have hd:=e0D (gl:=gl) s hs
 have hE:=λK=>(e0E (gl:=gl) s.ex (by omega)).call (K:=K)
 have hev:=λsg'=>d9N (gl:=gl) (nl:=s.nl) h7 (λx hx=>ih x hx (h x hx) (by have:=d2M hx;omega)) sg' ow
 simp only[d1O] at hd
 simp only[d1J] at hE
 refine XcE.of F102 rfl ?_
 rw[d3I]
 simp only[c5E,d1O]
 simp only[wA,seval,hd,hE]
 repeat' ((with_reducible first|refine c0S ?_ ?_|refine c0T ?_ ?_|refine c0R ?_ ?_|refine c0Q ?_ ?_|refine c0O ?_ ?_|refine c0P ?_ ?_|refine c0N ?_ ?_|refine c0M ?_ ?_) <;> intro h <;> (try simp only[wA,seval,hd,hE,h]))
 any_goals (refine CallE.mono (hev _) ?_;rintro v sg' ow' ⟨rfl,⟨r,rfl⟩,rfl⟩;((simp only[wA,seval]);(repeat' ((with_reducible first|refine c0S ?_ ?_|refine c0T ?_ ?_|refine c0R ?_ ?_|refine c0Q ?_ ?_|refine c0O ?_ ?_|refine c0P ?_ ?_|refine c0N ?_ ?_|refine c0M ?_ ?_) <;> intro h <;> (try simp only[wA,seval,h])))))
 all_goals (refine⟨?_,Grow.app _ _⟩;simp only[PV.t.injEq,T.bool.injEq])
 all_goals simp_all
theorem e0G (f:Fu) (ho:FuOk f) (hb:d2G f.body<=B20) (he:szE f.ret<=B20):Says (gl:=gl) 101 (.agg (tFu f)) (shF f):=by
 intro sg ow
 have hE:=λK=>(e0E (gl:=gl) f.ret he).call (K:=K)
 have hev:=λsg'=>d9N (gl:=gl) (nl:=f.bnl) ho.bl (λx hx=>e0F x (ho.bo x hx) (by have:=d2M hx;omega)) sg' ow
 simp only[d1J] at hE
 refine XcE.of F101 rfl ?_
 simp only[c5D]
 unfold shF
 simp only[wA,seval,hE]
 refine CallE.mono (hev _) ?_
 rintro v sg' ow' ⟨rfl,⟨r,rfl⟩,rfl⟩
 cases c:f.body.all shS with
 |false =>
  simp only[wA,seval,hE,c,Bool.false_and]
  exact Grow.app _ _
 |true =>
  simp only[wA,seval,hE,c,g4X]
  exact Grow.app _ _
structure PgSz (p:Pg):Prop where
 fu:∀ f,f∈p.funcs->d2G f.body<=B20/\szE f.ret<=B20
 bo:d2G p.body<=B20
set_option maxHeartbeats 1000000 in
theorem ok61 (p:Pg) (ho:PgOk p) (hs:PgSz p) {K:PV->Prop}:XcP F gl 61 [.agg (tPg p)] K ⟨⟩↔K (.t (.int .i64 (d3J p))):=by
 refine Ret.iff (Ret.of F61 rfl ?_)
 have h1:=λsg' ow=>ok95 (gl:=gl) (nl:=p.fnl) ho.fl (λx hx=>sy96 x (ho.fo x hx)) sg' ow
 have h2:=λsg' ow=>ok97 (gl:=gl) (nl:=p.dnl) ho.dl (λx hx=>sy98 x (ho.dok x hx)) sg' ow
 have h3:=λsg' ow=>d9N (gl:=gl) (nl:=p.bnl) ho.bl (λx hx=>d9Y x (ho.bo x hx)) sg' ow
 have h4:=λsg' ow=>ok95 (gl:=gl) (nl:=p.fnl) ho.fl (λx hx=>e0G x (ho.fo x hx) (hs.fu x hx).1 (hs.fu x hx).2) sg' ow
 have h5:=λsg' ow=>d9N (gl:=gl) (nl:=p.bnl) ho.bl (λx hx=>e0F x (ho.bo x hx) (by have:=d2M hx;have:=hs.bo;omega)) sg' ow
 simp only[c3H]
 unfold d3J
 simp only[wA,seval]
 refine CallE.mono (h1 _ _) ?_
 rintro v sg' ow' ⟨rfl,⟨r1,rfl⟩,rfl⟩
 have done:∀ (sg:Sg) (a:Int),True:=λ_ _=>trivial
 cases c1:p.funcs.all fuB with
 |false =>
  simp only[wA,seval,c1,Bool.false_and]
 |true =>
  simp only[wA,seval,c1,g4X]
  refine CallE.mono (h2 _ _) ?_
  rintro v sg' ow' ⟨rfl,⟨r2,rfl⟩,rfl⟩
  cases c2:p.decls.all deB with
  |false =>
   simp only[wA,seval,c2,Bool.false_and]
  |true =>
   simp only[wA,seval,c2,g4X]
   refine CallE.mono (h3 _ _) ?_
   rintro v sg' ow' ⟨rfl,⟨r3,rfl⟩,rfl⟩
   cases c3:p.body.all stB with
   |false =>
    simp only[wA,seval,c3]
   |true =>
    simp only[wA,seval,c3]
    refine CallE.mono (h4 _ _) ?_
    rintro v sg' ow' ⟨rfl,⟨r4,rfl⟩,rfl⟩
    cases c4:p.funcs.all shF with
    |false =>
     simp only[wA,seval,c4,Bool.false_and]
    |true =>
     simp only[wA,seval,c4,g4X]
     refine CallE.mono (h5 _ _) ?_
     rintro v sg' ow' ⟨rfl,⟨r5,rfl⟩,rfl⟩
     cases c5:p.body.all shS with
     |false =>
      simp only[wA,seval,c5]
     |true =>
      simp only[wA,seval,c5]
end Go.Proofs.YtdjcnfacjfnakaaGreat
