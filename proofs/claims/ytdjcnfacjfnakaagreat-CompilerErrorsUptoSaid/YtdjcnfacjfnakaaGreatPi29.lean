/- PI 29: the walk's rules over marked forms: a simplification does not go into what a mark holds. -/
import Derived.Test.YtdjcnfacjfnakaaGreatPi28
set_option linter.unusedSimpArgs false
set_option linter.unusedVariables false
namespace Go.Pi
structure Tg {α β:Type 1} (a:α) (b:β):Type where
structure Tg0 {α β:Type} (a:α) (b:β):Type where
structure TgP (a b:Prop):Type where
section
variable {F:Nat->Option Fn} {gl:Nat->Option (List T)} {dr:Bool} {d:Option Nat} {r:List Ins} {fr:List PV} {sg:Sg} {ow:Ow} {Q:S->Prop}
def Xp (F:Nat->Option Fn) (gl:Nat->Option (List T)) (c:Co) (s:S) (Q:Ex->S->Prop) (_:Tg0 c Q):Prop:=Wp F gl c s Q
def Xi (F:Nat->Option Fn) (gl:Nat->Option (List T)) (dr:Bool) (is:List Ins) (s:S) (Q:S->Prop) (_:Tg0 is Q):Prop:=WpI F gl dr is s Q
def Xl (F:Nat->Option Fn) (gl:Nat->Option (List T)) (c:Co) (s:S) (Q:Ex->S->Prop) (_:Tg0 c Q):Prop:=WpL F gl c s Q
def xN (k:S->Prop) (Q:Ex->S->Prop) (_:Tg0 k Q):Ex->S->Prop:=onN k Q
def xB (id:Nat) (Q:Ex->S->Prop) (_:Tg0 id Q):Ex->S->Prop:=onB id Q
def xC (v:PV) (a b:Prop) (_:TgP a b):Prop:=onC v a b
def xG (v:PV) (q:Bool) (a b:Prop) (_:TgP a b):Prop:=onG v q a b
def xO {α:Type} (v:Option α) (k:α->Prop) (_:Tg0 () k):Prop:=onO v k
def XcE (F:Nat->Option Fn) (gl:Nat->Option (List T)) (f:Nat) (args:List PV) (sg:Sg) (ow:Ow) (K:PV->Sg->Ow->Prop) (_:Tg0 () K):Prop:=CallE F gl f args sg ow K
def XcP (F:Nat->Option Fn) (gl:Nat->Option (List T)) (f:Nat) (ts:List T) (K:PV->Prop) (_:Tg0 () K):Prop:=CallP F gl f ts K
def xF (v:PV) (K:Nat->List PV->Prop) (_:Tg0 () K):Prop:=fnK v K
def xR (gl:Nat->Option (List T)) (res:List (Nat×Option (Bool×Nat))) (K:PV->Sg->Ow->Prop) (_:Tg0 () K):Ex->S->Prop:=b6E gl res K
theorem b7S {s:S} {Q:Ex->S->Prop}:Xp F gl .skip s Q ⟨⟩↔Q .normal s:=b3T
theorem b7T {id:Nat} {s:S} {Q:Ex->S->Prop}:Xp F gl (.exit id) s Q ⟨⟩↔Q (.exit id) s:=b3U
theorem b7U {s:S} {Q:Ex->S->Prop}:Xp F gl .ret s Q ⟨⟩↔Q .ret s:=b3V
theorem b7V {is:List Ins} {s:S} {Q:Ex->S->Prop}:Xp F gl (.reg dr is) s Q ⟨⟩↔Xi F gl dr is s (Q .normal) ⟨⟩:=b3W
theorem b7W {a b:Co} {s:S} {Q:Ex->S->Prop}:Xp F gl (.seq a b) s Q ⟨⟩↔Xp F gl a s (xN (λs'=>Xp F gl b s' Q ⟨⟩) Q ⟨⟩) ⟨⟩:=b3X
theorem b7X {id:Nat} {b:Co} {s:S} {Q:Ex->S->Prop}:Xp F gl (.block id b) s Q ⟨⟩↔Xp F gl b s (xB id Q ⟨⟩) ⟨⟩:=b3Y
theorem b7Y {c:Opd} {a b:Co} {fr:List PV} {sg:Sg} {ow:Ow} {Q:Ex->S->Prop}:Xp F gl (.cond c a b) ⟨fr,sg,ow⟩ Q ⟨⟩↔xC (c.ev fr) (Xp F gl a ⟨fr,sg,ow⟩ Q ⟨⟩) (Xp F gl b ⟨fr,sg,ow⟩ Q ⟨⟩) ⟨⟩:=b3Z
theorem b7Z {b:Co} {s:S} {Q:Ex->S->Prop}:Xp F gl (.loop b) s Q ⟨⟩↔Xl F gl b s Q ⟨⟩:=b6L
theorem Xl.step {b:Co} {s:S} {Q:Ex->S->Prop} (h:Xp F gl b s (xN (λs'=>Xl F gl b s' Q ⟨⟩) Q ⟨⟩) ⟨⟩):Xl F gl b s Q ⟨⟩:=WpL.step h
theorem b8A {k:S->Prop} {Q:Ex->S->Prop} {s:S}:xN k Q ⟨⟩ .normal s↔k s:=g4Y
theorem b8B {k:S->Prop} {Q:Ex->S->Prop} {s:S} {id:Nat}:xN k Q ⟨⟩ (.exit id) s↔Q (.exit id) s:=g4Y
theorem b8C {k:S->Prop} {Q:Ex->S->Prop} {s:S}:xN k Q ⟨⟩ .ret s↔Q .ret s:=g4Y
theorem b8D {id:Nat} {Q:Ex->S->Prop} {s:S}:xB id Q ⟨⟩ .normal s↔Q .normal s:=g4Y
theorem b8E {id:Nat} {Q:Ex->S->Prop} {s:S}:xB id Q ⟨⟩ (.exit id) s↔Q .normal s:=by
 show onB id Q (.exit id) s↔_
 rw[b3R,if_pos rfl]
theorem b8F {id id':Nat} {Q:Ex->S->Prop} {s:S} (h:(id' == id)=false):xB id Q ⟨⟩ (.exit id') s↔Q (.exit id') s:=by
 show onB id Q (.exit id') s↔_
 rw[b3R,if_neg (by simpa using h)]
theorem b8G {id:Nat} {Q:Ex->S->Prop} {s:S}:xB id Q ⟨⟩ .ret s↔Q .ret s:=g4Y
theorem b8H {a b:Prop}:xC (.t (.bool true)) a b ⟨⟩↔a:=g4Y
theorem b8I {a b:Prop}:xC (.t (.bool false)) a b ⟨⟩↔b:=g4Y
theorem b8J {a b:Prop}:xG (.t (.bool true)) true a b ⟨⟩↔a:=g4Y
theorem b8K {a b:Prop}:xG (.t (.bool true)) false a b ⟨⟩↔b:=g4Y
theorem b8L {a b:Prop}:xG (.t (.bool false)) true a b ⟨⟩↔b:=g4Y
theorem b8M {a b:Prop}:xG (.t (.bool false)) false a b ⟨⟩↔a:=g4Y
theorem b8N {q:Bool} {a b:Prop}:xG (.tup []) q a b ⟨⟩↔b:=g4Y
theorem b8O {α:Type} {x:α} {k:α->Prop}:xO (some x) k ⟨⟩↔k x:=g4Y
theorem b8P {f:Nat} {caps:List PV} {K:Nat->List PV->Prop}:xF (.fn f caps) K ⟨⟩↔K f caps:=g4Y
theorem b8Q {s:S} {Q:S->Prop}:Xi F gl dr [] s Q ⟨⟩↔Q s:=b4A
theorem b8R {k:Nat} {b:Bool} {o:O}:Xi F gl dr (⟨d,some (k,b),o⟩::r) ⟨fr,sg,ow⟩ Q ⟨⟩↔xG (a0A fr k) b (Xi F gl dr (⟨d,none,o⟩::r) ⟨fr,sg,ow⟩ Q ⟨⟩) (Xi F gl dr r ⟨put fr d und,sg,ow⟩ Q ⟨⟩) ⟨⟩:=b7R
theorem b8S {a:Opd}:Xi F gl dr (⟨d,none,.mov a⟩::r) ⟨fr,sg,ow⟩ Q ⟨⟩↔Xi F gl dr r ⟨put fr d (a.ev fr),sg,ow⟩ Q ⟨⟩:=b4K
theorem b8T {c a b:Opd}:Xi F gl dr (⟨d,none,.pick c a b⟩::r) ⟨fr,sg,ow⟩ Q ⟨⟩↔xO (pickV (c.ev fr) (a.ev fr) (b.ev fr)) (λv=>Xi F gl dr r ⟨put fr d v,sg,ow⟩ Q ⟨⟩) ⟨⟩:=b4L
theorem b8U {a:Opd}:Xi F gl dr (⟨d,none,.box a⟩::r) ⟨fr,sg,ow⟩ Q ⟨⟩↔Xi F gl dr r ⟨put fr d (.lp sg.length 0),sg++[(false,cellsP (a.ev fr))],ow⟩ Q ⟨⟩:=b4M
theorem b8V {zs:List T}:Xi F gl dr (⟨d,none,.alloc zs⟩::r) ⟨fr,sg,ow⟩ Q ⟨⟩↔Xi F gl dr r ⟨put fr d (.lp sg.length 0),sg++[(false,zs.map .t)],ow⟩ Q ⟨⟩:=b4N
theorem b8W {zs:List T} {ps:List (Nat×Nat×Opd)}:Xi F gl dr (⟨d,none,.build zs ps⟩::r) ⟨fr,sg,ow⟩ Q ⟨⟩↔xO (fillP (zs.map .t) (ps.map λp=>(p.1,p.2.1,p.2.2.ev fr))) (λcs=>Xi F gl dr r ⟨put fr d (mkAgg cs),sg,ow⟩ Q ⟨⟩) ⟨⟩:=b4O
theorem b8X {sz len:Nat} {z:List T} {ps:List (Nat×Opd)}:Xi F gl dr (⟨d,none,.bsl sz len z ps⟩::r) ⟨fr,sg,ow⟩ Q ⟨⟩↔xO (b4J sz len z (ps.map λp=>(p.1 * sz,sz,p.2.ev fr))) (λv=>Xi F gl dr r ⟨put fr d v,sg,ow⟩ Q ⟨⟩) ⟨⟩:=b4P
theorem b8Y {ag:Bool} {n:Nat} {a:Opd}:Xi F gl dr (⟨d,none,.load ag n a⟩::r) ⟨fr,sg,ow⟩ Q ⟨⟩↔xO (loadP gl sg ag n (a.ev fr)) (λv=>Xi F gl dr r ⟨put fr d v,sg,ow⟩ Q ⟨⟩) ⟨⟩:=b4Q
theorem b8Z {n:Nat} {a v:Opd}:Xi F gl dr (⟨d,none,.store n a v⟩::r) ⟨fr,sg,ow⟩ Q ⟨⟩↔xO (storeP sg n (v.ev fr) (a.ev fr)) (λsg'=>Xi F gl dr r ⟨put fr d und,sg',ow⟩ Q ⟨⟩) ⟨⟩:=b4R
theorem b9A {a:Opd}:Xi F gl dr (⟨d,none,.nck a⟩::r) ⟨fr,sg,ow⟩ Q ⟨⟩↔xO (nckV (a.ev fr)) (λv=>Xi F gl dr r ⟨put fr d v,sg,ow⟩ Q ⟨⟩) ⟨⟩:=b4S
theorem b9B {op:BinOp} {a b:Opd}:Xi F gl dr (⟨d,none,.bin op a b⟩::r) ⟨fr,sg,ow⟩ Q ⟨⟩↔xO (a0H op (a.ev fr) (b.ev fr)) (λv=>Xi F gl dr r ⟨put fr d (.t v),sg,ow⟩ Q ⟨⟩) ⟨⟩:=b4T
theorem b9C {ng ag:Bool} {ks:List Nat} {a b:Opd}:Xi F gl dr (⟨d,none,.eqv ng ag ks a b⟩::r) ⟨fr,sg,ow⟩ Q ⟨⟩↔xO (eqT ag ks (a.ev fr) (b.ev fr)) (λq=>Xi F gl dr r ⟨put fr d (.t (.bool (ng != q))),sg,ow⟩ Q ⟨⟩) ⟨⟩:=b4U
theorem b9D {ng:Bool} {kd:Nat} {a:Opd}:Xi F gl dr (⟨d,none,.isn ng kd a⟩::r) ⟨fr,sg,ow⟩ Q ⟨⟩↔xO (isNil kd (a.ev fr)) (λq=>Xi F gl dr r ⟨put fr d (.t (.bool (ng != q))),sg,ow⟩ Q ⟨⟩) ⟨⟩:=b4V
theorem b9E {op:UnOp} {a:Opd}:Xi F gl dr (⟨d,none,.un op a⟩::r) ⟨fr,sg,ow⟩ Q ⟨⟩↔xO (unT op (a.ev fr)) (λv=>Xi F gl dr r ⟨put fr d (.t v),sg,ow⟩ Q ⟨⟩) ⟨⟩:=b4W
theorem b9F {k:IntKind} {a:Opd}:Xi F gl dr (⟨d,none,.cvi k a⟩::r) ⟨fr,sg,ow⟩ Q ⟨⟩↔xO (cviV k (a.ev fr)) (λv=>Xi F gl dr r ⟨put fr d v,sg,ow⟩ Q ⟨⟩) ⟨⟩:=b4X
theorem b9G {k:Nat} {a:Opd}:Xi F gl dr (⟨d,none,.ext k a⟩::r) ⟨fr,sg,ow⟩ Q ⟨⟩↔xO (extV k (a.ev fr)) (λv=>Xi F gl dr r ⟨put fr d v,sg,ow⟩ Q ⟨⟩) ⟨⟩:=b4Y
theorem b9H {sz bytes:Nat} {z:List T} {l c:Opd}:Xi F gl dr (⟨d,none,.mks sz bytes z l c⟩::r) ⟨fr,sg,ow⟩ Q ⟨⟩↔xO (b4G dr sg ow sz bytes z (l.ev fr) (c.ev fr)) (λx=>Xi F gl dr r ⟨put fr d x.1,x.2.1,x.2.2⟩ Q ⟨⟩) ⟨⟩:=b4Z
theorem b9I {sz bytes:Nat} {z:List T} {l c:Opd}:Xi F gl dr (⟨d,none,.mkz sz bytes z l c⟩::r) ⟨fr,sg,ow⟩ Q ⟨⟩↔xO (b5A sz bytes z (l.ev fr) (c.ev fr)) (λv=>Xi F gl dr r ⟨put fr d v,sg,ow⟩ Q ⟨⟩) ⟨⟩:=b5B
theorem b9J {sz:Nat} {a:Opd} {lo hi mx:Option Opd}:Xi F gl dr (⟨d,none,.slc sz a lo hi mx⟩::r) ⟨fr,sg,ow⟩ Q ⟨⟩↔xO (a0Q sz (a.ev fr) (lo.map (Opd.ev fr)) (hi.map (Opd.ev fr)) (mx.map (Opd.ev fr))) (λv=>Xi F gl dr r ⟨put fr d v,sg,ow⟩ Q ⟨⟩) ⟨⟩:=b5C
theorem b9K {off:Nat} {a:Opd}:Xi F gl dr (⟨d,none,.fad off a⟩::r) ⟨fr,sg,ow⟩ Q ⟨⟩↔xO (fieldA off (a.ev fr)) (λv=>Xi F gl dr r ⟨put fr d v,sg,ow⟩ Q ⟨⟩) ⟨⟩:=b5D
theorem b9L {ag:Bool} {off n:Nat} {a:Opd}:Xi F gl dr (⟨d,none,.fld ag off n a⟩::r) ⟨fr,sg,ow⟩ Q ⟨⟩↔xO (partV ag n off (a.ev fr)) (λv=>Xi F gl dr r ⟨put fr d v,sg,ow⟩ Q ⟨⟩) ⟨⟩:=b5E
theorem b9M {n sz:Nat} {a i:Opd}:Xi F gl dr (⟨d,none,.iaa n sz a i⟩::r) ⟨fr,sg,ow⟩ Q ⟨⟩↔xO (indexA n sz (a.ev fr) (i.ev fr)) (λv=>Xi F gl dr r ⟨put fr d v,sg,ow⟩ Q ⟨⟩) ⟨⟩:=b5F
theorem b9N {sz:Nat} {a i:Opd}:Xi F gl dr (⟨d,none,.ias sz a i⟩::r) ⟨fr,sg,ow⟩ Q ⟨⟩↔xO (indexS sz (a.ev fr) (i.ev fr)) (λv=>Xi F gl dr r ⟨put fr d v,sg,ow⟩ Q ⟨⟩) ⟨⟩:=b5G
theorem b9O {ag:Bool} {n sz:Nat} {a i:Opd}:Xi F gl dr (⟨d,none,.ixa ag n sz a i⟩::r) ⟨fr,sg,ow⟩ Q ⟨⟩↔xO (indexV ag n sz (a.ev fr) (i.ev fr)) (λv=>Xi F gl dr r ⟨put fr d v,sg,ow⟩ Q ⟨⟩) ⟨⟩:=b5H
theorem b9P {a i:Opd}:Xi F gl dr (⟨d,none,.ixs a i⟩::r) ⟨fr,sg,ow⟩ Q ⟨⟩↔xO (indexStr (a.ev fr) (i.ev fr)) (λv=>Xi F gl dr r ⟨put fr d v,sg,ow⟩ Q ⟨⟩) ⟨⟩:=b5I
theorem b9Q {st:Bool} {a:Opd}:Xi F gl dr (⟨d,none,.len st a⟩::r) ⟨fr,sg,ow⟩ Q ⟨⟩↔xO (lenP st (a.ev fr)) (λn=>Xi F gl dr r ⟨put fr d (.t (.int .i64 (n:Int))),sg,ow⟩ Q ⟨⟩) ⟨⟩:=b5J
theorem b9R {sz bytes:Nat} {a b:Opd}:Xi F gl dr (⟨d,none,.app sz bytes a b⟩::r) ⟨fr,sg,ow⟩ Q ⟨⟩↔xO (a0R dr sg ow sz bytes (a.ev fr) (b.ev fr)) (λx=>Xi F gl dr r ⟨put fr d x.1,sg,x.2⟩ Q ⟨⟩) ⟨⟩:=b5K
theorem b9S :Xi F gl dr (⟨d,none,.mkm⟩::r) ⟨fr,sg,ow⟩ Q ⟨⟩↔Xi F gl dr r ⟨put fr d (.mp sg.length),sg++[(true,[])],ow⟩ Q ⟨⟩:=b5L
theorem b9T {ck:Bool} {kd:Nat} {z:T} {a i:Opd}:Xi F gl dr (⟨d,none,.mlk ck kd z a i⟩::r) ⟨fr,sg,ow⟩ Q ⟨⟩↔xO (a0W sg ck kd z (a.ev fr) (i.ev fr)) (λv=>Xi F gl dr r ⟨put fr d v,sg,ow⟩ Q ⟨⟩) ⟨⟩:=b5M
theorem b9U {kd:Nat} {a k v:Opd}:Xi F gl dr (⟨d,none,.mup kd a k v⟩::r) ⟨fr,sg,ow⟩ Q ⟨⟩↔xO (a0X sg kd (a.ev fr) (k.ev fr) (v.ev fr)) (λsg'=>Xi F gl dr r ⟨put fr d und,sg',ow⟩ Q ⟨⟩) ⟨⟩:=b5N
theorem b9V {kd:Nat} {a k:Opd}:Xi F gl dr (⟨d,none,.mdl kd a k⟩::r) ⟨fr,sg,ow⟩ Q ⟨⟩↔xO (a0Y sg kd (a.ev fr) (k.ev fr)) (λsg'=>Xi F gl dr r ⟨put fr d und,sg',ow⟩ Q ⟨⟩) ⟨⟩:=b5O
theorem b9W {mx:Bool} {a b:Opd}:Xi F gl dr (⟨d,none,.mxn mx a b⟩::r) ⟨fr,sg,ow⟩ Q ⟨⟩↔xO (mxT mx (a.ev fr) (b.ev fr)) (λv=>Xi F gl dr r ⟨put fr d (.t v),sg,ow⟩ Q ⟨⟩) ⟨⟩:=b5P
theorem b9X {sz bytes:Nat} {a b:Opd}:Xi F gl dr (⟨d,none,.apb sz bytes a b⟩::r) ⟨fr,sg,ow⟩ Q ⟨⟩↔xO (a0S sg sz bytes (a.ev fr) (b.ev fr)) (λx=>Xi F gl dr r ⟨put fr d x.1,x.2,ow⟩ Q ⟨⟩) ⟨⟩:=b5Q
theorem b9Y {ag:Bool} {n:Nat} {a:Opd} {k:Nat}:Xi F gl dr (⟨d,none,.ldk ag n a k⟩::r) ⟨fr,sg,ow⟩ Q ⟨⟩↔xO (a1C gl sg ag n (a0A fr k) (a.ev fr)) (λv=>Xi F gl dr r ⟨put fr d v,sg,ow⟩ Q ⟨⟩) ⟨⟩:=b5R
theorem b9Z {ag:Bool} {n:Nat} {a:Opd}:Xi F gl dr (⟨d,none,.ldt ag n a⟩::r) ⟨fr,sg,ow⟩ Q ⟨⟩↔xO (loadP gl [] ag n (a.ev fr)) (λv=>Xi F gl dr r ⟨put fr d v,sg,ow⟩ Q ⟨⟩) ⟨⟩:=b5S
theorem c0A {n:Nat} {a v:Opd} {ks:List Nat}:Xi F gl dr (⟨d,none,.stok n a v ks⟩::r) ⟨fr,sg,ow⟩ Q ⟨⟩↔xO (storeP sg n (v.ev fr) (a.ev fr)) (λsg'=>xO (b4H fr ks sg sg') (λ_=>Xi F gl dr r ⟨put fr d und,sg',ow⟩ Q ⟨⟩) ⟨⟩) ⟨⟩:=b5T
theorem c0B {f:Nat} {caps:List Opd}:Xi F gl dr (⟨d,none,.mkf f caps⟩::r) ⟨fr,sg,ow⟩ Q ⟨⟩↔Xi F gl dr r ⟨put fr d (.fn f (caps.map (Opd.ev fr))),sg,ow⟩ Q ⟨⟩:=b5U
theorem c0C {k:Nat} {as:List Opd}:Xi F gl dr (⟨d,none,.xt k as⟩::r) ⟨fr,sg,ow⟩ Q ⟨⟩↔xO (((as.map (Opd.ev fr)).mapM close).bind (a0O gl k)) (λv=>Xi F gl dr r ⟨put fr d v,sg,ow⟩ Q ⟨⟩) ⟨⟩:=b5V
theorem c0D {f:Nat} {as:List Opd}:Xi F gl dr (⟨d,none,.call f as⟩::r) ⟨fr,sg,ow⟩ Q ⟨⟩↔xO ((as.map (Opd.ev fr)).mapM close) (λts=>XcP F gl f ts (λv=>Xi F gl dr r ⟨put fr d (aft dr ow v).1,sg,(aft dr ow v).2⟩ Q ⟨⟩) ⟨⟩) ⟨⟩:=b5X
theorem c0E {f:Nat} {as:List Opd}:Xi F gl dr (⟨d,none,.cale f as⟩::r) ⟨fr,sg,ow⟩ Q ⟨⟩↔XcE F gl f (as.map (Opd.ev fr)) sg ow (λv sg' ow'=>Xi F gl dr r ⟨put fr d v,sg',ow'⟩ Q ⟨⟩) ⟨⟩:=b6A
theorem c0F {f:Nat} {as:List Opd} {ks:List Nat}:Xi F gl dr (⟨d,none,.calk f as ks⟩::r) ⟨fr,sg,ow⟩ Q ⟨⟩↔XcE F gl f (as.map (Opd.ev fr)) sg ow (λv sg' ow'=>xO (b4H fr ks sg sg') (λ_=>Xi F gl dr r ⟨put fr d v,sg',ow'⟩ Q ⟨⟩) ⟨⟩) ⟨⟩:=b6B
theorem c0G {f:Nat} {as:List Opd} {ks:List Nat}:Xi F gl dr (⟨d,none,.calz f as ks⟩::r) ⟨fr,sg,ow⟩ Q ⟨⟩↔xO (a1E sg (as.map (Opd.ev fr))) (λz=>xO (z.1.mapM close) (λts=>XcP F gl f ts (λv=>xO (b4H fr ks sg z.2) (λ_=>Xi F gl dr r ⟨put fr d (aft dr ow v).1,z.2,(aft dr ow v).2⟩ Q ⟨⟩) ⟨⟩) ⟨⟩) ⟨⟩) ⟨⟩:=b5Y
theorem c0H {zs:List T} {ps:List (Nat×Nat×Opd)}:Xi F gl dr (⟨d,none,.bldz zs ps⟩::r) ⟨fr,sg,ow⟩ Q ⟨⟩↔xO (a1E sg (ps.map λp=>p.2.2.ev fr)) (λz=>xO (fillP (zs.map .t) ((ps.zip z.1).map λp=>(p.1.1,p.1.2.1,p.2))) (λcs=>Xi F gl dr r ⟨put fr d (mkAgg cs),z.2,ow⟩ Q ⟨⟩) ⟨⟩) ⟨⟩:=b5Z
theorem c0I {g:Opd} {as:List Opd}:Xi F gl dr (⟨d,none,.calv g as⟩::r) ⟨fr,sg,ow⟩ Q ⟨⟩↔xF (g.ev fr) (λf caps=>XcE F gl f (as.map (Opd.ev fr)++caps) sg ow (λv sg' ow'=>Xi F gl dr r ⟨put fr d v,sg',ow'⟩ Q ⟨⟩) ⟨⟩) ⟨⟩:=b6D
theorem c0J {n:Nat}:0<=(n:Int):=Int.natCast_nonneg n
theorem c0K:((0:Nat):Int)=0:=rfl
theorem c0L {n:Nat}:¬((n:Int) < 0):=by omega
theorem c0M {q:Bool} {a b:Prop} (h1:q=true->a) (h2:q=false->b):xC (.t (.bool q)) a b ⟨⟩:=by
 cases q
 ·exact h2 rfl
 ·exact h1 rfl
theorem c0N {q:Bool} {a b:Prop} (h1:q=true->b) (h2:q=false->a):xC (.t (.bool (!q))) a b ⟨⟩:=by
 cases q
 ·exact h2 rfl
 ·exact h1 rfl
theorem c0O {p:Prop} [Decidable p] {a b:Prop} (h1:p->a) (h2:¬p->b):xC (.t (.bool (decide p))) a b ⟨⟩ :=
 c0M (λh=>h1 (g7P h)) (λh=>h2 (g7O h))
theorem c0P {p:Prop} [Decidable p] {a b:Prop} (h1:p->b) (h2:¬p->a):xC (.t (.bool (!decide p))) a b ⟨⟩ :=
 c0N (λh=>h1 (g7P h)) (λh=>h2 (g7O h))
theorem c0Q {q b:Bool} {A B:Prop} (h1:q=true->xG (.t (.bool true)) b A B ⟨⟩) (h2:q=false->xG (.t (.bool false)) b A B ⟨⟩):xG (.t (.bool q)) b A B ⟨⟩:=by
 cases q
 ·exact h2 rfl
 ·exact h1 rfl
theorem c0R {q b:Bool} {A B:Prop} (h1:q=true->xG (.t (.bool false)) b A B ⟨⟩) (h2:q=false->xG (.t (.bool true)) b A B ⟨⟩):xG (.t (.bool (!q))) b A B ⟨⟩:=by
 cases q
 ·exact h2 rfl
 ·exact h1 rfl
theorem c0S {p:Prop} [Decidable p] {b:Bool} {A B:Prop} (h1:p->xG (.t (.bool true)) b A B ⟨⟩) (h2:¬p->xG (.t (.bool false)) b A B ⟨⟩):xG (.t (.bool (decide p))) b A B ⟨⟩ :=
 c0Q (λh=>h1 (g7P h)) (λh=>h2 (g7O h))
theorem c0T {p:Prop} [Decidable p] {b:Bool} {A B:Prop} (h1:p->xG (.t (.bool false)) b A B ⟨⟩) (h2:¬p->xG (.t (.bool true)) b A B ⟨⟩):xG (.t (.bool (!decide p))) b A B ⟨⟩ :=
 c0R (λh=>h1 (g7P h)) (λh=>h2 (g7O h))
def Ret (F:Nat->Option Fn) (gl:Nat->Option (List T)) (f:Nat) (ts:List T) (v:PV):Prop:=CallP F gl f ts λv2=>v2=v
def RetE (F:Nat->Option Fn) (gl:Nat->Option (List T)) (f:Nat) (args:List PV) (sg:Sg) (ow:Ow) (v:PV) (sg':Sg) (ow':Ow):Prop:=CallE F gl f args sg ow λv2 sg2 ow2=>v2=v/\sg2=sg'/\ow2=ow'
theorem Ret.iff {f:Nat} {ts:List T} {v:PV} {K:PV->Prop} (h:Ret F gl f ts v):XcP F gl f ts K ⟨⟩↔K v:=CallP.iff h
theorem RetE.iff {f:Nat} {args:List PV} {v:PV} {sg':Sg} {ow':Ow} {K:PV->Sg->Ow->Prop} (h:RetE F gl f args sg ow v sg' ow'):XcE F gl f args sg ow K ⟨⟩↔K v sg' ow':=CallE.iff h
theorem Ret.of {f:Nat} {fn:Fn} {ts:List T} {v:PV} (hf:F f=some fn) (hl:ts.length=fn.np) (h:Xp F gl fn.body ⟨ts.map .t,[],[]⟩ (xR gl fn.res (λx sg ow=>xO (retV sg ow x) (λv2=>v2=v) ⟨⟩) ⟨⟩) ⟨⟩):Ret F gl f ts v:=b6G hf hl h
theorem RetE.of {f:Nat} {fn:Fn} {args:List PV} {v:PV} {sg':Sg} {ow':Ow} (hf:F f=some fn) (hl:args.length=fn.np) (h:Xp F gl fn.body ⟨args,sg,ow⟩ (xR gl fn.res (λv2 sg2 ow2=>v2=v/\sg2=sg'/\ow2=ow') ⟨⟩) ⟨⟩):RetE F gl f args sg ow v sg' ow':=b6F hf hl h
theorem XcP.of {f:Nat} {fn:Fn} {ts:List T} {K:PV->Prop} (hf:F f=some fn) (hl:ts.length=fn.np) (h:Xp F gl fn.body ⟨ts.map .t,[],[]⟩ (xR gl fn.res (λx sg ow=>xO (retV sg ow x) K ⟨⟩) ⟨⟩) ⟨⟩):CallP F gl f ts K:=b6G hf hl h
theorem XcE.of {f:Nat} {fn:Fn} {args:List PV} {K:PV->Sg->Ow->Prop} (hf:F f=some fn) (hl:args.length=fn.np) (h:Xp F gl fn.body ⟨args,sg,ow⟩ (xR gl fn.res K ⟨⟩) ⟨⟩):CallE F gl f args sg ow K:=b6F hf hl h
theorem c0U {k:Nat} {K:PV->Sg->Ow->Prop}:xR gl [(k,none)] K ⟨⟩ .ret ⟨fr,sg,ow⟩↔K (a0A fr k) sg ow:=g4Y
theorem c0V {k:Nat} {K:PV->Sg->Ow->Prop}:xR gl [(k,none)] K ⟨⟩ .normal ⟨fr,sg,ow⟩↔K (a0A fr k) sg ow:=g4Y
theorem c0W {K:PV->Sg->Ow->Prop}:xR gl [] K ⟨⟩ .ret ⟨fr,sg,ow⟩↔K (.tup []) sg ow:=g4Y
theorem c0X {K:PV->Sg->Ow->Prop}:xR gl [] K ⟨⟩ .normal ⟨fr,sg,ow⟩↔K (.tup []) sg ow:=g4Y
theorem c0Y {k n:Nat} {ag:Bool} (hn:n < 1000) {K:PV->Sg->Ow->Prop}:xR gl [(k,some (ag,n))] K ⟨⟩ .ret ⟨fr,sg,ow⟩↔xO (loadP gl sg ag n (a0A fr k)) (λv=>K v sg ow) ⟨⟩:=b6H hn
theorem c0Z {k:Nat} {K:PV->Sg->Ow->Prop}:xR gl [(k,some (true,1000))] K ⟨⟩ .ret ⟨fr,sg,ow⟩↔K (clo (a0A fr k)) sg ow:=g4Y
theorem c1A {k:Nat} {K:PV->Sg->Ow->Prop}:xR gl [(k,some (true,1000))] K ⟨⟩ .normal ⟨fr,sg,ow⟩↔K (clo (a0A fr k)) sg ow:=g4Y
theorem c1B {k n:Nat} {ag:Bool} (hn:1000 < n) {K:PV->Sg->Ow->Prop}:xR gl [(k,some (ag,n))] K ⟨⟩ .ret ⟨fr,sg,ow⟩↔xO (loadP gl sg ag (n - 1000) (a0A fr k)) (λv=>K (clo v) sg ow) ⟨⟩:=b6I hn
theorem c1C {k l:Nat} {K:PV->Sg->Ow->Prop}:xR gl [(k,none),(l,none)] K ⟨⟩ .ret ⟨fr,sg,ow⟩↔K (.tup [a0A fr k,a0A fr l]) sg ow:=g4Y
theorem c1D {k l m:Nat} {K:PV->Sg->Ow->Prop}:xR gl [(k,none),(l,none),(m,none)] K ⟨⟩ .ret ⟨fr,sg,ow⟩↔K (.tup [a0A fr k,a0A fr l,a0A fr m]) sg ow:=g4Y
end
theorem wCo:type_of% (zaI @b7W (zaI @b7V (zaI @b7X (zaI @b7Y (zaI @b7S (zaI @b7Z (zaI @b7T (zaI @b7U (zaI @b8A (zaI @b8B (zaI @b8C (zaI @b8D (zaI @b8E (zaI @b8G (zaI @b8H (zaI @b8I (zaI @b8Q (zaI @b8R (zaI @b8J (zaI @b8K (zaI @b8L (zaI @b8M (zaI @b8N (zaI @b8O (zaI @b8P (zaI @c0U (zaI @c0V (zaI @c0W (zaI @c0X (zaI @c0Y (zaI @c1C (@c1D)))))))))))))))))))))))))))))))):=zaI @b7W (zaI @b7V (zaI @b7X (zaI @b7Y (zaI @b7S (zaI @b7Z (zaI @b7T (zaI @b7U (zaI @b8A (zaI @b8B (zaI @b8C (zaI @b8D (zaI @b8E (zaI @b8G (zaI @b8H (zaI @b8I (zaI @b8Q (zaI @b8R (zaI @b8J (zaI @b8K (zaI @b8L (zaI @b8M (zaI @b8N (zaI @b8O (zaI @b8P (zaI @c0U (zaI @c0V (zaI @c0W (zaI @c0X (zaI @c0Y (zaI @c1C (@c1D)))))))))))))))))))))))))))))))
theorem wFr:type_of% (zaI @b4E (zaI @b4F (zaI @ev_s (zaI @ev_c (zaI @a1P (zaI @b6V (zaI @b6W (zaI @c0K (@List.length_map.{0,0}))))))))):=zaI @b4E (zaI @b4F (zaI @ev_s (zaI @ev_c (zaI @a1P (zaI @b6V (zaI @b6W (zaI @c0K (@List.length_map.{0,0}))))))))
theorem wOp:type_of% (zaI @b8S (zaI @b8T (zaI @b8U (zaI @b8V (zaI @b8W (zaI @b8X (zaI @b8Y (zaI @b8Z (zaI @b9A (zaI @b9B (zaI @b9C (zaI @b9D (zaI @b9E (zaI @b9F (zaI @b9G (zaI @b9H (zaI @b9J (zaI @b9K (zaI @b9L (zaI @b9M (zaI @b9N (zaI @b9O (zaI @b9P (zaI @b9Q (zaI @b9R (zaI @b9S (zaI @b9T (zaI @b9U (zaI @b9V (zaI @b9W (zaI @b9X (zaI @b9Y (zaI @b9Z (zaI @c0A (zaI @c0B (zaI @c0C (zaI @c0D (zaI @c0E (zaI @c0F (zaI @c0G (zaI @b9I (zaI @c0H (@c0I))))))))))))))))))))))))))))))))))))))))))):=zaI @b8S (zaI @b8T (zaI @b8U (zaI @b8V (zaI @b8W (zaI @b8X (zaI @b8Y (zaI @b8Z (zaI @b9A (zaI @b9B (zaI @b9C (zaI @b9D (zaI @b9E (zaI @b9F (zaI @b9G (zaI @b9H (zaI @b9J (zaI @b9K (zaI @b9L (zaI @b9M (zaI @b9N (zaI @b9O (zaI @b9P (zaI @b9Q (zaI @b9R (zaI @b9S (zaI @b9T (zaI @b9U (zaI @b9V (zaI @b9W (zaI @b9X (zaI @b9Y (zaI @b9Z (zaI @c0A (zaI @c0B (zaI @c0C (zaI @c0D (zaI @c0E (zaI @c0F (zaI @c0G (zaI @b9I (zaI @c0H (@c0I))))))))))))))))))))))))))))))))))))))))))
theorem wBi:type_of% (zaI @b6X (zaI @b6Y (zaI @b6Z (zaI @b7A (zaI @b7B (zaI @b7C (zaI @b7D (zaI @b7E (zaI @b7F (zaI @b7G (zaI @b7H (zaI @b7I (zaI @b7J (zaI @b7K (zaI @b7L (zaI @b7M (zaI @b7N (zaI @b7O (zaI @b7P (@b7Q)))))))))))))))))))):=zaI @b6X (zaI @b6Y (zaI @b6Z (zaI @b7A (zaI @b7B (zaI @b7C (zaI @b7D (zaI @b7E (zaI @b7F (zaI @b7G (zaI @b7H (zaI @b7I (zaI @b7J (zaI @b7K (zaI @b7L (zaI @b7M (zaI @b7N (zaI @b7O (zaI @b7P (@b7Q)))))))))))))))))))
theorem wLst:type_of% (zaI @List.map_cons.{0,0} (zaI @List.map_nil.{0,0} (zaI @List.mapM_cons.{0,0,0} (zaI @List.mapM_nil.{0,0,0} (zaI @List.length_cons.{0} (zaI @List.length_nil.{0} (zaI @List.length_append.{0} (zaI @List.getElem?_cons_zero.{0} (zaI @List.getElem?_cons_succ.{0} (zaI @List.nil_append.{0} (zaI @List.cons_append.{0} (zaI @List.append_assoc.{0} (zaI @b6O (zaI @b6P (zaI @b6Q (zaI @b6R (zaI @List.set_cons_zero.{0} (zaI @List.set_cons_succ.{0} (zaI @List.drop_zero.{0} (zaI @List.drop_succ_cons.{0} (zaI @List.take_succ_cons.{0} (zaI @List.take_zero.{0} (zaI @List.drop_nil.{0} (zaI @List.take_nil.{0} (zaI @Option.map_some.{0,0} (zaI @Option.map_none.{0,0} (zaI @Option.bind_some.{0,0} (zaI @Option.bind_none.{0,0} (zaI @Option.pure_def.{0} (zaI @Option.bind_eq_bind.{0} (zaI @List.all_cons.{0} (@List.all_nil.{0})))))))))))))))))))))))))))))))):=zaI @List.map_cons.{0,0} (zaI @List.map_nil.{0,0} (zaI @List.mapM_cons.{0,0,0} (zaI @List.mapM_nil.{0,0,0} (zaI @List.length_cons.{0} (zaI @List.length_nil.{0} (zaI @List.length_append.{0} (zaI @List.getElem?_cons_zero.{0} (zaI @List.getElem?_cons_succ.{0} (zaI @List.nil_append.{0} (zaI @List.cons_append.{0} (zaI @List.append_assoc.{0} (zaI @b6O (zaI @b6P (zaI @b6Q (zaI @b6R (zaI @List.set_cons_zero.{0} (zaI @List.set_cons_succ.{0} (zaI @List.drop_zero.{0} (zaI @List.drop_succ_cons.{0} (zaI @List.take_succ_cons.{0} (zaI @List.take_zero.{0} (zaI @List.drop_nil.{0} (zaI @List.take_nil.{0} (zaI @Option.map_some.{0,0} (zaI @Option.map_none.{0,0} (zaI @Option.bind_some.{0,0} (zaI @Option.bind_none.{0,0} (zaI @Option.pure_def.{0} (zaI @Option.bind_eq_bind.{0} (zaI @List.all_cons.{0} (@List.all_nil.{0})))))))))))))))))))))))))))))))
theorem wLog:type_of% (zaI @Nat.zero_add (zaI @Nat.add_zero (zaI @Nat.zero_mul (zaI @Nat.le_refl (zaI @and_self (zaI @and_true (zaI @true_and (zaI @if_true.{1} (zaI @if_false.{1} (zaI @Bool.not_true (zaI @Bool.not_false (zaI @Bool.not_not (zaI @Bool.false_bne (zaI @Bool.true_bne (zaI @Bool.bne_false (zaI @Bool.false_eq_true (zaI @Bool.true_eq_false (zaI @Bool.and_self (zaI @Bool.and_true (zaI @Bool.true_and (zaI @ite_self.{1} (zaI @Int.toNat_natCast (zaI @Int.toNat_zero (zaI @Int.le_refl (zaI @c0J (@c0L)))))))))))))))))))))))))):=zaI @Nat.zero_add (zaI @Nat.add_zero (zaI @Nat.zero_mul (zaI @Nat.le_refl (zaI @and_self (zaI @and_true (zaI @true_and (zaI @if_true.{1} (zaI @if_false.{1} (zaI @Bool.not_true (zaI @Bool.not_false (zaI @Bool.not_not (zaI @Bool.false_bne (zaI @Bool.true_bne (zaI @Bool.bne_false (zaI @Bool.false_eq_true (zaI @Bool.true_eq_false (zaI @Bool.and_self (zaI @Bool.and_true (zaI @Bool.true_and (zaI @ite_self.{1} (zaI @Int.toNat_natCast (zaI @Int.toNat_zero (zaI @Int.le_refl (zaI @c0J (@c0L)))))))))))))))))))))))))
end Go.Pi
